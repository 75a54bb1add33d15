/- What Ascii answers; all tables known. -/
import Derived.Test.YthpomdoaiibnfaaTabK2
import Derived.Test.YthpomdoaiibnfaaTabK3
namespace Go.Proofs.Ythpomdoaiibnfaa.Abs
open Go Go.Proofs
set_option linter.unusedVariables false
theorem tAscii (S : ASt) : ACalls Try.prog 25 [] S (fun u T => u = .agg (u8s asciiL) ∧ T = S) :=
  runT_ok code_ok (knX_ok (.cons tEbcdic .nil)) (N := 300) (d := 8) (by kernel_rfl) nil_plain (plain_u8s _) S
theorem known : KnOk Try.prog [(21, .agg (u8s lowerL)), (20, .agg (u8s upperL)), (22, .agg (u8s ebcdicL)), (23, .agg (u8s ibmL)), (25, .agg (u8s asciiL))] :=
  .cons tLower (.cons tUpper (.cons tEbcdic (.cons tIbm (.cons tAscii .nil))))
end Go.Proofs.Ythpomdoaiibnfaa.Abs
