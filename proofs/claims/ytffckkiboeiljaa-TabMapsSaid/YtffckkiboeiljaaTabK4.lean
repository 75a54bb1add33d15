/- What Ascii answers; all tables known. -/
import Derived.Test.YtffckkiboeiljaaTabK2
import Derived.Test.YtffckkiboeiljaaTabK3
namespace Go.Proofs.Ytffckkiboeiljaa.Abs
open Go Go.Proofs
set_option linter.unusedVariables false
theorem tAscii (S : ASt) : ACalls Try.prog 17 [] S (fun u T => u = .agg (u8s asciiL) ∧ T = S) :=
  runT_ok code_ok (knX_ok (.cons tEbcdic .nil)) (N := 300) (d := 8) (by kernel_rfl) nil_plain (plain_u8s _) S
theorem known : KnOk Try.prog [(16, .agg (u8s lowerL)), (12, .agg (u8s upperL)), (11, .agg (u8s ebcdicL)), (13, .agg (u8s ibmL)), (17, .agg (u8s asciiL))] :=
  .cons tLower (.cons tUpper (.cons tEbcdic (.cons tIbm (.cons tAscii .nil))))
end Go.Proofs.Ytffckkiboeiljaa.Abs
