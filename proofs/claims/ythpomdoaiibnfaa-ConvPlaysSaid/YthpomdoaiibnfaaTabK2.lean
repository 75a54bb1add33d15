/- What Ebcdic answers. -/
import Derived.Test.YthpomdoaiibnfaaTabK1
namespace Go.Proofs.Ythpomdoaiibnfaa.Abs
open Go Go.Proofs
set_option linter.unusedVariables false
theorem tEbcdic (S : ASt) : ACalls Try.prog 22 [] S (fun u T => u = .agg (u8s ebcdicL) ∧ T = S) :=
  runT_ok code_ok (knX_ok .nil) (N := 300) (d := 8) (by kernel_rfl) nil_plain (plain_u8s _) S
end Go.Proofs.Ythpomdoaiibnfaa.Abs
