/- What Ibm answers. -/
import Derived.Test.YthpomdoaiibnfaaTabK1
namespace Go.Proofs.Ythpomdoaiibnfaa.Abs
open Go Go.Proofs
set_option linter.unusedVariables false
theorem tIbm (S : ASt) : ACalls Try.prog 23 [] S (fun u T => u = .agg (u8s ibmL) ∧ T = S) :=
  runT_ok code_ok (knX_ok .nil) (N := 300) (d := 8) (by kernel_rfl) nil_plain (plain_u8s _) S
end Go.Proofs.Ythpomdoaiibnfaa.Abs
