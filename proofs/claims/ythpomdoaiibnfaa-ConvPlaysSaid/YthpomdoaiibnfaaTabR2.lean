/- The document's own Ibm. -/
import Derived.Test.YthpomdoaiibnfaaTabK1
namespace Go.Proofs.Ythpomdoaiibnfaa.Abs
open Go Go.Proofs
set_option linter.unusedVariables false
set_option linter.unusedSimpArgs false
theorem rIbm (S : ASt) : ACalls Try.prog 59 [] S (fun u T => u = .agg (u8s ibmL) ∧ T = S) :=
  runT_ok code_ok (knX_ok .nil) (N := 300) (d := 8) (by kernel_rfl) nil_plain (plain_u8s _) S
end Go.Proofs.Ythpomdoaiibnfaa.Abs
