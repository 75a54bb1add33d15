/- The closed sentence of chapter 5. -/
import Derived.Test.YtffckkiboeiljaaTabK4
namespace Go.Proofs.Ytffckkiboeiljaa.Abs
open Go Go.Proofs
set_option linter.unusedVariables false
theorem tabRuns (S : ASt) : ACalls Try.prog 3 [] S (fun u T => u = .bool true ∧ T = S) :=
  runT_ok code_ok (knX_ok known) (N := 300) (d := 8) (by kernel_rfl) nil_plain (.bool _) S
theorem lawRuns (S : ASt) : ACalls Try.prog 3 [] S (fun v S' => v = .bool true) := (tabRuns S).mono fun v S' h => h.1
end Go.Proofs.Ytffckkiboeiljaa.Abs
