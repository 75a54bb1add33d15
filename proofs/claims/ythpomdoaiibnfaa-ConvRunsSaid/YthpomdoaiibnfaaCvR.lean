/- The closed sentence of chapter 8, as a law: that it answers true. -/
import Derived.Test.YthpomdoaiibnfaaCv8
namespace Go.Proofs.Ythpomdoaiibnfaa.Abs
open Go Go.Proofs
set_option linter.unusedVariables false
set_option linter.unusedSimpArgs false
theorem lawConvRuns (S : ASt) : ACalls Try.prog 3 [] S fun v S' => v = .bool true := (convRuns S).mono fun _ _ h => h.1
end Go.Proofs.Ythpomdoaiibnfaa.Abs
