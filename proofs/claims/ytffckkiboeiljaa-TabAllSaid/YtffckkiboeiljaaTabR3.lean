/- The document's own Ascii; the law TabAll: that it answers true. -/
import Derived.Test.YtffckkiboeiljaaTabK5
import Derived.Test.YtffckkiboeiljaaTabR1
import Derived.Test.YtffckkiboeiljaaTabR2
namespace Go.Proofs.Ytffckkiboeiljaa.Abs
open Go Go.Proofs
set_option linter.unusedVariables false
theorem rAscii (S : ASt) : ACalls Try.prog 22 [] S (fun u T => u = .agg (u8s asciiL) ∧ T = S) :=
  runT_ok code_ok (knX_ok (.cons rEbcdic .nil)) (N := 300) (d := 8) (by kernel_rfl) nil_plain (plain_u8s _) S
theorem tabAll (S : ASt) : ACalls Try.prog 9 [] S (fun u T => u = .bool true ∧ T = S) :=
  runT_ok code_ok (knX_ok (.cons tLower (.cons tUpper (.cons tEbcdic (.cons tIbm (.cons tAscii (.cons rLower (.cons rUpper (.cons rEbcdic (.cons rIbm (.cons rAscii (.cons tabRuns .nil)))))))))))) (N := 300) (d := 8) (by kernel_rfl) nil_plain (.bool _) S
theorem lawAll (S : ASt) : ACalls Try.prog 9 [] S (fun v S' => v = .bool true) := (tabAll S).mono fun v S' h => h.1
end Go.Proofs.Ytffckkiboeiljaa.Abs
