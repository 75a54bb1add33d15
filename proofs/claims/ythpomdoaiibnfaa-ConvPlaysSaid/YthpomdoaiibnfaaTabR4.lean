/- The document's own Ascii. -/
import Derived.Test.YthpomdoaiibnfaaTabR1
import Derived.Test.YthpomdoaiibnfaaTabR2
namespace Go.Proofs.Ythpomdoaiibnfaa.Abs
open Go Go.Proofs
set_option linter.unusedVariables false
set_option linter.unusedSimpArgs false
theorem rAscii (S : ASt) : ACalls Try.prog 62 [] S (fun u T => u = .agg (u8s asciiL) ∧ T = S) :=
  runT_ok code_ok (knX_ok (.cons rEbcdic .nil)) (N := 300) (d := 8) (by kernel_rfl) nil_plain (plain_u8s _) S
end Go.Proofs.Ythpomdoaiibnfaa.Abs
