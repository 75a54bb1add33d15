/- The document's own Lower, Upper and Ebcdic. -/
import Derived.Test.YthpomdoaiibnfaaTabK1
namespace Go.Proofs.Ythpomdoaiibnfaa.Abs
open Go Go.Proofs
set_option linter.unusedVariables false
set_option linter.unusedSimpArgs false
theorem rLower (S : ASt) : ACalls Try.prog 63 [] S (fun u T => u = .agg (u8s lowerL) ∧ T = S) :=
  runT_ok code_ok (knX_ok .nil) (N := 300) (d := 8) (by kernel_rfl) nil_plain (plain_u8s _) S
theorem rUpper (S : ASt) : ACalls Try.prog 64 [] S (fun u T => u = .agg (u8s upperL) ∧ T = S) :=
  runT_ok code_ok (knX_ok .nil) (N := 300) (d := 8) (by kernel_rfl) nil_plain (plain_u8s _) S
theorem rEbcdic (S : ASt) : ACalls Try.prog 58 [] S (fun u T => u = .agg (u8s ebcdicL) ∧ T = S) :=
  runT_ok code_ok (knX_ok .nil) (N := 300) (d := 8) (by kernel_rfl) nil_plain (plain_u8s _) S
end Go.Proofs.Ythpomdoaiibnfaa.Abs
