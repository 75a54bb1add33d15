/- The laws TabCodes and TabCase: that they answer true, byte by byte. -/
import Derived.Test.YtffckkiboeiljaaTabK5
namespace Go.Proofs.Ytffckkiboeiljaa.Abs
open Go Go.Proofs
set_option linter.unusedVariables false
noncomputable def bytesOk (f : FuncId) (kn : List (FuncId × AV)) : Bool := (List.range 256).all fun n => runT code (knX kn) 300 8 f [.int .u8 (.ofNat n)] (.bool true)
theorem bytesOk_ok {f : FuncId} {kn : List (FuncId × AV)} (hk : KnOk Try.prog kn) (h : bytesOk f kn = true) (b : UInt8) (S : ASt) : ACalls Try.prog f [u8 b] S (fun v S' => v = .bool true) := by
  have h1 := List.all_eq_true.1 h b.toNat (List.mem_range.2 b.toNat_lt)
  refine (runT_ok code_ok (knX_ok hk) h1 ?_ (.bool _) S).mono fun v S' h => h.1
  intro u hu
  rw [List.mem_singleton] at hu
  subst hu
  exact .int _ _
theorem known2 : KnOk Try.prog [(16, .agg (u8s lowerL)), (12, .agg (u8s upperL)), (11, .agg (u8s ebcdicL)), (13, .agg (u8s ibmL)), (3, .bool true)] :=
  .cons tLower (.cons tUpper (.cons tEbcdic (.cons tIbm (.cons tabRuns .nil))))
theorem tabCodes (b : UInt8) (S : ASt) : ACalls Try.prog 5 [u8 b] S (fun v S' => v = .bool true) := bytesOk_ok known2 (by kernel_rfl) b S
theorem tabCase (b : UInt8) (S : ASt) : ACalls Try.prog 6 [u8 b] S (fun v S' => v = .bool true) := bytesOk_ok known2 (by kernel_rfl) b S
end Go.Proofs.Ytffckkiboeiljaa.Abs
