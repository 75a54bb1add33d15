/- The row of ConvCodes: for whatever input the call answers true, and its arguments read as they did. No condition. -/
import Derived.Test.YthpomdoaiibnfaaRows
import Derived.Test.YthpomdoaiibnfaaCv12
import Derived.Test.YthpomdoaiibnfaaRow0
namespace Go.Proofs.Ythpomdoaiibnfaa.convCodes
open Go.ChangeShapes Go.WideShapes Go.ChangeAt Go.RowKit
open Go.Proofs.Ythpomdoaiibnfaa.Abs
set_option linter.unusedVariables false
theorem own : ownKnob Try.prog.godebug = none := by kernel_rfl
theorem laidOut : laidOutB Try.prog = true := by kernel_rfl
set_option maxRecDepth 100000 in
theorem lifted (os : Os) (started : os.Started) (H : Type) (enc : TypeId × Value → H) :
    ReturnsInHanded {} Try.checked os 7 .any (Rows.convCodesSpec.pre6 enc Try.prog Try.f7 Rows.convCodesRow.domain false) (Rows.convCodesSpec.post enc Try.prog Try.f7 false true false false) := by
  refine returnsInHanded_of_change (C := Try.checked) own started (by kernel_rfl) Try.func7
    (ChangeSpec.witness6 (enc := enc) (C := Try.checked) false ⟨#[], #[.int .u8 0, .slice none 0 0], []⟩ 8 (by kernel_rfl) (by kernel_rfl) (by kernel_rfl) (by kernel_rfl)) ?_
  intro W base args ds gs before hval0 hW hcnd _
  have hval : ∀ (j : Nat) t v, Try.f7.params[j]? = some t → args[j]? = some v → Value.okWide Try.prog W .any base t v := hval0
  have hW' := hW
  obtain ⟨p, q, hA0, hV, rfl, hfz, hnd⟩ := hW
  have hA : DataW.TrodAll enc Try.prog W 0 (fun _ => true) true Try.f7.params.toList args.toList ds p := hA0
  rw [Try.params7] at hA hval
  obtain ⟨v0, vs0, d0, ds0, p0, q0, hargs, rfl, rfl, h0, r0⟩ := trodAll_cons hA
  obtain ⟨v1, vs1, d1, ds1, p1, q1, rfl, rfl, rfl, h1, r1⟩ := trodAll_cons r0
  obtain ⟨rfl, rfl, rfl⟩ := trodAll_nil r1
  obtain rfl : args = #[v0, v1] := by cases args; simp_all
  obtain ⟨rfl, rfl⟩ := trodVars_none hV
  obtain ⟨a0, g0, w0⟩ := arg_one (rdt_u8 Try.underlying5) (fun _ => rfl) ((by obtain ⟨b, rfl⟩ := okWide_int Try.underlying5 (hval 0 5 v0 rfl rfl); rfl)) h0
  obtain ⟨a1, g1, w1⟩ := arg_one (rdt_slice Try.underlying40 (sz := 1) (by kernel_rfl) (by decide) (rdt_str Try.underlying9)) (fun _ => rfl) (cells_slice Try.underlying40 (hval 1 40 v1 rfl rfl)) h1
  clear hA0 hval0
  refine (calls_of (convCodes a0 a1 S0) (args_cons w0 (args_cons w1 args_nil))).mono fun e W' ⟨he, bel⟩ => ?_
  subst he
  exact ⟨_, rfl, _, _, _, [], _, [], hW', trodAll_mk1 (shut_bool Try.underlying4 _), (trodAll_cons_mk (Below.trod laidOut (by kernel_rfl) (of_decide_eq_true (by kernel_rfl)) h0 bel (trod_blocks h0)) (trodAll_cons_mk (Below.trod laidOut (by kernel_rfl) (of_decide_eq_true (by kernel_rfl)) h1 bel (trod_blocks h1)) trodAll_mk0)), rfl, bel.frame _, fun h => by cases h⟩
theorem over : Rows.convCodesRow.holds Try.pinned (OpenSpec.ofChange Rows.convCodesSpec) :=
  OpenClaim.holds_of_wide 7 Try.f7 rfl rfl rfl rfl rfl rfl rfl ⟨rfl, rfl, rfl, rfl, rfl⟩ rfl rfl rfl rfl rfl (by kernel_rfl) Try.func7 (by kernel_rfl)
    (of_decide_eq_true (by kernel_rfl)) (by unfold Func.isWrapper; first | (rw [if_pos (by decide +kernel)]; kernel_rfl) | (rw [if_neg (by decide +kernel)]; exact ⟨rfl, rfl⟩))
    (fun os started H enc _ => lifted os started H enc)
theorem proved : Rows.ConvCodesSaid := over
#print axioms proved
end Go.Proofs.Ythpomdoaiibnfaa.convCodes
namespace Go.Proofs.Ythpomdoaiibnfaa
/-- The row, under a short name, for the claim. -/
theorem convCodes_holds : Rows.ConvCodesSaid := convCodes.proved
end Go.Proofs.Ythpomdoaiibnfaa
