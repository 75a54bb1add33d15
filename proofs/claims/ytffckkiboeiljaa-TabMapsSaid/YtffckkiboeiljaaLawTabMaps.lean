/- The row of TabMaps: for whatever input the call answers true, and its arguments read as they did. No condition. -/
import Derived.Test.YtffckkiboeiljaaRows
import Derived.Test.YtffckkiboeiljaaTab5
import Derived.Test.YtffckkiboeiljaaRow0
namespace Go.Proofs.Ytffckkiboeiljaa.tabMaps
open Go.ChangeShapes Go.WideShapes Go.ChangeAt Go.RowKit
open Go.Proofs.Ytffckkiboeiljaa.Abs
set_option linter.unusedVariables false
theorem own : ownKnob Try.prog.godebug = none := by kernel_rfl
theorem laidOut : laidOutB Try.prog = true := by kernel_rfl
set_option maxRecDepth 100000 in
theorem lifted (os : Os) (started : os.Started) (H : Type) (enc : TypeId × Value → H) :
    ReturnsInHanded {} Try.checked os 4 .any (Rows.tabMapsSpec.pre6 enc Try.prog Try.f4 Rows.tabMapsRow.domain false) (Rows.tabMapsSpec.post enc Try.prog Try.f4 false true false false) := by
  refine returnsInHanded_of_change (C := Try.checked) own started (by kernel_rfl) Try.func4
    (ChangeSpec.witness6 (enc := enc) (C := Try.checked) false ⟨#[], #[.slice none 0 0, .slice none 0 0], []⟩ 8 (by kernel_rfl) (by kernel_rfl) (by kernel_rfl) (by kernel_rfl)) ?_
  intro W base args ds gs before hval0 hW hcnd _
  have hval : ∀ (j : Nat) t v, Try.f4.params[j]? = some t → args[j]? = some v → Value.okWide Try.prog W .any base t v := hval0
  have hW' := hW
  obtain ⟨p, q, hA0, hV, rfl, hfz, hnd⟩ := hW
  have hA : DataW.TrodAll enc Try.prog W 0 (fun _ => true) true Try.f4.params.toList args.toList ds p := hA0
  rw [Try.params4] at hA hval
  obtain ⟨v0, vs0, d0, ds0, p0, q0, hargs, rfl, rfl, h0, r0⟩ := trodAll_cons hA
  obtain ⟨v1, vs1, d1, ds1, p1, q1, rfl, rfl, rfl, h1, r1⟩ := trodAll_cons r0
  obtain ⟨rfl, rfl, rfl⟩ := trodAll_nil r1
  obtain rfl : args = #[v0, v1] := by cases args; simp_all
  obtain ⟨rfl, rfl⟩ := trodVars_none hV
  obtain ⟨a0, g0, w0⟩ := arg_one (rdt_slice Try.underlying28 (sz := 256) (by kernel_rfl) (by decide) (rdt_arr Try.underlying24 (by kernel_rfl) (by kernel_rfl) (fun _ => rfl) (rdt_u8 Try.underlying5))) (fun _ => rfl) (cells_slice Try.underlying28 (hval 0 28 v0 rfl rfl)) h0
  obtain ⟨a1, g1, w1⟩ := arg_one (rdt_slice Try.underlying22 (sz := 1) (by kernel_rfl) (by decide) (rdt_u8 Try.underlying5)) (fun _ => rfl) (cells_slice Try.underlying22 (hval 1 22 v1 rfl rfl)) h1
  clear hA0 hval0
  refine (calls_of (tabMapsR a0 g0 a1 S0) (args_cons w0 (args_cons w1 args_nil))).mono fun e W' ⟨he, bel⟩ => ?_
  subst he
  exact ⟨_, rfl, _, _, _, [], _, [], hW', trodAll_mk1 (shut_bool Try.underlying4 _), (trodAll_cons_mk (Below.trod laidOut (by kernel_rfl) (of_decide_eq_true (by kernel_rfl)) h0 bel (trod_blocks h0)) (trodAll_cons_mk (Below.trod laidOut (by kernel_rfl) (of_decide_eq_true (by kernel_rfl)) h1 bel (trod_blocks h1)) trodAll_mk0)), rfl, bel.frame _, fun h => by cases h⟩
theorem over : Rows.tabMapsRow.holds Try.pinned (OpenSpec.ofChange Rows.tabMapsSpec) :=
  OpenClaim.holds_of_wide 4 Try.f4 rfl rfl rfl rfl rfl rfl rfl ⟨rfl, rfl, rfl, rfl, rfl⟩ rfl rfl rfl rfl rfl (by kernel_rfl) Try.func4 (by kernel_rfl)
    (of_decide_eq_true (by kernel_rfl)) (by unfold Func.isWrapper; first | (rw [if_pos (by decide +kernel)]; kernel_rfl) | (rw [if_neg (by decide +kernel)]; exact ⟨rfl, rfl⟩))
    (fun os started H enc _ => lifted os started H enc)
theorem proved : Rows.TabMapsSaid := over
#print axioms proved
end Go.Proofs.Ytffckkiboeiljaa.tabMaps
namespace Go.Proofs.Ytffckkiboeiljaa
/-- The row, under a short name, for the claim. -/
theorem tabMaps_holds : Rows.TabMapsSaid := tabMaps.proved
end Go.Proofs.Ytffckkiboeiljaa
