/- The row of ConvPlays: for whatever input the call answers true, and its arguments read as they did. No condition. -/
import Derived.Test.YthpomdoaiibnfaaRows
import Derived.Test.YthpomdoaiibnfaaCv17
import Derived.Test.YthpomdoaiibnfaaRowS
namespace Go.Proofs.Ythpomdoaiibnfaa.convPlays
open Go.ChangeShapes Go.WideShapes Go.ChangeAt Go.RowKit
open Go.Proofs.Ythpomdoaiibnfaa.Abs
set_option linter.unusedVariables false
theorem own : ownKnob Try.prog.godebug = none := by kernel_rfl
theorem laidOut : laidOutB Try.prog = true := by kernel_rfl
set_option maxRecDepth 100000 in
theorem lifted (os : Os) (started : os.Started) (H : Type) (enc : TypeId × Value → H) :
    ReturnsInHanded {} Try.checked os 9 .any (Rows.convPlaysSpec.pre6 enc Try.prog Try.f9 Rows.convPlaysRow.domain false) (Rows.convPlaysSpec.post enc Try.prog Try.f9 false true false false) := by
  refine returnsInHanded_of_change (C := Try.checked) own started (by kernel_rfl) Try.func9
    (ChangeSpec.witness6 (enc := enc) (C := Try.checked) false ⟨#[], #[.agg #[.bool false, .bool false, .bool false, .bool false, .bool false, .bool false, .bool false, .bool false, .int .i64 0], .slice none 0 0, .slice none 0 0], []⟩ 8 (by kernel_rfl) (by kernel_rfl) (by kernel_rfl) (by kernel_rfl)) ?_
  intro W base args ds gs before hval0 hW hcnd _
  have hval : ∀ (j : Nat) t v, Try.f9.params[j]? = some t → args[j]? = some v → Value.okWide Try.prog W .any base t v := hval0
  have hW' := hW
  obtain ⟨p, q, hA0, hV, rfl, hfz, hnd⟩ := hW
  have hA : DataW.TrodAll enc Try.prog W 0 (fun _ => true) true Try.f9.params.toList args.toList ds p := hA0
  rw [Try.params9] at hA hval
  obtain ⟨v0, vs0, d0, ds0, p0, q0, hargs, rfl, rfl, h0, r0⟩ := trodAll_cons hA
  obtain ⟨v1, vs1, d1, ds1, p1, q1, rfl, rfl, rfl, h1, r1⟩ := trodAll_cons r0
  obtain ⟨v2, vs2, d2, ds2, p2, q2, rfl, rfl, rfl, h2, r2⟩ := trodAll_cons r1
  obtain ⟨rfl, rfl, rfl⟩ := trodAll_nil r2
  obtain rfl : args = #[v0, v1, v2] := by cases args; simp_all
  obtain ⟨rfl, rfl⟩ := trodVars_none hV
  obtain ⟨a0, g0, w0⟩ := arg_convs Try.underlying23 Try.underlying4 Try.underlying3 (by kernel_rfl) (by kernel_rfl) (by kernel_rfl) (by kernel_rfl) (hval 0 23 v0 rfl rfl) h0
  obtain ⟨a1, g1, w1⟩ := arg_one (rdt_slice Try.underlying29 (sz := 1) (by kernel_rfl) (by decide) (rdt_slice Try.underlying24 (sz := 1) (by kernel_rfl) (by decide) (rdt_u8 Try.underlying5))) (fun _ => rfl) (cells_slice Try.underlying29 (hval 1 29 v1 rfl rfl)) h1
  obtain ⟨a2, g2, w2⟩ := arg_one (rdt_slice Try.underlying44 (sz := 1) (by kernel_rfl) (by decide) (rdt_bool Try.underlying4)) (fun _ => rfl) (cells_slice Try.underlying44 (hval 2 44 v2 rfl rfl)) h2
  clear hA0 hval0
  refine (calls_of (convPlays a0 a1 a2 S0) (args_cons w0 (args_cons w1 (args_cons w2 args_nil)))).mono fun e W' ⟨he, bel⟩ => ?_
  subst he
  exact ⟨_, rfl, _, _, _, [], _, [], hW', trodAll_mk1 (shut_bool Try.underlying4 _), (trodAll_cons_mk (Below.trod laidOut (by kernel_rfl) (of_decide_eq_true (by kernel_rfl)) h0 bel (trod_blocks h0)) (trodAll_cons_mk (Below.trod laidOut (by kernel_rfl) (of_decide_eq_true (by kernel_rfl)) h1 bel (trod_blocks h1)) (trodAll_cons_mk (Below.trod laidOut (by kernel_rfl) (of_decide_eq_true (by kernel_rfl)) h2 bel (trod_blocks h2)) trodAll_mk0))), rfl, bel.frame _, fun h => by cases h⟩
theorem over : Rows.convPlaysRow.holds Try.pinned (OpenSpec.ofChange Rows.convPlaysSpec) :=
  OpenClaim.holds_of_wide 9 Try.f9 rfl rfl rfl rfl rfl rfl rfl ⟨rfl, rfl, rfl, rfl, rfl⟩ rfl rfl rfl rfl rfl (by kernel_rfl) Try.func9 (by kernel_rfl)
    (of_decide_eq_true (by kernel_rfl)) (by unfold Func.isWrapper; first | (rw [if_pos (by decide +kernel)]; kernel_rfl) | (rw [if_neg (by decide +kernel)]; exact ⟨rfl, rfl⟩))
    (fun os started H enc _ => lifted os started H enc)
theorem proved : Rows.ConvPlaysSaid := over
#print axioms proved
end Go.Proofs.Ythpomdoaiibnfaa.convPlays
namespace Go.Proofs.Ythpomdoaiibnfaa
/-- The row, under a short name, for the claim. -/
theorem convPlays_holds : Rows.ConvPlaysSaid := convPlays.proved
end Go.Proofs.Ythpomdoaiibnfaa
