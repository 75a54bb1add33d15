/- How an argument that is a set of conversions reads abstractly. -/
import Derived.Test.YthpomdoaiibnfaaRow0
import Derived.Test.YthpomdoaiibnfaaCv1
namespace Go.Proofs.Ythpomdoaiibnfaa.Abs
open Go Go.RowKit Go.ChangeShapes Go.WideShapes Go.ChangeAt
set_option linter.unusedVariables false
section
variable {H : Type} {enc : TypeId × Value → H} {P : Program} {W : World}
theorem field_one {t : TypeId} {α : Type} {f : α → AV} {good : α → Prop} {cs : List Value} {n i : Nat} {x : DataW H × List MemPlace} (h : Rdt enc P W t f good) (h1 : ∀ a, (f a).one = true)
    (hx : DataW.trod enc P W 0 (fun _ => true) true n t ((cs.drop i).take 1) = some x) : ∃ a, VRel (E0 W) S0 W (f a) (cs.getD i undef) := by
  obtain ⟨a, _, hl, ha⟩ := h _ _ _ hx
  have h1a := h1 a
  have e : (f a).cells = [f a] := by cases hh : f a <;> rw [hh] at h1a <;> first | rfl | (simp [AV.one] at h1a)
  have := (ha 0 (f a) (by rw [e]; rfl)).2
  refine ⟨a, ?_⟩
  rwa [show ((cs.drop i).take 1).getD 0 undef = cs.getD i undef by simp [List.getD]] at this
theorem arg_convs {t tb ti : TypeId} {fs : Array Field} {v : Value} {d : DataW H} {ps : List MemPlace} {base : Nat} {r : Go.Reach} (hu : P.underlying t = some (.struct fs)) (hub : P.underlying tb = some .bool) (hui : P.underlying ti = some (.int .i64))
    (hcb : P.cellsOf tb = 1) (hci : P.cellsOf ti = 1) (hfs : fs.toList.map (fun f => (f.type, f.offset)) = [(tb, 0), (tb, 1), (tb, 2), (tb, 3), (tb, 4), (tb, 5), (tb, 6), (tb, 7), (ti, 8)]) (hct : P.cellsOf t = 9)
    (hok : Value.okWide P W r base t v) (ht : DataW.Trod enc P W 0 (fun _ => true) true t v d ps) : ∃ c : CV, True ∧ VRel (E0 W) S0 W (.agg c.cells) v := by
  obtain ⟨cs, rfl, hsz⟩ := okWide_struct hu hok
  obtain ⟨fuel, hf⟩ := ht
  have hce : (Value.agg cs).cells = cs := rfl
  rw [hce] at hf
  obtain ⟨xs, n, rfl, _, hl, hxl, hel⟩ := DataW.trod_struct hu hf
  have hlen : fs.size = 9 := by
    have := congrArg List.length hfs
    simpa using this
  have hget : ∀ (i : Nat) (p : TypeId × Nat), ([(tb, 0), (tb, 1), (tb, 2), (tb, 3), (tb, 4), (tb, 5), (tb, 6), (tb, 7), (ti, 8)] : List (TypeId × Nat))[i]? = some p → ∃ x, DataW.trod enc P W 0 (fun _ => true) true n p.1 ((cs.toList.drop p.2).take (P.cellsOf p.1)) = some x := by
    intro i p hp
    rw [← hfs, List.getElem?_map] at hp
    obtain ⟨f, hfi, rfl⟩ := Option.map_eq_some_iff.1 hp
    have hfa : fs[i]? = some f := by simpa using hfi
    have hi : i < xs.length := by rw [hxl]; exact (Array.getElem?_eq_some_iff.1 hfa).1
    exact ⟨xs[i], by rw [hel i f hfa, List.getElem?_eq_getElem hi]⟩
  have hb : ∀ i : Nat, ([(tb, 0), (tb, 1), (tb, 2), (tb, 3), (tb, 4), (tb, 5), (tb, 6), (tb, 7), (ti, 8)] : List (TypeId × Nat))[i]? = some (tb, i) → ∃ b : Bool, VRel (E0 W) S0 W (.bool b) (cs.toList.getD i undef) := by
    intro i hi
    obtain ⟨x, hx⟩ := hget i _ hi
    rw [hcb] at hx
    exact field_one (rdt_bool hub) (fun _ => rfl) hx
  obtain ⟨b0, h0⟩ := hb 0 rfl
  obtain ⟨b1, h1⟩ := hb 1 rfl
  obtain ⟨b2, h2⟩ := hb 2 rfl
  obtain ⟨b3, h3⟩ := hb 3 rfl
  obtain ⟨b4, h4⟩ := hb 4 rfl
  obtain ⟨b5, h5⟩ := hb 5 rfl
  obtain ⟨b6, h6⟩ := hb 6 rfl
  obtain ⟨b7, h7⟩ := hb 7 rfl
  obtain ⟨z, h8⟩ : ∃ z : Int, VRel (E0 W) S0 W (.int .i64 z) (cs.toList.getD 8 undef) := by
    obtain ⟨x, hx⟩ := hget 8 (ti, 8) rfl
    rw [hci] at hx
    exact field_one (rdt_int hui) (fun _ => rfl) hx
  refine ⟨⟨b0, b1, b2, b3, b4, b5, b6, b7, z⟩, trivial, ?_⟩
  have hd : ∀ i, cs.getD i undef = cs.toList.getD i undef := by
    intro i
    simp [List.getD, Array.getD_eq_getD_getElem?]
  refine VRel.agg _ cs (by rw [hsz, hct]; rfl) ?_ ?_
  · intro u hu2
    simp only [CV.cells, List.mem_cons, List.not_mem_nil, or_false] at hu2
    rcases hu2 with rfl | rfl | rfl | rfl | rfl | rfl | rfl | rfl | rfl <;> rfl
  · intro i u hu2
    rw [hd]
    match i, hu2 with
    | 0, hu2 => cases hu2; exact h0
    | 1, hu2 => cases hu2; exact h1
    | 2, hu2 => cases hu2; exact h2
    | 3, hu2 => cases hu2; exact h3
    | 4, hu2 => cases hu2; exact h4
    | 5, hu2 => cases hu2; exact h5
    | 6, hu2 => cases hu2; exact h6
    | 7, hu2 => cases hu2; exact h7
    | 8, hu2 => cases hu2; exact h8
    | (i + 9), hu2 => simp [CV.cells] at hu2
end
end Go.Proofs.Ythpomdoaiibnfaa.Abs
