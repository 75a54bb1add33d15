/- How an argument that can be read as data reads abstractly; and a contract as a call's answer. -/
import Derived.Test.YthpomdoaiibnfaaVc6
import Derived.WalkKit
import Derived.ProofKit
import Derived.ShutString
import Derived.ChangeOld
import Derived.Below
import Derived.Carry
import Derived.OpenShut
namespace Go.Proofs.Ythpomdoaiibnfaa.Abs
open Go Go.RowKit Go.ChangeShapes Go.WideShapes Go.ChangeAt
set_option linter.unusedVariables false
set_option linter.unusedSimpArgs false

def E0 (W : World) : Env := { ro := fun b => b < W.heap.size, be := fun _ => none, off := fun _ => 0, mu := fun _ => 0 }
def S0 : ASt := { objs := [], live := fun _ => false, next := 0 }
theorem rel0 (W : World) : Rel (E0 W) S0 W :=
  ⟨fun b hb => hb, fun o cs h => by simp [S0] at h, fun o h => by simp [S0] at h, fun o o' h => by simp [S0] at h, fun t b h => by simp [S0] at h, fun t t' b h => by simp [S0] at h, fun t h => by simp [S0] at h⟩
theorem below_of {W W' : World} {E' : Env} {S' : ASt} (h : Evolves (E0 W) S0 W E' S' W') : Below W.heap.size W W' :=
  ⟨h.os, h.tape, h.output, h.size, fun k hk => (h.ro k hk).2⟩
theorem calls_of {P : Program} {f : FuncId} {args : List AV} {W : World} {cargs : Array Value} (h : ACalls P f args S0 fun v S' => v = .bool true) (hA : ArgsRel (E0 W) S0 W args cargs) :
    Calls P f cargs W fun e W' => e = .returned (.bool true) ∧ Below W.heap.size W W' := by
  refine (h.2 (E0 W) W cargs (rel0 W) hA).mono ?_
  rintro e W' ⟨v, cv, E', S', rfl, ev, hR, hv, rfl⟩
  cases hv
  exact ⟨rfl, below_of ev⟩
theorem args_nil {W : World} : ArgsRel (E0 W) S0 W [] #[] := ⟨rfl, fun i hi => by simp at hi⟩
theorem args_cons {W : World} {a : AV} {v : Value} {as : List AV} {vs : List Value} (h : VRel (E0 W) S0 W a v) (hs : ArgsRel (E0 W) S0 W as vs.toArray) : ArgsRel (E0 W) S0 W (a :: as) (v :: vs).toArray := by
  have := ArgsRel.cons h hs
  simpa using this

section
variable {H : Type} {enc : TypeId × Value → H} {P : Program} {W : World}

/-- What values of a type read as. -/
def Rdt (enc : TypeId × Value → H) (P : Program) (W : World) (t : TypeId) {α : Type} (f : α → AV) (good : α → Prop) : Prop :=
  ∀ (fuel : Nat) (cs : List Value) (x : DataW H × List MemPlace), DataW.trod enc P W 0 (fun _ => true) true fuel t cs = some x →
    ∃ a : α, good a ∧ (f a).cells.length = cs.length ∧ ∀ i u, (f a).cells[i]? = some u → u.one = true ∧ VRel (E0 W) S0 W u (cs.getD i undef)

theorem one_cell {α : Type} {f : α → AV} {a : α} {v : Value} (h1 : (f a).one = true) (h : VRel (E0 W) S0 W (f a) v) :
    (f a).cells.length = [v].length ∧ ∀ i u, (f a).cells[i]? = some u → u.one = true ∧ VRel (E0 W) S0 W u ([v].getD i undef) := by
  have e : (f a).cells = [f a] := by cases hh : f a <;> rw [hh] at h1 <;> first | rfl | (simp [AV.one] at h1)
  rw [e]
  refine ⟨rfl, fun i u hu => ?_⟩
  cases i with
  | zero => simp at hu; subst hu; exact ⟨h1, h⟩
  | succ i => simp at hu

theorem rdt_int {t : TypeId} {k : IntKind} (hu : P.underlying t = some (.int k)) : Rdt enc P W t (fun n : Int => .int k n) (fun n => (Lit.int k n).wf = true) := by
  intro fuel cs x h
  obtain ⟨n, rfl, _, hw⟩ := DataW.trod_int hu h
  exact ⟨n, hw, one_cell (f := fun n : Int => .int k n) (a := n) rfl (.int _ _)⟩
theorem rdt_u8 {t : TypeId} (hu : P.underlying t = some (.int .u8)) : Rdt enc P W t u8 (fun _ => True) := by
  intro fuel cs x h
  obtain ⟨m, rfl, _, hw⟩ := DataW.trod_int hu h
  have hb : 0 ≤ m ∧ m ≤ 255 := by
    simp only [Lit.wf, Bool.and_eq_true, decide_eq_true_eq] at hw
    exact hw
  have e : ((UInt8.ofNat m.toNat).toNat : Int) = m := by rw [UInt8.toNat_ofNat']; omega
  refine ⟨UInt8.ofNat m.toNat, trivial, one_cell (f := u8) (a := UInt8.ofNat m.toNat) rfl ?_⟩
  show VRel _ _ _ (.int .u8 _) _
  rw [e]; exact .int _ _
theorem rdt_bool {t : TypeId} (hu : P.underlying t = some .bool) : Rdt enc P W t AV.bool (fun _ => True) := by
  intro fuel cs x h
  obtain ⟨b, rfl, _⟩ := DataW.trod_bool hu h
  exact ⟨b, trivial, one_cell (f := AV.bool) (a := b) rfl (.bool _)⟩
theorem rdt_str {t : TypeId} (hu : P.underlying t = some .string) : Rdt enc P W t AV.str (fun l => l.length ≤ 9223372036854775807) := by
  intro fuel cs x h
  obtain ⟨s, rfl, _, hs⟩ := DataW.trod_string hu h
  have hv : VRel (E0 W) S0 W (.str s.data.toList) (.string s) := by
    have := VRel.str (E := E0 W) (S := S0) (w := W) s.data.toList
    simpa using this
  exact ⟨s.data.toList, by simpa [maxLen] using hs, one_cell (f := AV.str) (a := s.data.toList) rfl hv⟩

theorem cells_spot {a : Addr} {w : World} {v : Value} (h : w.cell? a = some v) : a = ⟨a.block, a.off, none⟩ ∧ a.block < w.heap.size := by
  unfold World.cell? at h
  split at h
  · rename_i c e st hc
    split at h
    · cases h
    · rename_i hsp
      obtain ⟨b, o, sp⟩ := a
      refine ⟨?_, (Array.getElem?_eq_some_iff.1 hc).1⟩
      cases sp with
      | none => rfl
      | some _ => simp at hsp
  · cases h

theorem rdt_slice {t e : TypeId} {α : Type} {f : α → AV} {good : α → Prop} {sz : Nat} (hu : P.underlying t = some (.slice e)) (hc : P.cellsOf e = sz) (hsz : 0 < sz) (h : Rdt enc P W e f good) :
    Rdt enc P W t (fun l : List α => .sl .ro sz (l.map f)) (fun l => (∀ a ∈ l, good a) ∧ l.length ≤ 9223372036854775807) := by
  intro fuel cs x hx
  rcases DataW.trod_slice hu hx with ⟨rfl, _⟩ | ⟨a, len, cap, elems, rest, n, _, rfl, _, _, hle, hm, hlen, hel, _, _⟩
  · exact ⟨[], ⟨by simp, by simp⟩, one_cell (f := fun l : List α => .sl .ro sz (l.map f)) (a := []) rfl (.sl_emp sz none 0)⟩
  have each : ∀ i, i < len → ∃ y : α, good y ∧ (f y).cells.length = sz ∧ ∀ j u, (f y).cells[j]? = some u → u.one = true ∧ ∃ c, W.cell? ((a.add (i * sz)).add j) = some c ∧ VRel (E0 W) S0 W u c := by
    intro i hi
    have h1 := hel i hi
    rw [List.getElem?_eq_getElem (by omega : i < elems.length), hc] at h1
    simp only [Option.bind_eq_some_iff] at h1
    obtain ⟨cs', hcs, ht⟩ := h1
    unfold World.cells? at hcs
    split at hcs
    · have hl := mapM_some_length hcs
      rw [List.length_range] at hl
      obtain ⟨y, hg, hlc, hy⟩ := h _ _ _ ht
      refine ⟨y, hg, by omega, fun j u hu => ?_⟩
      have hj : j < sz := by
        have := (List.getElem?_eq_some_iff.1 hu).1; omega
      obtain ⟨h2, h3⟩ := hy j u hu
      refine ⟨h2, cs'.getD j undef, ?_, h3⟩
      have := mapM_some_get hcs j j (by simp [hj])
      rw [this]; simp [List.getD, show j < cs'.length by omega]
    · cases hcs
  by_cases h0 : len = 0
  · subst h0
    exact ⟨[], ⟨by simp, by simp⟩, one_cell (f := fun l : List α => .sl .ro sz (l.map f)) (a := []) rfl (.sl_emp sz (some a) cap)⟩
  obtain ⟨y0, _, hy0, hy1⟩ := each 0 (by omega)
  have hcell0 : ∃ c, W.cell? a = some c := by
    obtain ⟨_, c, hc0, _⟩ := hy1 0 ((f y0).cells[0]'(by omega)) (List.getElem?_eq_getElem _)
    simp only [Nat.zero_mul, Addr.add, if_true] at hc0
    exact ⟨c, hc0⟩
  obtain ⟨c0, hc0⟩ := hcell0
  obtain ⟨hsp, hblk⟩ := cells_spot hc0
  have hadd : ∀ i j, ((a.add (i * sz)).add j) = ⟨a.block, a.off + (i * sz + j), none⟩ := by
    intro i j
    have e1 : ∀ k, a.add k = ⟨a.block, a.off + k, none⟩ := by
      intro k
      unfold Addr.add
      split
      · rename_i hk; subst hk; exact hsp
      · rfl
    rw [e1]
    unfold Addr.add
    split
    · rename_i hj; subst hj; simp
    · simp [Nat.add_assoc]
  let l : List α := List.ofFn (fun i : Fin len => Classical.choose (each i.1 i.2))
  have hl : l.length = len := by simp [l]
  have hat : ∀ i (hi : i < len), l[i]'(by omega) = Classical.choose (each i hi) := by intro i hi; simp [l]
  refine ⟨l, ⟨?_, by have : cap ≤ 9223372036854775807 := by (simpa [maxLen] using hm)
                     omega⟩, one_cell (f := fun l : List α => .sl .ro sz (l.map f)) (a := l) rfl ?_⟩
  · intro y hy
    obtain ⟨i, hi, rfl⟩ := List.getElem_of_mem hy
    rw [hat i (by omega)]
    exact (Classical.choose_spec (each i (by omega))).1
  have hcl : ∀ x ∈ l.map f, x.cells.length = sz := by
    intro x hx
    obtain ⟨y, hy, rfl⟩ := List.mem_map.1 hx
    obtain ⟨i, hi, rfl⟩ := List.getElem_of_mem hy
    rw [hat i (by omega)]
    exact (Classical.choose_spec (each i (by omega))).2.1
  have hfl := flat_length (l.map f) hcl
  rw [List.length_map, hl] at hfl
  have hall : ∀ j u, (flat (l.map f))[j]? = some u → u.one = true ∧ ∃ c, W.cell? ⟨a.block, a.off + j, none⟩ = some c ∧ VRel (E0 W) S0 W u c := by
    intro j u hj
    have hjl : j < len * sz := by rw [← hfl]; exact (List.getElem?_eq_some_iff.1 hj).1
    have hi : j / sz < len := Nat.div_lt_of_lt_mul (by rw [Nat.mul_comm]; exact hjl)
    have hk : j % sz < sz := Nat.mod_lt _ hsz
    have hjeq : j / sz * sz + j % sz = j := by rw [Nat.mul_comm]; exact Nat.div_add_mod j sz
    rw [← hjeq] at hj
    rw [flat_getElem (l.map f) (j / sz) (j % sz) hcl (by rw [List.length_map, hl]; exact hi) hk, map_getD (by omega), hat _ hi] at hj
    obtain ⟨g1, c, g2, g3⟩ := (Classical.choose_spec (each (j / sz) hi)).2.2 (j % sz) u hj
    rw [hadd, hjeq] at g2
    exact ⟨g1, c, g2, g3⟩
  rw [hsp]
  have hlen' : (l.map f).length = len := by rw [List.length_map, hl]
  show VRel _ _ _ (.sl .ro sz (l.map f)) (.slice (some ⟨a.block, a.off, none⟩) len cap)
  rw [← hlen']
  refine .sl_mem .ro sz (l.map f) a.block a.off cap (fun j => (W.cell? ⟨a.block, a.off + j, none⟩).getD undef) hblk (by omega) hcl ?_ ?_ ?_ (by intro t ht; cases ht)
  · intro u hu
    obtain ⟨j, hj⟩ := List.mem_iff_getElem?.1 hu
    exact (hall j u hj).1
  · intro j u hj
    obtain ⟨_, c, h1, _⟩ := hall j u hj
    rw [h1]; rfl
  · intro j u hj
    obtain ⟨_, c, h1, h2⟩ := hall j u hj
    rw [h1]; exact h2

/-- An array of one-cell elements. -/
theorem rdt_arr {t e : TypeId} {n : Nat} {α : Type} {f : α → AV} {good : α → Prop} (hu : P.underlying t = some (.array n e)) (hc : P.cellsOf e = 1) (hct : P.cellsOf t = n) (hf : ∀ a, (f a).one = true) (h : Rdt enc P W e f good) :
    Rdt enc P W t (fun l : List α => .agg (l.map f)) (fun l => l.length = n ∧ ∀ a ∈ l, good a) := by
  intro fuel cs x hx
  obtain ⟨xs, m, rfl, rfl, hl, hxl, hel⟩ := DataW.trod_array hu hx
  rw [hct] at hl
  have each : ∀ i, i < n → ∃ y : α, good y ∧ VRel (E0 W) S0 W (f y) (cs.getD i undef) := by
    intro i hi
    have h1 := hel i hi
    rw [List.getElem?_eq_getElem (by omega : i < xs.length), hc, Nat.mul_one] at h1
    obtain ⟨y, hg, hlen, hy⟩ := h _ _ _ h1
    refine ⟨y, hg, ?_⟩
    have h1a := hf y
    have e1 : (f y).cells = [f y] := by cases hh : f y <;> rw [hh] at h1a <;> first | rfl | (simp [AV.one] at h1a)
    have h2 := (hy 0 (f y) (by rw [e1]; rfl)).2
    have e2 : ((cs.drop i).take 1).getD 0 undef = cs.getD i undef := by
      simp [List.getD]
    rwa [e2] at h2
  let l : List α := List.ofFn (fun i : Fin n => Classical.choose (each i.1 i.2))
  have hll : l.length = n := by simp [l]
  have hat : ∀ i (hi : i < n), l[i]'(by omega) = Classical.choose (each i hi) := by intro i hi; simp [l]
  refine ⟨l, ⟨hll, ?_⟩, ?_, ?_⟩
  · intro y hy
    obtain ⟨i, hi, rfl⟩ := List.getElem_of_mem hy
    rw [hat i (by omega)]
    exact (Classical.choose_spec (each i (by omega))).1
  · show (l.map f).length = cs.length
    rw [List.length_map, hll, hl]
  · intro i u hu
    have hu' : (l.map f)[i]? = some u := hu
    have hi : i < n := by
      have := (List.getElem?_eq_some_iff.1 hu').1
      rw [List.length_map, hll] at this; exact this
    rw [List.getElem?_map, List.getElem?_eq_getElem (by omega), Option.map_some, Option.some.injEq] at hu'
    subst hu'
    rw [hat i hi]
    exact ⟨hf _, (Classical.choose_spec (each i hi)).2⟩

/-- An argument of one cell. -/
theorem arg_one {t : TypeId} {α : Type} {f : α → AV} {good : α → Prop} {v : Value} {d : DataW H} {ps : List MemPlace} (h : Rdt enc P W t f good) (h1 : ∀ a, (f a).one = true) (hv : v.cells = #[v])
    (ht : DataW.Trod enc P W 0 (fun _ => true) true t v d ps) : ∃ a, good a ∧ VRel (E0 W) S0 W (f a) v := by
  obtain ⟨fuel, hf⟩ := ht
  rw [hv] at hf
  obtain ⟨a, hg, hl, ha⟩ := h _ _ _ hf
  refine ⟨a, hg, ?_⟩
  have h1a := h1 a
  have e : (f a).cells = [f a] := by cases hh : f a <;> rw [hh] at h1a <;> first | rfl | (simp [AV.one] at h1a)
  have := (ha 0 (f a) (by rw [e]; rfl)).2
  exact this
theorem cells_slice {t e : TypeId} {v : Value} {base : Nat} {r : Go.Reach} (hu : P.underlying t = some (.slice e)) (h : Value.okWide P W r base t v) : v.cells = #[v] := by
  obtain ⟨a, l, c, rfl⟩ := okWide_slice hu h; rfl
theorem trod_blocks {t : TypeId} {v : Value} {d : DataW H} {ps : List MemPlace} (h : DataW.Trod enc P W 0 (fun _ => true) true t v d ps) : ∀ x ∈ ps, x.block < W.heap.size := by
  obtain ⟨m, hm⟩ := h
  exact DataW.trod_lt m _ _ _ hm
end
end Go.Proofs.Ythpomdoaiibnfaa.Abs
