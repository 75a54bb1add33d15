/- Byte slices that can be read, byte slices that are new. -/
import Derived.Test.YthpomdoaiibnfaaCode1
import Derived.Test.YthpomdoaiibnfaaVc6
namespace Go.Proofs.Ythpomdoaiibnfaa.Abs
open Go Go.Proofs
set_option linter.unusedVariables false
/-- A byte slice that can be read. -/
def BS (S : ASt) (v : AV) (l : List UInt8) : Prop := ∃ o sz, v = .sl o sz (u8s l) ∧ (sz = 1 ∨ l = []) ∧ (o = .nil → l = []) ∧ Rd S o
/-- A byte slice that is new, and more can be put behind. -/
def BA (S S' : ASt) (v : AV) (l : List UInt8) : Prop := ∃ o sz, v = .sl o sz (u8s l) ∧ App S' o 1 sz l.length ∧ ∀ t, o = .own t → S.next ≤ t
theorem App.nil {S : ASt} {o : Own} {sz sz1 n : Nat} (h : App S o sz sz1 n) : o = .nil → n = 0 := by
  rcases h with ⟨_, h⟩ | ⟨t, rfl, _⟩
  · exact fun _ => h
  · intro h; cases h
theorem BA.bs {S S' : ASt} {v : AV} {l : List UInt8} (h : BA S S' v l) : BS S' v l := by
  obtain ⟨o, sz, rfl, ha, hn⟩ := h
  exact ⟨o, sz, rfl, ha.sz.imp id (fun h => List.length_eq_zero_iff.1 h), fun h => List.length_eq_zero_iff.1 (ha.nil h), ha.rd⟩
theorem BS.stays {S S' : ASt} {os : List Nat} {v : AV} {l : List UInt8} (h : BS S v l) (hs : Stays S S' os) : BS S' v l := by
  obtain ⟨o, sz, h1, h2, h3, h4⟩ := h
  exact ⟨o, sz, h1, h2, h3, h4.stays hs⟩
theorem sz_pos {sz : Nat} {l : List UInt8} (h : sz = 1 ∨ l = []) (hl : 0 < l.length) : sz = 1 := by
  rcases h with h | h
  · exact h
  · subst h; simp at hl
end Go.Proofs.Ythpomdoaiibnfaa.Abs
