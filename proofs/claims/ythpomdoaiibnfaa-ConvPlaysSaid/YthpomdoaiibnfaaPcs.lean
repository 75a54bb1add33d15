/- Lists of byte slices that are read. -/
import Derived.Test.YthpomdoaiibnfaaLibC
namespace Go.Proofs.Ythpomdoaiibnfaa.Abs
open Go Go.Proofs
set_option linter.unusedVariables false
abbrev rov (l : List UInt8) : AV := .sl .ro 1 (u8s l)
theorem flat_take {ls : List (List UInt8)} {i : Nat} (h : i < ls.length) : (ls.take (i + 1)).flatten = (ls.take i).flatten ++ ls[i] := by
  rw [List.take_succ_eq_append_getElem h, List.flatten_append]; simp
theorem flat_le (ls : List (List UInt8)) (i : Nat) : ((ls.take i).flatten).length ≤ ls.flatten.length := by
  conv => rhs; rw [← List.take_append_drop i ls]
  rw [List.flatten_append, List.length_append]; omega
theorem flat_mem {ls : List (List UInt8)} {i : Nat} (h : i < ls.length) : (ls[i]).length ≤ ls.flatten.length := by
  have h1 := flat_take h
  have h2 := flat_le ls (i + 1)
  rw [h1, List.length_append] at h2; omega
/-- Pieces as slices that are read. -/
def bls (ls : List (List UInt8)) : List BL := ls.map fun l => ⟨.ro, 1, l⟩
theorem bls_slv (ls : List (List UInt8)) : (bls ls).map slv = ls.map rov := by simp [bls]
theorem bls_cat (ls : List (List UInt8)) : cat (bls ls) = ls.flatten := by simp [bls, cat, List.flatMap_map, List.flatMap_id']
theorem bls_ok (ls : List (List UInt8)) (S : ASt) : ∀ x ∈ bls ls, x.ok S := by
  intro x hx
  simp only [bls, List.mem_map] at hx
  obtain ⟨l, _, rfl⟩ := hx
  exact ⟨.inl rfl, (by intro h; cases h), Rd.ro⟩
theorem one_ok {S : ASt} {o : Own} {sz : Nat} {l : List UInt8} (hs : sz = 1 ∨ l = []) (hn : o = .nil → l = []) (hr : Rd S o) : ∀ x ∈ [(⟨o, sz, l⟩ : BL)], x.ok S := by
  intro x hx
  simp only [List.mem_singleton] at hx
  subst hx
  exact ⟨hs, hn, hr⟩
theorem one_cat (o : Own) (sz : Nat) (l : List UInt8) : cat [(⟨o, sz, l⟩ : BL)] = l := by simp [cat]
end Go.Proofs.Ythpomdoaiibnfaa.Abs
