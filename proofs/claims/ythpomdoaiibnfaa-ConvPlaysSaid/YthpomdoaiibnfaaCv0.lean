/- Objects with arrays and interfaces: laws of steps. -/
import Derived.Test.YthpomdoaiibnfaaFixed5
namespace Go.Proofs.Ythpomdoaiibnfaa.Abs
open Go Go.Proofs
set_option linter.unusedVariables false
set_option linter.unusedSimpArgs false

section
variable {P : Program} {F : Fr} {S : ASt} {r : List RI} {K : Fr → ASt → Prop} {d : Nat} {x a : RO}
theorem load_ok {S : ASt} {n o i : Nat} {cs vs : List AV} (ho : S.objs[o]? = some cs) (hv : (cs.drop i).take n = vs) (hn : vs.length = n) (h0 : 0 < n) : loadNE S n (.ptr (some (o, i))) = some (.agg vs) := by
  have h1 : i + n ≤ cs.length := by
    have := congrArg List.length hv
    rw [List.length_take, List.length_drop] at this
    omega
  simp only [loadNE, ho, if_pos h1, hv]
theorem i_loadNO {o i n : Nat} {cs vs : List AV} (ha : ro F a = .ptr (some (o, i))) (ho : S.objs[o]? = some cs) (hv : (cs.drop i).take n = vs) (hn : vs.length = n) (h0 : 0 < n) (k : wpI P r K ((d, .agg vs) :: F) S) : wpI P (⟨false, none, .loadN n a, some d⟩ :: r) K F S :=
  ⟨.agg vs, S, by simp only [ropE, ha, load_ok ho hv hn h0, st1], k⟩
theorem c_loadNO {o i n : Nat} {cs vs : List AV} (ha : ro F a = .ptr (some (o, i))) (ho : S.objs[o]? = some cs) (hv : (cs.drop i).take n = vs) (hn : vs.length = n) (h0 : 0 < n) (hd : look F d = .agg vs) : chk (.loadN n a) F S (some d) :=
  ⟨.agg vs, S, by simp only [ropE, ha, load_ok ho hv hn h0, st1], hd.symm⟩
theorem i_stO {o i n : Nat} {cs vs : List AV} (ha : ro F a = .ptr (some (o, i))) (hx : ro F x = .agg vs) (ho : S.objs[o]? = some cs) (hn : vs.length = n) (hi : i + n ≤ cs.length) (k : wpI P r K F (S.put o (setA cs i vs))) :
    wpI P (⟨false, none, .st n a x, none⟩ :: r) K F S := by
  refine ⟨.top, S.put o (setA cs i vs), ?_, k⟩
  simp only [ropE, ha, hx, stA, ho]
  rw [if_pos ⟨rfl, by simp [AV.cells, hn], by simp [AV.cells, hn, hi]⟩]
  rfl
theorem c_nckI {t : TypeId} {v : AV} (h : ro F x = .iface t v) (hd : look F d = .iface t v) : chk (.nck x) F S (some d) := ⟨_, S, by simp only [ropE, h], hd.symm⟩
theorem c_nckP {p : Nat × Nat} (h : ro F x = .ptr (some p)) (hd : look F d = .ptr (some p)) : chk (.nck x) F S (some d) := ⟨_, S, by simp only [ropE, h], hd.symm⟩
end

/-- The cells of a conversion: a swab, two tables, a stream, a packer. -/
def cvc (p : AV) (a b : List AV) (st pk : AV) : List AV := p :: (a ++ (b ++ [st, pk]))
section
variable {p p2 st st2 pk pk2 : AV} {a a2 b b2 : List AV}
theorem cvc_len (ha : a.length = 256) (hb : b.length = 256) : (cvc p a b st pk).length = 515 := by simp [cvc, ha, hb]
theorem cvc_0 : (cvc p a b st pk)[0]? = some p := rfl
theorem cvc_st (ha : a.length = 256) (hb : b.length = 256) : (cvc p a b st pk)[513]? = some st := by
  show (a ++ (b ++ [st, pk]))[512]? = some st
  rw [List.getElem?_append_right (by omega), List.getElem?_append_right (by omega), ha, hb]
  rfl
theorem cvc_pk (ha : a.length = 256) (hb : b.length = 256) : (cvc p a b st pk)[514]? = some pk := by
  show (a ++ (b ++ [st, pk]))[513]? = some pk
  rw [List.getElem?_append_right (by omega), List.getElem?_append_right (by omega), ha, hb]
  rfl
theorem cvc_dA (ha : a.length = 256) : (cvc p a b st pk).drop 257 = b ++ [st, pk] := by
  show (a ++ (b ++ [st, pk])).drop 256 = _
  exact List.drop_left' ha
theorem cvc_dB (ha : a.length = 256) (hb : b.length = 256) : (cvc p a b st pk).drop 513 = [st, pk] := by
  have : (cvc p a b st pk).drop 513 = ((cvc p a b st pk).drop 257).drop 256 := by rw [List.drop_drop]
  rw [this, cvc_dA ha]
  exact List.drop_left' hb
theorem cvc_A (ha : a.length = 256) : ((cvc p a b st pk).drop 1).take 256 = a := by
  show (a ++ (b ++ [st, pk])).take 256 = a
  exact List.take_left' ha
theorem cvc_B (ha : a.length = 256) (hb : b.length = 256) : ((cvc p a b st pk).drop 257).take 256 = b := by
  rw [cvc_dA ha]
  exact List.take_left' hb
theorem cvc_tA (ha : a.length = 256) : (cvc p a b st pk).take 257 = p :: a := by
  show p :: (a ++ (b ++ [st, pk])).take 256 = _
  rw [List.take_left' ha]
theorem cvc_tB (ha : a.length = 256) (hb : b.length = 256) : (cvc p a b st pk).take 513 = p :: (a ++ b) := by
  show p :: (a ++ (b ++ [st, pk])).take 512 = _
  rw [← List.append_assoc, List.take_left' (by simp [ha, hb])]
theorem cvc_set1 (ha : a.length = 256) : (cvc p a b st pk).take 1 ++ a2 ++ (cvc p a b st pk).drop (1 + 256) = cvc p a2 b st pk := by
  rw [show (1 + 256 : Nat) = 257 from rfl, cvc_dA ha]
  show [p] ++ a2 ++ (b ++ [st, pk]) = _
  simp [cvc]
theorem cvc_set2 (ha : a.length = 256) (hb : b.length = 256) : (cvc p a b st pk).take 257 ++ b2 ++ (cvc p a b st pk).drop (257 + 256) = cvc p a b2 st pk := by
  rw [show (257 + 256 : Nat) = 513 from rfl, cvc_dB ha hb, cvc_tA ha]
  simp [cvc]
theorem cvc_set3 (ha : a.length = 256) (hb : b.length = 256) : (cvc p a b st pk).take 513 ++ [st2] ++ (cvc p a b st pk).drop (513 + 1) = cvc p a b st2 pk := by
  have : (cvc p a b st pk).drop (513 + 1) = ((cvc p a b st pk).drop 513).drop 1 := by rw [List.drop_drop]
  rw [this, cvc_dB ha hb, cvc_tB ha hb]
  simp [cvc]
theorem cvc_setA (ha : a.length = 256) (ha2 : a2.length = 256) : setA (cvc p a b st pk) 1 a2 = cvc p a2 b st pk := by
  rw [setA, if_neg (by omega), ha2]; exact cvc_set1 ha
theorem cvc_setB (ha : a.length = 256) (hb : b.length = 256) (hb2 : b2.length = 256) : setA (cvc p a b st pk) 257 b2 = cvc p a b2 st pk := by
  rw [setA, if_neg (by omega), hb2]; exact cvc_set2 ha hb
theorem cvc_setS (ha : a.length = 256) (hb : b.length = 256) : (cvc p a b st pk).set 513 st2 = cvc p a b st2 pk := by
  show p :: (a ++ (b ++ [st, pk])).set 512 st2 = _
  rw [List.set_append_right _ _ (by omega), List.set_append_right _ _ (by omega), ha, hb]
  rfl
theorem cvc_setP (ha : a.length = 256) (hb : b.length = 256) : (cvc p a b st pk).set 514 pk2 = cvc p a b st pk2 := by
  show p :: (a ++ (b ++ [st, pk])).set 513 pk2 = _
  rw [List.set_append_right _ _ (by omega), List.set_append_right _ _ (by omega), ha, hb]
  rfl
theorem cvc_fill {q : Nat × Nat} {t : TypeId} {v : AV} (ha : a.length = 256) (hb : b.length = 256) :
    fillA [(0, 1), (1, 256), (257, 256), (513, 1), (514, 1)] ([.ptr none] ++ List.replicate 512 (.int .u8 0) ++ [.nilIface] ++ [.ptr none]) [(0, .ptr (some q)), (1, .agg a), (2, .agg b), (3, .iface t v)] = some (cvc (.ptr (some q)) a b (.iface t v) (.ptr none)) := by
  have hz : ([.ptr none] ++ List.replicate 512 (.int .u8 0) ++ [.nilIface] ++ [.ptr none] : List AV) = cvc (.ptr none) (List.replicate 256 (.int .u8 0)) (List.replicate 256 (.int .u8 0)) .nilIface (.ptr none) := by
    rw [show (512 : Nat) = 256 + 256 from rfl, ← List.replicate_append_replicate]
    generalize List.replicate 256 (AV.int .u8 0) = z
    simp [cvc]
  have hl : (List.replicate 256 (AV.int .u8 0)).length = 256 := List.length_replicate
  rw [hz]
  generalize List.replicate 256 (AV.int .u8 0) = z at hl ⊢
  have e0 : ∀ q0 : AV, (cvc q0 z z .nilIface (.ptr none)).take 0 ++ (AV.ptr (some q)).cells ++ (cvc q0 z z .nilIface (.ptr none)).drop (0 + 1) = cvc (.ptr (some q)) z z .nilIface (.ptr none) := fun q0 => rfl
  simp only [fillA]
  rw [show ([(0, 1), (1, 256), (257, 256), (513, 1), (514, 1)] : List (Nat × Nat))[0]? = some (0, 1) from rfl]
  dsimp only
  rw [if_pos (by simp [AV.box, AV.one, AV.cells, cvc_len hl hl]), e0]
  rw [show ([(0, 1), (1, 256), (257, 256), (513, 1), (514, 1)] : List (Nat × Nat))[1]? = some (1, 256) from rfl]
  dsimp only
  rw [if_pos (by simp [AV.box, AV.one, AV.cells, cvc_len hl hl, ha]), show (AV.agg a).cells = a from rfl, cvc_set1 hl]
  rw [show ([(0, 1), (1, 256), (257, 256), (513, 1), (514, 1)] : List (Nat × Nat))[2]? = some (257, 256) from rfl]
  dsimp only
  rw [if_pos (by simp [AV.box, AV.one, AV.cells, cvc_len ha hl, hb]), show (AV.agg b).cells = b from rfl, cvc_set2 ha hl]
  rw [show ([(0, 1), (1, 256), (257, 256), (513, 1), (514, 1)] : List (Nat × Nat))[3]? = some (513, 1) from rfl]
  dsimp only
  rw [if_pos (by simp [AV.box, AV.one, AV.cells, cvc_len ha hb]), show (AV.iface t v).cells = [.iface t v] from rfl, cvc_set3 ha hb]
end

/-- Three cells in a row, and all others as they were. -/
theorem off3 {j : Nat} {cs cs' : List AV} {a b d : AV} (h : Off j 3 cs cs') (h0 : cs'[j]? = some a) (h1 : cs'[j + 1]? = some b) (h2 : cs'[j + 2]? = some d) : cs' = ((cs.set j a).set (j + 1) b).set (j + 2) d := by
  have hl := (List.getElem?_eq_some_iff.1 h2).1
  have hl2 := h.1
  apply List.ext_getElem?
  intro k
  by_cases hk : k < j ∨ j + 3 ≤ k
  · rw [h.2 k hk, List.getElem?_set_ne (by omega), List.getElem?_set_ne (by omega), List.getElem?_set_ne (by omega)]
  · have : k = j ∨ k = j + 1 ∨ k = j + 2 := by omega
    rcases this with rfl | rfl | rfl
    · rw [h0, List.getElem?_set_ne (by omega), List.getElem?_set_ne (by omega), List.getElem?_set_self (by omega)]
    · rw [h1, List.getElem?_set_ne (by omega), List.getElem?_set_self (by simp; omega)]
    · rw [h2, List.getElem?_set_self (by simp; omega)]
theorem off2 {j : Nat} {cs cs' : List AV} {a b : AV} (h : Off j 2 cs cs') (h0 : cs'[j]? = some a) (h1 : cs'[j + 1]? = some b) : cs' = (cs.set j a).set (j + 1) b := by
  have hl := (List.getElem?_eq_some_iff.1 h1).1
  have hl2 := h.1
  apply List.ext_getElem?
  intro k
  by_cases hk : k < j ∨ j + 2 ≤ k
  · rw [h.2 k hk, List.getElem?_set_ne (by omega), List.getElem?_set_ne (by omega)]
  · have : k = j ∨ k = j + 1 := by omega
    rcases this with rfl | rfl
    · rw [h0, List.getElem?_set_ne (by omega), List.getElem?_set_self (by omega)]
    · rw [h1, List.getElem?_set_self (by simp; omega)]
end Go.Proofs.Ythpomdoaiibnfaa.Abs
