/- Package runs, and the document's: contracts of Lead, Trail, Zero. -/
import Derived.Test.YthgdooidleoicaaCode1
import Derived.Test.YthgdooidleoicaaVc6
namespace Go.Proofs.Ythgdooidleoicaa.Abs
open Go Go.Proofs
set_option linter.unusedVariables false
set_option linter.unusedSimpArgs false
attribute [local irreducible] wpI wpR ropK chk ASt.push ASt.put ASt.fresh ASt.kill appS

def leadN (l : List UInt8) : Nat := (l.takeWhile (· == 0)).length
def trailN (l : List UInt8) : Nat := leadN l.reverse
def zeroL (l : List UInt8) : Bool := l.all (· == 0)
theorem leadN_le (l : List UInt8) : leadN l ≤ l.length := (List.takeWhile_prefix _).length_le
theorem leadN_at : ∀ (l : List UInt8) (i : Nat) (hi : i < l.length), i ≤ leadN l → (l[i] = 0 → i + 1 ≤ leadN l) ∧ (¬ l[i] = 0 → leadN l = i)
  | b :: l, 0, _, _ => by
    simp only [List.getElem_cons_zero, leadN, List.takeWhile_cons]
    refine ⟨fun h => by simp [h], fun h => by simp [h]⟩
  | b :: l, i + 1, hi, hle => by
    simp only [List.getElem_cons_succ]
    by_cases hb : b = 0
    · have e : leadN (b :: l) = leadN l + 1 := by simp [leadN, List.takeWhile_cons, hb]
      rw [e] at hle ⊢
      obtain ⟨h1, h2⟩ := leadN_at l i (by simpa using hi) (by omega)
      exact ⟨fun h => by have := h1 h; omega, fun h => by have := h2 h; omega⟩
    · have e : leadN (b :: l) = 0 := by simp [leadN, List.takeWhile_cons, hb]
      omega
theorem trailN_le (l : List UInt8) : trailN l ≤ l.length := by
  have := leadN_le l.reverse
  simpa [trailN] using this
theorem trailN_at (l : List UInt8) (i : Nat) (hi : l.length - 1 - i < l.length) (h : i < l.length) (hle : i ≤ trailN l) : (l[l.length - 1 - i] = 0 → i + 1 ≤ trailN l) ∧ (¬ l[l.length - 1 - i] = 0 → trailN l = i) := by
  have := leadN_at l.reverse i (by simpa using h) hle
  simpa [trailN, List.getElem_reverse] using this
theorem leadN_full (l : List UInt8) : (leadN l = l.length) ↔ zeroL l = true := by
  induction l with
  | nil => simp [leadN, zeroL]
  | cons b l ih =>
    by_cases hb : b = 0
    · have e : leadN (b :: l) = leadN l + 1 := by simp [leadN, List.takeWhile_cons, hb]
      rw [e, List.length_cons, Nat.add_right_cancel_iff, ih]
      simp [zeroL, hb]
    · have e : leadN (b :: l) = 0 := by simp [leadN, List.takeWhile_cons, hb]
      have h2 : (b == 0) = false := by simpa using hb
      simp [e, zeroL, h2]
theorem zeroL_rev (l : List UInt8) : zeroL l.reverse = zeroL l := by simp [zeroL]
theorem trailN_full (l : List UInt8) : (trailN l = l.length) ↔ zeroL l = true := by
  have := leadN_full l.reverse
  rwa [List.length_reverse, zeroL_rev] at this
theorem u8_zero {b : UInt8} (h : b = 0) : (b.toNat : Int) = 0 := by subst h; rfl
theorem u8_nz {b : UInt8} (h : ¬ b = 0) : ¬ (b.toNat : Int) = 0 := by
  intro h2
  apply h
  apply UInt8.toNat_inj.1
  simpa using h2

theorem lead (o : Own) (sz : Nat) (bs : List UInt8) (S : ASt) (hs : sz = 1 ∨ bs = []) (hr : Rd S o) (hb : bs.length ≤ 1000000000) :
    ACalls Try.prog 10 [.sl o sz (u8s bs)] S fun v S' => v = .int .i64 (leadN bs) ∧ S' = S := by
  refine en_10 (by exact Nat.le_of_ble_eq_true rfl) ?_
  unfold rc_10
  refine r_reg ?_
  apply i_mov
  · exact tI rfl
  refine i_nil ?_
  refine r_reg ?_
  apply i_mov
  · exact tI rfl
  refine i_nil ?_
  refine r_block ?_
  refine r_loopP [0, 3] (fun m G S' => ∃ i : Nat, G = [(0, .sl o sz (u8s bs)), (3, .int .i64 (i : Nat))] ∧ m = bs.length - i ∧ i ≤ leadN bs ∧ S' = S) ?_ ?_
  · exact ⟨_, 0, rfl, rfl, Nat.zero_le _, rfl⟩
  rintro m G S1 ⟨i, rfl, rfl, hi, rfl⟩
  have hle := leadN_le bs
  by_cases hc : i < bs.length
  · obtain ⟨l1, l2⟩ := leadN_at bs i hc hi
    obtain rfl : sz = 1 := by
      rcases hs with h | h
      · exact h
      · subst h; simp at hc
    by_cases hz : bs[i] = 0
    · have hz' := u8_zero hz
      have l1' := l1 hz
      refine r_reg ?_
      apply i_mov
      · exact tI rfl
      apply i_mov
      · exact tS rfl
      apply i_lenM
      · exact rfl
      apply i_ltT
      · exact rfl
      · exact rfl
      · omega
      apply i_mov
      · exact tB rfl
      apply i_gT
      · exact rfl
      apply i_mov
      · exact tS rfl
      apply i_gT
      · exact rfl
      apply i_mov
      · exact tI rfl
      apply i_gT
      · exact rfl
      apply i_idxM
      · exact rfl
      · exact rfl
      · exact rfl
      · exact rfl
      · (refine Rd.rd ?_; assumption)
      · omega
      apply i_gT
      · exact rfl
      apply i_loadM
      · exact rfl
      · (refine Rd.rd ?_; assumption)
      · omega
      · exact fun _ => rfl
      (refine ⟨by omega, ?_⟩)
      apply i_gT
      · exact rfl
      apply i_eqT
      · exact rfl
      · exact rfl
      · omega
      apply i_pickT
      · exact rfl
      · exact tB rfl
      refine i_nil ?_
      apply r_condT
      · exact rfl
      refine r_nop ?_
      refine r_block ?_
      refine r_reg ?_
      apply i_mov
      · exact tI rfl
      apply i_add
      · exact rfl
      · exact rfl
      · omega
      apply i_mov
      · exact tI rfl
      refine i_nil ?_
      refine r_nop ?_
      refine r_nop ?_
      apply q_lp [0, 3]
      · exact ⟨i + 1, rfl, rfl, l1', rfl⟩
      · omega
    · have hz' := u8_nz hz
      have l2' := l2 hz
      refine r_reg ?_
      apply i_mov
      · exact tI rfl
      apply i_mov
      · exact tS rfl
      apply i_lenM
      · exact rfl
      apply i_ltT
      · exact rfl
      · exact rfl
      · omega
      apply i_mov
      · exact tB rfl
      apply i_gT
      · exact rfl
      apply i_mov
      · exact tS rfl
      apply i_gT
      · exact rfl
      apply i_mov
      · exact tI rfl
      apply i_gT
      · exact rfl
      apply i_idxM
      · exact rfl
      · exact rfl
      · exact rfl
      · exact rfl
      · (refine Rd.rd ?_; assumption)
      · omega
      apply i_gT
      · exact rfl
      apply i_loadM
      · exact rfl
      · (refine Rd.rd ?_; assumption)
      · omega
      · exact fun _ => rfl
      (refine ⟨by omega, ?_⟩)
      apply i_gT
      · exact rfl
      apply i_eqF
      · exact rfl
      · exact rfl
      · omega
      apply i_pickT
      · exact rfl
      · exact tB rfl
      refine i_nil ?_
      apply r_condF
      · exact rfl
      refine r_exit ?_
      refine r_reg ?_
      apply i_mov
      · exact tI rfl
      apply i_mov
      · exact tI rfl
      refine i_nil ?_
      refine r_ret ?_
      apply q_ret1
      · exact tI rfl
      exact ⟨int_eq (by omega), rfl⟩
  · refine r_reg ?_
    apply i_mov
    · exact tI rfl
    apply i_mov
    · exact tS rfl
    apply i_lenM
    · exact rfl
    apply i_ltF
    · exact rfl
    · exact rfl
    · omega
    apply i_mov
    · exact tB rfl
    apply i_gF
    · exact rfl
    · exact rfl
    apply i_gF
    · exact rfl
    · exact rfl
    apply i_gF
    · exact rfl
    · exact rfl
    apply i_gF
    · exact rfl
    · exact rfl
    apply i_gF
    · exact rfl
    · exact rfl
    apply i_pickF
    · exact rfl
    · exact tB rfl
    refine i_nil ?_
    apply r_condF
    · exact rfl
    refine r_exit ?_
    refine r_reg ?_
    apply i_mov
    · exact tI rfl
    apply i_mov
    · exact tI rfl
    refine i_nil ?_
    refine r_ret ?_
    apply q_ret1
    · exact tI rfl
    exact ⟨int_eq (by omega), rfl⟩

theorem refLead (o : Own) (sz : Nat) (bs : List UInt8) (S : ASt) (hs : sz = 1 ∨ bs = []) (hr : Rd S o) (hb : bs.length ≤ 1000000000) :
    ACalls Try.prog 14 [.sl o sz (u8s bs)] S fun v S' => v = .int .i64 (leadN bs) ∧ S' = S := by
  refine en_14 (by exact Nat.le_of_ble_eq_true rfl) ?_
  unfold rc_14
  refine r_reg ?_
  apply i_mov
  · exact tI rfl
  refine i_nil ?_
  refine r_reg ?_
  apply i_mov
  · exact tI rfl
  refine i_nil ?_
  refine r_block ?_
  refine r_loopP [0, 3] (fun m G S' => ∃ i : Nat, G = [(0, .sl o sz (u8s bs)), (3, .int .i64 (i : Nat))] ∧ m = bs.length - i ∧ i ≤ leadN bs ∧ S' = S) ?_ ?_
  · exact ⟨_, 0, rfl, rfl, Nat.zero_le _, rfl⟩
  rintro m G S1 ⟨i, rfl, rfl, hi, rfl⟩
  have hle := leadN_le bs
  by_cases hc : i < bs.length
  · obtain ⟨l1, l2⟩ := leadN_at bs i hc hi
    obtain rfl : sz = 1 := by
      rcases hs with h | h
      · exact h
      · subst h; simp at hc
    by_cases hz : bs[i] = 0
    · have hz' := u8_zero hz
      have l1' := l1 hz
      refine r_reg ?_
      apply i_mov
      · exact tI rfl
      apply i_mov
      · exact tS rfl
      apply i_lenM
      · exact rfl
      apply i_ltT
      · exact rfl
      · exact rfl
      · omega
      apply i_mov
      · exact tB rfl
      apply i_gT
      · exact rfl
      apply i_mov
      · exact tS rfl
      apply i_gT
      · exact rfl
      apply i_mov
      · exact tI rfl
      apply i_gT
      · exact rfl
      apply i_idxM
      · exact rfl
      · exact rfl
      · exact rfl
      · exact rfl
      · (refine Rd.rd ?_; assumption)
      · omega
      apply i_gT
      · exact rfl
      apply i_loadM
      · exact rfl
      · (refine Rd.rd ?_; assumption)
      · omega
      · exact fun _ => rfl
      (refine ⟨by omega, ?_⟩)
      apply i_gT
      · exact rfl
      apply i_eqT
      · exact rfl
      · exact rfl
      · omega
      apply i_pickT
      · exact rfl
      · exact tB rfl
      refine i_nil ?_
      apply r_condT
      · exact rfl
      refine r_nop ?_
      refine r_block ?_
      refine r_reg ?_
      apply i_mov
      · exact tI rfl
      apply i_add
      · exact rfl
      · exact rfl
      · omega
      apply i_mov
      · exact tI rfl
      refine i_nil ?_
      refine r_nop ?_
      refine r_nop ?_
      apply q_lp [0, 3]
      · exact ⟨i + 1, rfl, rfl, l1', rfl⟩
      · omega
    · have hz' := u8_nz hz
      have l2' := l2 hz
      refine r_reg ?_
      apply i_mov
      · exact tI rfl
      apply i_mov
      · exact tS rfl
      apply i_lenM
      · exact rfl
      apply i_ltT
      · exact rfl
      · exact rfl
      · omega
      apply i_mov
      · exact tB rfl
      apply i_gT
      · exact rfl
      apply i_mov
      · exact tS rfl
      apply i_gT
      · exact rfl
      apply i_mov
      · exact tI rfl
      apply i_gT
      · exact rfl
      apply i_idxM
      · exact rfl
      · exact rfl
      · exact rfl
      · exact rfl
      · (refine Rd.rd ?_; assumption)
      · omega
      apply i_gT
      · exact rfl
      apply i_loadM
      · exact rfl
      · (refine Rd.rd ?_; assumption)
      · omega
      · exact fun _ => rfl
      (refine ⟨by omega, ?_⟩)
      apply i_gT
      · exact rfl
      apply i_eqF
      · exact rfl
      · exact rfl
      · omega
      apply i_pickT
      · exact rfl
      · exact tB rfl
      refine i_nil ?_
      apply r_condF
      · exact rfl
      refine r_exit ?_
      refine r_reg ?_
      apply i_mov
      · exact tI rfl
      apply i_mov
      · exact tI rfl
      refine i_nil ?_
      refine r_ret ?_
      apply q_ret1
      · exact tI rfl
      exact ⟨int_eq (by omega), rfl⟩
  · refine r_reg ?_
    apply i_mov
    · exact tI rfl
    apply i_mov
    · exact tS rfl
    apply i_lenM
    · exact rfl
    apply i_ltF
    · exact rfl
    · exact rfl
    · omega
    apply i_mov
    · exact tB rfl
    apply i_gF
    · exact rfl
    · exact rfl
    apply i_gF
    · exact rfl
    · exact rfl
    apply i_gF
    · exact rfl
    · exact rfl
    apply i_gF
    · exact rfl
    · exact rfl
    apply i_gF
    · exact rfl
    · exact rfl
    apply i_pickF
    · exact rfl
    · exact tB rfl
    refine i_nil ?_
    apply r_condF
    · exact rfl
    refine r_exit ?_
    refine r_reg ?_
    apply i_mov
    · exact tI rfl
    apply i_mov
    · exact tI rfl
    refine i_nil ?_
    refine r_ret ?_
    apply q_ret1
    · exact tI rfl
    exact ⟨int_eq (by omega), rfl⟩

theorem trail (o : Own) (sz : Nat) (bs : List UInt8) (S : ASt) (hs : sz = 1 ∨ bs = []) (hr : Rd S o) (hb : bs.length ≤ 1000000000) :
    ACalls Try.prog 11 [.sl o sz (u8s bs)] S fun v S' => v = .int .i64 (trailN bs) ∧ S' = S := by
  refine en_11 (by exact Nat.le_of_ble_eq_true rfl) ?_
  unfold rc_11
  refine r_reg ?_
  apply i_mov
  · exact tI rfl
  refine i_nil ?_
  refine r_reg ?_
  apply i_mov
  · exact tI rfl
  refine i_nil ?_
  refine r_block ?_
  refine r_loopP [0, 3] (fun m G S' => ∃ i : Nat, G = [(0, .sl o sz (u8s bs)), (3, .int .i64 (i : Nat))] ∧ m = bs.length - i ∧ i ≤ trailN bs ∧ S' = S) ?_ ?_
  · exact ⟨_, 0, rfl, rfl, Nat.zero_le _, rfl⟩
  rintro m G S1 ⟨i, rfl, rfl, hi, rfl⟩
  have hle := trailN_le bs
  by_cases hc : i < bs.length
  · have hc' : bs.length - 1 - i < bs.length := by omega
    obtain ⟨l1, l2⟩ := trailN_at bs i hc' hc hi
    obtain rfl : sz = 1 := by
      rcases hs with h | h
      · exact h
      · subst h; simp at hc
    by_cases hz : bs[bs.length - 1 - i] = 0
    · have hz' := u8_zero hz
      have l1' := l1 hz
      refine r_reg ?_
      apply i_mov
      · exact tI rfl
      apply i_mov
      · exact tS rfl
      apply i_lenM
      · exact rfl
      apply i_ltT
      · exact rfl
      · exact rfl
      · omega
      apply i_mov
      · exact tB rfl
      apply i_gT
      · exact rfl
      apply i_mov
      · exact tS rfl
      apply i_gT
      · exact rfl
      apply i_mov
      · exact tS rfl
      apply i_gT
      · exact rfl
      apply i_lenM
      · exact rfl
      apply i_gT
      · exact rfl
      apply i_sub
      · exact rfl
      · exact rfl
      · omega
      apply i_gT
      · exact rfl
      apply i_mov
      · exact tI rfl
      apply i_gT
      · exact rfl
      apply i_sub
      · exact rfl
      · exact rfl
      · omega
      apply i_gT
      · exact rfl
      refine i_idxM (bs.length - 1 - i) rfl rfl (by omega) rfl (by (refine Rd.rd ?_; assumption)) hc' ?_
      apply i_gT
      · exact rfl
      apply i_loadM
      · exact rfl
      · (refine Rd.rd ?_; assumption)
      · omega
      · exact fun _ => rfl
      (refine ⟨by omega, ?_⟩)
      apply i_gT
      · exact rfl
      apply i_eqT
      · exact rfl
      · exact rfl
      · omega
      apply i_pickT
      · exact rfl
      · exact tB rfl
      refine i_nil ?_
      apply r_condT
      · exact rfl
      refine r_nop ?_
      refine r_block ?_
      refine r_reg ?_
      apply i_mov
      · exact tI rfl
      apply i_add
      · exact rfl
      · exact rfl
      · omega
      apply i_mov
      · exact tI rfl
      refine i_nil ?_
      refine r_nop ?_
      refine r_nop ?_
      apply q_lp [0, 3]
      · exact ⟨i + 1, rfl, rfl, l1', rfl⟩
      · omega
    · have hz' := u8_nz hz
      have l2' := l2 hz
      refine r_reg ?_
      apply i_mov
      · exact tI rfl
      apply i_mov
      · exact tS rfl
      apply i_lenM
      · exact rfl
      apply i_ltT
      · exact rfl
      · exact rfl
      · omega
      apply i_mov
      · exact tB rfl
      apply i_gT
      · exact rfl
      apply i_mov
      · exact tS rfl
      apply i_gT
      · exact rfl
      apply i_mov
      · exact tS rfl
      apply i_gT
      · exact rfl
      apply i_lenM
      · exact rfl
      apply i_gT
      · exact rfl
      apply i_sub
      · exact rfl
      · exact rfl
      · omega
      apply i_gT
      · exact rfl
      apply i_mov
      · exact tI rfl
      apply i_gT
      · exact rfl
      apply i_sub
      · exact rfl
      · exact rfl
      · omega
      apply i_gT
      · exact rfl
      refine i_idxM (bs.length - 1 - i) rfl rfl (by omega) rfl (by (refine Rd.rd ?_; assumption)) hc' ?_
      apply i_gT
      · exact rfl
      apply i_loadM
      · exact rfl
      · (refine Rd.rd ?_; assumption)
      · omega
      · exact fun _ => rfl
      (refine ⟨by omega, ?_⟩)
      apply i_gT
      · exact rfl
      apply i_eqF
      · exact rfl
      · exact rfl
      · omega
      apply i_pickT
      · exact rfl
      · exact tB rfl
      refine i_nil ?_
      apply r_condF
      · exact rfl
      refine r_exit ?_
      refine r_reg ?_
      apply i_mov
      · exact tI rfl
      apply i_mov
      · exact tI rfl
      refine i_nil ?_
      refine r_ret ?_
      apply q_ret1
      · exact tI rfl
      exact ⟨int_eq (by omega), rfl⟩
  · refine r_reg ?_
    apply i_mov
    · exact tI rfl
    apply i_mov
    · exact tS rfl
    apply i_lenM
    · exact rfl
    apply i_ltF
    · exact rfl
    · exact rfl
    · omega
    apply i_mov
    · exact tB rfl
    apply i_gF
    · exact rfl
    · exact rfl
    apply i_gF
    · exact rfl
    · exact rfl
    apply i_gF
    · exact rfl
    · exact rfl
    apply i_gF
    · exact rfl
    · exact rfl
    apply i_gF
    · exact rfl
    · exact rfl
    apply i_gF
    · exact rfl
    · exact rfl
    apply i_gF
    · exact rfl
    · exact rfl
    apply i_gF
    · exact rfl
    · exact rfl
    apply i_gF
    · exact rfl
    · exact rfl
    apply i_pickF
    · exact rfl
    · exact tB rfl
    refine i_nil ?_
    apply r_condF
    · exact rfl
    refine r_exit ?_
    refine r_reg ?_
    apply i_mov
    · exact tI rfl
    apply i_mov
    · exact tI rfl
    refine i_nil ?_
    refine r_ret ?_
    apply q_ret1
    · exact tI rfl
    exact ⟨int_eq (by omega), rfl⟩

theorem refTrail (o : Own) (sz : Nat) (bs : List UInt8) (S : ASt) (hs : sz = 1 ∨ bs = []) (hr : Rd S o) (hb : bs.length ≤ 1000000000) :
    ACalls Try.prog 15 [.sl o sz (u8s bs)] S fun v S' => v = .int .i64 (trailN bs) ∧ S' = S := by
  refine en_15 (by exact Nat.le_of_ble_eq_true rfl) ?_
  unfold rc_15
  refine r_reg ?_
  apply i_mov
  · exact tI rfl
  refine i_nil ?_
  refine r_reg ?_
  apply i_mov
  · exact tI rfl
  refine i_nil ?_
  refine r_block ?_
  refine r_loopP [0, 3] (fun m G S' => ∃ i : Nat, G = [(0, .sl o sz (u8s bs)), (3, .int .i64 (i : Nat))] ∧ m = bs.length - i ∧ i ≤ trailN bs ∧ S' = S) ?_ ?_
  · exact ⟨_, 0, rfl, rfl, Nat.zero_le _, rfl⟩
  rintro m G S1 ⟨i, rfl, rfl, hi, rfl⟩
  have hle := trailN_le bs
  by_cases hc : i < bs.length
  · have hc' : bs.length - 1 - i < bs.length := by omega
    obtain ⟨l1, l2⟩ := trailN_at bs i hc' hc hi
    obtain rfl : sz = 1 := by
      rcases hs with h | h
      · exact h
      · subst h; simp at hc
    by_cases hz : bs[bs.length - 1 - i] = 0
    · have hz' := u8_zero hz
      have l1' := l1 hz
      refine r_reg ?_
      apply i_mov
      · exact tI rfl
      apply i_mov
      · exact tS rfl
      apply i_lenM
      · exact rfl
      apply i_ltT
      · exact rfl
      · exact rfl
      · omega
      apply i_mov
      · exact tB rfl
      apply i_gT
      · exact rfl
      apply i_mov
      · exact tS rfl
      apply i_gT
      · exact rfl
      apply i_mov
      · exact tS rfl
      apply i_gT
      · exact rfl
      apply i_lenM
      · exact rfl
      apply i_gT
      · exact rfl
      apply i_sub
      · exact rfl
      · exact rfl
      · omega
      apply i_gT
      · exact rfl
      apply i_mov
      · exact tI rfl
      apply i_gT
      · exact rfl
      apply i_sub
      · exact rfl
      · exact rfl
      · omega
      apply i_gT
      · exact rfl
      refine i_idxM (bs.length - 1 - i) rfl rfl (by omega) rfl (by (refine Rd.rd ?_; assumption)) hc' ?_
      apply i_gT
      · exact rfl
      apply i_loadM
      · exact rfl
      · (refine Rd.rd ?_; assumption)
      · omega
      · exact fun _ => rfl
      (refine ⟨by omega, ?_⟩)
      apply i_gT
      · exact rfl
      apply i_eqT
      · exact rfl
      · exact rfl
      · omega
      apply i_pickT
      · exact rfl
      · exact tB rfl
      refine i_nil ?_
      apply r_condT
      · exact rfl
      refine r_nop ?_
      refine r_block ?_
      refine r_reg ?_
      apply i_mov
      · exact tI rfl
      apply i_add
      · exact rfl
      · exact rfl
      · omega
      apply i_mov
      · exact tI rfl
      refine i_nil ?_
      refine r_nop ?_
      refine r_nop ?_
      apply q_lp [0, 3]
      · exact ⟨i + 1, rfl, rfl, l1', rfl⟩
      · omega
    · have hz' := u8_nz hz
      have l2' := l2 hz
      refine r_reg ?_
      apply i_mov
      · exact tI rfl
      apply i_mov
      · exact tS rfl
      apply i_lenM
      · exact rfl
      apply i_ltT
      · exact rfl
      · exact rfl
      · omega
      apply i_mov
      · exact tB rfl
      apply i_gT
      · exact rfl
      apply i_mov
      · exact tS rfl
      apply i_gT
      · exact rfl
      apply i_mov
      · exact tS rfl
      apply i_gT
      · exact rfl
      apply i_lenM
      · exact rfl
      apply i_gT
      · exact rfl
      apply i_sub
      · exact rfl
      · exact rfl
      · omega
      apply i_gT
      · exact rfl
      apply i_mov
      · exact tI rfl
      apply i_gT
      · exact rfl
      apply i_sub
      · exact rfl
      · exact rfl
      · omega
      apply i_gT
      · exact rfl
      refine i_idxM (bs.length - 1 - i) rfl rfl (by omega) rfl (by (refine Rd.rd ?_; assumption)) hc' ?_
      apply i_gT
      · exact rfl
      apply i_loadM
      · exact rfl
      · (refine Rd.rd ?_; assumption)
      · omega
      · exact fun _ => rfl
      (refine ⟨by omega, ?_⟩)
      apply i_gT
      · exact rfl
      apply i_eqF
      · exact rfl
      · exact rfl
      · omega
      apply i_pickT
      · exact rfl
      · exact tB rfl
      refine i_nil ?_
      apply r_condF
      · exact rfl
      refine r_exit ?_
      refine r_reg ?_
      apply i_mov
      · exact tI rfl
      apply i_mov
      · exact tI rfl
      refine i_nil ?_
      refine r_ret ?_
      apply q_ret1
      · exact tI rfl
      exact ⟨int_eq (by omega), rfl⟩
  · refine r_reg ?_
    apply i_mov
    · exact tI rfl
    apply i_mov
    · exact tS rfl
    apply i_lenM
    · exact rfl
    apply i_ltF
    · exact rfl
    · exact rfl
    · omega
    apply i_mov
    · exact tB rfl
    apply i_gF
    · exact rfl
    · exact rfl
    apply i_gF
    · exact rfl
    · exact rfl
    apply i_gF
    · exact rfl
    · exact rfl
    apply i_gF
    · exact rfl
    · exact rfl
    apply i_gF
    · exact rfl
    · exact rfl
    apply i_gF
    · exact rfl
    · exact rfl
    apply i_gF
    · exact rfl
    · exact rfl
    apply i_gF
    · exact rfl
    · exact rfl
    apply i_gF
    · exact rfl
    · exact rfl
    apply i_pickF
    · exact rfl
    · exact tB rfl
    refine i_nil ?_
    apply r_condF
    · exact rfl
    refine r_exit ?_
    refine r_reg ?_
    apply i_mov
    · exact tI rfl
    apply i_mov
    · exact tI rfl
    refine i_nil ?_
    refine r_ret ?_
    apply q_ret1
    · exact tI rfl
    exact ⟨int_eq (by omega), rfl⟩

theorem refZero (o : Own) (sz : Nat) (bs : List UInt8) (S : ASt) (hs : sz = 1 ∨ bs = []) (hr : Rd S o) (hb : bs.length ≤ 1000000000) :
    ACalls Try.prog 16 [.sl o sz (u8s bs)] S fun v S' => v = .bool (zeroL bs) ∧ S' = S := by
  refine en_16 (by exact Nat.le_of_ble_eq_true rfl) ?_
  unfold rc_16
  have hf := leadN_full bs
  refine r_reg ?_
  apply i_mov
  · exact tB rfl
  refine i_nil ?_
  refine r_reg ?_
  apply i_mov
  · exact tS rfl
  refine i_call (refLead o sz bs S hs hr hb) rfl ?_
  rintro v S1 ⟨rfl, rfl⟩
  cases hz : zeroL bs with
  | true =>
    have hf' := hf.2 hz
    apply i_mov
    · exact tS rfl
    apply i_lenM
    · exact rfl
    apply i_eqT
    · exact rfl
    · exact rfl
    · omega
    apply i_mov
    · exact tB rfl
    refine i_nil ?_
    refine r_ret ?_
    apply q_ret1
    · exact tB rfl
    exact ⟨rfl, rfl⟩
  | false =>
    have hf' : ¬ leadN bs = bs.length := fun h => by rw [hf.1 h] at hz; cases hz
    apply i_mov
    · exact tS rfl
    apply i_lenM
    · exact rfl
    apply i_eqF
    · exact rfl
    · exact rfl
    · omega
    apply i_mov
    · exact tB rfl
    refine i_nil ?_
    refine r_ret ?_
    apply q_ret1
    · exact tB rfl
    exact ⟨rfl, rfl⟩

/-- A list of byte slices. -/
structure BL where
  o : Own
  sz : Nat
  l : List UInt8
abbrev slv (x : BL) : AV := .sl x.o x.sz (u8s x.l)
def BL.ok (S : ASt) (x : BL) : Prop := (x.sz = 1 ∨ x.l = []) ∧ Rd S x.o ∧ x.l.length ≤ 1000000000

theorem zero (o : Own) (sz : Nat) (xs : List BL) (S : ASt) (hs : sz = 1 ∨ xs = []) (hr : Rd S o) (hx : ∀ x ∈ xs, x.ok S) (hn : xs.length ≤ 1000000000) :
    ACalls Try.prog 9 [.sl o sz (xs.map slv)] S fun v S' => v = .bool (xs.all fun x => zeroL x.l) ∧ S' = S := by
  refine en_9 (by exact Nat.le_of_ble_eq_true rfl) ?_
  unfold rc_9
  refine r_reg ?_
  apply i_mov
  · exact tB rfl
  refine i_nil ?_
  refine r_reg ?_
  apply i_mov
  · exact tS rfl
  apply i_lenM
  · exact rfl
  apply i_mov
  · exact tI rfl
  refine i_nil ?_
  refine r_block ?_
  refine r_loopP [5, 6, 7] (fun m G S' => ∃ i : Nat, G = [(5, .sl o sz (xs.map slv)), (6, .int .i64 (xs.length : Nat)), (7, .int .i64 (i : Nat))] ∧ m = xs.length - i ∧ i ≤ xs.length ∧ (xs.take i).all (fun x => zeroL x.l) = true ∧ S' = S) ?_ ?_
  · exact ⟨_, 0, rfl, rfl, Nat.zero_le _, rfl, rfl⟩
  rintro m G S1 ⟨i, rfl, rfl, hi, hz, rfl⟩
  by_cases hc : i < xs.length
  · obtain rfl : sz = 1 := by
      rcases hs with h | h
      · exact h
      · subst h; simp at hc
    obtain ⟨h1, h2, h3⟩ := hx xs[i] (List.getElem_mem hc)
    have hf := leadN_full xs[i].l
    have hle := leadN_le xs[i].l
    have htake : xs.take (i + 1) = xs.take i ++ [xs[i]] := List.take_succ_eq_append_getElem hc
    refine r_reg ?_
    apply i_ltT
    · exact rfl
    · exact rfl
    · omega
    refine i_nil ?_
    apply r_condT
    · exact rfl
    refine r_nop ?_
    refine r_block ?_
    refine r_reg ?_
    apply i_idxM
    · exact rfl
    · exact rfl
    · exact rfl
    · exact rfl
    · (refine Rd.rd ?_; assumption)
    · omega
    apply i_loadM
    · exact rfl
    · (refine Rd.rd ?_; assumption)
    · omega
    · exact fun _ => rfl
    (refine ⟨by omega, ?_⟩)
    apply i_mov
    · exact tS rfl
    refine i_nil ?_
    refine r_reg ?_
    apply i_mov
    · exact tS rfl
    refine i_call (lead _ _ _ _ h1 h2 h3) rfl ?_
    rintro v S2 ⟨rfl, rfl⟩
    cases hzz : zeroL xs[i].l with
    | true =>
      have hf' := hf.2 hzz
      apply i_mov
      · exact tS rfl
      apply i_lenM
      · exact rfl
      apply i_ltF
      · exact rfl
      · exact rfl
      · omega
      refine i_nil ?_
      apply r_condF
      · exact rfl
      refine r_nop ?_
      refine r_nop ?_
      refine r_reg ?_
      apply i_add
      · exact rfl
      · exact rfl
      · omega
      apply i_mov
      · exact tI rfl
      refine i_nil ?_
      refine r_nop ?_
      apply q_lp [5, 6, 7]
      · refine ⟨i + 1, rfl, rfl, hc, ?_, rfl⟩
        rw [htake, List.all_append, hz]; simp [hzz]
      · omega
    | false =>
      have hf' : ¬ leadN xs[i].l = xs[i].l.length := fun h => by rw [hf.1 h] at hzz; cases hzz
      have hall : (xs.all fun x => zeroL x.l) = false := by
        rw [List.all_eq_false]; exact ⟨xs[i], List.getElem_mem hc, by simp [hzz]⟩
      rw [hall]
      apply i_mov
      · exact tS rfl
      apply i_lenM
      · exact rfl
      apply i_ltT
      · exact rfl
      · exact rfl
      · omega
      refine i_nil ?_
      apply r_condT
      · exact rfl
      refine r_reg ?_
      apply i_mov
      · exact tB rfl
      refine i_nil ?_
      refine r_ret ?_
      refine q_kr ?_
      refine q_br ?_
      refine q_lr ?_
      refine q_br ?_
      apply q_ret1
      · exact tB rfl
      exact ⟨rfl, rfl⟩
  · have e : i = xs.length := by omega
    subst e
    rw [List.take_length] at hz
    rw [hz]
    refine r_reg ?_
    apply i_ltF
    · exact rfl
    · exact rfl
    · omega
    refine i_nil ?_
    apply r_condF
    · exact rfl
    refine r_exit ?_
    refine r_reg ?_
    apply i_mov
    · exact tB rfl
    refine i_nil ?_
    refine r_ret ?_
    apply q_ret1
    · exact tB rfl
    exact ⟨rfl, rfl⟩
theorem zero1 (o1 : Own) (s1 : Nat) (bs : List UInt8) (S : ASt) (hs : s1 = 1 ∨ bs = []) (hr : Rd S o1) (hb : bs.length ≤ 1000000000) :
    ACalls Try.prog 9 [.sl .ro 1 [.sl o1 s1 (u8s bs)]] S fun v S' => v = .bool (zeroL bs) ∧ S' = S :=
  (zero .ro 1 [⟨o1, s1, bs⟩] S (.inl rfl) Rd.ro (fun x hx => by simp only [List.mem_singleton] at hx; subst hx; exact ⟨hs, hr, hb⟩) (by simp)).mono fun v S' hv => by simpa using hv
end Go.Proofs.Ythgdooidleoicaa.Abs
