/- What may be together: contracts. -/
import Derived.Test.YthpomdoaiibnfaaCv1
import Derived.Test.YthpomdoaiibnfaaCv0
namespace Go.Proofs.Ythpomdoaiibnfaa.Abs
open Go Go.Proofs
set_option linter.unusedVariables false
set_option linter.unusedSimpArgs false
attribute [local irreducible] wpI wpR ropK chk ASt.push ASt.put ASt.fresh ASt.kill appS

theorem cBlocks (c : CV) (S : ASt) : ACalls Try.prog 30 [.agg c.cells] S fun v S' => v = .bool c.blocks ∧ Stays S S' [] := by
  obtain ⟨sw, bl, un, lc, uc, aa, eb, ib, cbs⟩ := c
  refine en_30 (by exact Nat.le_of_ble_eq_true rfl) ?_
  unfold rc_30
  dsimp only [CV.cells]
  cases bl with
  | true =>
    refine r_reg ?_
    apply i_boxA
    · exact rfl
    apply i_mov
    · exact tB rfl
    refine i_nil ?_
    refine r_reg ?_
    apply i_fld0
    · exact rfl
    apply i_load
    · exact rfl
    · exact Ob.new
    · exact rfl
    apply i_mov
    · exact tB rfl
    apply i_gF
    · exact rfl
    · exact rfl
    apply i_gF
    · exact rfl
    · exact rfl
    apply i_pickT
    · exact rfl
    · exact tB rfl
    apply i_mov
    · exact tB rfl
    apply i_gF
    · exact rfl
    · exact rfl
    apply i_gF
    · exact rfl
    · exact rfl
    apply i_pickT
    · exact rfl
    · exact tB rfl
    apply i_mov
    · exact tB rfl
    refine i_nil ?_
    refine r_ret ?_
    apply q_ret1
    · exact tB rfl
    exact ⟨rfl, by ((refine Stays.push ?_; exact Stays.refl _ _))⟩
  | false =>
    cases eb with
    | true =>
      refine r_reg ?_
      apply i_boxA
      · exact rfl
      apply i_mov
      · exact tB rfl
      refine i_nil ?_
      refine r_reg ?_
      apply i_fld0
      · exact rfl
      apply i_load
      · exact rfl
      · exact Ob.new
      · exact rfl
      apply i_mov
      · exact tB rfl
      apply i_gT
      · exact rfl
      apply i_fld0
      · exact rfl
      apply i_gT
      · exact rfl
      apply i_load
      · exact rfl
      · exact Ob.new
      · exact rfl
      apply i_pickF
      · exact rfl
      · exact tB rfl
      apply i_mov
      · exact tB rfl
      apply i_gF
      · exact rfl
      · exact rfl
      apply i_gF
      · exact rfl
      · exact rfl
      apply i_pickT
      · exact rfl
      · exact tB rfl
      apply i_mov
      · exact tB rfl
      refine i_nil ?_
      refine r_ret ?_
      apply q_ret1
      · exact tB rfl
      exact ⟨rfl, by ((refine Stays.push ?_; exact Stays.refl _ _))⟩
    | false =>
      refine r_reg ?_
      apply i_boxA
      · exact rfl
      apply i_mov
      · exact tB rfl
      refine i_nil ?_
      refine r_reg ?_
      apply i_fld0
      · exact rfl
      apply i_load
      · exact rfl
      · exact Ob.new
      · exact rfl
      apply i_mov
      · exact tB rfl
      apply i_gT
      · exact rfl
      apply i_fld0
      · exact rfl
      apply i_gT
      · exact rfl
      apply i_load
      · exact rfl
      · exact Ob.new
      · exact rfl
      apply i_pickF
      · exact rfl
      · exact tB rfl
      apply i_mov
      · exact tB rfl
      apply i_gT
      · exact rfl
      apply i_fld0
      · exact rfl
      apply i_gT
      · exact rfl
      apply i_load
      · exact rfl
      · exact Ob.new
      · exact rfl
      apply i_pickF
      · exact rfl
      · exact tB rfl
      apply i_mov
      · exact tB rfl
      refine i_nil ?_
      refine r_ret ?_
      apply q_ret1
      · exact tB rfl
      exact ⟨rfl, by ((refine Stays.push ?_; exact Stays.refl _ _))⟩
theorem rBlocks (c : CV) (S : ASt) : ACalls Try.prog 34 [.agg c.cells] S fun v S' => v = .bool c.blocks ∧ Stays S S' [] := by
  obtain ⟨sw, bl, un, lc, uc, aa, eb, ib, cbs⟩ := c
  refine en_34 (by exact Nat.le_of_ble_eq_true rfl) ?_
  unfold rc_34
  dsimp only [CV.cells]
  cases bl with
  | true =>
    refine r_reg ?_
    apply i_boxA
    · exact rfl
    apply i_mov
    · exact tB rfl
    refine i_nil ?_
    refine r_reg ?_
    apply i_fld0
    · exact rfl
    apply i_load
    · exact rfl
    · exact Ob.new
    · exact rfl
    apply i_mov
    · exact tB rfl
    apply i_gF
    · exact rfl
    · exact rfl
    apply i_gF
    · exact rfl
    · exact rfl
    apply i_pickT
    · exact rfl
    · exact tB rfl
    apply i_mov
    · exact tB rfl
    apply i_gF
    · exact rfl
    · exact rfl
    apply i_gF
    · exact rfl
    · exact rfl
    apply i_pickT
    · exact rfl
    · exact tB rfl
    apply i_mov
    · exact tB rfl
    refine i_nil ?_
    refine r_ret ?_
    apply q_ret1
    · exact tB rfl
    exact ⟨rfl, by ((refine Stays.push ?_; exact Stays.refl _ _))⟩
  | false =>
    cases eb with
    | true =>
      refine r_reg ?_
      apply i_boxA
      · exact rfl
      apply i_mov
      · exact tB rfl
      refine i_nil ?_
      refine r_reg ?_
      apply i_fld0
      · exact rfl
      apply i_load
      · exact rfl
      · exact Ob.new
      · exact rfl
      apply i_mov
      · exact tB rfl
      apply i_gT
      · exact rfl
      apply i_fld0
      · exact rfl
      apply i_gT
      · exact rfl
      apply i_load
      · exact rfl
      · exact Ob.new
      · exact rfl
      apply i_pickF
      · exact rfl
      · exact tB rfl
      apply i_mov
      · exact tB rfl
      apply i_gF
      · exact rfl
      · exact rfl
      apply i_gF
      · exact rfl
      · exact rfl
      apply i_pickT
      · exact rfl
      · exact tB rfl
      apply i_mov
      · exact tB rfl
      refine i_nil ?_
      refine r_ret ?_
      apply q_ret1
      · exact tB rfl
      exact ⟨rfl, by ((refine Stays.push ?_; exact Stays.refl _ _))⟩
    | false =>
      refine r_reg ?_
      apply i_boxA
      · exact rfl
      apply i_mov
      · exact tB rfl
      refine i_nil ?_
      refine r_reg ?_
      apply i_fld0
      · exact rfl
      apply i_load
      · exact rfl
      · exact Ob.new
      · exact rfl
      apply i_mov
      · exact tB rfl
      apply i_gT
      · exact rfl
      apply i_fld0
      · exact rfl
      apply i_gT
      · exact rfl
      apply i_load
      · exact rfl
      · exact Ob.new
      · exact rfl
      apply i_pickF
      · exact rfl
      · exact tB rfl
      apply i_mov
      · exact tB rfl
      apply i_gT
      · exact rfl
      apply i_fld0
      · exact rfl
      apply i_gT
      · exact rfl
      apply i_load
      · exact rfl
      · exact Ob.new
      · exact rfl
      apply i_pickF
      · exact rfl
      · exact tB rfl
      apply i_mov
      · exact tB rfl
      refine i_nil ?_
      refine r_ret ?_
      apply q_ret1
      · exact tB rfl
      exact ⟨rfl, by ((refine Stays.push ?_; exact Stays.refl _ _))⟩
theorem cUnblocks (c : CV) (S : ASt) : ACalls Try.prog 31 [.agg c.cells] S fun v S' => v = .bool c.unblocks ∧ Stays S S' [] := by
  obtain ⟨sw, bl, un, lc, uc, aa, eb, ib, cbs⟩ := c
  refine en_31 (by exact Nat.le_of_ble_eq_true rfl) ?_
  unfold rc_31
  dsimp only [CV.cells]
  cases un with
  | true =>
    refine r_reg ?_
    apply i_boxA
    · exact rfl
    apply i_mov
    · exact tB rfl
    refine i_nil ?_
    refine r_reg ?_
    apply i_fld0
    · exact rfl
    apply i_load
    · exact rfl
    · exact Ob.new
    · exact rfl
    apply i_mov
    · exact tB rfl
    apply i_gF
    · exact rfl
    · exact rfl
    apply i_gF
    · exact rfl
    · exact rfl
    apply i_pickT
    · exact rfl
    · exact tB rfl
    apply i_mov
    · exact tB rfl
    refine i_nil ?_
    refine r_ret ?_
    apply q_ret1
    · exact tB rfl
    exact ⟨rfl, by ((refine Stays.push ?_; exact Stays.refl _ _))⟩
  | false =>
    refine r_reg ?_
    apply i_boxA
    · exact rfl
    apply i_mov
    · exact tB rfl
    refine i_nil ?_
    refine r_reg ?_
    apply i_fld0
    · exact rfl
    apply i_load
    · exact rfl
    · exact Ob.new
    · exact rfl
    apply i_mov
    · exact tB rfl
    apply i_gT
    · exact rfl
    apply i_fld0
    · exact rfl
    apply i_gT
    · exact rfl
    apply i_load
    · exact rfl
    · exact Ob.new
    · exact rfl
    apply i_pickF
    · exact rfl
    · exact tB rfl
    apply i_mov
    · exact tB rfl
    refine i_nil ?_
    refine r_ret ?_
    apply q_ret1
    · exact tB rfl
    exact ⟨rfl, by ((refine Stays.push ?_; exact Stays.refl _ _))⟩
theorem rUnblocks (c : CV) (S : ASt) : ACalls Try.prog 35 [.agg c.cells] S fun v S' => v = .bool c.unblocks ∧ Stays S S' [] := by
  obtain ⟨sw, bl, un, lc, uc, aa, eb, ib, cbs⟩ := c
  refine en_35 (by exact Nat.le_of_ble_eq_true rfl) ?_
  unfold rc_35
  dsimp only [CV.cells]
  cases un with
  | true =>
    refine r_reg ?_
    apply i_boxA
    · exact rfl
    apply i_mov
    · exact tB rfl
    refine i_nil ?_
    refine r_reg ?_
    apply i_fld0
    · exact rfl
    apply i_load
    · exact rfl
    · exact Ob.new
    · exact rfl
    apply i_mov
    · exact tB rfl
    apply i_gF
    · exact rfl
    · exact rfl
    apply i_gF
    · exact rfl
    · exact rfl
    apply i_pickT
    · exact rfl
    · exact tB rfl
    apply i_mov
    · exact tB rfl
    refine i_nil ?_
    refine r_ret ?_
    apply q_ret1
    · exact tB rfl
    exact ⟨rfl, by ((refine Stays.push ?_; exact Stays.refl _ _))⟩
  | false =>
    refine r_reg ?_
    apply i_boxA
    · exact rfl
    apply i_mov
    · exact tB rfl
    refine i_nil ?_
    refine r_reg ?_
    apply i_fld0
    · exact rfl
    apply i_load
    · exact rfl
    · exact Ob.new
    · exact rfl
    apply i_mov
    · exact tB rfl
    apply i_gT
    · exact rfl
    apply i_fld0
    · exact rfl
    apply i_gT
    · exact rfl
    apply i_load
    · exact rfl
    · exact Ob.new
    · exact rfl
    apply i_pickF
    · exact rfl
    · exact tB rfl
    apply i_mov
    · exact tB rfl
    refine i_nil ?_
    refine r_ret ?_
    apply q_ret1
    · exact tB rfl
    exact ⟨rfl, by ((refine Stays.push ?_; exact Stays.refl _ _))⟩
theorem rOne (b : Bool) (S : ASt) : ACalls Try.prog 33 [.bool b] S fun v S' => v = .int .i64 (b.toNat : Nat) ∧ S' = S := by
  refine en_33 (by exact Nat.le_of_ble_eq_true rfl) ?_
  unfold rc_33
  cases b with
  | true =>
    refine r_reg ?_
    apply i_mov
    · exact tI rfl
    refine i_nil ?_
    refine r_reg ?_
    apply i_mov
    · exact tB rfl
    refine i_nil ?_
    apply r_condT
    · exact rfl
    refine r_reg ?_
    apply i_mov
    · exact tI rfl
    refine i_nil ?_
    refine r_ret ?_
    refine q_kr ?_
    apply q_ret1
    · exact tI rfl
    exact ⟨rfl, rfl⟩
  | false =>
    refine r_reg ?_
    apply i_mov
    · exact tI rfl
    refine i_nil ?_
    refine r_reg ?_
    apply i_mov
    · exact tB rfl
    refine i_nil ?_
    apply r_condF
    · exact rfl
    refine r_nop ?_
    refine r_reg ?_
    apply i_mov
    · exact tI rfl
    refine i_nil ?_
    refine r_ret ?_
    apply q_ret1
    · exact tI rfl
    exact ⟨rfl, rfl⟩
theorem cnt_take {l : List Bool} {i : Nat} (h : i < l.length) : cnt (l.take (i + 1)) = cnt (l.take i) + l[i].toNat := by
  rw [List.take_succ_eq_append_getElem h, cnt, List.map_append, List.sum_append]; simp [cnt]
theorem cnt_le (l : List Bool) : cnt l ≤ l.length := by
  induction l with
  | nil => simp [cnt]
  | cons a l ih =>
    have e : cnt (a :: l) = a.toNat + cnt l := by simp [cnt]
    have h : a.toNat ≤ 1 := by cases a <;> simp
    rw [e, List.length_cons]; omega
theorem cTwo (l : List Bool) (S : ASt) (hl : l.length ≤ 1000) : ACalls Try.prog 32 [.sl .ro 1 (l.map .bool)] S fun v S' => v = .bool (two l) ∧ S' = S := by
  refine en_32 (by exact Nat.le_of_ble_eq_true rfl) ?_
  unfold rc_32
  refine r_reg ?_
  apply i_mov
  · exact tB rfl
  refine i_nil ?_
  refine r_reg ?_
  apply i_mov
  · exact tI rfl
  refine i_nil ?_
  refine r_reg ?_
  apply i_mov
  · exact tS rfl
  apply i_lenM
  · exact rfl
  apply i_mov
  · exact tI rfl
  refine i_nil ?_
  refine r_block ?_
  refine r_loopP [3, 6, 7, 8] (fun m G S' => ∃ i : Nat, G = [(3, .int .i64 (cnt (l.take i) : Nat)), (6, .sl .ro 1 (l.map .bool)), (7, .int .i64 (l.length : Nat)), (8, .int .i64 (i : Nat))] ∧ m = l.length - i ∧ i ≤ l.length ∧ S' = S) ?_ ?_
  · exact ⟨_, 0, rfl, rfl, Nat.zero_le _, rfl⟩
  rintro m G S2 ⟨i, rfl, rfl, hi, rfl⟩
  have hcl := cnt_le (l.take i)
  rw [List.length_take] at hcl
  by_cases h : i < l.length
  · have hct := cnt_take h
    cases hb : l[i] with
    | true =>
      rw [hb] at hct
      refine r_reg ?_
      apply i_ltT
      · exact rfl
      · exact rfl
      · omega
      refine i_nil ?_
      apply r_condT
      · exact rfl
      refine r_nop ?_
      refine r_block ?_
      refine r_reg ?_
      apply i_idxM
      · exact rfl
      · exact rfl
      · exact rfl
      · exact rfl
      · exact True.intro
      · omega
      apply i_loadM
      · exact rfl
      · exact True.intro
      · omega
      · exact fun _ => rfl
      (refine ⟨by omega, ?_⟩)
      apply i_mov
      · exact tB rfl
      refine i_nil ?_
      refine r_reg ?_
      apply i_mov
      · exact tB rfl
      refine i_nil ?_
      simp only [hb]
      apply r_condT
      · exact rfl
      refine r_reg ?_
      apply i_mov
      · exact tI rfl
      apply i_add
      · exact rfl
      · exact rfl
      · omega
      apply i_mov
      · exact tI rfl
      refine i_nil ?_
      refine r_nop ?_
      refine r_nop ?_
      refine r_reg ?_
      apply i_add
      · exact rfl
      · exact rfl
      · omega
      apply i_mov
      · exact tI rfl
      refine i_nil ?_
      refine r_nop ?_
      apply q_lp [3, 6, 7, 8]
      · exact ⟨i + 1, by rw [hct]; rfl, rfl, h, rfl⟩
      · omega
    | false =>
      rw [hb] at hct
      refine r_reg ?_
      apply i_ltT
      · exact rfl
      · exact rfl
      · omega
      refine i_nil ?_
      apply r_condT
      · exact rfl
      refine r_nop ?_
      refine r_block ?_
      refine r_reg ?_
      apply i_idxM
      · exact rfl
      · exact rfl
      · exact rfl
      · exact rfl
      · exact True.intro
      · omega
      apply i_loadM
      · exact rfl
      · exact True.intro
      · omega
      · exact fun _ => rfl
      (refine ⟨by omega, ?_⟩)
      apply i_mov
      · exact tB rfl
      refine i_nil ?_
      refine r_reg ?_
      apply i_mov
      · exact tB rfl
      refine i_nil ?_
      simp only [hb]
      apply r_condF
      · exact rfl
      refine r_nop ?_
      refine r_nop ?_
      refine r_reg ?_
      apply i_add
      · exact rfl
      · exact rfl
      · omega
      apply i_mov
      · exact tI rfl
      refine i_nil ?_
      refine r_nop ?_
      apply q_lp [3, 6, 7, 8]
      · exact ⟨i + 1, by rw [hct]; rfl, rfl, h, rfl⟩
      · omega
  · have e : i = l.length := by omega
    subst e
    rw [List.take_length]
    by_cases h2 : 1 < cnt l
    · have e2 : two l = true := by simp [two, h2]
      rw [e2]
      refine r_reg ?_
      apply i_ltF
      · exact rfl
      · exact rfl
      · omega
      refine i_nil ?_
      apply r_condF
      · exact rfl
      refine r_exit ?_
      refine r_reg ?_
      apply i_mov
      · exact tI rfl
      apply i_gtT
      · exact rfl
      · exact rfl
      · omega
      apply i_mov
      · exact tB rfl
      refine i_nil ?_
      refine r_ret ?_
      apply q_ret1
      · exact tB rfl
      exact ⟨rfl, rfl⟩
    · have e2 : two l = false := by simp [two, h2]
      rw [e2]
      refine r_reg ?_
      apply i_ltF
      · exact rfl
      · exact rfl
      · omega
      refine i_nil ?_
      apply r_condF
      · exact rfl
      refine r_exit ?_
      refine r_reg ?_
      apply i_mov
      · exact tI rfl
      apply i_gtF
      · exact rfl
      · exact rfl
      · omega
      apply i_mov
      · exact tB rfl
      refine i_nil ?_
      refine r_ret ?_
      apply q_ret1
      · exact tB rfl
      exact ⟨rfl, rfl⟩

set_option maxHeartbeats 2000000 in
theorem cMay (c : CV) (S : ASt) : ACalls Try.prog 11 [.agg c.cells] S fun v S' => v = .bool c.may ∧ Stays S S' [] := by
  refine en_11 (by exact Nat.le_of_ble_eq_true rfl) ?_
  unfold rc_11
  dsimp only [CV.cells]
  have hBU : c.blocks = true ∨ (c.blocks = false ∧ c.unblocks = true) ∨ (c.blocks = false ∧ c.unblocks = false) := by
    cases c.blocks <;> cases c.unblocks <;> simp
  rcases hBU with hB | ⟨hB, hU⟩ | ⟨hB, hU⟩
  · have hl : c.least = 1 := (by simp [CV.least, hB])
    refine r_reg ?_
    apply i_boxA
    · exact rfl
    apply i_mov
    · exact tB rfl
    refine i_nil ?_
    refine r_reg ?_
    apply i_mov
    · exact tI rfl
    refine i_nil ?_
    refine r_reg ?_
    apply i_loadN
    · exact rfl
    · exact Ob.new
    · exact rfl
    refine i_call (cBlocks c _) rfl ?_
    rw [hB]
    rintro v S1 ⟨rfl, hst1⟩
    apply i_mov
    · exact tB rfl
    apply i_gF
    · exact rfl
    · exact rfl
    apply i_gF
    · exact rfl
    · exact rfl
    apply i_pickT
    · exact rfl
    · exact tB rfl
    refine i_nil ?_
    apply r_condT
    · exact rfl
    refine r_reg ?_
    apply i_mov
    · exact tI rfl
    refine i_nil ?_
    refine r_nop ?_
    refine r_reg ?_
    apply i_fld0
    · exact rfl
    apply i_load
    · exact rfl
    · ((apply Ob.stays0'; (· assumption)); exact Ob.new)
    · exact rfl
    apply i_fld0
    · exact rfl
    apply i_load
    · exact rfl
    · ((apply Ob.stays0'; (· assumption)); exact Ob.new)
    · exact rfl
    apply i_fld0
    · exact rfl
    apply i_load
    · exact rfl
    · ((apply Ob.stays0'; (· assumption)); exact Ob.new)
    · exact rfl
    skip
    skip
    refine i_mkR (xs := [.bool c.ascii, .bool c.ebcdic, .bool c.ibm]) rfl ?_
    refine i_call (cTwo [c.ascii, c.ebcdic, c.ibm] _ (by simp)) rfl ?_
    rintro v S3 ⟨rfl, rfl⟩
    cases h1 : two [c.ascii, c.ebcdic, c.ibm] with
    | true =>
      apply i_notT
      · exact rfl
      apply i_mov
      · exact tB rfl
      apply i_gF
      · exact rfl
      · exact rfl
      apply i_gF
      · exact rfl
      · exact rfl
      apply i_gF
      · exact rfl
      · exact rfl
      apply i_gF
      · exact rfl
      · exact rfl
      apply i_gF
      · exact rfl
      · exact rfl
      apply i_gF
      · exact rfl
      · exact rfl
      apply i_gF
      · exact rfl
      · exact rfl
      apply i_pickF
      · exact rfl
      · exact tB rfl
      apply i_mov
      · exact tB rfl
      apply i_gF
      · exact rfl
      · exact rfl
      apply i_gF
      · exact rfl
      · exact rfl
      apply i_gF
      · exact rfl
      · exact rfl
      apply i_gR
      · exact rfl
      · exact rfl
      apply i_gF
      · exact rfl
      · exact rfl
      apply i_gF
      · exact rfl
      · exact rfl
      apply i_gF
      · exact rfl
      · exact rfl
      apply i_gF
      · exact rfl
      · exact rfl
      apply i_pickF
      · exact rfl
      · exact tB rfl
      apply i_mov
      · exact tB rfl
      apply i_gF
      · exact rfl
      · exact rfl
      apply i_gF
      · exact rfl
      · exact rfl
      apply i_gF
      · exact rfl
      · exact rfl
      apply i_gF
      · exact rfl
      · exact rfl
      apply i_pickF
      · exact rfl
      · exact tB rfl
      apply i_mov
      · exact tB rfl
      apply i_gF
      · exact rfl
      · exact rfl
      apply i_gF
      · exact rfl
      · exact rfl
      apply i_gF
      · exact rfl
      · exact rfl
      apply i_pickF
      · exact rfl
      · exact tB rfl
      apply i_mov
      · exact tB rfl
      refine i_nil ?_
      refine r_ret ?_
      apply q_ret1
      · exact tB rfl
      exact ⟨by rw [show c.may = false by simp [CV.may, h1]], by ((refine Stays.then0 ?_ (by assumption); refine Stays.push ?_; exact Stays.refl _ _))⟩
    | false =>
      apply i_notF
      · exact rfl
      apply i_mov
      · exact tB rfl
      apply i_gT
      · exact rfl
      apply i_fld0
      · exact rfl
      apply i_gT
      · exact rfl
      apply i_load
      · exact rfl
      · ((apply Ob.stays0'; (· assumption)); exact Ob.new)
      · exact rfl
      apply i_gT
      · exact rfl
      apply i_fld0
      · exact rfl
      apply i_gT
      · exact rfl
      apply i_load
      · exact rfl
      · ((apply Ob.stays0'; (· assumption)); exact Ob.new)
      · exact rfl
      apply i_gT
      · exact rfl
      apply i_mk2
      · exact tB rfl
      · exact tB rfl
      · exact rfl
      · exact rfl
      apply i_gT
      · exact rfl
      refine i_call (cTwo [c.lcase, c.ucase] _ (by simp)) rfl ?_
      rintro v S4 ⟨rfl, rfl⟩
      cases h2 : two [c.lcase, c.ucase] with
      | true =>
        apply i_gT
        · exact rfl
        apply i_notT
        · exact rfl
        apply i_pickT
        · exact rfl
        · exact tB rfl
        apply i_mov
        · exact tB rfl
        apply i_gF
        · exact rfl
        · exact rfl
        apply i_gF
        · exact rfl
        · exact rfl
        apply i_gF
        · exact rfl
        · exact rfl
        apply i_gR
        · exact rfl
        · exact rfl
        apply i_gF
        · exact rfl
        · exact rfl
        apply i_gF
        · exact rfl
        · exact rfl
        apply i_gF
        · exact rfl
        · exact rfl
        apply i_gF
        · exact rfl
        · exact rfl
        apply i_pickF
        · exact rfl
        · exact tB rfl
        apply i_mov
        · exact tB rfl
        apply i_gF
        · exact rfl
        · exact rfl
        apply i_gF
        · exact rfl
        · exact rfl
        apply i_gF
        · exact rfl
        · exact rfl
        apply i_gF
        · exact rfl
        · exact rfl
        apply i_pickF
        · exact rfl
        · exact tB rfl
        apply i_mov
        · exact tB rfl
        apply i_gF
        · exact rfl
        · exact rfl
        apply i_gF
        · exact rfl
        · exact rfl
        apply i_gF
        · exact rfl
        · exact rfl
        apply i_pickF
        · exact rfl
        · exact tB rfl
        apply i_mov
        · exact tB rfl
        refine i_nil ?_
        refine r_ret ?_
        apply q_ret1
        · exact tB rfl
        exact ⟨by rw [show c.may = false by simp [CV.may, h2]], by ((refine Stays.then0 ?_ (by assumption); refine Stays.push ?_; exact Stays.refl _ _))⟩
      | false =>
        apply i_gT
        · exact rfl
        apply i_notF
        · exact rfl
        apply i_pickT
        · exact rfl
        · exact tB rfl
        apply i_mov
        · exact tB rfl
        apply i_gT
        · exact rfl
        apply i_loadN
        · exact rfl
        · ((apply Ob.stays0'; (· assumption)); exact Ob.new)
        · exact rfl
        apply i_gT
        · exact rfl
        apply i_loadN
        · exact rfl
        · ((apply Ob.stays0'; (· assumption)); exact Ob.new)
        · exact rfl
        apply i_gT
        · exact rfl
        refine i_call (cBlocks c _) rfl ?_
        rintro v S5 ⟨rfl, hst5⟩
        apply i_gT
        · exact rfl
        apply c_re
        · (apply c_loadNO; (· exact rfl); (· ((apply Ob.stays0'; (· assumption)); (apply Ob.stays0'; (· assumption)); exact Ob.new)); (· first | assumption | exact rfl); (· exact rfl); (· exact Nat.le_of_ble_eq_true rfl); (· exact rfl))
        apply i_gT
        · exact rfl
        refine i_call (cUnblocks c _) rfl ?_
        rintro v S6 ⟨rfl, hst6⟩
        apply i_gT
        · exact rfl
        apply i_mk2
        · exact tB rfl
        · exact tB rfl
        · exact rfl
        · exact rfl
        apply i_gT
        · exact rfl
        refine i_call (cTwo [c.blocks, c.unblocks] _ (by simp)) rfl ?_
        rintro v S7 ⟨rfl, rfl⟩
        cases h3 : two [c.blocks, c.unblocks] with
        | true =>
          apply i_gT
          · exact rfl
          apply i_notT
          · exact rfl
          apply i_pickT
          · exact rfl
          · exact tB rfl
          apply i_mov
          · exact tB rfl
          apply i_gF
          · exact rfl
          · exact rfl
          apply i_gF
          · exact rfl
          · exact rfl
          apply i_gF
          · exact rfl
          · exact rfl
          apply i_gF
          · exact rfl
          · exact rfl
          apply i_pickF
          · exact rfl
          · exact tB rfl
          apply i_mov
          · exact tB rfl
          apply i_gF
          · exact rfl
          · exact rfl
          apply i_gF
          · exact rfl
          · exact rfl
          apply i_gF
          · exact rfl
          · exact rfl
          apply i_pickF
          · exact rfl
          · exact tB rfl
          apply i_mov
          · exact tB rfl
          refine i_nil ?_
          refine r_ret ?_
          apply q_ret1
          · exact tB rfl
          exact ⟨by rw [show c.may = false by simp [CV.may, h3]], by ((refine Stays.then0 ?_ (by assumption); refine Stays.then0 ?_ (by assumption); refine Stays.then0 ?_ (by assumption); refine Stays.push ?_; exact Stays.refl _ _))⟩
        | false =>
          by_cases h4 : 1 ≤ c.cbs
          · by_cases h5 : c.cbs ≤ 4096
            · apply i_gT
              · exact rfl
              apply i_notF
              · exact rfl
              apply i_pickT
              · exact rfl
              · exact tB rfl
              apply i_mov
              · exact tB rfl
              apply i_gT
              · exact rfl
              apply i_fld0
              · exact rfl
              apply i_gT
              · exact rfl
              apply i_load
              · exact rfl
              · ((apply Ob.stays0'; (· assumption)); (apply Ob.stays0'; (· assumption)); (apply Ob.stays0'; (· assumption)); exact Ob.new)
              · exact rfl
              apply i_gT
              · exact rfl
              apply i_mov
              · exact tI rfl
              apply i_gT
              · exact rfl
              apply i_geT
              · exact rfl
              · exact rfl
              · omega
              apply i_pickT
              · exact rfl
              · exact tB rfl
              apply i_mov
              · exact tB rfl
              apply i_gT
              · exact rfl
              apply i_fld0
              · exact rfl
              apply i_gT
              · exact rfl
              apply i_load
              · exact rfl
              · ((apply Ob.stays0'; (· assumption)); (apply Ob.stays0'; (· assumption)); (apply Ob.stays0'; (· assumption)); exact Ob.new)
              · exact rfl
              apply i_gT
              · exact rfl
              apply i_leT
              · exact rfl
              · exact rfl
              · omega
              apply i_pickT
              · exact rfl
              · exact tB rfl
              apply i_mov
              · exact tB rfl
              refine i_nil ?_
              refine r_ret ?_
              apply q_ret1
              · exact tB rfl
              exact ⟨by rw [show c.may = true by simp [CV.may, h1, h2, h3, hl, h4, h5]], by ((refine Stays.then0 ?_ (by assumption); refine Stays.then0 ?_ (by assumption); refine Stays.then0 ?_ (by assumption); refine Stays.push ?_; exact Stays.refl _ _))⟩
            · apply i_gT
              · exact rfl
              apply i_notF
              · exact rfl
              apply i_pickT
              · exact rfl
              · exact tB rfl
              apply i_mov
              · exact tB rfl
              apply i_gT
              · exact rfl
              apply i_fld0
              · exact rfl
              apply i_gT
              · exact rfl
              apply i_load
              · exact rfl
              · ((apply Ob.stays0'; (· assumption)); (apply Ob.stays0'; (· assumption)); (apply Ob.stays0'; (· assumption)); exact Ob.new)
              · exact rfl
              apply i_gT
              · exact rfl
              apply i_mov
              · exact tI rfl
              apply i_gT
              · exact rfl
              apply i_geT
              · exact rfl
              · exact rfl
              · omega
              apply i_pickT
              · exact rfl
              · exact tB rfl
              apply i_mov
              · exact tB rfl
              apply i_gT
              · exact rfl
              apply i_fld0
              · exact rfl
              apply i_gT
              · exact rfl
              apply i_load
              · exact rfl
              · ((apply Ob.stays0'; (· assumption)); (apply Ob.stays0'; (· assumption)); (apply Ob.stays0'; (· assumption)); exact Ob.new)
              · exact rfl
              apply i_gT
              · exact rfl
              apply i_leF
              · exact rfl
              · exact rfl
              · omega
              apply i_pickT
              · exact rfl
              · exact tB rfl
              apply i_mov
              · exact tB rfl
              refine i_nil ?_
              refine r_ret ?_
              apply q_ret1
              · exact tB rfl
              exact ⟨by rw [show c.may = false by simp [CV.may, h5]], by ((refine Stays.then0 ?_ (by assumption); refine Stays.then0 ?_ (by assumption); refine Stays.then0 ?_ (by assumption); refine Stays.push ?_; exact Stays.refl _ _))⟩
          · apply i_gT
            · exact rfl
            apply i_notF
            · exact rfl
            apply i_pickT
            · exact rfl
            · exact tB rfl
            apply i_mov
            · exact tB rfl
            apply i_gT
            · exact rfl
            apply i_fld0
            · exact rfl
            apply i_gT
            · exact rfl
            apply i_load
            · exact rfl
            · ((apply Ob.stays0'; (· assumption)); (apply Ob.stays0'; (· assumption)); (apply Ob.stays0'; (· assumption)); exact Ob.new)
            · exact rfl
            apply i_gT
            · exact rfl
            apply i_mov
            · exact tI rfl
            apply i_gT
            · exact rfl
            apply i_geF
            · exact rfl
            · exact rfl
            · omega
            apply i_pickT
            · exact rfl
            · exact tB rfl
            apply i_mov
            · exact tB rfl
            apply i_gF
            · exact rfl
            · exact rfl
            apply i_gF
            · exact rfl
            · exact rfl
            apply i_gF
            · exact rfl
            · exact rfl
            apply i_pickF
            · exact rfl
            · exact tB rfl
            apply i_mov
            · exact tB rfl
            refine i_nil ?_
            refine r_ret ?_
            apply q_ret1
            · exact tB rfl
            exact ⟨by rw [show c.may = false by simp [CV.may, hl, h4]], by ((refine Stays.then0 ?_ (by assumption); refine Stays.then0 ?_ (by assumption); refine Stays.then0 ?_ (by assumption); refine Stays.push ?_; exact Stays.refl _ _))⟩
  · have hl : c.least = 1 := (by simp [CV.least, hU])
    refine r_reg ?_
    apply i_boxA
    · exact rfl
    apply i_mov
    · exact tB rfl
    refine i_nil ?_
    refine r_reg ?_
    apply i_mov
    · exact tI rfl
    refine i_nil ?_
    refine r_reg ?_
    apply i_loadN
    · exact rfl
    · exact Ob.new
    · exact rfl
    refine i_call (cBlocks c _) rfl ?_
    rw [hB]
    rintro v S1 ⟨rfl, hst1⟩
    apply i_mov
    · exact tB rfl
    apply i_gT
    · exact rfl
    apply i_loadN
    · exact rfl
    · ((apply Ob.stays0'; (· assumption)); exact Ob.new)
    · exact rfl
    apply i_gT
    · exact rfl
    (refine i_call (cUnblocks c _) rfl ?_; rw [hU]; rintro v S2 ⟨rfl, hst2⟩)
    apply i_pickF
    · exact rfl
    · exact tB rfl
    refine i_nil ?_
    apply r_condT
    · exact rfl
    refine r_reg ?_
    apply i_mov
    · exact tI rfl
    refine i_nil ?_
    refine r_nop ?_
    refine r_reg ?_
    apply i_fld0
    · exact rfl
    apply i_load
    · exact rfl
    · ((apply Ob.stays0'; (· assumption)); (apply Ob.stays0'; (· assumption)); exact Ob.new)
    · exact rfl
    apply i_fld0
    · exact rfl
    apply i_load
    · exact rfl
    · ((apply Ob.stays0'; (· assumption)); (apply Ob.stays0'; (· assumption)); exact Ob.new)
    · exact rfl
    apply i_fld0
    · exact rfl
    apply i_load
    · exact rfl
    · ((apply Ob.stays0'; (· assumption)); (apply Ob.stays0'; (· assumption)); exact Ob.new)
    · exact rfl
    refine i_mkR (xs := [.bool c.ascii, .bool c.ebcdic, .bool c.ibm]) rfl ?_
    refine i_call (cTwo [c.ascii, c.ebcdic, c.ibm] _ (by simp)) rfl ?_
    rintro v S3 ⟨rfl, rfl⟩
    cases h1 : two [c.ascii, c.ebcdic, c.ibm] with
    | true =>
      apply i_notT
      · exact rfl
      apply i_mov
      · exact tB rfl
      apply i_gF
      · exact rfl
      · exact rfl
      apply i_gF
      · exact rfl
      · exact rfl
      apply i_gF
      · exact rfl
      · exact rfl
      apply i_gF
      · exact rfl
      · exact rfl
      apply i_gF
      · exact rfl
      · exact rfl
      apply i_gF
      · exact rfl
      · exact rfl
      apply i_gF
      · exact rfl
      · exact rfl
      apply i_pickF
      · exact rfl
      · exact tB rfl
      apply i_mov
      · exact tB rfl
      apply i_gF
      · exact rfl
      · exact rfl
      apply i_gF
      · exact rfl
      · exact rfl
      apply i_gF
      · exact rfl
      · exact rfl
      apply i_gR
      · exact rfl
      · exact rfl
      apply i_gF
      · exact rfl
      · exact rfl
      apply i_gF
      · exact rfl
      · exact rfl
      apply i_gF
      · exact rfl
      · exact rfl
      apply i_gF
      · exact rfl
      · exact rfl
      apply i_pickF
      · exact rfl
      · exact tB rfl
      apply i_mov
      · exact tB rfl
      apply i_gF
      · exact rfl
      · exact rfl
      apply i_gF
      · exact rfl
      · exact rfl
      apply i_gF
      · exact rfl
      · exact rfl
      apply i_gF
      · exact rfl
      · exact rfl
      apply i_pickF
      · exact rfl
      · exact tB rfl
      apply i_mov
      · exact tB rfl
      apply i_gF
      · exact rfl
      · exact rfl
      apply i_gF
      · exact rfl
      · exact rfl
      apply i_gF
      · exact rfl
      · exact rfl
      apply i_pickF
      · exact rfl
      · exact tB rfl
      apply i_mov
      · exact tB rfl
      refine i_nil ?_
      refine r_ret ?_
      apply q_ret1
      · exact tB rfl
      exact ⟨by rw [show c.may = false by simp [CV.may, h1]], by ((refine Stays.then0 ?_ (by assumption); refine Stays.then0 ?_ (by assumption); refine Stays.push ?_; exact Stays.refl _ _))⟩
    | false =>
      apply i_notF
      · exact rfl
      apply i_mov
      · exact tB rfl
      apply i_gT
      · exact rfl
      apply i_fld0
      · exact rfl
      apply i_gT
      · exact rfl
      apply i_load
      · exact rfl
      · ((apply Ob.stays0'; (· assumption)); (apply Ob.stays0'; (· assumption)); exact Ob.new)
      · exact rfl
      apply i_gT
      · exact rfl
      apply i_fld0
      · exact rfl
      apply i_gT
      · exact rfl
      apply i_load
      · exact rfl
      · ((apply Ob.stays0'; (· assumption)); (apply Ob.stays0'; (· assumption)); exact Ob.new)
      · exact rfl
      apply i_gT
      · exact rfl
      apply i_mk2
      · exact tB rfl
      · exact tB rfl
      · exact rfl
      · exact rfl
      apply i_gT
      · exact rfl
      refine i_call (cTwo [c.lcase, c.ucase] _ (by simp)) rfl ?_
      rintro v S4 ⟨rfl, rfl⟩
      cases h2 : two [c.lcase, c.ucase] with
      | true =>
        apply i_gT
        · exact rfl
        apply i_notT
        · exact rfl
        apply i_pickT
        · exact rfl
        · exact tB rfl
        apply i_mov
        · exact tB rfl
        apply i_gF
        · exact rfl
        · exact rfl
        apply i_gF
        · exact rfl
        · exact rfl
        apply i_gF
        · exact rfl
        · exact rfl
        apply i_gR
        · exact rfl
        · exact rfl
        apply i_gF
        · exact rfl
        · exact rfl
        apply i_gF
        · exact rfl
        · exact rfl
        apply i_gF
        · exact rfl
        · exact rfl
        apply i_gF
        · exact rfl
        · exact rfl
        apply i_pickF
        · exact rfl
        · exact tB rfl
        apply i_mov
        · exact tB rfl
        apply i_gF
        · exact rfl
        · exact rfl
        apply i_gF
        · exact rfl
        · exact rfl
        apply i_gF
        · exact rfl
        · exact rfl
        apply i_gF
        · exact rfl
        · exact rfl
        apply i_pickF
        · exact rfl
        · exact tB rfl
        apply i_mov
        · exact tB rfl
        apply i_gF
        · exact rfl
        · exact rfl
        apply i_gF
        · exact rfl
        · exact rfl
        apply i_gF
        · exact rfl
        · exact rfl
        apply i_pickF
        · exact rfl
        · exact tB rfl
        apply i_mov
        · exact tB rfl
        refine i_nil ?_
        refine r_ret ?_
        apply q_ret1
        · exact tB rfl
        exact ⟨by rw [show c.may = false by simp [CV.may, h2]], by ((refine Stays.then0 ?_ (by assumption); refine Stays.then0 ?_ (by assumption); refine Stays.push ?_; exact Stays.refl _ _))⟩
      | false =>
        apply i_gT
        · exact rfl
        apply i_notF
        · exact rfl
        apply i_pickT
        · exact rfl
        · exact tB rfl
        apply i_mov
        · exact tB rfl
        apply i_gT
        · exact rfl
        apply i_loadN
        · exact rfl
        · ((apply Ob.stays0'; (· assumption)); (apply Ob.stays0'; (· assumption)); exact Ob.new)
        · exact rfl
        apply i_gT
        · exact rfl
        apply i_loadN
        · exact rfl
        · ((apply Ob.stays0'; (· assumption)); (apply Ob.stays0'; (· assumption)); exact Ob.new)
        · exact rfl
        apply i_gT
        · exact rfl
        refine i_call (cBlocks c _) rfl ?_
        rintro v S5 ⟨rfl, hst5⟩
        apply i_gT
        · exact rfl
        apply c_re
        · (apply c_loadNO; (· exact rfl); (· ((apply Ob.stays0'; (· assumption)); (apply Ob.stays0'; (· assumption)); (apply Ob.stays0'; (· assumption)); exact Ob.new)); (· first | assumption | exact rfl); (· exact rfl); (· exact Nat.le_of_ble_eq_true rfl); (· exact rfl))
        apply i_gT
        · exact rfl
        refine i_call (cUnblocks c _) rfl ?_
        rintro v S6 ⟨rfl, hst6⟩
        apply i_gT
        · exact rfl
        apply i_mk2
        · exact tB rfl
        · exact tB rfl
        · exact rfl
        · exact rfl
        apply i_gT
        · exact rfl
        refine i_call (cTwo [c.blocks, c.unblocks] _ (by simp)) rfl ?_
        rintro v S7 ⟨rfl, rfl⟩
        cases h3 : two [c.blocks, c.unblocks] with
        | true =>
          apply i_gT
          · exact rfl
          apply i_notT
          · exact rfl
          apply i_pickT
          · exact rfl
          · exact tB rfl
          apply i_mov
          · exact tB rfl
          apply i_gF
          · exact rfl
          · exact rfl
          apply i_gF
          · exact rfl
          · exact rfl
          apply i_gF
          · exact rfl
          · exact rfl
          apply i_gF
          · exact rfl
          · exact rfl
          apply i_pickF
          · exact rfl
          · exact tB rfl
          apply i_mov
          · exact tB rfl
          apply i_gF
          · exact rfl
          · exact rfl
          apply i_gF
          · exact rfl
          · exact rfl
          apply i_gF
          · exact rfl
          · exact rfl
          apply i_pickF
          · exact rfl
          · exact tB rfl
          apply i_mov
          · exact tB rfl
          refine i_nil ?_
          refine r_ret ?_
          apply q_ret1
          · exact tB rfl
          exact ⟨by rw [show c.may = false by simp [CV.may, h3]], by ((refine Stays.then0 ?_ (by assumption); refine Stays.then0 ?_ (by assumption); refine Stays.then0 ?_ (by assumption); refine Stays.then0 ?_ (by assumption); refine Stays.push ?_; exact Stays.refl _ _))⟩
        | false =>
          by_cases h4 : 1 ≤ c.cbs
          · by_cases h5 : c.cbs ≤ 4096
            · apply i_gT
              · exact rfl
              apply i_notF
              · exact rfl
              apply i_pickT
              · exact rfl
              · exact tB rfl
              apply i_mov
              · exact tB rfl
              apply i_gT
              · exact rfl
              apply i_fld0
              · exact rfl
              apply i_gT
              · exact rfl
              apply i_load
              · exact rfl
              · ((apply Ob.stays0'; (· assumption)); (apply Ob.stays0'; (· assumption)); (apply Ob.stays0'; (· assumption)); (apply Ob.stays0'; (· assumption)); exact Ob.new)
              · exact rfl
              apply i_gT
              · exact rfl
              apply i_mov
              · exact tI rfl
              apply i_gT
              · exact rfl
              apply i_geT
              · exact rfl
              · exact rfl
              · omega
              apply i_pickT
              · exact rfl
              · exact tB rfl
              apply i_mov
              · exact tB rfl
              apply i_gT
              · exact rfl
              apply i_fld0
              · exact rfl
              apply i_gT
              · exact rfl
              apply i_load
              · exact rfl
              · ((apply Ob.stays0'; (· assumption)); (apply Ob.stays0'; (· assumption)); (apply Ob.stays0'; (· assumption)); (apply Ob.stays0'; (· assumption)); exact Ob.new)
              · exact rfl
              apply i_gT
              · exact rfl
              apply i_leT
              · exact rfl
              · exact rfl
              · omega
              apply i_pickT
              · exact rfl
              · exact tB rfl
              apply i_mov
              · exact tB rfl
              refine i_nil ?_
              refine r_ret ?_
              apply q_ret1
              · exact tB rfl
              exact ⟨by rw [show c.may = true by simp [CV.may, h1, h2, h3, hl, h4, h5]], by ((refine Stays.then0 ?_ (by assumption); refine Stays.then0 ?_ (by assumption); refine Stays.then0 ?_ (by assumption); refine Stays.then0 ?_ (by assumption); refine Stays.push ?_; exact Stays.refl _ _))⟩
            · apply i_gT
              · exact rfl
              apply i_notF
              · exact rfl
              apply i_pickT
              · exact rfl
              · exact tB rfl
              apply i_mov
              · exact tB rfl
              apply i_gT
              · exact rfl
              apply i_fld0
              · exact rfl
              apply i_gT
              · exact rfl
              apply i_load
              · exact rfl
              · ((apply Ob.stays0'; (· assumption)); (apply Ob.stays0'; (· assumption)); (apply Ob.stays0'; (· assumption)); (apply Ob.stays0'; (· assumption)); exact Ob.new)
              · exact rfl
              apply i_gT
              · exact rfl
              apply i_mov
              · exact tI rfl
              apply i_gT
              · exact rfl
              apply i_geT
              · exact rfl
              · exact rfl
              · omega
              apply i_pickT
              · exact rfl
              · exact tB rfl
              apply i_mov
              · exact tB rfl
              apply i_gT
              · exact rfl
              apply i_fld0
              · exact rfl
              apply i_gT
              · exact rfl
              apply i_load
              · exact rfl
              · ((apply Ob.stays0'; (· assumption)); (apply Ob.stays0'; (· assumption)); (apply Ob.stays0'; (· assumption)); (apply Ob.stays0'; (· assumption)); exact Ob.new)
              · exact rfl
              apply i_gT
              · exact rfl
              apply i_leF
              · exact rfl
              · exact rfl
              · omega
              apply i_pickT
              · exact rfl
              · exact tB rfl
              apply i_mov
              · exact tB rfl
              refine i_nil ?_
              refine r_ret ?_
              apply q_ret1
              · exact tB rfl
              exact ⟨by rw [show c.may = false by simp [CV.may, h5]], by ((refine Stays.then0 ?_ (by assumption); refine Stays.then0 ?_ (by assumption); refine Stays.then0 ?_ (by assumption); refine Stays.then0 ?_ (by assumption); refine Stays.push ?_; exact Stays.refl _ _))⟩
          · apply i_gT
            · exact rfl
            apply i_notF
            · exact rfl
            apply i_pickT
            · exact rfl
            · exact tB rfl
            apply i_mov
            · exact tB rfl
            apply i_gT
            · exact rfl
            apply i_fld0
            · exact rfl
            apply i_gT
            · exact rfl
            apply i_load
            · exact rfl
            · ((apply Ob.stays0'; (· assumption)); (apply Ob.stays0'; (· assumption)); (apply Ob.stays0'; (· assumption)); (apply Ob.stays0'; (· assumption)); exact Ob.new)
            · exact rfl
            apply i_gT
            · exact rfl
            apply i_mov
            · exact tI rfl
            apply i_gT
            · exact rfl
            apply i_geF
            · exact rfl
            · exact rfl
            · omega
            apply i_pickT
            · exact rfl
            · exact tB rfl
            apply i_mov
            · exact tB rfl
            apply i_gF
            · exact rfl
            · exact rfl
            apply i_gF
            · exact rfl
            · exact rfl
            apply i_gF
            · exact rfl
            · exact rfl
            apply i_pickF
            · exact rfl
            · exact tB rfl
            apply i_mov
            · exact tB rfl
            refine i_nil ?_
            refine r_ret ?_
            apply q_ret1
            · exact tB rfl
            exact ⟨by rw [show c.may = false by simp [CV.may, hl, h4]], by ((refine Stays.then0 ?_ (by assumption); refine Stays.then0 ?_ (by assumption); refine Stays.then0 ?_ (by assumption); refine Stays.then0 ?_ (by assumption); refine Stays.push ?_; exact Stays.refl _ _))⟩
  · have hl : c.least = 0 := (by simp [CV.least, hB, hU])
    refine r_reg ?_
    apply i_boxA
    · exact rfl
    apply i_mov
    · exact tB rfl
    refine i_nil ?_
    refine r_reg ?_
    apply i_mov
    · exact tI rfl
    refine i_nil ?_
    refine r_reg ?_
    apply i_loadN
    · exact rfl
    · exact Ob.new
    · exact rfl
    refine i_call (cBlocks c _) rfl ?_
    rw [hB]
    rintro v S1 ⟨rfl, hst1⟩
    apply i_mov
    · exact tB rfl
    apply i_gT
    · exact rfl
    apply i_loadN
    · exact rfl
    · ((apply Ob.stays0'; (· assumption)); exact Ob.new)
    · exact rfl
    apply i_gT
    · exact rfl
    (refine i_call (cUnblocks c _) rfl ?_; rw [hU]; rintro v S2 ⟨rfl, hst2⟩)
    apply i_pickF
    · exact rfl
    · exact tB rfl
    refine i_nil ?_
    apply r_condF
    · exact rfl
    refine r_nop ?_
    refine r_reg ?_
    apply i_fld0
    · exact rfl
    apply i_load
    · exact rfl
    · ((apply Ob.stays0'; (· assumption)); (apply Ob.stays0'; (· assumption)); exact Ob.new)
    · exact rfl
    apply i_fld0
    · exact rfl
    apply i_load
    · exact rfl
    · ((apply Ob.stays0'; (· assumption)); (apply Ob.stays0'; (· assumption)); exact Ob.new)
    · exact rfl
    apply i_fld0
    · exact rfl
    apply i_load
    · exact rfl
    · ((apply Ob.stays0'; (· assumption)); (apply Ob.stays0'; (· assumption)); exact Ob.new)
    · exact rfl
    refine i_mkR (xs := [.bool c.ascii, .bool c.ebcdic, .bool c.ibm]) rfl ?_
    refine i_call (cTwo [c.ascii, c.ebcdic, c.ibm] _ (by simp)) rfl ?_
    rintro v S3 ⟨rfl, rfl⟩
    cases h1 : two [c.ascii, c.ebcdic, c.ibm] with
    | true =>
      apply i_notT
      · exact rfl
      apply i_mov
      · exact tB rfl
      apply i_gF
      · exact rfl
      · exact rfl
      apply i_gF
      · exact rfl
      · exact rfl
      apply i_gF
      · exact rfl
      · exact rfl
      apply i_gF
      · exact rfl
      · exact rfl
      apply i_gF
      · exact rfl
      · exact rfl
      apply i_gF
      · exact rfl
      · exact rfl
      apply i_gF
      · exact rfl
      · exact rfl
      apply i_pickF
      · exact rfl
      · exact tB rfl
      apply i_mov
      · exact tB rfl
      apply i_gF
      · exact rfl
      · exact rfl
      apply i_gF
      · exact rfl
      · exact rfl
      apply i_gF
      · exact rfl
      · exact rfl
      apply i_gR
      · exact rfl
      · exact rfl
      apply i_gF
      · exact rfl
      · exact rfl
      apply i_gF
      · exact rfl
      · exact rfl
      apply i_gF
      · exact rfl
      · exact rfl
      apply i_gF
      · exact rfl
      · exact rfl
      apply i_pickF
      · exact rfl
      · exact tB rfl
      apply i_mov
      · exact tB rfl
      apply i_gF
      · exact rfl
      · exact rfl
      apply i_gF
      · exact rfl
      · exact rfl
      apply i_gF
      · exact rfl
      · exact rfl
      apply i_gF
      · exact rfl
      · exact rfl
      apply i_pickF
      · exact rfl
      · exact tB rfl
      apply i_mov
      · exact tB rfl
      apply i_gF
      · exact rfl
      · exact rfl
      apply i_gF
      · exact rfl
      · exact rfl
      apply i_gF
      · exact rfl
      · exact rfl
      apply i_pickF
      · exact rfl
      · exact tB rfl
      apply i_mov
      · exact tB rfl
      refine i_nil ?_
      refine r_ret ?_
      apply q_ret1
      · exact tB rfl
      exact ⟨by rw [show c.may = false by simp [CV.may, h1]], by ((refine Stays.then0 ?_ (by assumption); refine Stays.then0 ?_ (by assumption); refine Stays.push ?_; exact Stays.refl _ _))⟩
    | false =>
      apply i_notF
      · exact rfl
      apply i_mov
      · exact tB rfl
      apply i_gT
      · exact rfl
      apply i_fld0
      · exact rfl
      apply i_gT
      · exact rfl
      apply i_load
      · exact rfl
      · ((apply Ob.stays0'; (· assumption)); (apply Ob.stays0'; (· assumption)); exact Ob.new)
      · exact rfl
      apply i_gT
      · exact rfl
      apply i_fld0
      · exact rfl
      apply i_gT
      · exact rfl
      apply i_load
      · exact rfl
      · ((apply Ob.stays0'; (· assumption)); (apply Ob.stays0'; (· assumption)); exact Ob.new)
      · exact rfl
      apply i_gT
      · exact rfl
      apply i_mk2
      · exact tB rfl
      · exact tB rfl
      · exact rfl
      · exact rfl
      apply i_gT
      · exact rfl
      refine i_call (cTwo [c.lcase, c.ucase] _ (by simp)) rfl ?_
      rintro v S4 ⟨rfl, rfl⟩
      cases h2 : two [c.lcase, c.ucase] with
      | true =>
        apply i_gT
        · exact rfl
        apply i_notT
        · exact rfl
        apply i_pickT
        · exact rfl
        · exact tB rfl
        apply i_mov
        · exact tB rfl
        apply i_gF
        · exact rfl
        · exact rfl
        apply i_gF
        · exact rfl
        · exact rfl
        apply i_gF
        · exact rfl
        · exact rfl
        apply i_gR
        · exact rfl
        · exact rfl
        apply i_gF
        · exact rfl
        · exact rfl
        apply i_gF
        · exact rfl
        · exact rfl
        apply i_gF
        · exact rfl
        · exact rfl
        apply i_gF
        · exact rfl
        · exact rfl
        apply i_pickF
        · exact rfl
        · exact tB rfl
        apply i_mov
        · exact tB rfl
        apply i_gF
        · exact rfl
        · exact rfl
        apply i_gF
        · exact rfl
        · exact rfl
        apply i_gF
        · exact rfl
        · exact rfl
        apply i_gF
        · exact rfl
        · exact rfl
        apply i_pickF
        · exact rfl
        · exact tB rfl
        apply i_mov
        · exact tB rfl
        apply i_gF
        · exact rfl
        · exact rfl
        apply i_gF
        · exact rfl
        · exact rfl
        apply i_gF
        · exact rfl
        · exact rfl
        apply i_pickF
        · exact rfl
        · exact tB rfl
        apply i_mov
        · exact tB rfl
        refine i_nil ?_
        refine r_ret ?_
        apply q_ret1
        · exact tB rfl
        exact ⟨by rw [show c.may = false by simp [CV.may, h2]], by ((refine Stays.then0 ?_ (by assumption); refine Stays.then0 ?_ (by assumption); refine Stays.push ?_; exact Stays.refl _ _))⟩
      | false =>
        apply i_gT
        · exact rfl
        apply i_notF
        · exact rfl
        apply i_pickT
        · exact rfl
        · exact tB rfl
        apply i_mov
        · exact tB rfl
        apply i_gT
        · exact rfl
        apply i_loadN
        · exact rfl
        · ((apply Ob.stays0'; (· assumption)); (apply Ob.stays0'; (· assumption)); exact Ob.new)
        · exact rfl
        apply i_gT
        · exact rfl
        apply i_loadN
        · exact rfl
        · ((apply Ob.stays0'; (· assumption)); (apply Ob.stays0'; (· assumption)); exact Ob.new)
        · exact rfl
        apply i_gT
        · exact rfl
        refine i_call (cBlocks c _) rfl ?_
        rintro v S5 ⟨rfl, hst5⟩
        apply i_gT
        · exact rfl
        apply c_re
        · (apply c_loadNO; (· exact rfl); (· ((apply Ob.stays0'; (· assumption)); (apply Ob.stays0'; (· assumption)); (apply Ob.stays0'; (· assumption)); exact Ob.new)); (· first | assumption | exact rfl); (· exact rfl); (· exact Nat.le_of_ble_eq_true rfl); (· exact rfl))
        apply i_gT
        · exact rfl
        refine i_call (cUnblocks c _) rfl ?_
        rintro v S6 ⟨rfl, hst6⟩
        apply i_gT
        · exact rfl
        apply i_mk2
        · exact tB rfl
        · exact tB rfl
        · exact rfl
        · exact rfl
        apply i_gT
        · exact rfl
        refine i_call (cTwo [c.blocks, c.unblocks] _ (by simp)) rfl ?_
        rintro v S7 ⟨rfl, rfl⟩
        cases h3 : two [c.blocks, c.unblocks] with
        | true =>
          apply i_gT
          · exact rfl
          apply i_notT
          · exact rfl
          apply i_pickT
          · exact rfl
          · exact tB rfl
          apply i_mov
          · exact tB rfl
          apply i_gF
          · exact rfl
          · exact rfl
          apply i_gF
          · exact rfl
          · exact rfl
          apply i_gF
          · exact rfl
          · exact rfl
          apply i_gF
          · exact rfl
          · exact rfl
          apply i_pickF
          · exact rfl
          · exact tB rfl
          apply i_mov
          · exact tB rfl
          apply i_gF
          · exact rfl
          · exact rfl
          apply i_gF
          · exact rfl
          · exact rfl
          apply i_gF
          · exact rfl
          · exact rfl
          apply i_pickF
          · exact rfl
          · exact tB rfl
          apply i_mov
          · exact tB rfl
          refine i_nil ?_
          refine r_ret ?_
          apply q_ret1
          · exact tB rfl
          exact ⟨by rw [show c.may = false by simp [CV.may, h3]], by ((refine Stays.then0 ?_ (by assumption); refine Stays.then0 ?_ (by assumption); refine Stays.then0 ?_ (by assumption); refine Stays.then0 ?_ (by assumption); refine Stays.push ?_; exact Stays.refl _ _))⟩
        | false =>
          by_cases h4 : 0 ≤ c.cbs
          · by_cases h5 : c.cbs ≤ 4096
            · apply i_gT
              · exact rfl
              apply i_notF
              · exact rfl
              apply i_pickT
              · exact rfl
              · exact tB rfl
              apply i_mov
              · exact tB rfl
              apply i_gT
              · exact rfl
              apply i_fld0
              · exact rfl
              apply i_gT
              · exact rfl
              apply i_load
              · exact rfl
              · ((apply Ob.stays0'; (· assumption)); (apply Ob.stays0'; (· assumption)); (apply Ob.stays0'; (· assumption)); (apply Ob.stays0'; (· assumption)); exact Ob.new)
              · exact rfl
              apply i_gT
              · exact rfl
              apply i_mov
              · exact tI rfl
              apply i_gT
              · exact rfl
              apply i_geT
              · exact rfl
              · exact rfl
              · omega
              apply i_pickT
              · exact rfl
              · exact tB rfl
              apply i_mov
              · exact tB rfl
              apply i_gT
              · exact rfl
              apply i_fld0
              · exact rfl
              apply i_gT
              · exact rfl
              apply i_load
              · exact rfl
              · ((apply Ob.stays0'; (· assumption)); (apply Ob.stays0'; (· assumption)); (apply Ob.stays0'; (· assumption)); (apply Ob.stays0'; (· assumption)); exact Ob.new)
              · exact rfl
              apply i_gT
              · exact rfl
              apply i_leT
              · exact rfl
              · exact rfl
              · omega
              apply i_pickT
              · exact rfl
              · exact tB rfl
              apply i_mov
              · exact tB rfl
              refine i_nil ?_
              refine r_ret ?_
              apply q_ret1
              · exact tB rfl
              exact ⟨by rw [show c.may = true by simp [CV.may, h1, h2, h3, hl, h4, h5]], by ((refine Stays.then0 ?_ (by assumption); refine Stays.then0 ?_ (by assumption); refine Stays.then0 ?_ (by assumption); refine Stays.then0 ?_ (by assumption); refine Stays.push ?_; exact Stays.refl _ _))⟩
            · apply i_gT
              · exact rfl
              apply i_notF
              · exact rfl
              apply i_pickT
              · exact rfl
              · exact tB rfl
              apply i_mov
              · exact tB rfl
              apply i_gT
              · exact rfl
              apply i_fld0
              · exact rfl
              apply i_gT
              · exact rfl
              apply i_load
              · exact rfl
              · ((apply Ob.stays0'; (· assumption)); (apply Ob.stays0'; (· assumption)); (apply Ob.stays0'; (· assumption)); (apply Ob.stays0'; (· assumption)); exact Ob.new)
              · exact rfl
              apply i_gT
              · exact rfl
              apply i_mov
              · exact tI rfl
              apply i_gT
              · exact rfl
              apply i_geT
              · exact rfl
              · exact rfl
              · omega
              apply i_pickT
              · exact rfl
              · exact tB rfl
              apply i_mov
              · exact tB rfl
              apply i_gT
              · exact rfl
              apply i_fld0
              · exact rfl
              apply i_gT
              · exact rfl
              apply i_load
              · exact rfl
              · ((apply Ob.stays0'; (· assumption)); (apply Ob.stays0'; (· assumption)); (apply Ob.stays0'; (· assumption)); (apply Ob.stays0'; (· assumption)); exact Ob.new)
              · exact rfl
              apply i_gT
              · exact rfl
              apply i_leF
              · exact rfl
              · exact rfl
              · omega
              apply i_pickT
              · exact rfl
              · exact tB rfl
              apply i_mov
              · exact tB rfl
              refine i_nil ?_
              refine r_ret ?_
              apply q_ret1
              · exact tB rfl
              exact ⟨by rw [show c.may = false by simp [CV.may, h5]], by ((refine Stays.then0 ?_ (by assumption); refine Stays.then0 ?_ (by assumption); refine Stays.then0 ?_ (by assumption); refine Stays.then0 ?_ (by assumption); refine Stays.push ?_; exact Stays.refl _ _))⟩
          · apply i_gT
            · exact rfl
            apply i_notF
            · exact rfl
            apply i_pickT
            · exact rfl
            · exact tB rfl
            apply i_mov
            · exact tB rfl
            apply i_gT
            · exact rfl
            apply i_fld0
            · exact rfl
            apply i_gT
            · exact rfl
            apply i_load
            · exact rfl
            · ((apply Ob.stays0'; (· assumption)); (apply Ob.stays0'; (· assumption)); (apply Ob.stays0'; (· assumption)); (apply Ob.stays0'; (· assumption)); exact Ob.new)
            · exact rfl
            apply i_gT
            · exact rfl
            apply i_mov
            · exact tI rfl
            apply i_gT
            · exact rfl
            apply i_geF
            · exact rfl
            · exact rfl
            · omega
            apply i_pickT
            · exact rfl
            · exact tB rfl
            apply i_mov
            · exact tB rfl
            apply i_gF
            · exact rfl
            · exact rfl
            apply i_gF
            · exact rfl
            · exact rfl
            apply i_gF
            · exact rfl
            · exact rfl
            apply i_pickF
            · exact rfl
            · exact tB rfl
            apply i_mov
            · exact tB rfl
            refine i_nil ?_
            refine r_ret ?_
            apply q_ret1
            · exact tB rfl
            exact ⟨by rw [show c.may = false by simp [CV.may, hl, h4]], by ((refine Stays.then0 ?_ (by assumption); refine Stays.then0 ?_ (by assumption); refine Stays.then0 ?_ (by assumption); refine Stays.then0 ?_ (by assumption); refine Stays.push ?_; exact Stays.refl _ _))⟩

theorem cPad (c : CV) (S : ASt) : ACalls Try.prog 12 [.agg c.cells] S fun v S' => v = .int .u8 (if c.blocks || c.unblocks then 32 else 0) ∧ Stays S S' [] := by
  refine en_12 (by exact Nat.le_of_ble_eq_true rfl) ?_
  unfold rc_12
  dsimp only [CV.cells]
  refine r_reg ?_
  apply i_boxA
  · exact rfl
  apply i_mov
  · exact tI rfl
  refine i_nil ?_
  refine r_reg ?_
  apply i_loadN
  · exact rfl
  · exact Ob.new
  · exact rfl
  refine i_call (cBlocks c _) rfl ?_
  rintro v S1 ⟨rfl, hst1⟩
  cases hB : c.blocks with
  | true =>
    apply i_mov
    · exact tB rfl
    apply i_gF
    · exact rfl
    · exact rfl
    apply i_gF
    · exact rfl
    · exact rfl
    apply i_pickT
    · exact rfl
    · exact tB rfl
    refine i_nil ?_
    apply r_condT
    · exact rfl
    refine r_reg ?_
    apply i_mov
    · exact tI rfl
    refine i_nil ?_
    refine r_ret ?_
    refine q_kr ?_
    apply q_ret1
    · exact tI rfl
    exact ⟨rfl, by ((refine Stays.then0 ?_ (by assumption); refine Stays.push ?_; exact Stays.refl _ _))⟩
  | false =>
    apply i_mov
    · exact tB rfl
    apply i_gT
    · exact rfl
    apply i_loadN
    · exact rfl
    · ((apply Ob.stays0'; (· assumption)); exact Ob.new)
    · exact rfl
    apply i_gT
    · exact rfl
    refine i_call (cUnblocks c _) rfl ?_
    rintro v S2 ⟨rfl, hst2⟩
    cases hU : c.unblocks with
    | true =>
      apply i_pickF
      · exact rfl
      · exact tB rfl
      refine i_nil ?_
      apply r_condT
      · exact rfl
      refine r_reg ?_
      apply i_mov
      · exact tI rfl
      refine i_nil ?_
      refine r_ret ?_
      refine q_kr ?_
      apply q_ret1
      · exact tI rfl
      exact ⟨rfl, by ((refine Stays.then0 ?_ (by assumption); refine Stays.then0 ?_ (by assumption); refine Stays.push ?_; exact Stays.refl _ _))⟩
    | false =>
      apply i_pickF
      · exact rfl
      · exact tB rfl
      refine i_nil ?_
      apply r_condF
      · exact rfl
      refine r_nop ?_
      refine r_reg ?_
      apply i_mov
      · exact tI rfl
      refine i_nil ?_
      refine r_ret ?_
      apply q_ret1
      · exact tI rfl
      exact ⟨rfl, by ((refine Stays.then0 ?_ (by assumption); refine Stays.then0 ?_ (by assumption); refine Stays.push ?_; exact Stays.refl _ _))⟩
theorem rPad (c : CV) (S : ASt) : ACalls Try.prog 14 [.agg c.cells] S fun v S' => v = .int .u8 (if c.blocks || c.unblocks then 32 else 0) ∧ Stays S S' [] := by
  refine en_14 (by exact Nat.le_of_ble_eq_true rfl) ?_
  unfold rc_14
  dsimp only [CV.cells]
  refine r_reg ?_
  apply i_boxA
  · exact rfl
  apply i_mov
  · exact tI rfl
  refine i_nil ?_
  refine r_reg ?_
  apply i_loadN
  · exact rfl
  · exact Ob.new
  · exact rfl
  refine i_call (rBlocks c _) rfl ?_
  rintro v S1 ⟨rfl, hst1⟩
  cases hB : c.blocks with
  | true =>
    apply i_mov
    · exact tB rfl
    apply i_gF
    · exact rfl
    · exact rfl
    apply i_gF
    · exact rfl
    · exact rfl
    apply i_pickT
    · exact rfl
    · exact tB rfl
    refine i_nil ?_
    apply r_condT
    · exact rfl
    refine r_reg ?_
    apply i_mov
    · exact tI rfl
    refine i_nil ?_
    refine r_ret ?_
    refine q_kr ?_
    apply q_ret1
    · exact tI rfl
    exact ⟨rfl, by ((refine Stays.then0 ?_ (by assumption); refine Stays.push ?_; exact Stays.refl _ _))⟩
  | false =>
    apply i_mov
    · exact tB rfl
    apply i_gT
    · exact rfl
    apply i_loadN
    · exact rfl
    · ((apply Ob.stays0'; (· assumption)); exact Ob.new)
    · exact rfl
    apply i_gT
    · exact rfl
    refine i_call (rUnblocks c _) rfl ?_
    rintro v S2 ⟨rfl, hst2⟩
    cases hU : c.unblocks with
    | true =>
      apply i_pickF
      · exact rfl
      · exact tB rfl
      refine i_nil ?_
      apply r_condT
      · exact rfl
      refine r_reg ?_
      apply i_mov
      · exact tI rfl
      refine i_nil ?_
      refine r_ret ?_
      refine q_kr ?_
      apply q_ret1
      · exact tI rfl
      exact ⟨rfl, by ((refine Stays.then0 ?_ (by assumption); refine Stays.then0 ?_ (by assumption); refine Stays.push ?_; exact Stays.refl _ _))⟩
    | false =>
      apply i_pickF
      · exact rfl
      · exact tB rfl
      refine i_nil ?_
      apply r_condF
      · exact rfl
      refine r_nop ?_
      refine r_reg ?_
      apply i_mov
      · exact tI rfl
      refine i_nil ?_
      refine r_ret ?_
      apply q_ret1
      · exact tI rfl
      exact ⟨rfl, by ((refine Stays.then0 ?_ (by assumption); refine Stays.then0 ?_ (by assumption); refine Stays.push ?_; exact Stays.refl _ _))⟩
end Go.Proofs.Ythpomdoaiibnfaa.Abs
