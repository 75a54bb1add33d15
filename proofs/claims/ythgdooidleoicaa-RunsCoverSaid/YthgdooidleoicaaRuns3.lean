/- The laws of runs, but for one: that each answers true. -/
import Derived.Test.YthgdooidleoicaaRuns2
namespace Go.Proofs.Ythgdooidleoicaa.Abs
open Go Go.Proofs
set_option linter.unusedVariables false
set_option linter.unusedSimpArgs false
attribute [local irreducible] wpI wpR ropK chk ASt.push ASt.put ASt.fresh ASt.kill appS

theorem eqL_rn (r : Rn) : eqL (rnC r) (rnC r) = true := by simp [eqL, AV.eq1]
theorem same (o1 o2 : Own) (s1 s2 : Nat) (l : List Rn) (S : ASt) (h1 : s1 = 3 ∨ l = []) (h2 : s2 = 3 ∨ l = []) (hr1 : Rd S o1) (hr2 : Rd S o2) (hb : l.length ≤ 1000000000) :
    ACalls Try.prog 12 [.sl o1 s1 (l.map rnAV), .sl o2 s2 (l.map rnAV)] S fun v S' => v = .bool true ∧ S' = S := by
  refine en_12 (by exact Nat.le_of_ble_eq_true rfl) ?_
  unfold rc_12
  refine r_reg ?_
  apply i_mov
  · exact tB rfl
  refine i_nil ?_
  refine r_reg ?_
  apply i_mov
  · exact tS rfl
  apply i_lenM
  · exact rfl
  apply i_mov
  · exact tS rfl
  apply i_lenM
  · exact rfl
  apply i_neF
  · exact rfl
  · exact rfl
  · omega
  refine i_nil ?_
  apply r_condF
  · exact rfl
  refine r_nop ?_
  refine r_reg ?_
  apply i_mov
  · exact tI rfl
  refine i_nil ?_
  refine r_block ?_
  refine r_loopP [0, 1, 5] (fun m G S' => ∃ i : Nat, G = [(0, .sl o1 s1 (l.map rnAV)), (1, .sl o2 s2 (l.map rnAV)), (5, .int .i64 (i : Nat))] ∧ m = l.length - i ∧ i ≤ l.length ∧ S' = S) ?_ ?_
  · exact ⟨_, 0, rfl, rfl, Nat.zero_le _, rfl⟩
  rintro m G S1 ⟨i, rfl, rfl, hi, rfl⟩
  by_cases hc : i < l.length
  · obtain rfl : s1 = 3 := by
      rcases h1 with h | h
      · exact h
      · subst h; simp at hc
    obtain rfl : s2 = 3 := by
      rcases h2 with h | h
      · exact h
      · subst h; simp at hc
    refine r_reg ?_
    apply i_mov
    · exact tI rfl
    apply i_mov
    · exact tS rfl
    apply i_lenM
    · exact rfl
    apply i_ltT
    · exact rfl
    · exact rfl
    · omega
    refine i_nil ?_
    apply r_condT
    · exact rfl
    refine r_nop ?_
    refine r_block ?_
    refine r_reg ?_
    apply i_mov
    · exact tS rfl
    apply i_mov
    · exact tI rfl
    apply i_idxM
    · exact rfl
    · exact rfl
    · exact rfl
    · exact rfl
    · (refine Rd.rd ?_; assumption)
    · omega
    apply i_loadNM
    · exact rfl
    · (refine Rd.rd ?_; assumption)
    · omega
    · exact fun _ => rfl
    · exact fun _ => rfl
    (refine ⟨by omega, ?_⟩)
    apply i_mov
    · exact tS rfl
    apply i_mov
    · exact tI rfl
    apply i_idxM
    · exact rfl
    · exact rfl
    · exact rfl
    · exact rfl
    · (refine Rd.rd ?_; assumption)
    · omega
    apply i_loadNM
    · exact rfl
    · (refine Rd.rd ?_; assumption)
    · omega
    · exact fun _ => rfl
    · exact fun _ => rfl
    (refine ⟨by omega, ?_⟩)
    refine i_eqa (b := false) rfl rfl rfl rfl (by rw [eqL_rn]; rfl) ?_
    refine i_nil ?_
    apply r_condF
    · exact rfl
    refine r_nop ?_
    refine r_nop ?_
    refine r_reg ?_
    apply i_mov
    · exact tI rfl
    apply i_add
    · exact rfl
    · exact rfl
    · omega
    apply i_mov
    · exact tI rfl
    refine i_nil ?_
    refine r_nop ?_
    apply q_lp [0, 1, 5]
    · exact ⟨i + 1, rfl, rfl, hc, rfl⟩
    · omega
  · refine r_reg ?_
    apply i_mov
    · exact tI rfl
    apply i_mov
    · exact tS rfl
    apply i_lenM
    · exact rfl
    apply i_ltF
    · exact rfl
    · exact rfl
    · omega
    refine i_nil ?_
    apply r_condF
    · exact rfl
    refine r_exit ?_
    refine r_reg ?_
    apply i_mov
    · exact tB rfl
    refine i_nil ?_
    refine r_ret ?_
    apply q_ret1
    · exact tB rfl
    exact ⟨rfl, rfl⟩

theorem runsFrom_len (bs : List UInt8) (u : Nat) : ∀ (f i : Nat) (acc : List Rn), acc.length ≤ f * 0 + i → i ≤ bs.length → 0 < u → (runsFrom bs u f i acc).length ≤ bs.length
  | 0, i, acc, h, hi, hu => by simp only [runsFrom]; omega
  | f + 1, i, acc, h, hi, hu => by
    simp only [runsFrom]
    split
    · refine runsFrom_len bs u f _ _ ?_ (by omega) hu
      have : (stepR acc i (min u (bs.length - i)) (zeroL ((bs.take (i + min u (bs.length - i))).drop i))).length ≤ acc.length + 1 := by
        unfold stepR
        split
        · split <;> simp <;> omega
        · simp
      omega
    · omega
theorem runsOf_len (bs : List UInt8) (u : Int) (hb : bs.length ≤ 1000000000) : (runsOf bs u).length ≤ 1000000000 := by
  unfold runsOf
  split
  · simp
  · have := runsFrom_len bs u.toNat bs.length 0 [] (by simp) (by omega) (by omega)
    omega
theorem runsRuns (S : ASt) : ACalls Try.prog 3 [] S fun v S' => v = .bool true ∧ Stays S S' [] := by
  refine en_3 (by exact Nat.le_of_ble_eq_true rfl) ?_
  unfold rc_3
  refine r_reg ?_
  apply i_mov
  · exact tB rfl
  refine i_nil ?_
  refine r_reg ?_
  refine i_mkR (xs := u8s [0, 0, 1, 0, 0, 0, 0]) rfl ?_
  refine i_call (runs .ro 1 [0, 0, 1, 0, 0, 0, 0] 2 S (.inl rfl) Rd.ro (by decide) (by decide) (by decide)) rfl ?_
  rintro v S1 ⟨hst, o1, s1, rfl, hr1, hs1⟩
  have e : runsOf [0, 0, 1, 0, 0, 0, 0] 2 = [⟨0, 2, true⟩, ⟨2, 2, false⟩, ⟨4, 3, true⟩] := by decide
  obtain rfl : s1 = 3 := by
    rcases hs1 with h | h
    · exact h
    · rw [e] at h; cases h
  have e0 : (runsOf [0, 0, 1, 0, 0, 0, 0] 2)[0]? = some ⟨0, 2, true⟩ := by rw [e]; rfl
  have e1 : (runsOf [0, 0, 1, 0, 0, 0, 0] 2)[1]? = some ⟨2, 2, false⟩ := by rw [e]; rfl
  have e2 : (runsOf [0, 0, 1, 0, 0, 0, 0] 2)[2]? = some ⟨4, 3, true⟩ := by rw [e]; rfl
  have hl : (runsOf [0, 0, 1, 0, 0, 0, 0] 2).length = 3 := by rw [e]; rfl
  clear e
  generalize runsOf [0, 0, 1, 0, 0, 0, 0] 2 = l at e0 e1 e2 hl ⊢
  have hld : leadN [0, 1] = 1 := by decide
  have htr : trailN [0, 1] = 0 := by decide
  rw [List.getElem?_eq_getElem (by omega), Option.some.injEq] at e0 e1 e2
  apply i_mov
  · exact tS rfl
  refine i_nil ?_
  refine r_reg ?_
  apply i_mov
  · exact tS rfl
  apply i_lenM
  · exact rfl
  apply i_eqT
  · exact rfl
  · exact rfl
  · omega
  apply i_mov
  · exact tB rfl
  apply i_gT
  · exact rfl
  apply i_mov
  · exact tS rfl
  apply i_gT
  · exact rfl
  apply i_idxM 0
  · exact rfl
  · exact rfl
  · exact rfl
  · exact rfl
  · (refine Rd.rd ?_; assumption)
  · omega
  apply i_gT
  · exact rfl
  apply i_loadNM
  · exact rfl
  · (refine Rd.rd ?_; assumption)
  · omega
  · exact fun _ => rfl
  · exact fun _ => rfl
  (refine ⟨by omega, ?_⟩)
  apply i_gT
  · exact rfl
  refine i_build (cs := [.int .i64 0, .int .i64 2, .bool true]) rfl ?_
  apply i_gT
  · exact rfl
  refine i_eqa (b := true) rfl rfl rfl rfl (by rw [e0]; decide) ?_
  apply i_pickT
  · exact rfl
  · exact tB rfl
  apply i_mov
  · exact tB rfl
  apply i_gT
  · exact rfl
  apply i_mov
  · exact tS rfl
  apply i_gT
  · exact rfl
  apply i_idxM 1
  · exact rfl
  · exact rfl
  · exact rfl
  · exact rfl
  · (refine Rd.rd ?_; assumption)
  · omega
  apply i_gT
  · exact rfl
  apply i_loadNM
  · exact rfl
  · (refine Rd.rd ?_; assumption)
  · omega
  · exact fun _ => rfl
  · exact fun _ => rfl
  (refine ⟨by omega, ?_⟩)
  apply i_gT
  · exact rfl
  refine i_build (cs := [.int .i64 2, .int .i64 2, .bool false]) rfl ?_
  apply i_gT
  · exact rfl
  refine i_eqa (b := true) rfl rfl rfl rfl (by rw [e1]; decide) ?_
  apply i_pickT
  · exact rfl
  · exact tB rfl
  apply i_mov
  · exact tB rfl
  apply i_gT
  · exact rfl
  apply i_mov
  · exact tS rfl
  apply i_gT
  · exact rfl
  refine i_idxM 2 rfl rfl rfl rfl (by (refine Rd.rd ?_; assumption)) (by omega) ?_
  apply i_gT
  · exact rfl
  apply i_loadNM
  · exact rfl
  · (refine Rd.rd ?_; assumption)
  · omega
  · exact fun _ => rfl
  · exact fun _ => rfl
  (refine ⟨by omega, ?_⟩)
  apply i_gT
  · exact rfl
  refine i_build (cs := [.int .i64 4, .int .i64 3, .bool true]) rfl ?_
  apply i_gT
  · exact rfl
  refine i_eqa (b := true) rfl rfl rfl rfl (by rw [e2]; decide) ?_
  apply i_pickT
  · exact rfl
  · exact tB rfl
  apply i_mov
  · exact tB rfl
  apply i_gT
  · exact rfl
  refine i_call (zero .nil 0 [] _ (.inr rfl) Rd.nil (by simp) (by simp)) rfl ?_
  rintro v S2 ⟨rfl, rfl⟩
  simp only [List.all_nil]
  apply i_pickT
  · exact rfl
  · exact tB rfl
  apply i_mov
  · exact tB rfl
  apply i_gT
  · exact rfl
  apply i_mk2
  · exact tI rfl
  · exact tI rfl
  · exact rfl
  · exact rfl
  apply i_gT
  · exact rfl
  refine i_call (lead .ro 1 [0, 1] _ (.inl rfl) Rd.ro (by decide)) rfl ?_
  rintro v S2 ⟨rfl, rfl⟩
  apply i_gT
  · exact rfl
  apply i_eqT
  · exact rfl
  · exact rfl
  · omega
  apply i_pickT
  · exact rfl
  · exact tB rfl
  apply i_mov
  · exact tB rfl
  apply i_gT
  · exact rfl
  apply i_mk2
  · exact tI rfl
  · exact tI rfl
  · exact rfl
  · exact rfl
  apply i_gT
  · exact rfl
  refine i_call (trail .ro 1 [0, 1] _ (.inl rfl) Rd.ro (by decide)) rfl ?_
  rintro v S2 ⟨rfl, rfl⟩
  apply i_gT
  · exact rfl
  apply i_eqT
  · exact rfl
  · exact rfl
  · omega
  apply i_pickT
  · exact rfl
  · exact tB rfl
  apply i_mov
  · exact tB rfl
  refine i_nil ?_
  refine r_ret ?_
  apply q_ret1
  · exact tB rfl
  exact ⟨rfl, hst⟩

/-! ### the laws -/
theorem runsTell (bs : List UInt8) (u : Int) (hu : (Lit.int .i64 u).wf = true) (S : ASt) : ACalls Try.prog 4 [.sl .ro 1 (u8s bs), .int .i64 u] S fun v S' => v = .bool true := by
  refine en_4 (by exact Nat.le_of_ble_eq_true rfl) ?_
  unfold rc_4
  have hu' : -9223372036854775808 ≤ u ∧ u ≤ 9223372036854775807 := by
    simp only [Lit.wf, Bool.and_eq_true, decide_eq_true_eq] at hu
    exact hu
  by_cases hl : bs.length ≤ 2000
  · refine r_reg ?_
    apply i_mov
    · exact tB rfl
    refine i_nil ?_
    refine r_reg ?_
    apply i_mov
    · exact tS rfl
    apply i_lenM
    · exact rfl
    apply i_gtF
    · exact rfl
    · exact rfl
    · omega
    refine i_nil ?_
    apply r_condF
    · exact rfl
    refine r_nop ?_
    refine r_reg ?_
    apply i_mov
    · exact tS rfl
    apply i_mov
    · exact tI rfl
    refine i_call (runs .ro 1 bs u S (.inl rfl) Rd.ro (by omega) hu'.1 hu'.2) rfl ?_
    rintro v S1 ⟨hst1, o1, s1, rfl, hr1, hs1⟩
    apply i_mov
    · exact tS rfl
    apply i_mov
    · exact tI rfl
    refine i_call (refRuns .ro 1 bs u _ (.inl rfl) Rd.ro (by omega) hu'.1 hu'.2) rfl ?_
    rintro v S2 ⟨hst2, o2, s2, rfl, hr2, hs2⟩
    skip
    refine i_call (same o1 o2 s1 s2 _ _ hs1 hs2 (hr1.stays hst2) hr2 (runsOf_len bs u (by omega))) rfl ?_
    rintro v S3 ⟨rfl, rfl⟩
    apply i_mov
    · exact tB rfl
    apply i_gT
    · exact rfl
    apply i_mov
    · exact tS rfl
    apply i_gT
    · exact rfl
    refine i_call (lead .ro 1 bs _ (.inl rfl) Rd.ro (by omega)) rfl ?_
    rintro v S3 ⟨rfl, rfl⟩
    apply i_gT
    · exact rfl
    apply i_mov
    · exact tS rfl
    apply i_gT
    · exact rfl
    refine i_call (refLead .ro 1 bs _ (.inl rfl) Rd.ro (by omega)) rfl ?_
    rintro v S3 ⟨rfl, rfl⟩
    apply i_gT
    · exact rfl
    apply i_eqT
    · exact rfl
    · exact rfl
    · omega
    apply i_pickT
    · exact rfl
    · exact tB rfl
    apply i_mov
    · exact tB rfl
    apply i_gT
    · exact rfl
    apply i_mov
    · exact tS rfl
    apply i_gT
    · exact rfl
    refine i_call (trail .ro 1 bs _ (.inl rfl) Rd.ro (by omega)) rfl ?_
    rintro v S3 ⟨rfl, rfl⟩
    apply i_gT
    · exact rfl
    apply i_mov
    · exact tS rfl
    apply i_gT
    · exact rfl
    refine i_call (refTrail .ro 1 bs _ (.inl rfl) Rd.ro (by omega)) rfl ?_
    rintro v S3 ⟨rfl, rfl⟩
    apply i_gT
    · exact rfl
    apply i_eqT
    · exact rfl
    · exact rfl
    · omega
    apply i_pickT
    · exact rfl
    · exact tB rfl
    apply i_mov
    · exact tB rfl
    apply i_gT
    · exact rfl
    apply i_mov
    · exact tS rfl
    apply i_gT
    · exact rfl
    apply i_mk1
    · exact tS rfl
    · exact rfl
    apply i_gT
    · exact rfl
    refine i_call (zero1 .ro 1 bs _ (.inl rfl) Rd.ro (by omega)) rfl ?_
    rintro v S3 ⟨rfl, rfl⟩
    apply i_gT
    · exact rfl
    apply i_mov
    · exact tS rfl
    apply i_gT
    · exact rfl
    refine i_call (refZero .ro 1 bs _ (.inl rfl) Rd.ro (by omega)) rfl ?_
    rintro v S3 ⟨rfl, rfl⟩
    apply i_gT
    · exact rfl
    apply i_eqbT
    · exact rfl
    · exact rfl
    · exact rfl
    apply i_pickT
    · exact rfl
    · exact tB rfl
    apply i_mov
    · exact tB rfl
    apply i_gT
    · exact rfl
    refine i_call (runsRuns _) rfl ?_
    rintro v S4 ⟨rfl, hst4⟩
    apply i_pickT
    · exact rfl
    · exact tB rfl
    apply i_mov
    · exact tB rfl
    refine i_nil ?_
    refine r_ret ?_
    apply q_ret1
    · exact tB rfl
    rfl
  · refine r_reg ?_
    apply i_mov
    · exact tB rfl
    refine i_nil ?_
    refine r_reg ?_
    apply i_mov
    · exact tS rfl
    apply i_lenM
    · exact rfl
    apply i_gtT
    · exact rfl
    · exact rfl
    · omega
    refine i_nil ?_
    apply r_condT
    · exact rfl
    refine r_reg ?_
    refine i_call (runsRuns _) rfl ?_
    rintro v S4 ⟨rfl, hst4⟩
    apply i_mov
    · exact tB rfl
    refine i_nil ?_
    refine r_ret ?_
    refine q_kr ?_
    apply q_ret1
    · exact tB rfl
    rfl

theorem lead_app (a b : List UInt8) : leadN (a ++ b) = if leadN a = a.length then a.length + leadN b else leadN a := by
  induction a with
  | nil => simp [leadN]
  | cons x a ih =>
    by_cases hx : x = 0
    · have e1 : leadN (x :: a ++ b) = leadN (a ++ b) + 1 := by simp [leadN, List.takeWhile_cons, hx]
      have e2 : leadN (x :: a) = leadN a + 1 := by simp [leadN, List.takeWhile_cons, hx]
      rw [e1, e2, ih, List.length_cons]
      split <;> rename_i h
      · rw [if_pos (by omega)]; omega
      · rw [if_neg (by omega)]
    · have e1 : leadN (x :: a ++ b) = 0 := by simp [leadN, List.takeWhile_cons, hx]
      have e2 : leadN (x :: a) = 0 := by simp [leadN, List.takeWhile_cons, hx]
      rw [e1, e2, List.length_cons, if_neg (by omega)]
theorem trail_app (a b : List UInt8) : trailN (a ++ b) = if trailN b = b.length then b.length + trailN a else trailN b := by
  unfold trailN
  rw [List.reverse_append, lead_app, List.length_reverse]

theorem runsJoin (a b : List UInt8) (S : ASt) : ACalls Try.prog 7 [.sl .ro 1 (u8s a), .sl .ro 1 (u8s b)] S fun v S' => v = .bool true := by
  refine en_7 (by exact Nat.le_of_ble_eq_true rfl) ?_
  unfold rc_7
  by_cases ha : a.length ≤ 2000
  · by_cases hb : b.length ≤ 2000
    · have hla := lead_app a b
      have hta := trail_app a b
      have ha1 := leadN_le a
      have hb1 := leadN_le b
      have ha2 := trailN_le a
      have hb2 := trailN_le b
      refine r_reg ?_
      apply i_mov
      · exact tB rfl
      refine i_nil ?_
      refine r_reg ?_
      apply i_mov
      · exact tS rfl
      apply i_lenM
      · exact rfl
      apply i_gtF
      · exact rfl
      · exact rfl
      · omega
      apply i_mov
      · exact tB rfl
      apply i_gT
      · exact rfl
      apply i_mov
      · exact tS rfl
      apply i_gT
      · exact rfl
      apply i_lenM
      · exact rfl
      apply i_gT
      · exact rfl
      apply i_gtF
      · exact rfl
      · exact rfl
      · omega
      apply i_pickF
      · exact rfl
      · exact tB rfl
      refine i_nil ?_
      apply r_condF
      · exact rfl
      refine r_nop ?_
      refine r_reg ?_
      apply i_mov
      · exact tS rfl
      apply i_app0M
      · exact rfl
      · exact rfl
      · exact Or.inl rfl
      · exact True.intro
      · omega
      apply i_mov
      · exact tS rfl
      apply i_appX
      · exact rfl
      · exact rfl
      · exact App.some (by exact Rd.new)
      · exact Or.inl rfl
      · exact True.intro
      · omega
      apply i_mov
      · exact tS rfl
      refine i_nil ?_
      refine r_reg ?_
      apply i_mov
      · exact tS rfl
      refine i_call (lead .ro 1 a _ (.inl rfl) Rd.ro (by omega)) rfl ?_
      rintro v S3 ⟨rfl, rfl⟩
      apply i_mov
      · exact tS rfl
      refine i_call (trail .ro 1 b _ (.inl rfl) Rd.ro (by omega)) rfl ?_
      rintro v S3 ⟨rfl, rfl⟩
      by_cases h1 : leadN a = a.length
      · rw [if_pos h1] at hla
        apply i_mov
        · exact tI rfl
        apply i_mov
        · exact tI rfl
        refine i_nil ?_
        refine r_reg ?_
        apply i_mov
        · exact tI rfl
        apply i_mov
        · exact tS rfl
        apply i_lenM
        · exact rfl
        apply i_eqT
        · exact rfl
        · exact rfl
        · omega
        refine i_nil ?_
        apply r_condT
        · exact rfl
        refine r_reg ?_
        apply i_mov
        · exact tI rfl
        apply i_mov
        · exact tS rfl
        refine i_call (lead .ro 1 b _ (.inl rfl) Rd.ro (by omega)) rfl ?_
        rintro v S3 ⟨rfl, rfl⟩
        by_cases h2 : trailN b = b.length
        · rw [if_pos h2] at hta
          apply i_add
          · exact rfl
          · exact rfl
          · omega
          apply i_mov
          · exact tI rfl
          refine i_nil ?_
          refine r_nop ?_
          refine r_reg ?_
          apply i_mov
          · exact tI rfl
          apply i_mov
          · exact tS rfl
          apply i_lenM
          · exact rfl
          apply i_eqT
          · exact rfl
          · exact rfl
          · omega
          refine i_nil ?_
          apply r_condT
          · exact rfl
          refine r_reg ?_
          apply i_mov
          · exact tI rfl
          apply i_mov
          · exact tS rfl
          refine i_call (trail .ro 1 a _ (.inl rfl) Rd.ro (by omega)) rfl ?_
          rintro v S3 ⟨rfl, rfl⟩
          apply i_add
          · exact rfl
          · exact rfl
          · omega
          apply i_mov
          · exact tI rfl
          refine i_nil ?_
          refine r_nop ?_
          refine r_reg ?_
          apply i_mov
          · exact tS rfl
          refine i_call (lead _ 1 (a ++ b) _ (.inl rfl) (by exact Rd.appN) (by simp; omega)) rfl ?_
          rintro v S3 ⟨rfl, rfl⟩
          apply i_mov
          · exact tI rfl
          apply i_eqT
          · exact rfl
          · exact rfl
          · omega
          apply i_mov
          · exact tB rfl
          apply i_gT
          · exact rfl
          apply i_mov
          · exact tS rfl
          apply i_gT
          · exact rfl
          refine i_call (trail _ 1 (a ++ b) _ (.inl rfl) (by exact Rd.appN) (by simp; omega)) rfl ?_
          rintro v S3 ⟨rfl, rfl⟩
          apply i_gT
          · exact rfl
          apply i_mov
          · exact tI rfl
          apply i_gT
          · exact rfl
          apply i_eqT
          · exact rfl
          · exact rfl
          · omega
          apply i_pickT
          · exact rfl
          · exact tB rfl
          apply i_mov
          · exact tB rfl
          apply i_gT
          · exact rfl
          refine i_call (runsRuns _) rfl ?_
          rintro v S4 ⟨rfl, hst4⟩
          apply i_pickT
          · exact rfl
          · exact tB rfl
          apply i_mov
          · exact tB rfl
          refine i_nil ?_
          refine r_ret ?_
          apply q_ret1
          · exact tB rfl
          rfl
        · rw [if_neg h2] at hta
          apply i_add
          · exact rfl
          · exact rfl
          · omega
          apply i_mov
          · exact tI rfl
          refine i_nil ?_
          refine r_nop ?_
          refine r_reg ?_
          apply i_mov
          · exact tI rfl
          apply i_mov
          · exact tS rfl
          apply i_lenM
          · exact rfl
          apply i_eqF
          · exact rfl
          · exact rfl
          · omega
          refine i_nil ?_
          apply r_condF
          · exact rfl
          refine r_nop ?_
          refine r_reg ?_
          apply i_mov
          · exact tS rfl
          refine i_call (lead _ 1 (a ++ b) _ (.inl rfl) (by exact Rd.appN) (by simp; omega)) rfl ?_
          rintro v S3 ⟨rfl, rfl⟩
          apply i_mov
          · exact tI rfl
          apply i_eqT
          · exact rfl
          · exact rfl
          · omega
          apply i_mov
          · exact tB rfl
          apply i_gT
          · exact rfl
          apply i_mov
          · exact tS rfl
          apply i_gT
          · exact rfl
          refine i_call (trail _ 1 (a ++ b) _ (.inl rfl) (by exact Rd.appN) (by simp; omega)) rfl ?_
          rintro v S3 ⟨rfl, rfl⟩
          apply i_gT
          · exact rfl
          apply i_mov
          · exact tI rfl
          apply i_gT
          · exact rfl
          apply i_eqT
          · exact rfl
          · exact rfl
          · omega
          apply i_pickT
          · exact rfl
          · exact tB rfl
          apply i_mov
          · exact tB rfl
          apply i_gT
          · exact rfl
          refine i_call (runsRuns _) rfl ?_
          rintro v S4 ⟨rfl, hst4⟩
          apply i_pickT
          · exact rfl
          · exact tB rfl
          apply i_mov
          · exact tB rfl
          refine i_nil ?_
          refine r_ret ?_
          apply q_ret1
          · exact tB rfl
          rfl
      · rw [if_neg h1] at hla
        by_cases h2 : trailN b = b.length
        · rw [if_pos h2] at hta
          apply i_mov
          · exact tI rfl
          apply i_mov
          · exact tI rfl
          refine i_nil ?_
          refine r_reg ?_
          apply i_mov
          · exact tI rfl
          apply i_mov
          · exact tS rfl
          apply i_lenM
          · exact rfl
          apply i_eqF
          · exact rfl
          · exact rfl
          · omega
          refine i_nil ?_
          apply r_condF
          · exact rfl
          refine r_nop ?_
          refine r_reg ?_
          apply i_mov
          · exact tI rfl
          apply i_mov
          · exact tS rfl
          apply i_lenM
          · exact rfl
          apply i_eqT
          · exact rfl
          · exact rfl
          · omega
          refine i_nil ?_
          apply r_condT
          · exact rfl
          refine r_reg ?_
          apply i_mov
          · exact tI rfl
          apply i_mov
          · exact tS rfl
          refine i_call (trail .ro 1 a _ (.inl rfl) Rd.ro (by omega)) rfl ?_
          rintro v S3 ⟨rfl, rfl⟩
          apply i_add
          · exact rfl
          · exact rfl
          · omega
          apply i_mov
          · exact tI rfl
          refine i_nil ?_
          refine r_nop ?_
          refine r_reg ?_
          apply i_mov
          · exact tS rfl
          refine i_call (lead _ 1 (a ++ b) _ (.inl rfl) (by exact Rd.appN) (by simp; omega)) rfl ?_
          rintro v S3 ⟨rfl, rfl⟩
          apply i_mov
          · exact tI rfl
          apply i_eqT
          · exact rfl
          · exact rfl
          · omega
          apply i_mov
          · exact tB rfl
          apply i_gT
          · exact rfl
          apply i_mov
          · exact tS rfl
          apply i_gT
          · exact rfl
          refine i_call (trail _ 1 (a ++ b) _ (.inl rfl) (by exact Rd.appN) (by simp; omega)) rfl ?_
          rintro v S3 ⟨rfl, rfl⟩
          apply i_gT
          · exact rfl
          apply i_mov
          · exact tI rfl
          apply i_gT
          · exact rfl
          apply i_eqT
          · exact rfl
          · exact rfl
          · omega
          apply i_pickT
          · exact rfl
          · exact tB rfl
          apply i_mov
          · exact tB rfl
          apply i_gT
          · exact rfl
          refine i_call (runsRuns _) rfl ?_
          rintro v S4 ⟨rfl, hst4⟩
          apply i_pickT
          · exact rfl
          · exact tB rfl
          apply i_mov
          · exact tB rfl
          refine i_nil ?_
          refine r_ret ?_
          apply q_ret1
          · exact tB rfl
          rfl
        · rw [if_neg h2] at hta
          apply i_mov
          · exact tI rfl
          apply i_mov
          · exact tI rfl
          refine i_nil ?_
          refine r_reg ?_
          apply i_mov
          · exact tI rfl
          apply i_mov
          · exact tS rfl
          apply i_lenM
          · exact rfl
          apply i_eqF
          · exact rfl
          · exact rfl
          · omega
          refine i_nil ?_
          apply r_condF
          · exact rfl
          refine r_nop ?_
          refine r_reg ?_
          apply i_mov
          · exact tI rfl
          apply i_mov
          · exact tS rfl
          apply i_lenM
          · exact rfl
          apply i_eqF
          · exact rfl
          · exact rfl
          · omega
          refine i_nil ?_
          apply r_condF
          · exact rfl
          refine r_nop ?_
          refine r_reg ?_
          apply i_mov
          · exact tS rfl
          refine i_call (lead _ 1 (a ++ b) _ (.inl rfl) (by exact Rd.appN) (by simp; omega)) rfl ?_
          rintro v S3 ⟨rfl, rfl⟩
          apply i_mov
          · exact tI rfl
          apply i_eqT
          · exact rfl
          · exact rfl
          · omega
          apply i_mov
          · exact tB rfl
          apply i_gT
          · exact rfl
          apply i_mov
          · exact tS rfl
          apply i_gT
          · exact rfl
          refine i_call (trail _ 1 (a ++ b) _ (.inl rfl) (by exact Rd.appN) (by simp; omega)) rfl ?_
          rintro v S3 ⟨rfl, rfl⟩
          apply i_gT
          · exact rfl
          apply i_mov
          · exact tI rfl
          apply i_gT
          · exact rfl
          apply i_eqT
          · exact rfl
          · exact rfl
          · omega
          apply i_pickT
          · exact rfl
          · exact tB rfl
          apply i_mov
          · exact tB rfl
          apply i_gT
          · exact rfl
          refine i_call (runsRuns _) rfl ?_
          rintro v S4 ⟨rfl, hst4⟩
          apply i_pickT
          · exact rfl
          · exact tB rfl
          apply i_mov
          · exact tB rfl
          refine i_nil ?_
          refine r_ret ?_
          apply q_ret1
          · exact tB rfl
          rfl
    · refine r_reg ?_
      apply i_mov
      · exact tB rfl
      refine i_nil ?_
      refine r_reg ?_
      apply i_mov
      · exact tS rfl
      apply i_lenM
      · exact rfl
      apply i_gtF
      · exact rfl
      · exact rfl
      · omega
      apply i_mov
      · exact tB rfl
      apply i_gT
      · exact rfl
      apply i_mov
      · exact tS rfl
      apply i_gT
      · exact rfl
      apply i_lenM
      · exact rfl
      apply i_gT
      · exact rfl
      apply i_gtT
      · exact rfl
      · exact rfl
      · omega
      apply i_pickF
      · exact rfl
      · exact tB rfl
      refine i_nil ?_
      apply r_condT
      · exact rfl
      refine r_reg ?_
      refine i_call (runsRuns _) rfl ?_
      rintro v S4 ⟨rfl, hst4⟩
      apply i_mov
      · exact tB rfl
      refine i_nil ?_
      refine r_ret ?_
      refine q_kr ?_
      apply q_ret1
      · exact tB rfl
      rfl
  · refine r_reg ?_
    apply i_mov
    · exact tB rfl
    refine i_nil ?_
    refine r_reg ?_
    apply i_mov
    · exact tS rfl
    apply i_lenM
    · exact rfl
    apply i_gtT
    · exact rfl
    · exact rfl
    · omega
    apply i_mov
    · exact tB rfl
    apply i_gF
    · exact rfl
    · exact rfl
    apply i_gF
    · exact rfl
    · exact rfl
    apply i_gF
    · exact rfl
    · exact rfl
    apply i_pickT
    · exact rfl
    · exact tB rfl
    refine i_nil ?_
    apply r_condT
    · exact rfl
    refine r_reg ?_
    refine i_call (runsRuns _) rfl ?_
    rintro v S4 ⟨rfl, hst4⟩
    apply i_mov
    · exact tB rfl
    refine i_nil ?_
    refine r_ret ?_
    refine q_kr ?_
    apply q_ret1
    · exact tB rfl
    rfl
end Go.Proofs.Ythgdooidleoicaa.Abs
