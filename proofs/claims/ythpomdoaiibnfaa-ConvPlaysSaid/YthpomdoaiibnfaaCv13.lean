/- The document's own word on what may be together: contract. -/
import Derived.Test.YthpomdoaiibnfaaCv3
namespace Go.Proofs.Ythpomdoaiibnfaa.Abs
open Go Go.Proofs
set_option linter.unusedVariables false

theorem two3 (a b d : Bool) : two [a, b, d] = decide (¬ a.toNat + b.toNat + d.toNat ≤ 1) := by cases a <;> cases b <;> cases d <;> rfl
theorem may_by {c : CV} {t1 t2 t3 t4 t5 : Bool} (h1 : two [c.ascii, c.ebcdic, c.ibm] = t1) (h2 : two [c.lcase, c.ucase] = t2) (h3 : two [c.blocks, c.unblocks] = t3) (h4 : decide (c.least ≤ c.cbs) = t4) (h5 : decide (c.cbs ≤ 4096) = t5) : c.may = (!t1 && !t2 && !t3 && t4 && t5) := by
  rw [← h1, ← h2, ← h3, ← h4, ← h5]; rfl
theorem may_f1 {c : CV} (h1 : ¬ c.ascii.toNat + c.ebcdic.toNat + c.ibm.toNat ≤ 1) : c.may = false := by
  rw [may_by (t1 := true) (by rw [two3]; exact decide_eq_true h1) rfl rfl rfl rfl]; rfl
theorem may_f2 {c : CV} (hl : c.lcase = true) (hu : c.ucase = true) : c.may = false := by
  rw [may_by (t2 := true) rfl (by rw [hl, hu]; rfl) rfl rfl rfl]; simp
theorem may_f3 {c : CV} (hl : c.blocks = true) (hu : c.unblocks = true) : c.may = false := by
  rw [may_by (t3 := true) rfl rfl (by rw [hl, hu]; rfl) rfl rfl]; simp
theorem may_f4 {c : CV} (h : ¬ c.least ≤ c.cbs) : c.may = false := by
  rw [may_by (t4 := false) rfl rfl rfl (decide_eq_false h) rfl]; simp
theorem may_f5 {c : CV} (h : ¬ c.cbs ≤ 4096) : c.may = false := by
  rw [may_by (t5 := false) rfl rfl rfl rfl (decide_eq_false h)]; simp
theorem may_t {c : CV} (h1 : c.ascii.toNat + c.ebcdic.toNat + c.ibm.toNat ≤ 1) (h2 : c.lcase = false ∨ c.ucase = false) (h3 : c.blocks = false ∨ c.unblocks = false) (h4 : c.least ≤ c.cbs) (h5 : c.cbs ≤ 4096) : c.may = true := by
  have e2 : two [c.lcase, c.ucase] = false := by
    revert h2; cases c.lcase <;> cases c.ucase <;> simp [two, cnt]
  have e3 : two [c.blocks, c.unblocks] = false := by
    revert h3; cases c.blocks <;> cases c.unblocks <;> simp [two, cnt]
  rw [may_by (t1 := false) (by rw [two3]; exact decide_eq_false (fun h => h h1)) e2 e3 (decide_eq_true h4) (decide_eq_true h5)]; rfl
set_option linter.unusedSimpArgs false
attribute [local irreducible] wpI wpR ropK chk ASt.push ASt.put ASt.fresh ASt.kill appS

set_option maxHeartbeats 4000000 in
theorem rMay (c : CV) (S : ASt) : ACalls Try.prog 13 [.agg c.cells] S fun v S' => v = .bool c.may ∧ Stays S S' [] := by
  refine en_13 (by exact Nat.le_of_ble_eq_true rfl) ?_
  unfold rc_13
  have ha : c.ascii.toNat ≤ 1 := Bool.toNat_le _
  have he : c.ebcdic.toNat ≤ 1 := Bool.toNat_le _
  have hi : c.ibm.toNat ≤ 1 := Bool.toNat_le _
  have hBU : c.blocks = true ∨ (c.blocks = false ∧ c.unblocks = true) ∨ (c.blocks = false ∧ c.unblocks = false) := by
    cases c.blocks <;> cases c.unblocks <;> simp
  rcases hBU with hB | ⟨hB, hU⟩ | ⟨hB, hU⟩
  · have hl : c.least = 1 := (by simp [CV.least, hB])
    refine r_reg ?_
    apply i_boxA
    · exact rfl
    apply i_mov
    · exact tB rfl
    refine i_nil ?_
    refine r_reg ?_
    apply i_loadN
    · exact rfl
    · exact Ob.new
    · exact rfl
    have hoc : (S.push c.cells).objs[S.objs.length]? = some c.cells := Ob.new
    have hst0 : Stays S (S.push c.cells) [] := by (refine Stays.push ?_; exact Stays.refl _ _)
    generalize S.objs.length = oc at hoc ⊢
    generalize S.push c.cells = S0' at hoc hst0 ⊢
    refine i_call (rBlocks c _) rfl ?_
    rw [hB]
    rintro v S1 ⟨rfl, hst1⟩
    apply i_mov
    · exact tB rfl
    apply i_gF
    · exact rfl
    · exact rfl
    apply i_gF
    · exact rfl
    · exact rfl
    apply i_pickT
    · exact rfl
    · exact tB rfl
    refine i_call (rOne _ _) rfl ?_
    rintro v S3 ⟨rfl, rfl⟩
    simp only [Bool.toNat_true]
    apply i_mov
    · exact tI rfl
    refine i_nil ?_
    refine r_reg ?_
    apply i_fld0
    · exact rfl
    apply i_load
    · exact rfl
    · ((apply Ob.stays0'; (· assumption)); assumption)
    · exact rfl
    apply i_fld0
    · exact rfl
    apply i_load
    · exact rfl
    · ((apply Ob.stays0'; (· assumption)); assumption)
    · exact rfl
    apply i_fld0
    · exact rfl
    apply i_load
    · exact rfl
    · ((apply Ob.stays0'; (· assumption)); assumption)
    · exact rfl
    refine i_call (rOne _ _) rfl ?_
    rintro v S3 ⟨rfl, rfl⟩
    apply c_re
    · (apply c_load; (· exact rfl); (· ((apply Ob.stays0'; (· assumption)); assumption)); (· exact rfl); (· exact rfl))
    apply c_re
    · (apply c_fldP; (· exact rfl); (· exact rfl))
    apply c_re
    · (apply c_load; (· exact rfl); (· ((apply Ob.stays0'; (· assumption)); assumption)); (· exact rfl); (· exact rfl))
    apply c_re
    · (apply c_fldP; (· exact rfl); (· exact rfl))
    refine i_call (rOne _ _) rfl ?_
    rintro v S3 ⟨rfl, rfl⟩
    apply c_re
    · (apply c_load; (· exact rfl); (· ((apply Ob.stays0'; (· assumption)); assumption)); (· exact rfl); (· exact rfl))
    apply c_re
    · (apply c_fldP; (· exact rfl); (· exact rfl))
    apply i_add
    · exact rfl
    · exact rfl
    · omega
    refine i_call (rOne _ _) rfl ?_
    rintro v S3 ⟨rfl, rfl⟩
    by_cases h1 : c.ascii.toNat + c.ebcdic.toNat + c.ibm.toNat ≤ 1
    · cases hlc : c.lcase with
      | false =>
        apply i_add
        · exact rfl
        · exact rfl
        · omega
        apply i_leT
        · exact rfl
        · exact rfl
        · omega
        apply i_mov
        · exact tB rfl
        apply i_gT
        · exact rfl
        apply i_fld0
        · exact rfl
        apply i_gT
        · exact rfl
        apply i_load
        · exact rfl
        · ((apply Ob.stays0'; (· assumption)); assumption)
        · exact rfl
        apply i_gT
        · exact rfl
        apply i_mov
        · exact tB rfl
        simp only [hlc]
        apply i_gF
        · exact rfl
        · exact rfl
        apply i_gF
        · exact rfl
        · exact rfl
        apply i_gT
        · exact rfl
        apply i_pickF
        · exact rfl
        · exact tB rfl
        apply i_gT
        · exact rfl
        apply i_notF
        · exact rfl
        apply i_pickT
        · exact rfl
        · exact tB rfl
        apply i_mov
        · exact tB rfl
        apply i_gT
        · exact rfl
        apply i_loadN
        · exact rfl
        · ((apply Ob.stays0'; (· assumption)); assumption)
        · exact rfl
        apply i_gT
        · exact rfl
        refine i_call (rBlocks c _) rfl ?_
        rw [hB]
        rintro v S5 ⟨rfl, hst5⟩
        apply i_gT
        · exact rfl
        apply i_mov
        · exact tB rfl
        apply i_gT
        · exact rfl
        apply i_loadN
        · exact rfl
        · ((apply Ob.stays0'; (· assumption)); (apply Ob.stays0'; (· assumption)); assumption)
        · exact rfl
        apply i_gT
        · exact rfl
        refine i_call (rUnblocks c _) rfl ?_
        rintro v S6 ⟨rfl, hst6⟩
        cases hU : c.unblocks with
        | true =>
          apply i_gT
          · exact rfl
          apply i_pickT
          · exact rfl
          · exact tB rfl
          apply i_gT
          · exact rfl
          apply i_notT
          · exact rfl
          apply i_pickT
          · exact rfl
          · exact tB rfl
          apply i_mov
          · exact tB rfl
          apply i_gF
          · exact rfl
          · exact rfl
          apply i_gF
          · exact rfl
          · exact rfl
          apply i_gF
          · exact rfl
          · exact rfl
          apply i_gF
          · exact rfl
          · exact rfl
          apply i_pickF
          · exact rfl
          · exact tB rfl
          apply i_mov
          · exact tB rfl
          apply i_gF
          · exact rfl
          · exact rfl
          apply i_gF
          · exact rfl
          · exact rfl
          apply i_gF
          · exact rfl
          · exact rfl
          apply i_pickF
          · exact rfl
          · exact tB rfl
          apply i_mov
          · exact tB rfl
          refine i_nil ?_
          refine r_ret ?_
          apply q_ret1
          · exact tB rfl
          exact ⟨by rw [may_f3 hB hU], by ((refine Stays.then0 ?_ (by assumption); refine Stays.then0 ?_ (by assumption); refine Stays.then0 ?_ (by assumption); assumption))⟩
        | false =>
          by_cases h4 : (1 : Int) ≤ c.cbs
          · by_cases h5 : c.cbs ≤ 4096
            · apply i_gT
              · exact rfl
              apply i_pickT
              · exact rfl
              · exact tB rfl
              apply i_gT
              · exact rfl
              apply i_notF
              · exact rfl
              apply i_pickT
              · exact rfl
              · exact tB rfl
              apply i_mov
              · exact tB rfl
              apply i_gT
              · exact rfl
              apply i_fld0
              · exact rfl
              apply i_gT
              · exact rfl
              apply i_load
              · exact rfl
              · ((apply Ob.stays0'; (· assumption)); (apply Ob.stays0'; (· assumption)); (apply Ob.stays0'; (· assumption)); assumption)
              · exact rfl
              apply i_gT
              · exact rfl
              apply i_mov
              · exact tI rfl
              apply i_gT
              · exact rfl
              apply i_geT
              · exact rfl
              · exact rfl
              · omega
              apply i_pickT
              · exact rfl
              · exact tB rfl
              apply i_mov
              · exact tB rfl
              apply i_gT
              · exact rfl
              apply i_fld0
              · exact rfl
              apply i_gT
              · exact rfl
              apply i_load
              · exact rfl
              · ((apply Ob.stays0'; (· assumption)); (apply Ob.stays0'; (· assumption)); (apply Ob.stays0'; (· assumption)); assumption)
              · exact rfl
              apply i_gT
              · exact rfl
              apply i_leT
              · exact rfl
              · exact rfl
              · omega
              apply i_pickT
              · exact rfl
              · exact tB rfl
              apply i_mov
              · exact tB rfl
              refine i_nil ?_
              refine r_ret ?_
              apply q_ret1
              · exact tB rfl
              exact ⟨by rw [may_t h1 (.inl hlc) (.inr hU) (by rw [hl]; exact h4) h5], by ((refine Stays.then0 ?_ (by assumption); refine Stays.then0 ?_ (by assumption); refine Stays.then0 ?_ (by assumption); assumption))⟩
            · apply i_gT
              · exact rfl
              apply i_pickT
              · exact rfl
              · exact tB rfl
              apply i_gT
              · exact rfl
              apply i_notF
              · exact rfl
              apply i_pickT
              · exact rfl
              · exact tB rfl
              apply i_mov
              · exact tB rfl
              apply i_gT
              · exact rfl
              apply i_fld0
              · exact rfl
              apply i_gT
              · exact rfl
              apply i_load
              · exact rfl
              · ((apply Ob.stays0'; (· assumption)); (apply Ob.stays0'; (· assumption)); (apply Ob.stays0'; (· assumption)); assumption)
              · exact rfl
              apply i_gT
              · exact rfl
              apply i_mov
              · exact tI rfl
              apply i_gT
              · exact rfl
              apply i_geT
              · exact rfl
              · exact rfl
              · omega
              apply i_pickT
              · exact rfl
              · exact tB rfl
              apply i_mov
              · exact tB rfl
              apply i_gT
              · exact rfl
              apply i_fld0
              · exact rfl
              apply i_gT
              · exact rfl
              apply i_load
              · exact rfl
              · ((apply Ob.stays0'; (· assumption)); (apply Ob.stays0'; (· assumption)); (apply Ob.stays0'; (· assumption)); assumption)
              · exact rfl
              apply i_gT
              · exact rfl
              apply i_leF
              · exact rfl
              · exact rfl
              · omega
              apply i_pickT
              · exact rfl
              · exact tB rfl
              apply i_mov
              · exact tB rfl
              refine i_nil ?_
              refine r_ret ?_
              apply q_ret1
              · exact tB rfl
              exact ⟨by rw [may_f5 h5], by ((refine Stays.then0 ?_ (by assumption); refine Stays.then0 ?_ (by assumption); refine Stays.then0 ?_ (by assumption); assumption))⟩
          · apply i_gT
            · exact rfl
            apply i_pickT
            · exact rfl
            · exact tB rfl
            apply i_gT
            · exact rfl
            apply i_notF
            · exact rfl
            apply i_pickT
            · exact rfl
            · exact tB rfl
            apply i_mov
            · exact tB rfl
            apply i_gT
            · exact rfl
            apply i_fld0
            · exact rfl
            apply i_gT
            · exact rfl
            apply i_load
            · exact rfl
            · ((apply Ob.stays0'; (· assumption)); (apply Ob.stays0'; (· assumption)); (apply Ob.stays0'; (· assumption)); assumption)
            · exact rfl
            apply i_gT
            · exact rfl
            apply i_mov
            · exact tI rfl
            apply i_gT
            · exact rfl
            apply i_geF
            · exact rfl
            · exact rfl
            · omega
            apply i_pickT
            · exact rfl
            · exact tB rfl
            apply i_mov
            · exact tB rfl
            apply i_gF
            · exact rfl
            · exact rfl
            apply i_gF
            · exact rfl
            · exact rfl
            apply i_gF
            · exact rfl
            · exact rfl
            apply i_pickF
            · exact rfl
            · exact tB rfl
            apply i_mov
            · exact tB rfl
            refine i_nil ?_
            refine r_ret ?_
            apply q_ret1
            · exact tB rfl
            exact ⟨by rw [may_f4 (by rw [hl]; exact h4)], by ((refine Stays.then0 ?_ (by assumption); refine Stays.then0 ?_ (by assumption); refine Stays.then0 ?_ (by assumption); assumption))⟩
      | true =>
        apply i_add
        · exact rfl
        · exact rfl
        · omega
        apply i_leT
        · exact rfl
        · exact rfl
        · omega
        apply i_mov
        · exact tB rfl
        apply i_gT
        · exact rfl
        apply i_fld0
        · exact rfl
        apply i_gT
        · exact rfl
        apply i_load
        · exact rfl
        · ((apply Ob.stays0'; (· assumption)); assumption)
        · exact rfl
        apply i_gT
        · exact rfl
        apply i_mov
        · exact tB rfl
        simp only [hlc]
        cases huc : c.ucase with
        | true =>
          apply i_gT
          · exact rfl
          apply i_fld0
          · exact rfl
          apply i_gT
          · exact rfl
          apply i_load
          · exact rfl
          · ((apply Ob.stays0'; (· assumption)); assumption)
          · exact rfl
          apply i_gT
          · exact rfl
          apply i_pickT
          · exact rfl
          · exact tB rfl
          apply i_gT
          · exact rfl
          simp only [huc]
          apply i_notT
          · exact rfl
          apply i_pickT
          · exact rfl
          · exact tB rfl
          apply i_mov
          · exact tB rfl
          apply i_gF
          · exact rfl
          · exact rfl
          apply i_gF
          · exact rfl
          · exact rfl
          apply i_gF
          · exact rfl
          · exact rfl
          apply i_gU
          · exact rfl
          apply i_gU
          · exact rfl
          apply i_gF
          · exact rfl
          · exact rfl
          apply i_gF
          · exact rfl
          · exact rfl
          apply i_pickF
          · exact rfl
          · exact tB rfl
          apply i_mov
          · exact tB rfl
          apply i_gF
          · exact rfl
          · exact rfl
          apply i_gF
          · exact rfl
          · exact rfl
          apply i_gF
          · exact rfl
          · exact rfl
          apply i_gF
          · exact rfl
          · exact rfl
          apply i_pickF
          · exact rfl
          · exact tB rfl
          apply i_mov
          · exact tB rfl
          apply i_gF
          · exact rfl
          · exact rfl
          apply i_gF
          · exact rfl
          · exact rfl
          apply i_gF
          · exact rfl
          · exact rfl
          apply i_pickF
          · exact rfl
          · exact tB rfl
          apply i_mov
          · exact tB rfl
          refine i_nil ?_
          refine r_ret ?_
          apply q_ret1
          · exact tB rfl
          exact ⟨by rw [may_f2 hlc huc], by ((refine Stays.then0 ?_ (by assumption); assumption))⟩
        | false =>
          apply i_gT
          · exact rfl
          apply i_fld0
          · exact rfl
          apply i_gT
          · exact rfl
          apply i_load
          · exact rfl
          · ((apply Ob.stays0'; (· assumption)); assumption)
          · exact rfl
          apply i_gT
          · exact rfl
          apply i_pickT
          · exact rfl
          · exact tB rfl
          apply i_gT
          · exact rfl
          simp only [huc]
          apply i_notF
          · exact rfl
          apply i_pickT
          · exact rfl
          · exact tB rfl
          apply i_mov
          · exact tB rfl
          apply i_gT
          · exact rfl
          apply i_loadN
          · exact rfl
          · ((apply Ob.stays0'; (· assumption)); assumption)
          · exact rfl
          apply i_gT
          · exact rfl
          refine i_call (rBlocks c _) rfl ?_
          rw [hB]
          rintro v S5 ⟨rfl, hst5⟩
          apply i_gT
          · exact rfl
          apply i_mov
          · exact tB rfl
          apply i_gT
          · exact rfl
          apply i_loadN
          · exact rfl
          · ((apply Ob.stays0'; (· assumption)); (apply Ob.stays0'; (· assumption)); assumption)
          · exact rfl
          apply i_gT
          · exact rfl
          refine i_call (rUnblocks c _) rfl ?_
          rintro v S6 ⟨rfl, hst6⟩
          cases hU : c.unblocks with
          | true =>
            apply i_gT
            · exact rfl
            apply i_pickT
            · exact rfl
            · exact tB rfl
            apply i_gT
            · exact rfl
            apply i_notT
            · exact rfl
            apply i_pickT
            · exact rfl
            · exact tB rfl
            apply i_mov
            · exact tB rfl
            apply i_gF
            · exact rfl
            · exact rfl
            apply i_gF
            · exact rfl
            · exact rfl
            apply i_gF
            · exact rfl
            · exact rfl
            apply i_gF
            · exact rfl
            · exact rfl
            apply i_pickF
            · exact rfl
            · exact tB rfl
            apply i_mov
            · exact tB rfl
            apply i_gF
            · exact rfl
            · exact rfl
            apply i_gF
            · exact rfl
            · exact rfl
            apply i_gF
            · exact rfl
            · exact rfl
            apply i_pickF
            · exact rfl
            · exact tB rfl
            apply i_mov
            · exact tB rfl
            refine i_nil ?_
            refine r_ret ?_
            apply q_ret1
            · exact tB rfl
            exact ⟨by rw [may_f3 hB hU], by ((refine Stays.then0 ?_ (by assumption); refine Stays.then0 ?_ (by assumption); refine Stays.then0 ?_ (by assumption); assumption))⟩
          | false =>
            by_cases h4 : (1 : Int) ≤ c.cbs
            · by_cases h5 : c.cbs ≤ 4096
              · apply i_gT
                · exact rfl
                apply i_pickT
                · exact rfl
                · exact tB rfl
                apply i_gT
                · exact rfl
                apply i_notF
                · exact rfl
                apply i_pickT
                · exact rfl
                · exact tB rfl
                apply i_mov
                · exact tB rfl
                apply i_gT
                · exact rfl
                apply i_fld0
                · exact rfl
                apply i_gT
                · exact rfl
                apply i_load
                · exact rfl
                · ((apply Ob.stays0'; (· assumption)); (apply Ob.stays0'; (· assumption)); (apply Ob.stays0'; (· assumption)); assumption)
                · exact rfl
                apply i_gT
                · exact rfl
                apply i_mov
                · exact tI rfl
                apply i_gT
                · exact rfl
                apply i_geT
                · exact rfl
                · exact rfl
                · omega
                apply i_pickT
                · exact rfl
                · exact tB rfl
                apply i_mov
                · exact tB rfl
                apply i_gT
                · exact rfl
                apply i_fld0
                · exact rfl
                apply i_gT
                · exact rfl
                apply i_load
                · exact rfl
                · ((apply Ob.stays0'; (· assumption)); (apply Ob.stays0'; (· assumption)); (apply Ob.stays0'; (· assumption)); assumption)
                · exact rfl
                apply i_gT
                · exact rfl
                apply i_leT
                · exact rfl
                · exact rfl
                · omega
                apply i_pickT
                · exact rfl
                · exact tB rfl
                apply i_mov
                · exact tB rfl
                refine i_nil ?_
                refine r_ret ?_
                apply q_ret1
                · exact tB rfl
                exact ⟨by rw [may_t h1 (.inr huc) (.inr hU) (by rw [hl]; exact h4) h5], by ((refine Stays.then0 ?_ (by assumption); refine Stays.then0 ?_ (by assumption); refine Stays.then0 ?_ (by assumption); assumption))⟩
              · apply i_gT
                · exact rfl
                apply i_pickT
                · exact rfl
                · exact tB rfl
                apply i_gT
                · exact rfl
                apply i_notF
                · exact rfl
                apply i_pickT
                · exact rfl
                · exact tB rfl
                apply i_mov
                · exact tB rfl
                apply i_gT
                · exact rfl
                apply i_fld0
                · exact rfl
                apply i_gT
                · exact rfl
                apply i_load
                · exact rfl
                · ((apply Ob.stays0'; (· assumption)); (apply Ob.stays0'; (· assumption)); (apply Ob.stays0'; (· assumption)); assumption)
                · exact rfl
                apply i_gT
                · exact rfl
                apply i_mov
                · exact tI rfl
                apply i_gT
                · exact rfl
                apply i_geT
                · exact rfl
                · exact rfl
                · omega
                apply i_pickT
                · exact rfl
                · exact tB rfl
                apply i_mov
                · exact tB rfl
                apply i_gT
                · exact rfl
                apply i_fld0
                · exact rfl
                apply i_gT
                · exact rfl
                apply i_load
                · exact rfl
                · ((apply Ob.stays0'; (· assumption)); (apply Ob.stays0'; (· assumption)); (apply Ob.stays0'; (· assumption)); assumption)
                · exact rfl
                apply i_gT
                · exact rfl
                apply i_leF
                · exact rfl
                · exact rfl
                · omega
                apply i_pickT
                · exact rfl
                · exact tB rfl
                apply i_mov
                · exact tB rfl
                refine i_nil ?_
                refine r_ret ?_
                apply q_ret1
                · exact tB rfl
                exact ⟨by rw [may_f5 h5], by ((refine Stays.then0 ?_ (by assumption); refine Stays.then0 ?_ (by assumption); refine Stays.then0 ?_ (by assumption); assumption))⟩
            · apply i_gT
              · exact rfl
              apply i_pickT
              · exact rfl
              · exact tB rfl
              apply i_gT
              · exact rfl
              apply i_notF
              · exact rfl
              apply i_pickT
              · exact rfl
              · exact tB rfl
              apply i_mov
              · exact tB rfl
              apply i_gT
              · exact rfl
              apply i_fld0
              · exact rfl
              apply i_gT
              · exact rfl
              apply i_load
              · exact rfl
              · ((apply Ob.stays0'; (· assumption)); (apply Ob.stays0'; (· assumption)); (apply Ob.stays0'; (· assumption)); assumption)
              · exact rfl
              apply i_gT
              · exact rfl
              apply i_mov
              · exact tI rfl
              apply i_gT
              · exact rfl
              apply i_geF
              · exact rfl
              · exact rfl
              · omega
              apply i_pickT
              · exact rfl
              · exact tB rfl
              apply i_mov
              · exact tB rfl
              apply i_gF
              · exact rfl
              · exact rfl
              apply i_gF
              · exact rfl
              · exact rfl
              apply i_gF
              · exact rfl
              · exact rfl
              apply i_pickF
              · exact rfl
              · exact tB rfl
              apply i_mov
              · exact tB rfl
              refine i_nil ?_
              refine r_ret ?_
              apply q_ret1
              · exact tB rfl
              exact ⟨by rw [may_f4 (by rw [hl]; exact h4)], by ((refine Stays.then0 ?_ (by assumption); refine Stays.then0 ?_ (by assumption); refine Stays.then0 ?_ (by assumption); assumption))⟩
    · apply i_add
      · exact rfl
      · exact rfl
      · omega
      apply i_leF
      · exact rfl
      · exact rfl
      · omega
      apply i_mov
      · exact tB rfl
      apply i_gF
      · exact rfl
      · exact rfl
      apply i_gF
      · exact rfl
      · exact rfl
      apply i_gF
      · exact rfl
      · exact rfl
      apply i_gU
      · exact rfl
      apply i_gU
      · exact rfl
      apply i_gF
      · exact rfl
      · exact rfl
      apply i_gF
      · exact rfl
      · exact rfl
      apply i_pickF
      · exact rfl
      · exact tB rfl
      apply i_mov
      · exact tB rfl
      apply i_gF
      · exact rfl
      · exact rfl
      apply i_gF
      · exact rfl
      · exact rfl
      apply i_gF
      · exact rfl
      · exact rfl
      apply i_gU
      · exact rfl
      apply i_gU
      · exact rfl
      apply i_gF
      · exact rfl
      · exact rfl
      apply i_gF
      · exact rfl
      · exact rfl
      apply i_pickF
      · exact rfl
      · exact tB rfl
      apply i_mov
      · exact tB rfl
      apply i_gF
      · exact rfl
      · exact rfl
      apply i_gF
      · exact rfl
      · exact rfl
      apply i_gF
      · exact rfl
      · exact rfl
      apply i_gF
      · exact rfl
      · exact rfl
      apply i_pickF
      · exact rfl
      · exact tB rfl
      apply i_mov
      · exact tB rfl
      apply i_gF
      · exact rfl
      · exact rfl
      apply i_gF
      · exact rfl
      · exact rfl
      apply i_gF
      · exact rfl
      · exact rfl
      apply i_pickF
      · exact rfl
      · exact tB rfl
      apply i_mov
      · exact tB rfl
      refine i_nil ?_
      refine r_ret ?_
      apply q_ret1
      · exact tB rfl
      exact ⟨by rw [may_f1 h1], by ((refine Stays.then0 ?_ (by assumption); assumption))⟩
  · have hl : c.least = 1 := (by simp [CV.least, hU])
    refine r_reg ?_
    apply i_boxA
    · exact rfl
    apply i_mov
    · exact tB rfl
    refine i_nil ?_
    refine r_reg ?_
    apply i_loadN
    · exact rfl
    · exact Ob.new
    · exact rfl
    have hoc : (S.push c.cells).objs[S.objs.length]? = some c.cells := Ob.new
    have hst0 : Stays S (S.push c.cells) [] := by (refine Stays.push ?_; exact Stays.refl _ _)
    generalize S.objs.length = oc at hoc ⊢
    generalize S.push c.cells = S0' at hoc hst0 ⊢
    refine i_call (rBlocks c _) rfl ?_
    rw [hB]
    rintro v S1 ⟨rfl, hst1⟩
    apply i_mov
    · exact tB rfl
    apply i_gT
    · exact rfl
    apply i_loadN
    · exact rfl
    · ((apply Ob.stays0'; (· assumption)); assumption)
    · exact rfl
    apply i_gT
    · exact rfl
    refine i_call (rUnblocks c _) rfl ?_
    rw [hU]
    rintro v S2 ⟨rfl, hst2⟩
    apply i_pickF
    · exact rfl
    · exact tB rfl
    refine i_call (rOne _ _) rfl ?_
    rintro v S3 ⟨rfl, rfl⟩
    simp only [Bool.toNat_true]
    apply i_mov
    · exact tI rfl
    refine i_nil ?_
    refine r_reg ?_
    apply i_fld0
    · exact rfl
    apply i_load
    · exact rfl
    · ((apply Ob.stays0'; (· assumption)); (apply Ob.stays0'; (· assumption)); assumption)
    · exact rfl
    apply i_fld0
    · exact rfl
    apply i_load
    · exact rfl
    · ((apply Ob.stays0'; (· assumption)); (apply Ob.stays0'; (· assumption)); assumption)
    · exact rfl
    apply i_fld0
    · exact rfl
    apply i_load
    · exact rfl
    · ((apply Ob.stays0'; (· assumption)); (apply Ob.stays0'; (· assumption)); assumption)
    · exact rfl
    refine i_call (rOne _ _) rfl ?_
    rintro v S3 ⟨rfl, rfl⟩
    apply c_re
    · (apply c_load; (· exact rfl); (· ((apply Ob.stays0'; (· assumption)); (apply Ob.stays0'; (· assumption)); assumption)); (· exact rfl); (· exact rfl))
    apply c_re
    · (apply c_fldP; (· exact rfl); (· exact rfl))
    apply c_re
    · (apply c_load; (· exact rfl); (· ((apply Ob.stays0'; (· assumption)); (apply Ob.stays0'; (· assumption)); assumption)); (· exact rfl); (· exact rfl))
    apply c_re
    · (apply c_fldP; (· exact rfl); (· exact rfl))
    refine i_call (rOne _ _) rfl ?_
    rintro v S3 ⟨rfl, rfl⟩
    apply c_re
    · (apply c_load; (· exact rfl); (· ((apply Ob.stays0'; (· assumption)); (apply Ob.stays0'; (· assumption)); assumption)); (· exact rfl); (· exact rfl))
    apply c_re
    · (apply c_fldP; (· exact rfl); (· exact rfl))
    apply i_add
    · exact rfl
    · exact rfl
    · omega
    refine i_call (rOne _ _) rfl ?_
    rintro v S3 ⟨rfl, rfl⟩
    by_cases h1 : c.ascii.toNat + c.ebcdic.toNat + c.ibm.toNat ≤ 1
    · cases hlc : c.lcase with
      | false =>
        apply i_add
        · exact rfl
        · exact rfl
        · omega
        apply i_leT
        · exact rfl
        · exact rfl
        · omega
        apply i_mov
        · exact tB rfl
        apply i_gT
        · exact rfl
        apply i_fld0
        · exact rfl
        apply i_gT
        · exact rfl
        apply i_load
        · exact rfl
        · ((apply Ob.stays0'; (· assumption)); (apply Ob.stays0'; (· assumption)); assumption)
        · exact rfl
        apply i_gT
        · exact rfl
        apply i_mov
        · exact tB rfl
        simp only [hlc]
        apply i_gF
        · exact rfl
        · exact rfl
        apply i_gF
        · exact rfl
        · exact rfl
        apply i_gT
        · exact rfl
        apply i_pickF
        · exact rfl
        · exact tB rfl
        apply i_gT
        · exact rfl
        apply i_notF
        · exact rfl
        apply i_pickT
        · exact rfl
        · exact tB rfl
        apply i_mov
        · exact tB rfl
        apply i_gT
        · exact rfl
        apply i_loadN
        · exact rfl
        · ((apply Ob.stays0'; (· assumption)); (apply Ob.stays0'; (· assumption)); assumption)
        · exact rfl
        apply i_gT
        · exact rfl
        refine i_call (rBlocks c _) rfl ?_
        rw [hB]
        rintro v S5 ⟨rfl, hst5⟩
        by_cases h4 : (1 : Int) ≤ c.cbs
        · by_cases h5 : c.cbs ≤ 4096
          · apply i_gT
            · exact rfl
            apply i_mov
            · exact tB rfl
            apply i_gF
            · exact rfl
            · exact rfl
            apply i_gF
            · exact rfl
            · exact rfl
            apply i_gT
            · exact rfl
            apply i_pickF
            · exact rfl
            · exact tB rfl
            apply i_gT
            · exact rfl
            apply i_notF
            · exact rfl
            apply i_pickT
            · exact rfl
            · exact tB rfl
            apply i_mov
            · exact tB rfl
            apply i_gT
            · exact rfl
            apply i_fld0
            · exact rfl
            apply i_gT
            · exact rfl
            apply i_load
            · exact rfl
            · ((apply Ob.stays0'; (· assumption)); (apply Ob.stays0'; (· assumption)); (apply Ob.stays0'; (· assumption)); assumption)
            · exact rfl
            apply i_gT
            · exact rfl
            apply i_mov
            · exact tI rfl
            apply i_gT
            · exact rfl
            apply i_geT
            · exact rfl
            · exact rfl
            · omega
            apply i_pickT
            · exact rfl
            · exact tB rfl
            apply i_mov
            · exact tB rfl
            apply i_gT
            · exact rfl
            apply i_fld0
            · exact rfl
            apply i_gT
            · exact rfl
            apply i_load
            · exact rfl
            · ((apply Ob.stays0'; (· assumption)); (apply Ob.stays0'; (· assumption)); (apply Ob.stays0'; (· assumption)); assumption)
            · exact rfl
            apply i_gT
            · exact rfl
            apply i_leT
            · exact rfl
            · exact rfl
            · omega
            apply i_pickT
            · exact rfl
            · exact tB rfl
            apply i_mov
            · exact tB rfl
            refine i_nil ?_
            refine r_ret ?_
            apply q_ret1
            · exact tB rfl
            exact ⟨by rw [may_t h1 (.inl hlc) (.inl hB) (by rw [hl]; exact h4) h5], by ((refine Stays.then0 ?_ (by assumption); refine Stays.then0 ?_ (by assumption); refine Stays.then0 ?_ (by assumption); assumption))⟩
          · apply i_gT
            · exact rfl
            apply i_mov
            · exact tB rfl
            apply i_gF
            · exact rfl
            · exact rfl
            apply i_gF
            · exact rfl
            · exact rfl
            apply i_gT
            · exact rfl
            apply i_pickF
            · exact rfl
            · exact tB rfl
            apply i_gT
            · exact rfl
            apply i_notF
            · exact rfl
            apply i_pickT
            · exact rfl
            · exact tB rfl
            apply i_mov
            · exact tB rfl
            apply i_gT
            · exact rfl
            apply i_fld0
            · exact rfl
            apply i_gT
            · exact rfl
            apply i_load
            · exact rfl
            · ((apply Ob.stays0'; (· assumption)); (apply Ob.stays0'; (· assumption)); (apply Ob.stays0'; (· assumption)); assumption)
            · exact rfl
            apply i_gT
            · exact rfl
            apply i_mov
            · exact tI rfl
            apply i_gT
            · exact rfl
            apply i_geT
            · exact rfl
            · exact rfl
            · omega
            apply i_pickT
            · exact rfl
            · exact tB rfl
            apply i_mov
            · exact tB rfl
            apply i_gT
            · exact rfl
            apply i_fld0
            · exact rfl
            apply i_gT
            · exact rfl
            apply i_load
            · exact rfl
            · ((apply Ob.stays0'; (· assumption)); (apply Ob.stays0'; (· assumption)); (apply Ob.stays0'; (· assumption)); assumption)
            · exact rfl
            apply i_gT
            · exact rfl
            apply i_leF
            · exact rfl
            · exact rfl
            · omega
            apply i_pickT
            · exact rfl
            · exact tB rfl
            apply i_mov
            · exact tB rfl
            refine i_nil ?_
            refine r_ret ?_
            apply q_ret1
            · exact tB rfl
            exact ⟨by rw [may_f5 h5], by ((refine Stays.then0 ?_ (by assumption); refine Stays.then0 ?_ (by assumption); refine Stays.then0 ?_ (by assumption); assumption))⟩
        · apply i_gT
          · exact rfl
          apply i_mov
          · exact tB rfl
          apply i_gF
          · exact rfl
          · exact rfl
          apply i_gF
          · exact rfl
          · exact rfl
          apply i_gT
          · exact rfl
          apply i_pickF
          · exact rfl
          · exact tB rfl
          apply i_gT
          · exact rfl
          apply i_notF
          · exact rfl
          apply i_pickT
          · exact rfl
          · exact tB rfl
          apply i_mov
          · exact tB rfl
          apply i_gT
          · exact rfl
          apply i_fld0
          · exact rfl
          apply i_gT
          · exact rfl
          apply i_load
          · exact rfl
          · ((apply Ob.stays0'; (· assumption)); (apply Ob.stays0'; (· assumption)); (apply Ob.stays0'; (· assumption)); assumption)
          · exact rfl
          apply i_gT
          · exact rfl
          apply i_mov
          · exact tI rfl
          apply i_gT
          · exact rfl
          apply i_geF
          · exact rfl
          · exact rfl
          · omega
          apply i_pickT
          · exact rfl
          · exact tB rfl
          apply i_mov
          · exact tB rfl
          apply i_gF
          · exact rfl
          · exact rfl
          apply i_gF
          · exact rfl
          · exact rfl
          apply i_gF
          · exact rfl
          · exact rfl
          apply i_pickF
          · exact rfl
          · exact tB rfl
          apply i_mov
          · exact tB rfl
          refine i_nil ?_
          refine r_ret ?_
          apply q_ret1
          · exact tB rfl
          exact ⟨by rw [may_f4 (by rw [hl]; exact h4)], by ((refine Stays.then0 ?_ (by assumption); refine Stays.then0 ?_ (by assumption); refine Stays.then0 ?_ (by assumption); assumption))⟩
      | true =>
        apply i_add
        · exact rfl
        · exact rfl
        · omega
        apply i_leT
        · exact rfl
        · exact rfl
        · omega
        apply i_mov
        · exact tB rfl
        apply i_gT
        · exact rfl
        apply i_fld0
        · exact rfl
        apply i_gT
        · exact rfl
        apply i_load
        · exact rfl
        · ((apply Ob.stays0'; (· assumption)); (apply Ob.stays0'; (· assumption)); assumption)
        · exact rfl
        apply i_gT
        · exact rfl
        apply i_mov
        · exact tB rfl
        simp only [hlc]
        cases huc : c.ucase with
        | true =>
          apply i_gT
          · exact rfl
          apply i_fld0
          · exact rfl
          apply i_gT
          · exact rfl
          apply i_load
          · exact rfl
          · ((apply Ob.stays0'; (· assumption)); (apply Ob.stays0'; (· assumption)); assumption)
          · exact rfl
          apply i_gT
          · exact rfl
          apply i_pickT
          · exact rfl
          · exact tB rfl
          apply i_gT
          · exact rfl
          simp only [huc]
          apply i_notT
          · exact rfl
          apply i_pickT
          · exact rfl
          · exact tB rfl
          apply i_mov
          · exact tB rfl
          apply i_gF
          · exact rfl
          · exact rfl
          apply i_gF
          · exact rfl
          · exact rfl
          apply i_gF
          · exact rfl
          · exact rfl
          apply i_gU
          · exact rfl
          apply i_gU
          · exact rfl
          apply i_gF
          · exact rfl
          · exact rfl
          apply i_gF
          · exact rfl
          · exact rfl
          apply i_pickF
          · exact rfl
          · exact tB rfl
          apply i_mov
          · exact tB rfl
          apply i_gF
          · exact rfl
          · exact rfl
          apply i_gF
          · exact rfl
          · exact rfl
          apply i_gF
          · exact rfl
          · exact rfl
          apply i_gF
          · exact rfl
          · exact rfl
          apply i_pickF
          · exact rfl
          · exact tB rfl
          apply i_mov
          · exact tB rfl
          apply i_gF
          · exact rfl
          · exact rfl
          apply i_gF
          · exact rfl
          · exact rfl
          apply i_gF
          · exact rfl
          · exact rfl
          apply i_pickF
          · exact rfl
          · exact tB rfl
          apply i_mov
          · exact tB rfl
          refine i_nil ?_
          refine r_ret ?_
          apply q_ret1
          · exact tB rfl
          exact ⟨by rw [may_f2 hlc huc], by ((refine Stays.then0 ?_ (by assumption); refine Stays.then0 ?_ (by assumption); assumption))⟩
        | false =>
          apply i_gT
          · exact rfl
          apply i_fld0
          · exact rfl
          apply i_gT
          · exact rfl
          apply i_load
          · exact rfl
          · ((apply Ob.stays0'; (· assumption)); (apply Ob.stays0'; (· assumption)); assumption)
          · exact rfl
          apply i_gT
          · exact rfl
          apply i_pickT
          · exact rfl
          · exact tB rfl
          apply i_gT
          · exact rfl
          simp only [huc]
          apply i_notF
          · exact rfl
          apply i_pickT
          · exact rfl
          · exact tB rfl
          apply i_mov
          · exact tB rfl
          apply i_gT
          · exact rfl
          apply i_loadN
          · exact rfl
          · ((apply Ob.stays0'; (· assumption)); (apply Ob.stays0'; (· assumption)); assumption)
          · exact rfl
          apply i_gT
          · exact rfl
          refine i_call (rBlocks c _) rfl ?_
          rw [hB]
          rintro v S5 ⟨rfl, hst5⟩
          by_cases h4 : (1 : Int) ≤ c.cbs
          · by_cases h5 : c.cbs ≤ 4096
            · apply i_gT
              · exact rfl
              apply i_mov
              · exact tB rfl
              apply i_gF
              · exact rfl
              · exact rfl
              apply i_gF
              · exact rfl
              · exact rfl
              apply i_gT
              · exact rfl
              apply i_pickF
              · exact rfl
              · exact tB rfl
              apply i_gT
              · exact rfl
              apply i_notF
              · exact rfl
              apply i_pickT
              · exact rfl
              · exact tB rfl
              apply i_mov
              · exact tB rfl
              apply i_gT
              · exact rfl
              apply i_fld0
              · exact rfl
              apply i_gT
              · exact rfl
              apply i_load
              · exact rfl
              · ((apply Ob.stays0'; (· assumption)); (apply Ob.stays0'; (· assumption)); (apply Ob.stays0'; (· assumption)); assumption)
              · exact rfl
              apply i_gT
              · exact rfl
              apply i_mov
              · exact tI rfl
              apply i_gT
              · exact rfl
              apply i_geT
              · exact rfl
              · exact rfl
              · omega
              apply i_pickT
              · exact rfl
              · exact tB rfl
              apply i_mov
              · exact tB rfl
              apply i_gT
              · exact rfl
              apply i_fld0
              · exact rfl
              apply i_gT
              · exact rfl
              apply i_load
              · exact rfl
              · ((apply Ob.stays0'; (· assumption)); (apply Ob.stays0'; (· assumption)); (apply Ob.stays0'; (· assumption)); assumption)
              · exact rfl
              apply i_gT
              · exact rfl
              apply i_leT
              · exact rfl
              · exact rfl
              · omega
              apply i_pickT
              · exact rfl
              · exact tB rfl
              apply i_mov
              · exact tB rfl
              refine i_nil ?_
              refine r_ret ?_
              apply q_ret1
              · exact tB rfl
              exact ⟨by rw [may_t h1 (.inr huc) (.inl hB) (by rw [hl]; exact h4) h5], by ((refine Stays.then0 ?_ (by assumption); refine Stays.then0 ?_ (by assumption); refine Stays.then0 ?_ (by assumption); assumption))⟩
            · apply i_gT
              · exact rfl
              apply i_mov
              · exact tB rfl
              apply i_gF
              · exact rfl
              · exact rfl
              apply i_gF
              · exact rfl
              · exact rfl
              apply i_gT
              · exact rfl
              apply i_pickF
              · exact rfl
              · exact tB rfl
              apply i_gT
              · exact rfl
              apply i_notF
              · exact rfl
              apply i_pickT
              · exact rfl
              · exact tB rfl
              apply i_mov
              · exact tB rfl
              apply i_gT
              · exact rfl
              apply i_fld0
              · exact rfl
              apply i_gT
              · exact rfl
              apply i_load
              · exact rfl
              · ((apply Ob.stays0'; (· assumption)); (apply Ob.stays0'; (· assumption)); (apply Ob.stays0'; (· assumption)); assumption)
              · exact rfl
              apply i_gT
              · exact rfl
              apply i_mov
              · exact tI rfl
              apply i_gT
              · exact rfl
              apply i_geT
              · exact rfl
              · exact rfl
              · omega
              apply i_pickT
              · exact rfl
              · exact tB rfl
              apply i_mov
              · exact tB rfl
              apply i_gT
              · exact rfl
              apply i_fld0
              · exact rfl
              apply i_gT
              · exact rfl
              apply i_load
              · exact rfl
              · ((apply Ob.stays0'; (· assumption)); (apply Ob.stays0'; (· assumption)); (apply Ob.stays0'; (· assumption)); assumption)
              · exact rfl
              apply i_gT
              · exact rfl
              apply i_leF
              · exact rfl
              · exact rfl
              · omega
              apply i_pickT
              · exact rfl
              · exact tB rfl
              apply i_mov
              · exact tB rfl
              refine i_nil ?_
              refine r_ret ?_
              apply q_ret1
              · exact tB rfl
              exact ⟨by rw [may_f5 h5], by ((refine Stays.then0 ?_ (by assumption); refine Stays.then0 ?_ (by assumption); refine Stays.then0 ?_ (by assumption); assumption))⟩
          · apply i_gT
            · exact rfl
            apply i_mov
            · exact tB rfl
            apply i_gF
            · exact rfl
            · exact rfl
            apply i_gF
            · exact rfl
            · exact rfl
            apply i_gT
            · exact rfl
            apply i_pickF
            · exact rfl
            · exact tB rfl
            apply i_gT
            · exact rfl
            apply i_notF
            · exact rfl
            apply i_pickT
            · exact rfl
            · exact tB rfl
            apply i_mov
            · exact tB rfl
            apply i_gT
            · exact rfl
            apply i_fld0
            · exact rfl
            apply i_gT
            · exact rfl
            apply i_load
            · exact rfl
            · ((apply Ob.stays0'; (· assumption)); (apply Ob.stays0'; (· assumption)); (apply Ob.stays0'; (· assumption)); assumption)
            · exact rfl
            apply i_gT
            · exact rfl
            apply i_mov
            · exact tI rfl
            apply i_gT
            · exact rfl
            apply i_geF
            · exact rfl
            · exact rfl
            · omega
            apply i_pickT
            · exact rfl
            · exact tB rfl
            apply i_mov
            · exact tB rfl
            apply i_gF
            · exact rfl
            · exact rfl
            apply i_gF
            · exact rfl
            · exact rfl
            apply i_gF
            · exact rfl
            · exact rfl
            apply i_pickF
            · exact rfl
            · exact tB rfl
            apply i_mov
            · exact tB rfl
            refine i_nil ?_
            refine r_ret ?_
            apply q_ret1
            · exact tB rfl
            exact ⟨by rw [may_f4 (by rw [hl]; exact h4)], by ((refine Stays.then0 ?_ (by assumption); refine Stays.then0 ?_ (by assumption); refine Stays.then0 ?_ (by assumption); assumption))⟩
    · apply i_add
      · exact rfl
      · exact rfl
      · omega
      apply i_leF
      · exact rfl
      · exact rfl
      · omega
      apply i_mov
      · exact tB rfl
      apply i_gF
      · exact rfl
      · exact rfl
      apply i_gF
      · exact rfl
      · exact rfl
      apply i_gF
      · exact rfl
      · exact rfl
      apply i_gU
      · exact rfl
      apply i_gU
      · exact rfl
      apply i_gF
      · exact rfl
      · exact rfl
      apply i_gF
      · exact rfl
      · exact rfl
      apply i_pickF
      · exact rfl
      · exact tB rfl
      apply i_mov
      · exact tB rfl
      apply i_gF
      · exact rfl
      · exact rfl
      apply i_gF
      · exact rfl
      · exact rfl
      apply i_gF
      · exact rfl
      · exact rfl
      apply i_gU
      · exact rfl
      apply i_gU
      · exact rfl
      apply i_gF
      · exact rfl
      · exact rfl
      apply i_gF
      · exact rfl
      · exact rfl
      apply i_pickF
      · exact rfl
      · exact tB rfl
      apply i_mov
      · exact tB rfl
      apply i_gF
      · exact rfl
      · exact rfl
      apply i_gF
      · exact rfl
      · exact rfl
      apply i_gF
      · exact rfl
      · exact rfl
      apply i_gF
      · exact rfl
      · exact rfl
      apply i_pickF
      · exact rfl
      · exact tB rfl
      apply i_mov
      · exact tB rfl
      apply i_gF
      · exact rfl
      · exact rfl
      apply i_gF
      · exact rfl
      · exact rfl
      apply i_gF
      · exact rfl
      · exact rfl
      apply i_pickF
      · exact rfl
      · exact tB rfl
      apply i_mov
      · exact tB rfl
      refine i_nil ?_
      refine r_ret ?_
      apply q_ret1
      · exact tB rfl
      exact ⟨by rw [may_f1 h1], by ((refine Stays.then0 ?_ (by assumption); refine Stays.then0 ?_ (by assumption); assumption))⟩
  · have hl : c.least = 0 := (by simp [CV.least, hB, hU])
    refine r_reg ?_
    apply i_boxA
    · exact rfl
    apply i_mov
    · exact tB rfl
    refine i_nil ?_
    refine r_reg ?_
    apply i_loadN
    · exact rfl
    · exact Ob.new
    · exact rfl
    have hoc : (S.push c.cells).objs[S.objs.length]? = some c.cells := Ob.new
    have hst0 : Stays S (S.push c.cells) [] := by (refine Stays.push ?_; exact Stays.refl _ _)
    generalize S.objs.length = oc at hoc ⊢
    generalize S.push c.cells = S0' at hoc hst0 ⊢
    refine i_call (rBlocks c _) rfl ?_
    rw [hB]
    rintro v S1 ⟨rfl, hst1⟩
    apply i_mov
    · exact tB rfl
    apply i_gT
    · exact rfl
    apply i_loadN
    · exact rfl
    · ((apply Ob.stays0'; (· assumption)); assumption)
    · exact rfl
    apply i_gT
    · exact rfl
    refine i_call (rUnblocks c _) rfl ?_
    rw [hU]
    rintro v S2 ⟨rfl, hst2⟩
    apply i_pickF
    · exact rfl
    · exact tB rfl
    refine i_call (rOne _ _) rfl ?_
    rintro v S3 ⟨rfl, rfl⟩
    simp only [Bool.toNat_false]
    apply i_mov
    · exact tI rfl
    refine i_nil ?_
    refine r_reg ?_
    apply i_fld0
    · exact rfl
    apply i_load
    · exact rfl
    · ((apply Ob.stays0'; (· assumption)); (apply Ob.stays0'; (· assumption)); assumption)
    · exact rfl
    apply i_fld0
    · exact rfl
    apply i_load
    · exact rfl
    · ((apply Ob.stays0'; (· assumption)); (apply Ob.stays0'; (· assumption)); assumption)
    · exact rfl
    apply i_fld0
    · exact rfl
    apply i_load
    · exact rfl
    · ((apply Ob.stays0'; (· assumption)); (apply Ob.stays0'; (· assumption)); assumption)
    · exact rfl
    refine i_call (rOne _ _) rfl ?_
    rintro v S3 ⟨rfl, rfl⟩
    apply c_re
    · (apply c_load; (· exact rfl); (· ((apply Ob.stays0'; (· assumption)); (apply Ob.stays0'; (· assumption)); assumption)); (· exact rfl); (· exact rfl))
    apply c_re
    · (apply c_fldP; (· exact rfl); (· exact rfl))
    apply c_re
    · (apply c_load; (· exact rfl); (· ((apply Ob.stays0'; (· assumption)); (apply Ob.stays0'; (· assumption)); assumption)); (· exact rfl); (· exact rfl))
    apply c_re
    · (apply c_fldP; (· exact rfl); (· exact rfl))
    refine i_call (rOne _ _) rfl ?_
    rintro v S3 ⟨rfl, rfl⟩
    apply c_re
    · (apply c_load; (· exact rfl); (· ((apply Ob.stays0'; (· assumption)); (apply Ob.stays0'; (· assumption)); assumption)); (· exact rfl); (· exact rfl))
    apply c_re
    · (apply c_fldP; (· exact rfl); (· exact rfl))
    apply i_add
    · exact rfl
    · exact rfl
    · omega
    refine i_call (rOne _ _) rfl ?_
    rintro v S3 ⟨rfl, rfl⟩
    by_cases h1 : c.ascii.toNat + c.ebcdic.toNat + c.ibm.toNat ≤ 1
    · cases hlc : c.lcase with
      | false =>
        apply i_add
        · exact rfl
        · exact rfl
        · omega
        apply i_leT
        · exact rfl
        · exact rfl
        · omega
        apply i_mov
        · exact tB rfl
        apply i_gT
        · exact rfl
        apply i_fld0
        · exact rfl
        apply i_gT
        · exact rfl
        apply i_load
        · exact rfl
        · ((apply Ob.stays0'; (· assumption)); (apply Ob.stays0'; (· assumption)); assumption)
        · exact rfl
        apply i_gT
        · exact rfl
        apply i_mov
        · exact tB rfl
        simp only [hlc]
        apply i_gF
        · exact rfl
        · exact rfl
        apply i_gF
        · exact rfl
        · exact rfl
        apply i_gT
        · exact rfl
        apply i_pickF
        · exact rfl
        · exact tB rfl
        apply i_gT
        · exact rfl
        apply i_notF
        · exact rfl
        apply i_pickT
        · exact rfl
        · exact tB rfl
        apply i_mov
        · exact tB rfl
        apply i_gT
        · exact rfl
        apply i_loadN
        · exact rfl
        · ((apply Ob.stays0'; (· assumption)); (apply Ob.stays0'; (· assumption)); assumption)
        · exact rfl
        apply i_gT
        · exact rfl
        refine i_call (rBlocks c _) rfl ?_
        rw [hB]
        rintro v S5 ⟨rfl, hst5⟩
        by_cases h4 : (0 : Int) ≤ c.cbs
        · by_cases h5 : c.cbs ≤ 4096
          · apply i_gT
            · exact rfl
            apply i_mov
            · exact tB rfl
            apply i_gF
            · exact rfl
            · exact rfl
            apply i_gF
            · exact rfl
            · exact rfl
            apply i_gT
            · exact rfl
            apply i_pickF
            · exact rfl
            · exact tB rfl
            apply i_gT
            · exact rfl
            apply i_notF
            · exact rfl
            apply i_pickT
            · exact rfl
            · exact tB rfl
            apply i_mov
            · exact tB rfl
            apply i_gT
            · exact rfl
            apply i_fld0
            · exact rfl
            apply i_gT
            · exact rfl
            apply i_load
            · exact rfl
            · ((apply Ob.stays0'; (· assumption)); (apply Ob.stays0'; (· assumption)); (apply Ob.stays0'; (· assumption)); assumption)
            · exact rfl
            apply i_gT
            · exact rfl
            apply i_mov
            · exact tI rfl
            apply i_gT
            · exact rfl
            apply i_geT
            · exact rfl
            · exact rfl
            · omega
            apply i_pickT
            · exact rfl
            · exact tB rfl
            apply i_mov
            · exact tB rfl
            apply i_gT
            · exact rfl
            apply i_fld0
            · exact rfl
            apply i_gT
            · exact rfl
            apply i_load
            · exact rfl
            · ((apply Ob.stays0'; (· assumption)); (apply Ob.stays0'; (· assumption)); (apply Ob.stays0'; (· assumption)); assumption)
            · exact rfl
            apply i_gT
            · exact rfl
            apply i_leT
            · exact rfl
            · exact rfl
            · omega
            apply i_pickT
            · exact rfl
            · exact tB rfl
            apply i_mov
            · exact tB rfl
            refine i_nil ?_
            refine r_ret ?_
            apply q_ret1
            · exact tB rfl
            exact ⟨by rw [may_t h1 (.inl hlc) (.inl hB) (by rw [hl]; exact h4) h5], by ((refine Stays.then0 ?_ (by assumption); refine Stays.then0 ?_ (by assumption); refine Stays.then0 ?_ (by assumption); assumption))⟩
          · apply i_gT
            · exact rfl
            apply i_mov
            · exact tB rfl
            apply i_gF
            · exact rfl
            · exact rfl
            apply i_gF
            · exact rfl
            · exact rfl
            apply i_gT
            · exact rfl
            apply i_pickF
            · exact rfl
            · exact tB rfl
            apply i_gT
            · exact rfl
            apply i_notF
            · exact rfl
            apply i_pickT
            · exact rfl
            · exact tB rfl
            apply i_mov
            · exact tB rfl
            apply i_gT
            · exact rfl
            apply i_fld0
            · exact rfl
            apply i_gT
            · exact rfl
            apply i_load
            · exact rfl
            · ((apply Ob.stays0'; (· assumption)); (apply Ob.stays0'; (· assumption)); (apply Ob.stays0'; (· assumption)); assumption)
            · exact rfl
            apply i_gT
            · exact rfl
            apply i_mov
            · exact tI rfl
            apply i_gT
            · exact rfl
            apply i_geT
            · exact rfl
            · exact rfl
            · omega
            apply i_pickT
            · exact rfl
            · exact tB rfl
            apply i_mov
            · exact tB rfl
            apply i_gT
            · exact rfl
            apply i_fld0
            · exact rfl
            apply i_gT
            · exact rfl
            apply i_load
            · exact rfl
            · ((apply Ob.stays0'; (· assumption)); (apply Ob.stays0'; (· assumption)); (apply Ob.stays0'; (· assumption)); assumption)
            · exact rfl
            apply i_gT
            · exact rfl
            apply i_leF
            · exact rfl
            · exact rfl
            · omega
            apply i_pickT
            · exact rfl
            · exact tB rfl
            apply i_mov
            · exact tB rfl
            refine i_nil ?_
            refine r_ret ?_
            apply q_ret1
            · exact tB rfl
            exact ⟨by rw [may_f5 h5], by ((refine Stays.then0 ?_ (by assumption); refine Stays.then0 ?_ (by assumption); refine Stays.then0 ?_ (by assumption); assumption))⟩
        · apply i_gT
          · exact rfl
          apply i_mov
          · exact tB rfl
          apply i_gF
          · exact rfl
          · exact rfl
          apply i_gF
          · exact rfl
          · exact rfl
          apply i_gT
          · exact rfl
          apply i_pickF
          · exact rfl
          · exact tB rfl
          apply i_gT
          · exact rfl
          apply i_notF
          · exact rfl
          apply i_pickT
          · exact rfl
          · exact tB rfl
          apply i_mov
          · exact tB rfl
          apply i_gT
          · exact rfl
          apply i_fld0
          · exact rfl
          apply i_gT
          · exact rfl
          apply i_load
          · exact rfl
          · ((apply Ob.stays0'; (· assumption)); (apply Ob.stays0'; (· assumption)); (apply Ob.stays0'; (· assumption)); assumption)
          · exact rfl
          apply i_gT
          · exact rfl
          apply i_mov
          · exact tI rfl
          apply i_gT
          · exact rfl
          apply i_geF
          · exact rfl
          · exact rfl
          · omega
          apply i_pickT
          · exact rfl
          · exact tB rfl
          apply i_mov
          · exact tB rfl
          apply i_gF
          · exact rfl
          · exact rfl
          apply i_gF
          · exact rfl
          · exact rfl
          apply i_gF
          · exact rfl
          · exact rfl
          apply i_pickF
          · exact rfl
          · exact tB rfl
          apply i_mov
          · exact tB rfl
          refine i_nil ?_
          refine r_ret ?_
          apply q_ret1
          · exact tB rfl
          exact ⟨by rw [may_f4 (by rw [hl]; exact h4)], by ((refine Stays.then0 ?_ (by assumption); refine Stays.then0 ?_ (by assumption); refine Stays.then0 ?_ (by assumption); assumption))⟩
      | true =>
        apply i_add
        · exact rfl
        · exact rfl
        · omega
        apply i_leT
        · exact rfl
        · exact rfl
        · omega
        apply i_mov
        · exact tB rfl
        apply i_gT
        · exact rfl
        apply i_fld0
        · exact rfl
        apply i_gT
        · exact rfl
        apply i_load
        · exact rfl
        · ((apply Ob.stays0'; (· assumption)); (apply Ob.stays0'; (· assumption)); assumption)
        · exact rfl
        apply i_gT
        · exact rfl
        apply i_mov
        · exact tB rfl
        simp only [hlc]
        cases huc : c.ucase with
        | true =>
          apply i_gT
          · exact rfl
          apply i_fld0
          · exact rfl
          apply i_gT
          · exact rfl
          apply i_load
          · exact rfl
          · ((apply Ob.stays0'; (· assumption)); (apply Ob.stays0'; (· assumption)); assumption)
          · exact rfl
          apply i_gT
          · exact rfl
          apply i_pickT
          · exact rfl
          · exact tB rfl
          apply i_gT
          · exact rfl
          simp only [huc]
          apply i_notT
          · exact rfl
          apply i_pickT
          · exact rfl
          · exact tB rfl
          apply i_mov
          · exact tB rfl
          apply i_gF
          · exact rfl
          · exact rfl
          apply i_gF
          · exact rfl
          · exact rfl
          apply i_gF
          · exact rfl
          · exact rfl
          apply i_gU
          · exact rfl
          apply i_gU
          · exact rfl
          apply i_gF
          · exact rfl
          · exact rfl
          apply i_gF
          · exact rfl
          · exact rfl
          apply i_pickF
          · exact rfl
          · exact tB rfl
          apply i_mov
          · exact tB rfl
          apply i_gF
          · exact rfl
          · exact rfl
          apply i_gF
          · exact rfl
          · exact rfl
          apply i_gF
          · exact rfl
          · exact rfl
          apply i_gF
          · exact rfl
          · exact rfl
          apply i_pickF
          · exact rfl
          · exact tB rfl
          apply i_mov
          · exact tB rfl
          apply i_gF
          · exact rfl
          · exact rfl
          apply i_gF
          · exact rfl
          · exact rfl
          apply i_gF
          · exact rfl
          · exact rfl
          apply i_pickF
          · exact rfl
          · exact tB rfl
          apply i_mov
          · exact tB rfl
          refine i_nil ?_
          refine r_ret ?_
          apply q_ret1
          · exact tB rfl
          exact ⟨by rw [may_f2 hlc huc], by ((refine Stays.then0 ?_ (by assumption); refine Stays.then0 ?_ (by assumption); assumption))⟩
        | false =>
          apply i_gT
          · exact rfl
          apply i_fld0
          · exact rfl
          apply i_gT
          · exact rfl
          apply i_load
          · exact rfl
          · ((apply Ob.stays0'; (· assumption)); (apply Ob.stays0'; (· assumption)); assumption)
          · exact rfl
          apply i_gT
          · exact rfl
          apply i_pickT
          · exact rfl
          · exact tB rfl
          apply i_gT
          · exact rfl
          simp only [huc]
          apply i_notF
          · exact rfl
          apply i_pickT
          · exact rfl
          · exact tB rfl
          apply i_mov
          · exact tB rfl
          apply i_gT
          · exact rfl
          apply i_loadN
          · exact rfl
          · ((apply Ob.stays0'; (· assumption)); (apply Ob.stays0'; (· assumption)); assumption)
          · exact rfl
          apply i_gT
          · exact rfl
          refine i_call (rBlocks c _) rfl ?_
          rw [hB]
          rintro v S5 ⟨rfl, hst5⟩
          by_cases h4 : (0 : Int) ≤ c.cbs
          · by_cases h5 : c.cbs ≤ 4096
            · apply i_gT
              · exact rfl
              apply i_mov
              · exact tB rfl
              apply i_gF
              · exact rfl
              · exact rfl
              apply i_gF
              · exact rfl
              · exact rfl
              apply i_gT
              · exact rfl
              apply i_pickF
              · exact rfl
              · exact tB rfl
              apply i_gT
              · exact rfl
              apply i_notF
              · exact rfl
              apply i_pickT
              · exact rfl
              · exact tB rfl
              apply i_mov
              · exact tB rfl
              apply i_gT
              · exact rfl
              apply i_fld0
              · exact rfl
              apply i_gT
              · exact rfl
              apply i_load
              · exact rfl
              · ((apply Ob.stays0'; (· assumption)); (apply Ob.stays0'; (· assumption)); (apply Ob.stays0'; (· assumption)); assumption)
              · exact rfl
              apply i_gT
              · exact rfl
              apply i_mov
              · exact tI rfl
              apply i_gT
              · exact rfl
              apply i_geT
              · exact rfl
              · exact rfl
              · omega
              apply i_pickT
              · exact rfl
              · exact tB rfl
              apply i_mov
              · exact tB rfl
              apply i_gT
              · exact rfl
              apply i_fld0
              · exact rfl
              apply i_gT
              · exact rfl
              apply i_load
              · exact rfl
              · ((apply Ob.stays0'; (· assumption)); (apply Ob.stays0'; (· assumption)); (apply Ob.stays0'; (· assumption)); assumption)
              · exact rfl
              apply i_gT
              · exact rfl
              apply i_leT
              · exact rfl
              · exact rfl
              · omega
              apply i_pickT
              · exact rfl
              · exact tB rfl
              apply i_mov
              · exact tB rfl
              refine i_nil ?_
              refine r_ret ?_
              apply q_ret1
              · exact tB rfl
              exact ⟨by rw [may_t h1 (.inr huc) (.inl hB) (by rw [hl]; exact h4) h5], by ((refine Stays.then0 ?_ (by assumption); refine Stays.then0 ?_ (by assumption); refine Stays.then0 ?_ (by assumption); assumption))⟩
            · apply i_gT
              · exact rfl
              apply i_mov
              · exact tB rfl
              apply i_gF
              · exact rfl
              · exact rfl
              apply i_gF
              · exact rfl
              · exact rfl
              apply i_gT
              · exact rfl
              apply i_pickF
              · exact rfl
              · exact tB rfl
              apply i_gT
              · exact rfl
              apply i_notF
              · exact rfl
              apply i_pickT
              · exact rfl
              · exact tB rfl
              apply i_mov
              · exact tB rfl
              apply i_gT
              · exact rfl
              apply i_fld0
              · exact rfl
              apply i_gT
              · exact rfl
              apply i_load
              · exact rfl
              · ((apply Ob.stays0'; (· assumption)); (apply Ob.stays0'; (· assumption)); (apply Ob.stays0'; (· assumption)); assumption)
              · exact rfl
              apply i_gT
              · exact rfl
              apply i_mov
              · exact tI rfl
              apply i_gT
              · exact rfl
              apply i_geT
              · exact rfl
              · exact rfl
              · omega
              apply i_pickT
              · exact rfl
              · exact tB rfl
              apply i_mov
              · exact tB rfl
              apply i_gT
              · exact rfl
              apply i_fld0
              · exact rfl
              apply i_gT
              · exact rfl
              apply i_load
              · exact rfl
              · ((apply Ob.stays0'; (· assumption)); (apply Ob.stays0'; (· assumption)); (apply Ob.stays0'; (· assumption)); assumption)
              · exact rfl
              apply i_gT
              · exact rfl
              apply i_leF
              · exact rfl
              · exact rfl
              · omega
              apply i_pickT
              · exact rfl
              · exact tB rfl
              apply i_mov
              · exact tB rfl
              refine i_nil ?_
              refine r_ret ?_
              apply q_ret1
              · exact tB rfl
              exact ⟨by rw [may_f5 h5], by ((refine Stays.then0 ?_ (by assumption); refine Stays.then0 ?_ (by assumption); refine Stays.then0 ?_ (by assumption); assumption))⟩
          · apply i_gT
            · exact rfl
            apply i_mov
            · exact tB rfl
            apply i_gF
            · exact rfl
            · exact rfl
            apply i_gF
            · exact rfl
            · exact rfl
            apply i_gT
            · exact rfl
            apply i_pickF
            · exact rfl
            · exact tB rfl
            apply i_gT
            · exact rfl
            apply i_notF
            · exact rfl
            apply i_pickT
            · exact rfl
            · exact tB rfl
            apply i_mov
            · exact tB rfl
            apply i_gT
            · exact rfl
            apply i_fld0
            · exact rfl
            apply i_gT
            · exact rfl
            apply i_load
            · exact rfl
            · ((apply Ob.stays0'; (· assumption)); (apply Ob.stays0'; (· assumption)); (apply Ob.stays0'; (· assumption)); assumption)
            · exact rfl
            apply i_gT
            · exact rfl
            apply i_mov
            · exact tI rfl
            apply i_gT
            · exact rfl
            apply i_geF
            · exact rfl
            · exact rfl
            · omega
            apply i_pickT
            · exact rfl
            · exact tB rfl
            apply i_mov
            · exact tB rfl
            apply i_gF
            · exact rfl
            · exact rfl
            apply i_gF
            · exact rfl
            · exact rfl
            apply i_gF
            · exact rfl
            · exact rfl
            apply i_pickF
            · exact rfl
            · exact tB rfl
            apply i_mov
            · exact tB rfl
            refine i_nil ?_
            refine r_ret ?_
            apply q_ret1
            · exact tB rfl
            exact ⟨by rw [may_f4 (by rw [hl]; exact h4)], by ((refine Stays.then0 ?_ (by assumption); refine Stays.then0 ?_ (by assumption); refine Stays.then0 ?_ (by assumption); assumption))⟩
    · apply i_add
      · exact rfl
      · exact rfl
      · omega
      apply i_leF
      · exact rfl
      · exact rfl
      · omega
      apply i_mov
      · exact tB rfl
      apply i_gF
      · exact rfl
      · exact rfl
      apply i_gF
      · exact rfl
      · exact rfl
      apply i_gF
      · exact rfl
      · exact rfl
      apply i_gU
      · exact rfl
      apply i_gU
      · exact rfl
      apply i_gF
      · exact rfl
      · exact rfl
      apply i_gF
      · exact rfl
      · exact rfl
      apply i_pickF
      · exact rfl
      · exact tB rfl
      apply i_mov
      · exact tB rfl
      apply i_gF
      · exact rfl
      · exact rfl
      apply i_gF
      · exact rfl
      · exact rfl
      apply i_gF
      · exact rfl
      · exact rfl
      apply i_gU
      · exact rfl
      apply i_gU
      · exact rfl
      apply i_gF
      · exact rfl
      · exact rfl
      apply i_gF
      · exact rfl
      · exact rfl
      apply i_pickF
      · exact rfl
      · exact tB rfl
      apply i_mov
      · exact tB rfl
      apply i_gF
      · exact rfl
      · exact rfl
      apply i_gF
      · exact rfl
      · exact rfl
      apply i_gF
      · exact rfl
      · exact rfl
      apply i_gF
      · exact rfl
      · exact rfl
      apply i_pickF
      · exact rfl
      · exact tB rfl
      apply i_mov
      · exact tB rfl
      apply i_gF
      · exact rfl
      · exact rfl
      apply i_gF
      · exact rfl
      · exact rfl
      apply i_gF
      · exact rfl
      · exact rfl
      apply i_pickF
      · exact rfl
      · exact tB rfl
      apply i_mov
      · exact tB rfl
      refine i_nil ?_
      refine r_ret ?_
      apply q_ret1
      · exact tB rfl
      exact ⟨by rw [may_f1 h1], by ((refine Stays.then0 ?_ (by assumption); refine Stays.then0 ?_ (by assumption); assumption))⟩
end Go.Proofs.Ythpomdoaiibnfaa.Abs
