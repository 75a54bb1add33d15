/- The law ConvNone: that it answers true. -/
import Derived.Test.YthpomdoaiibnfaaCv8
namespace Go.Proofs.Ythpomdoaiibnfaa.Abs
open Go Go.Proofs
set_option linter.unusedVariables false

theorem all_none (F : List UInt8) : cvAll CV.zero F = F := by
  show (F ++ [] : List UInt8) = F
  simp
theorem norm_none {c : CV} (h : c.may = false) : c.norm = CV.zero := by simp [CV.norm, h]
theorem norm_some {c : CV} (h : c.may = true) : c.norm = c := by simp [CV.norm, h]
def cUp : CV := ⟨false, false, false, false, true, false, false, false, 0⟩
def cLo : CV := ⟨false, false, false, true, false, false, false, false, 9⟩
theorem all_up (F : List UInt8) : cvAll cUp F = mapL upperL F := by
  show mapL upperL (F ++ [] : List UInt8) = _
  simp
theorem all_lo (F : List UInt8) : cvAll cLo F = mapL lowerL F := by
  show mapL lowerL (F ++ [] : List UInt8) = _
  simp
theorem up_ok : cUp.norm = cUp := norm_some (by decide)
theorem lo_ok : cLo.norm = cLo := norm_some (by decide)
theorem zero_ok : CV.zero.norm = CV.zero := norm_some (by decide)
theorem two_ok (b : List UInt8) {S : ASt} : ∀ x ∈ [(⟨.ro, 1, b⟩ : BL), ⟨.nil, 0, []⟩], x.ok S := by
  intro x hx
  simp only [List.mem_cons, List.not_mem_nil, or_false] at hx
  rcases hx with rfl | rfl
  · exact ⟨.inl rfl, (by intro h; cases h), Rd.ro⟩
  · exact ⟨.inr rfl, fun _ => rfl, Rd.nil⟩
theorem two_cat (b : List UInt8) : cat [(⟨.ro, 1, b⟩ : BL), ⟨.nil, 0, []⟩] = b := by simp [cat]
set_option linter.unusedSimpArgs false
attribute [local irreducible] wpI wpR ropK chk ASt.push ASt.put ASt.fresh ASt.kill appS

theorem convNone (c : CV) (b : List UInt8) (S : ASt) :
    ACalls Try.prog 6 [.agg c.cells, .sl .ro 1 (u8s b)] S fun v S' => v = .bool true := by
  refine en_6 (by exact Nat.le_of_ble_eq_true rfl) ?_
  unfold rc_6
  have hup := mapL_len upperL b
  have hlo := mapL_len lowerL b
  by_cases hl : b.length ≤ 300
  · rcases Bool.eq_false_or_eq_true c.may with hm | hm
    · refine r_reg ?_
      apply i_boxA
      · exact rfl
      apply i_mov
      · exact tB rfl
      refine i_nil ?_
      refine r_reg ?_
      apply i_mov
      · exact tS rfl
      apply i_lenM
      · exact rfl
      apply i_gtF
      · exact rfl
      · exact rfl
      · omega
      refine i_nil ?_
      apply r_condF
      · exact rfl
      refine r_nop ?_
      refine r_reg ?_
      apply i_loadN
      · exact rfl
      · exact Ob.new
      · exact rfl
      refine i_call (cMay c _) rfl ?_
      rw [hm]
      rintro v S1 ⟨rfl, hst1⟩
      apply i_notT
      · exact rfl
      apply i_mov
      · exact tB rfl
      apply i_gF
      · exact rfl
      · exact rfl
      apply i_gF
      · exact rfl
      · exact rfl
      apply i_gF
      · exact rfl
      · exact rfl
      apply i_gF
      · exact rfl
      · exact rfl
      apply i_gF
      · exact rfl
      · exact rfl
      apply i_gF
      · exact rfl
      · exact rfl
      apply i_gR
      · exact rfl
      · exact rfl
      apply i_gF
      · exact rfl
      · exact rfl
      apply i_gF
      · exact rfl
      · exact rfl
      apply i_pickF
      · exact rfl
      · exact tB rfl
      refine i_nil ?_
      apply r_condF
      · exact rfl
      refine r_nop ?_
      refine r_reg ?_
      skip
      skip
      refine i_build (cs := cUp.cells) rfl ?_
      apply i_mov
      · exact tS rfl
      apply i_mk1
      · exact tS rfl
      · exact rfl
      refine i_call (cAll1 cUp .ro 1 b _ (by rw [up_ok]; decide) (.inl rfl) (by intro h; cases h) Rd.ro (by omega)) rfl ?_
      rw [up_ok, all_up]
      rintro v S3 ⟨hst3, hv⟩
      obtain ⟨ou, su, rfl, hsu, hnu, hru⟩ := hv.bs
      apply i_mov
      · exact tS rfl
      refine i_nil ?_
      refine r_reg ?_
      refine i_build (cs := cLo.cells) rfl ?_
      apply i_mov
      · exact tS rfl
      apply i_mk1
      · exact tS rfl
      · exact rfl
      refine i_call (cAll1 cLo .ro 1 b _ (by rw [lo_ok]; decide) (.inl rfl) (by intro h; cases h) Rd.ro (by omega)) rfl ?_
      rw [lo_ok, all_lo]
      rintro v S4 ⟨hst4, hv⟩
      obtain ⟨ow, sw, rfl, hsw, hnw, hrw⟩ := hv.bs
      replace hru := hru.stays hst4
      apply i_mov
      · exact tS rfl
      refine i_nil ?_
      refine r_reg ?_
      refine i_build (cs := CV.zero.cells) rfl ?_
      apply i_mov
      · exact tS rfl
      apply i_mk2
      · exact tS rfl
      · exact tS0 rfl
      · exact rfl
      · exact rfl
      apply i_mov
      · exact tS rfl
      apply i_toStr
      · exact rfl
      · exact Or.inl rfl
      · exact True.intro
      refine i_call (cAll CV.zero .ro [⟨.ro, 1, b⟩, ⟨.nil, 0, []⟩] _ (by rw [zero_ok]; decide) Rd.ro (two_ok b) (by simp) (by rw [two_cat]; omega)) rfl ?_
      rw [zero_ok, two_cat, all_none]
      rintro v S5 ⟨hst5, hv⟩
      obtain ⟨oz, sz, rfl, hsz, hnz, hrz⟩ := hv.bs
      replace hru := hru.stays hst5
      replace hrw := hrw.stays hst5
      apply c_re
      · (apply c_toStr; (· exact rfl); (· exact Or.inl rfl); (· exact True.intro); (· exact rfl))
      apply i_toStr
      · exact rfl
      · assumption
      · (refine Rd.rd ?_; assumption)
      apply i_seT
      · exact rfl
      · exact rfl
      · exact rfl
      apply i_mov
      · exact tB rfl
      apply i_gT
      · exact rfl
      apply i_mov
      · exact tS rfl
      apply i_gT
      · exact rfl
      apply i_toStr
      · exact rfl
      · assumption
      · (refine Rd.rd ?_; assumption)
      apply i_gT
      · exact rfl
      apply i_mov
      · exact tS rfl
      apply i_gT
      · exact rfl
      refine i_call (tUpper _) rfl ?_
      rintro v S6 ⟨rfl, rfl⟩
      apply i_gT
      · exact rfl
      apply c_re
      · (apply c_toStr; (· exact rfl); (· assumption); (· (refine Rd.rd ?_; assumption)); (· exact rfl))
      apply i_gT
      · exact rfl
      refine i_call (tabMap upperL .ro 1 b _ upperL_len (.inl rfl) Rd.ro (by omega)) rfl ?_
      rintro v S7 ⟨hst7, hv⟩
      obtain ⟨oa, sa, rfl, hsa, hna, hra⟩ := hv.bs
      replace hru := hru.stays hst7
      replace hrw := hrw.stays hst7
      apply i_gT
      · exact rfl
      apply c_re
      · (apply c_toStr; (· exact rfl); (· assumption); (· (refine Rd.rd ?_; assumption)); (· exact rfl))
      apply i_gT
      · exact rfl
      apply i_toStr
      · exact rfl
      · assumption
      · (refine Rd.rd ?_; assumption)
      apply i_gT
      · exact rfl
      apply i_seT
      · exact rfl
      · exact rfl
      · exact rfl
      apply i_pickT
      · exact rfl
      · exact tB rfl
      apply i_mov
      · exact tB rfl
      apply i_gT
      · exact rfl
      apply i_mov
      · exact tS rfl
      apply i_gT
      · exact rfl
      apply i_toStr
      · exact rfl
      · assumption
      · (refine Rd.rd ?_; assumption)
      apply i_gT
      · exact rfl
      apply i_mov
      · exact tS rfl
      apply i_gT
      · exact rfl
      refine i_call (tLower _) rfl ?_
      rintro v S8 ⟨rfl, rfl⟩
      apply i_gT
      · exact rfl
      apply c_re
      · (apply c_toStr; (· exact rfl); (· assumption); (· (refine Rd.rd ?_; assumption)); (· exact rfl))
      apply i_gT
      · exact rfl
      refine i_call (tabMap lowerL .ro 1 b _ lowerL_len (.inl rfl) Rd.ro (by omega)) rfl ?_
      rintro v S9 ⟨hst9, hv⟩
      obtain ⟨ob, sb, rfl, hsb, hnb, hrb⟩ := hv.bs
      replace hrw := hrw.stays hst9
      apply i_gT
      · exact rfl
      apply c_re
      · (apply c_toStr; (· exact rfl); (· assumption); (· (refine Rd.rd ?_; assumption)); (· exact rfl))
      apply i_gT
      · exact rfl
      apply i_toStr
      · exact rfl
      · assumption
      · (refine Rd.rd ?_; assumption)
      apply i_gT
      · exact rfl
      apply i_seT
      · exact rfl
      · exact rfl
      · exact rfl
      apply i_pickT
      · exact rfl
      · exact tB rfl
      apply i_mov
      · exact tB rfl
      apply i_gT
      · exact rfl
      refine i_call (convRuns _) rfl ?_
      rintro v S10 ⟨rfl, hst10⟩
      apply i_pickT
      · exact rfl
      · exact tB rfl
      apply i_mov
      · exact tB rfl
      refine i_nil ?_
      refine r_ret ?_
      apply q_ret1
      · exact tB rfl
      rfl
    · refine r_reg ?_
      apply i_boxA
      · exact rfl
      apply i_mov
      · exact tB rfl
      refine i_nil ?_
      refine r_reg ?_
      apply i_mov
      · exact tS rfl
      apply i_lenM
      · exact rfl
      apply i_gtF
      · exact rfl
      · exact rfl
      · omega
      refine i_nil ?_
      apply r_condF
      · exact rfl
      refine r_nop ?_
      refine r_reg ?_
      apply i_loadN
      · exact rfl
      · exact Ob.new
      · exact rfl
      refine i_call (cMay c _) rfl ?_
      rw [hm]
      rintro v S1 ⟨rfl, hst1⟩
      apply i_notF
      · exact rfl
      apply i_mov
      · exact tB rfl
      apply i_gT
      · exact rfl
      apply i_loadN
      · exact rfl
      · ((apply Ob.stays0'; (· assumption)); exact Ob.new)
      · exact rfl
      apply i_gT
      · exact rfl
      apply i_mov
      · exact tS rfl
      apply i_gT
      · exact rfl
      apply i_mk1
      · exact tS rfl
      · exact rfl
      apply i_gT
      · exact rfl
      apply i_mov
      · exact tS rfl
      apply i_gT
      · exact rfl
      apply i_toStr
      · exact rfl
      · exact Or.inl rfl
      · exact True.intro
      apply i_gT
      · exact rfl
      (refine i_call (cAll1 c .ro 1 b _ (by rw [norm_none hm]; decide) (.inl rfl) (by intro h; cases h) Rd.ro (by omega)) rfl ?_; rw [norm_none hm, all_none]; rintro v S2 ⟨hst2, hv⟩; obtain ⟨ox, sx, rfl, hsx, hnx, hrx⟩ := hv.bs)
      apply i_gT
      · exact rfl
      apply c_re
      · (apply c_toStr; (· exact rfl); (· exact Or.inl rfl); (· exact True.intro); (· exact rfl))
      apply i_gT
      · exact rfl
      apply i_toStr
      · exact rfl
      · assumption
      · (refine Rd.rd ?_; assumption)
      apply i_gT
      · exact rfl
      apply i_snF
      · exact rfl
      · exact rfl
      · exact rfl
      apply i_pickT
      · exact rfl
      · exact tB rfl
      refine i_nil ?_
      apply r_condF
      · exact rfl
      refine r_nop ?_
      refine r_reg ?_
      refine i_build (cs := cUp.cells) rfl ?_
      apply i_mov
      · exact tS rfl
      apply i_mk1
      · exact tS rfl
      · exact rfl
      refine i_call (cAll1 cUp .ro 1 b _ (by rw [up_ok]; decide) (.inl rfl) (by intro h; cases h) Rd.ro (by omega)) rfl ?_
      rw [up_ok, all_up]
      rintro v S3 ⟨hst3, hv⟩
      obtain ⟨ou, su, rfl, hsu, hnu, hru⟩ := hv.bs
      apply i_mov
      · exact tS rfl
      refine i_nil ?_
      refine r_reg ?_
      refine i_build (cs := cLo.cells) rfl ?_
      apply i_mov
      · exact tS rfl
      apply i_mk1
      · exact tS rfl
      · exact rfl
      refine i_call (cAll1 cLo .ro 1 b _ (by rw [lo_ok]; decide) (.inl rfl) (by intro h; cases h) Rd.ro (by omega)) rfl ?_
      rw [lo_ok, all_lo]
      rintro v S4 ⟨hst4, hv⟩
      obtain ⟨ow, sw, rfl, hsw, hnw, hrw⟩ := hv.bs
      replace hru := hru.stays hst4
      apply i_mov
      · exact tS rfl
      refine i_nil ?_
      refine r_reg ?_
      refine i_build (cs := CV.zero.cells) rfl ?_
      apply i_mov
      · exact tS rfl
      apply i_mk2
      · exact tS rfl
      · exact tS0 rfl
      · exact rfl
      · exact rfl
      apply i_mov
      · exact tS rfl
      apply i_toStr
      · exact rfl
      · exact Or.inl rfl
      · exact True.intro
      refine i_call (cAll CV.zero .ro [⟨.ro, 1, b⟩, ⟨.nil, 0, []⟩] _ (by rw [zero_ok]; decide) Rd.ro (two_ok b) (by simp) (by rw [two_cat]; omega)) rfl ?_
      rw [zero_ok, two_cat, all_none]
      rintro v S5 ⟨hst5, hv⟩
      obtain ⟨oz, sz, rfl, hsz, hnz, hrz⟩ := hv.bs
      replace hru := hru.stays hst5
      replace hrw := hrw.stays hst5
      apply c_re
      · (apply c_toStr; (· exact rfl); (· exact Or.inl rfl); (· exact True.intro); (· exact rfl))
      apply i_toStr
      · exact rfl
      · assumption
      · (refine Rd.rd ?_; assumption)
      apply i_seT
      · exact rfl
      · exact rfl
      · exact rfl
      apply i_mov
      · exact tB rfl
      apply i_gT
      · exact rfl
      apply i_mov
      · exact tS rfl
      apply i_gT
      · exact rfl
      apply i_toStr
      · exact rfl
      · assumption
      · (refine Rd.rd ?_; assumption)
      apply i_gT
      · exact rfl
      apply i_mov
      · exact tS rfl
      apply i_gT
      · exact rfl
      refine i_call (tUpper _) rfl ?_
      rintro v S6 ⟨rfl, rfl⟩
      apply i_gT
      · exact rfl
      apply c_re
      · (apply c_toStr; (· exact rfl); (· assumption); (· (refine Rd.rd ?_; assumption)); (· exact rfl))
      apply i_gT
      · exact rfl
      refine i_call (tabMap upperL .ro 1 b _ upperL_len (.inl rfl) Rd.ro (by omega)) rfl ?_
      rintro v S7 ⟨hst7, hv⟩
      obtain ⟨oa, sa, rfl, hsa, hna, hra⟩ := hv.bs
      replace hru := hru.stays hst7
      replace hrw := hrw.stays hst7
      apply i_gT
      · exact rfl
      apply c_re
      · (apply c_toStr; (· exact rfl); (· assumption); (· (refine Rd.rd ?_; assumption)); (· exact rfl))
      apply i_gT
      · exact rfl
      apply i_toStr
      · exact rfl
      · assumption
      · (refine Rd.rd ?_; assumption)
      apply i_gT
      · exact rfl
      apply i_seT
      · exact rfl
      · exact rfl
      · exact rfl
      apply i_pickT
      · exact rfl
      · exact tB rfl
      apply i_mov
      · exact tB rfl
      apply i_gT
      · exact rfl
      apply i_mov
      · exact tS rfl
      apply i_gT
      · exact rfl
      apply i_toStr
      · exact rfl
      · assumption
      · (refine Rd.rd ?_; assumption)
      apply i_gT
      · exact rfl
      apply i_mov
      · exact tS rfl
      apply i_gT
      · exact rfl
      refine i_call (tLower _) rfl ?_
      rintro v S8 ⟨rfl, rfl⟩
      apply i_gT
      · exact rfl
      apply c_re
      · (apply c_toStr; (· exact rfl); (· assumption); (· (refine Rd.rd ?_; assumption)); (· exact rfl))
      apply i_gT
      · exact rfl
      refine i_call (tabMap lowerL .ro 1 b _ lowerL_len (.inl rfl) Rd.ro (by omega)) rfl ?_
      rintro v S9 ⟨hst9, hv⟩
      obtain ⟨ob, sb, rfl, hsb, hnb, hrb⟩ := hv.bs
      replace hrw := hrw.stays hst9
      apply i_gT
      · exact rfl
      apply c_re
      · (apply c_toStr; (· exact rfl); (· assumption); (· (refine Rd.rd ?_; assumption)); (· exact rfl))
      apply i_gT
      · exact rfl
      apply i_toStr
      · exact rfl
      · assumption
      · (refine Rd.rd ?_; assumption)
      apply i_gT
      · exact rfl
      apply i_seT
      · exact rfl
      · exact rfl
      · exact rfl
      apply i_pickT
      · exact rfl
      · exact tB rfl
      apply i_mov
      · exact tB rfl
      apply i_gT
      · exact rfl
      refine i_call (convRuns _) rfl ?_
      rintro v S10 ⟨rfl, hst10⟩
      apply i_pickT
      · exact rfl
      · exact tB rfl
      apply i_mov
      · exact tB rfl
      refine i_nil ?_
      refine r_ret ?_
      apply q_ret1
      · exact tB rfl
      rfl
  · refine r_reg ?_
    apply i_boxA
    · exact rfl
    apply i_mov
    · exact tB rfl
    refine i_nil ?_
    refine r_reg ?_
    apply i_mov
    · exact tS rfl
    apply i_lenM
    · exact rfl
    apply i_gtT
    · exact rfl
    · exact rfl
    · omega
    refine i_nil ?_
    apply r_condT
    · exact rfl
    refine r_reg ?_
    refine i_call (convRuns _) rfl ?_
    rintro v S7 ⟨rfl, hst7⟩
    apply i_mov
    · exact tB rfl
    refine i_nil ?_
    refine r_ret ?_
    refine q_kr ?_
    apply q_ret1
    · exact tB rfl
    rfl
end Go.Proofs.Ythpomdoaiibnfaa.Abs
