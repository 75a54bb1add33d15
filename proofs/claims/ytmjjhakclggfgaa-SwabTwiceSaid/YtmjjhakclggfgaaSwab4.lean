/- The law SwabPlays: that it answers true. -/
import Derived.Test.YtmjjhakclggfgaaSwab3
namespace Go.Proofs.Ytmjjhakclggfgaa.Abs
open Go Go.Proofs
set_option linter.unusedVariables false
set_option linter.unusedSimpArgs false
attribute [local irreducible] wpI wpR ropK chk ASt.push ASt.put ASt.fresh ASt.kill appS

theorem lawRuns (S : ASt) : ACalls Try.prog 3 [] S fun v S' => v = .bool true := (swabRuns S).mono fun _ _ h => h.1
theorem swabPlays (on : Bool) (ls : List (List UInt8)) (es : List Bool) (S : ASt) :
    ACalls Try.prog 4 [.bool on, .sl .ro 1 (ls.map rov), .sl .ro 1 (es.map .bool)] S fun v S' => v = .bool true := by
  refine en_4 (by exact Nat.le_of_ble_eq_true rfl) ?_
  unfold rc_4
  refine r_reg ?_
  apply i_mov
  · exact tB rfl
  refine i_nil ?_
  refine r_reg ?_
  apply i_mov
  · exact tS rfl
  refine i_call (few ls _) rfl ?_
  rintro v S1 ⟨b, rfl, rfl, hb⟩
  cases b with
  | false =>
    apply i_notF
    · exact rfl
    refine i_nil ?_
    apply r_condT
    · exact rfl
    refine r_reg ?_
    refine i_call (swabRuns _) rfl ?_
    rintro v S2 ⟨rfl, hst⟩
    apply i_mov
    · exact tB rfl
    refine i_nil ?_
    refine r_ret ?_
    refine q_kr ?_
    apply q_ret1
    · exact tB rfl
    rfl
  | true =>
    obtain ⟨h60, h3000⟩ := hb rfl
    clear hb
    apply i_notT
    · exact rfl
    refine i_nil ?_
    apply r_condF
    · exact rfl
    refine r_nop ?_
    refine r_reg ?_
    apply i_mov
    · exact tB rfl
    refine i_call (swabNew on _) rfl ?_
    rintro v S2 ⟨rfl, hst2, hlt2, hat2⟩
    generalize S1.objs.length = o1 at hlt2 hat2 ⊢
    apply i_mov
    · exact tB rfl
    refine i_build (cs := [.bool on, .sl .nil 0 (u8s [])]) rfl ?_
    apply i_boxA
    · exact rfl
    apply i_mov
    · exact tP rfl
    apply i_mov
    · exact tP rfl
    refine i_nil ?_
    refine r_reg ?_
    apply i_mov
    · exact tP rfl
    apply i_eqpS
    · exact rfl
    · exact rfl
    refine i_nil ?_
    apply r_condF
    · exact rfl
    refine r_nop ?_
    refine r_reg ?_
    apply i_mov
    · exact tI rfl
    refine i_nil ?_
    refine r_block ?_
    have hat3 : SwabAt (S2.push [.bool on, .sl .nil 0 (u8s [])]) o1 on [] := hat2.stays (os := []) (by (refine Stays.push ?_; exact Stays.refl _ _)) (by simp)
    have hat4 : SwabAt (S2.push [.bool on, .sl .nil 0 (u8s [])]) S2.objs.length on [] := ⟨_, Ob.new, _, _, rfl, .inr rfl, fun _ => rfl, Rd.nil⟩
    have hne : o1 ≠ S2.objs.length := by omega
    generalize S2.objs.length = o2 at hne hat4 ⊢
    generalize (S2.push [.bool on, .sl .nil 0 (u8s [])]) = S3 at hat3 hat4 ⊢
    clear hst2 hat2 hlt2
    refine r_loopP [1, 2, 7, 8, 9] (fun m G S' => ∃ (i : Nat) (kept : List UInt8), G = [(1, .sl .ro 1 (ls.map rov)), (2, .sl .ro 1 (es.map .bool)), (7, .ptr (some (o1, 0))), (8, .ptr (some (o2, 0))), (9, .int .i64 (i : Nat))] ∧ m = ls.length - i ∧ i ≤ ls.length ∧ kept.length ≤ 1 ∧
      SwabAt S' o1 on kept ∧ SwabAt S' o2 on kept) ?_ ?_
    · exact ⟨_, 0, [], rfl, rfl, Nat.zero_le _, by simp, hat3, hat4⟩
    clear hat3 hat4
    rintro m G S4 ⟨i, kept, rfl, rfl, hi, hk, hat, hat'⟩
    by_cases hc : i < ls.length
    · have hfm := flat_mem hc
      refine r_reg ?_
      apply i_mov
      · exact tI rfl
      apply i_mov
      · exact tS rfl
      apply i_lenM
      · exact rfl
      apply i_ltT
      · exact rfl
      · exact rfl
      · omega
      refine i_nil ?_
      apply r_condT
      · exact rfl
      refine r_nop ?_
      refine r_block ?_
      refine r_reg ?_
      apply i_mov
      · exact tP rfl
      apply i_mov
      · exact tS rfl
      apply i_mov
      · exact tI rfl
      apply i_idxM
      · exact rfl
      · exact rfl
      · exact rfl
      · exact rfl
      · exact True.intro
      · omega
      apply i_loadM
      · exact rfl
      · exact True.intro
      · omega
      · exact fun _ => rfl
      (refine ⟨by omega, ?_⟩)
      apply i_mov
      · exact tP rfl
      apply i_mov
      · exact tS rfl
      apply i_mov
      · exact tI rfl
      apply i_idxM
      · exact rfl
      · exact rfl
      · exact rfl
      · exact rfl
      · exact True.intro
      · omega
      apply i_loadM
      · exact rfl
      · exact True.intro
      · omega
      · exact fun _ => rfl
      (refine ⟨by omega, ?_⟩)
      refine i_call (swabPut o1 on kept .ro 1 ls[i] _ (.inl rfl) (by intro h; cases h) Rd.ro hat (by omega)) rfl ?_
      rintro v S5 ⟨hst5, hv, hat5⟩
      have hat5' := hat'.stays hst5 (by simp; omega)
      apply c_re
      · (apply c_loadM; (· exact rfl); (· exact True.intro); (· omega); (· exact fun _ => rfl); (refine ⟨by omega, rfl⟩))
      apply c_re
      · (apply c_idxM; (· exact rfl); (· exact rfl); (· exact rfl); (· exact rfl); (· exact True.intro); (· omega); (· exact rfl))
      generalize hq : (if on = true then swapL (kept ++ ls[i]) else ls[i]) = q at hv
      obtain ⟨ov, sv, rfl, hs5, hn5, hr5⟩ := hv.bs
      apply i_toStr
      · exact rfl
      · assumption
      · (refine Rd.rd ?_; assumption)
      refine i_call (refSwabPut o2 on kept .ro 1 ls[i] _ (.inl rfl) (by intro h; cases h) Rd.ro hat5' (by omega)) rfl ?_
      rintro v S6 ⟨hst6, hv6, hat6'⟩
      have hat6 := hat5.stays hst6 (by simp; omega)
      rw [hq] at hv6
      have hk2 : (if on = true then restL (kept ++ ls[i]) else kept).length ≤ 1 := by
        split
        · exact rest_le _
        · exact hk
      generalize (if on = true then restL (kept ++ ls[i]) else kept) = kept2 at hat6 hat6' hk2
      obtain ⟨ow, sw, rfl, hs6, hn6, hr6⟩ := hv6.bs
      have hfin : ∀ (S7 : ASt) (kept3 : List UInt8) (F : Fr), kept3.length ≤ 1 → SwabAt S7 o1 on kept3 → SwabAt S7 o2 on kept3 → ∃ (i' : Nat) (kept' : List UInt8), [(1, AV.sl .ro 1 (ls.map rov)), (2, .sl .ro 1 (es.map .bool)), (7, .ptr (some (o1, 0))), (8, .ptr (some (o2, 0))), (9, .int .i64 ((i + 1 : Nat) : Int))] = [(1, .sl .ro 1 (ls.map rov)), (2, .sl .ro 1 (es.map .bool)), (7, .ptr (some (o1, 0))), (8, .ptr (some (o2, 0))), (9, .int .i64 (i' : Nat))] ∧ ls.length - (i + 1) = ls.length - i' ∧ i' ≤ ls.length ∧ kept'.length ≤ 1 ∧ SwabAt S7 o1 on kept' ∧ SwabAt S7 o2 on kept' :=
        fun S7 kept3 F h1 h2 h3 => ⟨i + 1, kept3, rfl, rfl, hc, h1, h2, h3⟩
      by_cases hce : i < es.length
      · cases he : es[i] with
        | false =>
          apply c_re
          · (apply c_toStr; (· exact rfl); (· assumption); (· (refine Rd.rd ?_; (refine Rd.stays ?_ (by assumption); assumption))); (· exact rfl))
          apply i_toStr
          · exact rfl
          · assumption
          · (refine Rd.rd ?_; assumption)
          apply i_snF
          · exact rfl
          · exact rfl
          · exact rfl
          refine i_nil ?_
          apply r_condF
          · exact rfl
          refine r_nop ?_
          refine r_reg ?_
          apply i_mov
          · exact tI rfl
          apply i_mov
          · exact tS rfl
          apply i_lenM
          · exact rfl
          apply i_ltT
          · exact rfl
          · exact rfl
          · omega
          apply i_mov
          · exact tB rfl
          apply i_gT
          · exact rfl
          apply i_mov
          · exact tS rfl
          apply i_gT
          · exact rfl
          apply i_mov
          · exact tI rfl
          apply i_gT
          · exact rfl
          apply i_idxM
          · exact rfl
          · exact rfl
          · exact rfl
          · exact rfl
          · exact True.intro
          · omega
          apply i_gT
          · exact rfl
          apply i_loadM
          · exact rfl
          · exact True.intro
          · omega
          · exact fun _ => rfl
          (refine ⟨by omega, ?_⟩)
          apply i_pickT
          · exact rfl
          · exact tB rfl
          apply i_mov
          · exact tB rfl
          simp only [he]
          apply i_gF
          · exact rfl
          · exact rfl
          apply i_gF
          · exact rfl
          · exact rfl
          apply i_gF
          · exact rfl
          · exact rfl
          apply i_gF
          · exact rfl
          · exact rfl
          apply i_gF
          · exact rfl
          · exact rfl
          apply i_gR
          · exact rfl
          · exact rfl
          apply i_gF
          · exact rfl
          · exact rfl
          apply i_gF
          · exact rfl
          · exact rfl
          apply i_pickF
          · exact rfl
          · exact tB rfl
          refine i_nil ?_
          apply r_condF
          · exact rfl
          refine r_nop ?_
          refine r_nop ?_
          refine r_reg ?_
          apply i_mov
          · exact tI rfl
          apply i_add
          · exact rfl
          · exact rfl
          · omega
          apply i_mov
          · exact tI rfl
          refine i_nil ?_
          refine r_nop ?_
          apply q_lp [1, 2, 7, 8, 9]
          · exact hfin _ _ [] hk2 hat6 hat6'
          · omega
        | true =>
          apply c_re
          · (apply c_toStr; (· exact rfl); (· assumption); (· (refine Rd.rd ?_; (refine Rd.stays ?_ (by assumption); assumption))); (· exact rfl))
          apply i_toStr
          · exact rfl
          · assumption
          · (refine Rd.rd ?_; assumption)
          apply i_snF
          · exact rfl
          · exact rfl
          · exact rfl
          refine i_nil ?_
          apply r_condF
          · exact rfl
          refine r_nop ?_
          refine r_reg ?_
          apply i_mov
          · exact tI rfl
          apply i_mov
          · exact tS rfl
          apply i_lenM
          · exact rfl
          apply i_ltT
          · exact rfl
          · exact rfl
          · omega
          apply i_mov
          · exact tB rfl
          apply i_gT
          · exact rfl
          apply i_mov
          · exact tS rfl
          apply i_gT
          · exact rfl
          apply i_mov
          · exact tI rfl
          apply i_gT
          · exact rfl
          apply i_idxM
          · exact rfl
          · exact rfl
          · exact rfl
          · exact rfl
          · exact True.intro
          · omega
          apply i_gT
          · exact rfl
          apply i_loadM
          · exact rfl
          · exact True.intro
          · omega
          · exact fun _ => rfl
          (refine ⟨by omega, ?_⟩)
          apply i_pickT
          · exact rfl
          · exact tB rfl
          apply i_mov
          · exact tB rfl
          simp only [he]
          apply i_gT
          · exact rfl
          apply i_mov
          · exact tP rfl
          apply i_gT
          · exact rfl
          apply i_mov
          · exact tP rfl
          apply i_gT
          · exact rfl
          refine i_call (swabEnd _ on _ _ hat6) rfl ?_
          rintro v S7 ⟨hst7, ⟨o7, s7, rfl, hs7, hn7, hr7⟩, hat7⟩
          have hat7' := hat6'.stays hst7 (by simp; omega)
          apply i_gT
          · exact rfl
          apply i_toStr
          · exact rfl
          · assumption
          · (refine Rd.rd ?_; assumption)
          apply i_gT
          · exact rfl
          refine i_call (refSwabEnd _ on _ _ hat7') rfl ?_
          rintro v S8 ⟨hst8, ⟨o8, s8, rfl, hs8, hn8, hr8⟩, hat8'⟩
          have hat8 := hat7.stays hst8 (by simp; omega)
          apply i_gT
          · exact rfl
          apply c_re
          · (apply c_toStr; (· exact rfl); (· assumption); (· (refine Rd.rd ?_; (refine Rd.stays ?_ (by assumption); assumption))); (· exact rfl))
          apply i_gT
          · exact rfl
          apply i_toStr
          · exact rfl
          · assumption
          · (refine Rd.rd ?_; assumption)
          apply i_gT
          · exact rfl
          apply i_snF
          · exact rfl
          · exact rfl
          · exact rfl
          apply i_pickT
          · exact rfl
          · exact tB rfl
          refine i_nil ?_
          apply r_condF
          · exact rfl
          refine r_nop ?_
          refine r_nop ?_
          refine r_reg ?_
          apply i_mov
          · exact tI rfl
          apply i_add
          · exact rfl
          · exact rfl
          · omega
          apply i_mov
          · exact tI rfl
          refine i_nil ?_
          refine r_nop ?_
          apply q_lp [1, 2, 7, 8, 9]
          · exact hfin _ _ [] (by simp) hat8 hat8'
          · omega
      · apply c_re
        · (apply c_toStr; (· exact rfl); (· assumption); (· (refine Rd.rd ?_; (refine Rd.stays ?_ (by assumption); assumption))); (· exact rfl))
        apply i_toStr
        · exact rfl
        · assumption
        · (refine Rd.rd ?_; assumption)
        apply i_snF
        · exact rfl
        · exact rfl
        · exact rfl
        refine i_nil ?_
        apply r_condF
        · exact rfl
        refine r_nop ?_
        refine r_reg ?_
        apply i_mov
        · exact tI rfl
        apply i_mov
        · exact tS rfl
        apply i_lenM
        · exact rfl
        apply i_ltF
        · exact rfl
        · exact rfl
        · omega
        apply i_mov
        · exact tB rfl
        apply i_gF
        · exact rfl
        · exact rfl
        apply i_gF
        · exact rfl
        · exact rfl
        apply i_gF
        · exact rfl
        · exact rfl
        apply i_gF
        · exact rfl
        · exact rfl
        apply i_pickF
        · exact rfl
        · exact tB rfl
        apply i_mov
        · exact tB rfl
        apply i_gF
        · exact rfl
        · exact rfl
        apply i_gF
        · exact rfl
        · exact rfl
        apply i_gF
        · exact rfl
        · exact rfl
        apply i_gF
        · exact rfl
        · exact rfl
        apply i_gF
        · exact rfl
        · exact rfl
        apply i_gR
        · exact rfl
        · exact rfl
        apply i_gF
        · exact rfl
        · exact rfl
        apply i_gF
        · exact rfl
        · exact rfl
        apply i_pickF
        · exact rfl
        · exact tB rfl
        refine i_nil ?_
        apply r_condF
        · exact rfl
        refine r_nop ?_
        refine r_nop ?_
        refine r_reg ?_
        apply i_mov
        · exact tI rfl
        apply i_add
        · exact rfl
        · exact rfl
        · omega
        apply i_mov
        · exact tI rfl
        refine i_nil ?_
        refine r_nop ?_
        apply q_lp [1, 2, 7, 8, 9]
        · exact hfin _ _ [] hk2 hat6 hat6'
        · omega
    · refine r_reg ?_
      apply i_mov
      · exact tI rfl
      apply i_mov
      · exact tS rfl
      apply i_lenM
      · exact rfl
      apply i_ltF
      · exact rfl
      · exact rfl
      · omega
      refine i_nil ?_
      apply r_condF
      · exact rfl
      refine r_exit ?_
      refine r_reg ?_
      apply i_mov
      · exact tP rfl
      apply i_mov
      · exact tP rfl
      refine i_call (swabEnd _ on _ _ hat) rfl ?_
      rintro v S7 ⟨hst7, ⟨o7, s7, rfl, hs7, hn7, hr7⟩, hat7⟩
      have hat7' := hat'.stays hst7 (by simp; omega)
      apply i_toStr
      · exact rfl
      · assumption
      · (refine Rd.rd ?_; assumption)
      refine i_call (refSwabEnd _ on _ _ hat7') rfl ?_
      rintro v S8 ⟨hst8, ⟨o8, s8, rfl, hs8, hn8, hr8⟩, hat8'⟩
      have hat8 := hat7.stays hst8 (by simp; omega)
      apply c_re
      · (apply c_toStr; (· exact rfl); (· assumption); (· (refine Rd.rd ?_; (refine Rd.stays ?_ (by assumption); assumption))); (· exact rfl))
      apply i_toStr
      · exact rfl
      · assumption
      · (refine Rd.rd ?_; assumption)
      apply i_seT
      · exact rfl
      · exact rfl
      · exact rfl
      apply i_mov
      · exact tB rfl
      apply i_gT
      · exact rfl
      apply i_mov
      · exact tP rfl
      apply i_gT
      · exact rfl
      refine i_call (swabEnd _ on _ _ hat8) rfl ?_
      rintro v S9 ⟨hst9, ⟨o9, s9, rfl, hs9, hn9, hr9⟩, hat9⟩
      apply i_gT
      · exact rfl
      apply i_len0
      · exact rfl
      apply i_gT
      · exact rfl
      apply i_eqT
      · exact rfl
      · exact rfl
      · omega
      apply i_pickT
      · exact rfl
      · exact tB rfl
      apply i_mov
      · exact tB rfl
      apply i_gT
      · exact rfl
      refine i_call (swabRuns _) rfl ?_
      rintro v S10 ⟨rfl, hst10⟩
      apply i_pickT
      · exact rfl
      · exact tB rfl
      apply i_mov
      · exact tB rfl
      refine i_nil ?_
      refine r_ret ?_
      apply q_ret1
      · exact tB rfl
      rfl
end Go.Proofs.Ytmjjhakclggfgaa.Abs
