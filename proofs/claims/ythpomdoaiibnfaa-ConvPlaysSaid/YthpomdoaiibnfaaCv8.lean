/- The laws' own few, and the closed sentence of chapter 8: contracts. -/
import Derived.Test.YthpomdoaiibnfaaCv7
namespace Go.Proofs.Ythpomdoaiibnfaa.Abs
open Go Go.Proofs
set_option linter.unusedVariables false
set_option linter.unusedSimpArgs false
attribute [local irreducible] wpI wpR ropK chk ASt.push ASt.put ASt.fresh ASt.kill appS

theorem few8 (ls : List (List UInt8)) (S : ASt) :
    ACalls Try.prog 15 [.sl .ro 1 (ls.map rov)] S fun v S' => ∃ b, v = .bool b ∧ S' = S ∧ (b = true → ls.length ≤ 30 ∧ ls.flatten.length ≤ 300) := by
  refine en_15 (by exact Nat.le_of_ble_eq_true rfl) ?_
  unfold rc_15
  refine r_reg ?_
  apply i_mov
  · exact tB rfl
  refine i_nil ?_
  refine r_reg ?_
  apply i_mov
  · exact tI rfl
  refine i_nil ?_
  refine r_reg ?_
  apply i_mov
  · exact tI rfl
  refine i_nil ?_
  refine r_block ?_
  refine r_loopP [0, 3, 4] (fun m G S' => ∃ i : Nat, G = [(0, .sl .ro 1 (ls.map rov)), (3, .int .i64 ((ls.take i).flatten.length : Nat)), (4, .int .i64 (i : Nat))] ∧ m = ls.length - i ∧ i ≤ ls.length ∧ i ≤ 60 ∧ (ls.take i).flatten.length ≤ 300 * i ∧ S' = S) ?_ ?_
  · exact ⟨_, 0, rfl, rfl, Nat.zero_le _, Nat.zero_le _, by simp, rfl⟩
  rintro m G S1 ⟨i, rfl, rfl, hi, h100, hsum, rfl⟩
  by_cases hc : i < ls.length
  · by_cases h2 : i < 60
    · have hct := flat_take hc
      have hlen := congrArg List.length hct
      rw [List.length_append] at hlen
      by_cases h3 : (ls[i]).length ≤ 300
      · refine r_reg ?_
        apply i_mov
        · exact tI rfl
        apply i_mov
        · exact tS rfl
        apply i_lenM
        · exact rfl
        apply i_ltT
        · exact rfl
        · exact rfl
        · omega
        apply i_mov
        · exact tB rfl
        apply i_gT
        · exact rfl
        apply i_mov
        · exact tI rfl
        apply i_gT
        · exact rfl
        apply i_ltT
        · exact rfl
        · exact rfl
        · omega
        apply i_pickT
        · exact rfl
        · exact tB rfl
        refine i_nil ?_
        apply r_condT
        · exact rfl
        refine r_nop ?_
        refine r_block ?_
        refine r_reg ?_
        apply i_mov
        · exact tS rfl
        apply i_mov
        · exact tI rfl
        apply i_idxM
        · exact rfl
        · exact rfl
        · exact rfl
        · exact rfl
        · exact True.intro
        · omega
        apply i_loadM
        · exact rfl
        · exact True.intro
        · omega
        · exact fun _ => rfl
        (refine ⟨by omega, ?_⟩)
        apply i_lenM
        · exact rfl
        apply i_gtF
        · exact rfl
        · exact rfl
        · omega
        refine i_nil ?_
        apply r_condF
        · exact rfl
        refine r_nop ?_
        refine r_reg ?_
        apply i_mov
        · exact tI rfl
        apply i_mov
        · exact tS rfl
        apply i_mov
        · exact tI rfl
        apply i_idxM
        · exact rfl
        · exact rfl
        · exact rfl
        · exact rfl
        · exact True.intro
        · omega
        apply i_loadM
        · exact rfl
        · exact True.intro
        · omega
        · exact fun _ => rfl
        (refine ⟨by omega, ?_⟩)
        apply i_lenM
        · exact rfl
        apply i_add
        · exact rfl
        · exact rfl
        · omega
        apply i_mov
        · exact tI rfl
        refine i_nil ?_
        refine r_nop ?_
        refine r_reg ?_
        apply i_mov
        · exact tI rfl
        apply i_add
        · exact rfl
        · exact rfl
        · omega
        apply i_mov
        · exact tI rfl
        refine i_nil ?_
        refine r_nop ?_
        apply q_l
        · exact ⟨i + 1, rfl, rfl, hc, h2, by omega, rfl⟩
        · omega
        · exact ⟨rfl, int_eq (by omega), rfl, trivial⟩
      · refine r_reg ?_
        apply i_mov
        · exact tI rfl
        apply i_mov
        · exact tS rfl
        apply i_lenM
        · exact rfl
        apply i_ltT
        · exact rfl
        · exact rfl
        · omega
        apply i_mov
        · exact tB rfl
        apply i_gT
        · exact rfl
        apply i_mov
        · exact tI rfl
        apply i_gT
        · exact rfl
        apply i_ltT
        · exact rfl
        · exact rfl
        · omega
        apply i_pickT
        · exact rfl
        · exact tB rfl
        refine i_nil ?_
        apply r_condT
        · exact rfl
        refine r_nop ?_
        refine r_block ?_
        refine r_reg ?_
        apply i_mov
        · exact tS rfl
        apply i_mov
        · exact tI rfl
        apply i_idxM
        · exact rfl
        · exact rfl
        · exact rfl
        · exact rfl
        · exact True.intro
        · omega
        apply i_loadM
        · exact rfl
        · exact True.intro
        · omega
        · exact fun _ => rfl
        (refine ⟨by omega, ?_⟩)
        apply i_lenM
        · exact rfl
        apply i_gtT
        · exact rfl
        · exact rfl
        · omega
        refine i_nil ?_
        apply r_condT
        · exact rfl
        refine r_reg ?_
        apply i_mov
        · exact tB rfl
        refine i_nil ?_
        refine r_ret ?_
        refine q_kr ?_
        refine q_br ?_
        refine q_lr ?_
        refine q_br ?_
        apply q_ret1
        · exact tB rfl
        exact ⟨false, rfl, rfl, by intro h; cases h⟩
    · refine r_reg ?_
      apply i_mov
      · exact tI rfl
      apply i_mov
      · exact tS rfl
      apply i_lenM
      · exact rfl
      apply i_ltT
      · exact rfl
      · exact rfl
      · omega
      apply i_mov
      · exact tB rfl
      apply i_gT
      · exact rfl
      apply i_mov
      · exact tI rfl
      apply i_gT
      · exact rfl
      apply i_ltF
      · exact rfl
      · exact rfl
      · omega
      apply i_pickT
      · exact rfl
      · exact tB rfl
      refine i_nil ?_
      apply r_condF
      · exact rfl
      refine r_exit ?_
      refine r_reg ?_
      apply i_mov
      · exact tS rfl
      apply i_lenM
      · exact rfl
      apply i_leF
      · exact rfl
      · exact rfl
      · omega
      apply i_mov
      · exact tB rfl
      apply i_gF
      · exact rfl
      · exact rfl
      apply i_gF
      · exact rfl
      · exact rfl
      apply i_pickF
      · exact rfl
      · exact tB rfl
      apply i_mov
      · exact tB rfl
      refine i_nil ?_
      refine r_ret ?_
      apply q_ret1
      · exact tB rfl
      exact ⟨false, rfl, rfl, by intro h; cases h⟩
  · have e : i = ls.length := by omega
    subst e
    rw [List.take_length]
    by_cases h60 : ls.length ≤ 30
    · by_cases h3 : ls.flatten.length ≤ 300
      · refine r_reg ?_
        apply i_mov
        · exact tI rfl
        apply i_mov
        · exact tS rfl
        apply i_lenM
        · exact rfl
        apply i_ltF
        · exact rfl
        · exact rfl
        · omega
        apply i_mov
        · exact tB rfl
        apply i_gF
        · exact rfl
        · exact rfl
        apply i_gF
        · exact rfl
        · exact rfl
        apply i_pickF
        · exact rfl
        · exact tB rfl
        refine i_nil ?_
        apply r_condF
        · exact rfl
        refine r_exit ?_
        refine r_reg ?_
        apply i_mov
        · exact tS rfl
        apply i_lenM
        · exact rfl
        apply i_leT
        · exact rfl
        · exact rfl
        · omega
        apply i_mov
        · exact tB rfl
        apply i_gT
        · exact rfl
        apply i_mov
        · exact tI rfl
        apply i_gT
        · exact rfl
        apply i_leT
        · exact rfl
        · exact rfl
        · omega
        apply i_pickT
        · exact rfl
        · exact tB rfl
        apply i_mov
        · exact tB rfl
        refine i_nil ?_
        refine r_ret ?_
        apply q_ret1
        · exact tB rfl
        exact ⟨true, rfl, rfl, fun _ => ⟨h60, h3⟩⟩
      · refine r_reg ?_
        apply i_mov
        · exact tI rfl
        apply i_mov
        · exact tS rfl
        apply i_lenM
        · exact rfl
        apply i_ltF
        · exact rfl
        · exact rfl
        · omega
        apply i_mov
        · exact tB rfl
        apply i_gF
        · exact rfl
        · exact rfl
        apply i_gF
        · exact rfl
        · exact rfl
        apply i_pickF
        · exact rfl
        · exact tB rfl
        refine i_nil ?_
        apply r_condF
        · exact rfl
        refine r_exit ?_
        refine r_reg ?_
        apply i_mov
        · exact tS rfl
        apply i_lenM
        · exact rfl
        apply i_leT
        · exact rfl
        · exact rfl
        · omega
        apply i_mov
        · exact tB rfl
        apply i_gT
        · exact rfl
        apply i_mov
        · exact tI rfl
        apply i_gT
        · exact rfl
        apply i_leF
        · exact rfl
        · exact rfl
        · omega
        apply i_pickT
        · exact rfl
        · exact tB rfl
        apply i_mov
        · exact tB rfl
        refine i_nil ?_
        refine r_ret ?_
        apply q_ret1
        · exact tB rfl
        exact ⟨false, rfl, rfl, by intro h; cases h⟩
    · refine r_reg ?_
      apply i_mov
      · exact tI rfl
      apply i_mov
      · exact tS rfl
      apply i_lenM
      · exact rfl
      apply i_ltF
      · exact rfl
      · exact rfl
      · omega
      apply i_mov
      · exact tB rfl
      apply i_gF
      · exact rfl
      · exact rfl
      apply i_gF
      · exact rfl
      · exact rfl
      apply i_pickF
      · exact rfl
      · exact tB rfl
      refine i_nil ?_
      apply r_condF
      · exact rfl
      refine r_exit ?_
      refine r_reg ?_
      apply i_mov
      · exact tS rfl
      apply i_lenM
      · exact rfl
      apply i_leF
      · exact rfl
      · exact rfl
      · omega
      apply i_mov
      · exact tB rfl
      apply i_gF
      · exact rfl
      · exact rfl
      apply i_gF
      · exact rfl
      · exact rfl
      apply i_pickF
      · exact rfl
      · exact tB rfl
      apply i_mov
      · exact tB rfl
      refine i_nil ?_
      refine r_ret ?_
      apply q_ret1
      · exact tB rfl
      exact ⟨false, rfl, rfl, by intro h; cases h⟩

theorem cAllR (c : CV) (ls : List (List UInt8)) (S : ASt) (hcn : c.norm.n ≤ 500) (hn : ls.length ≤ 100000) (hb : ls.flatten.length ≤ 1000) :
    ACalls Try.prog 10 [.agg c.cells, .sl .ro 1 (ls.map rov)] S fun v S' => Stays S S' [] ∧ BA S S' v (cvAll c.norm ls.flatten) := by
  have := cAll c .ro (bls ls) S hcn Rd.ro (bls_ok ls S) (by simpa [bls] using hn) (by rw [bls_cat]; exact hb)
  rwa [bls_slv, bls_cat] at this
theorem cAll1 (c : CV) (o : Own) (sz : Nat) (l : List UInt8) (S : ASt) (hcn : c.norm.n ≤ 500) (hs : sz = 1 ∨ l = []) (hn : o = .nil → l = []) (hr : Rd S o) (hb : l.length ≤ 1000) :
    ACalls Try.prog 10 [.agg c.cells, .sl .ro 1 [.sl o sz (u8s l)]] S fun v S' => Stays S S' [] ∧ BA S S' v (cvAll c.norm l) := by
  have := cAll c .ro [⟨o, sz, l⟩] S hcn Rd.ro (one_ok hs hn hr) (by simp) (by rw [one_cat]; exact hb)
  rwa [one_cat] at this

theorem convRuns (S : ASt) : ACalls Try.prog 3 [] S fun v S' => v = .bool true ∧ Stays S S' [] := by
  refine en_3 (by exact Nat.le_of_ble_eq_true rfl) ?_
  unfold rc_3
  obtain ⟨c, hc⟩ : ∃ c : CV, c = ⟨false, true, false, false, true, false, false, false, 3⟩ := ⟨_, rfl⟩
  have hm : c.may = true := by rw [hc]; decide
  have hnn : c.norm = c := by simp [CV.norm, hm]
  have hn : c.n = 3 := by rw [hc]; rfl
  have hall : cvAll c [97, 98, 10] = [65, 66, 32] := by rw [hc]; kernel_rfl
  have hpad : (if c.blocks || c.unblocks then (32 : Int) else 0) = 32 := by rw [hc]; rfl
  have hm2 : CV.may ⟨false, true, false, false, false, false, false, false, 0⟩ = false := by decide
  have hpad2 : (if CV.zero.blocks || CV.zero.unblocks then (32 : Int) else 0) = 0 := rfl
  have hcc : c.cells = [.bool false, .bool true, .bool false, .bool false, .bool true, .bool false, .bool false, .bool false, .int .i64 3] := by rw [hc]; rfl
  refine r_reg ?_
  apply i_mov
  · exact tB rfl
  refine i_nil ?_
  refine r_reg ?_
  refine i_build (cs := [.bool false, .bool true, .bool false, .bool false, .bool true, .bool false, .bool false, .bool false, .int .i64 3]) rfl ?_
  rw [← hcc]
  refine i_alloc ?_
  apply i_stN
  · exact rfl
  · exact rfl
  · exact Ob.new
  · exact rfl
  · exact rfl
  · exact rfl
  refine i_nil ?_
  refine r_reg ?_
  apply i_loadN
  · exact rfl
  · (apply Ob.put'; exact Ob.new)
  · exact rfl
  have hoc : ((S.push [.bool false, .bool false, .bool false, .bool false, .bool false, .bool false, .bool false, .bool false, .int .i64 0]).put S.objs.length c.cells).objs[S.objs.length]? = some c.cells := Ob.put' Ob.new
  have hst1 : Stays S ((S.push [.bool false, .bool false, .bool false, .bool false, .bool false, .bool false, .bool false, .bool false, .int .i64 0]).put S.objs.length c.cells) [] := (Stays.refl _ _).push.put (.inr (Nat.le_refl _))
  generalize ((S.push [.bool false, .bool false, .bool false, .bool false, .bool false, .bool false, .bool false, .bool false, .int .i64 0]).put S.objs.length c.cells) = S1 at hoc hst1 ⊢
  generalize S.objs.length = oc at hoc ⊢
  refine i_mkO (xs := u8s [97, 98, 10]) rfl ?_
  refine i_frz rfl live_new ?_
  have hrz := Rd.frz (S := S1)
  have hst2 := hst1.frz
  have hoc2 : ((S1.fresh).kill S1.next).fresh.objs[oc]? = some c.cells := Ob.fresh (Ob.kill (Ob.fresh hoc))
  have hoz : ¬ Own.sub S1.fresh.next = .nil := by intro h; cases h
  generalize (Own.sub S1.fresh.next) = oz at hrz hoz ⊢
  generalize ((S1.fresh).kill S1.next).fresh = S2 at hrz hst2 hoc2 ⊢
  apply i_mk1
  · exact tS rfl
  · exact rfl
  refine i_call (cAll1 c oz 1 [97, 98, 10] _ (by rw [hnn, hn]; decide) (.inl rfl) (by intro h; exact absurd h hoz) hrz (by simp)) rfl ?_
  rw [hnn, hall]
  rintro v S3 ⟨hst3, hv⟩
  obtain ⟨ow, sw, rfl, hsw, hnw, hrw⟩ := hv.bs
  apply i_toStr
  · exact rfl
  · assumption
  · (refine Rd.rd ?_; assumption)
  apply i_seT
  · exact rfl
  · exact rfl
  · exact rfl
  apply i_mov
  · exact tB rfl
  apply i_gT
  · exact rfl
  apply i_loadN
  · exact rfl
  · ((apply Ob.stays0'; (· assumption)); assumption)
  · exact rfl
  apply i_gT
  · exact rfl
  refine i_call (cMay c _) rfl ?_
  rw [hm]
  rintro v S4 ⟨rfl, hst4⟩
  apply i_pickT
  · exact rfl
  · exact tB rfl
  apply i_mov
  · exact tB rfl
  apply i_gT
  · exact rfl
  apply i_loadN
  · exact rfl
  · ((apply Ob.stays0'; (· assumption)); (apply Ob.stays0'; (· assumption)); assumption)
  · exact rfl
  apply i_gT
  · exact rfl
  refine i_call (cPad c _) rfl ?_
  rw [hpad]
  rintro v S5 ⟨rfl, hst5⟩
  apply i_gT
  · exact rfl
  apply i_eqT
  · exact rfl
  · exact rfl
  · omega
  apply i_pickT
  · exact rfl
  · exact tB rfl
  apply i_mov
  · exact tB rfl
  apply i_gT
  · exact rfl
  refine i_build (cs := CV.cells ⟨false, true, false, false, false, false, false, false, 0⟩) rfl ?_
  apply i_gT
  · exact rfl
  refine i_call (cMay ⟨false, true, false, false, false, false, false, false, 0⟩ _) rfl ?_
  rw [hm2]
  rintro v S6 ⟨rfl, hst6⟩
  apply i_gT
  · exact rfl
  apply i_notF
  · exact rfl
  apply i_pickT
  · exact rfl
  · exact tB rfl
  apply i_mov
  · exact tB rfl
  apply i_gT
  · exact rfl
  refine i_build (cs := CV.zero.cells) rfl ?_
  apply i_gT
  · exact rfl
  refine i_call (cPad CV.zero _) rfl ?_
  rw [hpad2]
  rintro v S7 ⟨rfl, hst7⟩
  apply i_gT
  · exact rfl
  apply i_eqT
  · exact rfl
  · exact rfl
  · omega
  apply i_pickT
  · exact rfl
  · exact tB rfl
  apply i_mov
  · exact tB rfl
  refine i_nil ?_
  refine r_ret ?_
  apply q_ret1
  · exact tB rfl
  exact ⟨rfl, ((((hst2.then0 hst3).then0 hst4).then0 hst5).then0 hst6).then0 hst7⟩
end Go.Proofs.Ythpomdoaiibnfaa.Abs
