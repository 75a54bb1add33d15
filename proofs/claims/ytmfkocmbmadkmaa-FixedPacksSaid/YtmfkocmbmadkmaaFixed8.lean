/- The law FixedPacks: that it answers true. -/
import Derived.Test.YtmfkocmbmadkmaaFixed7
namespace Go.Proofs.Ytmfkocmbmadkmaa.Abs
open Go Go.Proofs
set_option linter.unusedVariables false
set_option linter.unusedSimpArgs false
attribute [local irreducible] wpI wpR ropK chk ASt.push ASt.put ASt.fresh ASt.kill appS

theorem fixedPacks (cbs : Int) (ls : List (List UInt8)) (es : List Bool) (S : ASt) :
    ACalls Try.prog 5 [.int .i64 cbs, .sl .ro 1 (ls.map rov), .sl .ro 1 (es.map .bool)] S fun v S' => v = .bool true := by
  refine en_5 (by exact Nat.le_of_ble_eq_true rfl) ?_
  unfold rc_5
  dsimp only
  refine r_reg ?_
  apply i_mov
  · exact tB rfl
  refine i_nil ?_
  refine r_reg ?_
  apply i_mov
  · exact tI rfl
  apply i_mov
  · exact tS rfl
  refine i_call (few cbs ls _) rfl ?_
  rintro v S1 ⟨b, rfl, rfl, hb⟩
  cases b with
  | false =>
    apply i_notF
    · exact rfl
    refine i_nil ?_
    apply r_condT
    · exact rfl
    refine r_reg ?_
    refine i_call (fixedRuns _) rfl ?_
    rintro v S2 ⟨rfl, hst⟩
    apply i_mov
    · exact tB rfl
    refine i_nil ?_
    refine r_ret ?_
    refine q_kr ?_
    apply q_ret1
    · exact tB rfl
    rfl
  | true =>
    obtain ⟨h60, h3000⟩ := hb rfl
    clear hb
    obtain ⟨_, hc0, hc⟩ := heldC_ok cbs
    apply i_notT
    · exact rfl
    refine i_nil ?_
    apply r_condF
    · exact rfl
    refine r_nop ?_
    refine r_reg ?_
    apply i_mov
    · exact tI rfl
    refine i_call (newPacker cbs _) rfl ?_
    rintro v S2 ⟨o1, rfl, ho1, hst2, hat2⟩
    have hlt2 : o1 < S2.objs.length := by obtain ⟨sb, h, _⟩ := id hat2; exact Ob.lt h
    apply i_mov
    · exact tI rfl
    refine i_call (refHeld cbs _) rfl ?_
    rintro v S3 ⟨rfl, rfl⟩
    skip
    refine i_build (cs := [.int .i64 (heldC cbs : Nat), .int .i64 0, .sl .nil 0 (u8s [])]) rfl ?_
    apply i_boxA
    · exact rfl
    apply i_mov
    · exact tP rfl
    apply i_mov
    · exact tP rfl
    refine i_nil ?_
    refine r_reg ?_
    apply i_mov
    · exact tP rfl
    apply i_eqpS
    · exact rfl
    · exact rfl
    apply i_mov
    · exact tB rfl
    apply i_gT
    · exact rfl
    apply i_mov
    · exact tP rfl
    apply i_gT
    · exact rfl
    apply i_nckP
    · exact rfl
    apply i_gT
    · exact rfl
    apply i_fld0
    · exact rfl
    apply i_gT
    · exact rfl
    have hat3 : RecAt (S3.push [.int .i64 (heldC cbs : Nat), .int .i64 0, .sl .nil 0 (u8s [])]) o1 (heldC cbs) [] .nil [.int .i64 (0 : Nat)] := hat2.push
    have hat3' : RpAt (S3.push [.int .i64 (heldC cbs : Nat), .int .i64 0, .sl .nil 0 (u8s [])]) S3.objs.length 0 (heldC cbs) [] 0 .nil [.int .i64 (heldC cbs : Nat), .int .i64 0, .sl .nil 0 (u8s [])] :=
      ⟨0, Ob.new, rfl, rfl, rfl, App.none⟩
    have hne : o1 ≠ S3.objs.length := by omega
    generalize S3.objs.length = o2 at hne hat3' ⊢
    generalize (S3.push [.int .i64 (heldC cbs : Nat), .int .i64 0, .sl .nil 0 (u8s [])]) = S4 at hat3 hat3' ⊢
    refine i_call (recCbs _ _ _ _ _ _ hat3) rfl ?_
    rintro v S5 ⟨rfl, rfl⟩
    apply i_gT
    · exact rfl
    apply i_mov
    · exact tI rfl
    apply i_gT
    · exact rfl
    refine i_call (refHeld cbs _) rfl ?_
    rintro v S6 ⟨rfl, rfl⟩
    generalize heldC cbs = c at hc0 hc hat3 hat3' ⊢
    apply i_gT
    · exact rfl
    apply i_neF
    · exact rfl
    · exact rfl
    · omega
    apply i_pickF
    · exact rfl
    · exact tB rfl
    refine i_nil ?_
    apply r_condF
    · exact rfl
    refine r_nop ?_
    refine r_reg ?_
    apply i_mov
    · exact tI rfl
    refine i_nil ?_
    refine r_block ?_
    refine r_loopP [1, 2, 7, 8, 9] (fun m G S' => ∃ (i : Nat) (line : List UInt8) (cut : Nat) (ob ob2 : Own) (cs : List AV), G = [(1, .sl .ro 1 (ls.map rov)), (2, .sl .ro 1 (es.map .bool)), (7, .ptr (some (o1, 0))), (8, .ptr (some (o2, 0))), (9, .int .i64 (i : Nat))] ∧ m = ls.length - i ∧ i ≤ ls.length ∧
      line.length ≤ (ls.take i).flatten.length ∧ cut ≤ (ls.take i).flatten.length + i ∧ RecAt S' o1 c line ob [.int .i64 (cut : Nat)] ∧ RpAt S' o2 0 c line cut ob2 cs ∧ Apart ob ob2) ?_ ?_
    · exact ⟨_, 0, [], 0, .nil, .nil, _, rfl, rfl, Nat.zero_le _, by simp, by simp, hat3, hat3', Apart.nil⟩
    clear hat3 hat3' hst2 hat2 hlt2 ho1
    rintro m G S4 ⟨i, line, cut, ob, ob2, cs, rfl, rfl, hi, hll, hcut, hat, hat', hap⟩
    have hfl := flat_le ls i
    by_cases h : i < ls.length
    · have hfm := flat_mem h
      have hct := congrArg List.length (flat_take h)
      rw [List.length_append] at hct
      refine r_reg ?_
      apply i_mov
      · exact tI rfl
      apply i_mov
      · exact tS rfl
      apply i_lenM
      · exact rfl
      apply i_ltT
      · exact rfl
      · exact rfl
      · omega
      refine i_nil ?_
      apply r_condT
      · exact rfl
      refine r_nop ?_
      refine r_block ?_
      refine r_reg ?_
      apply i_mov
      · exact tP rfl
      apply i_mov
      · exact tS rfl
      apply i_mov
      · exact tI rfl
      apply i_idxM
      · exact rfl
      · exact rfl
      · exact rfl
      · exact rfl
      · exact True.intro
      · omega
      apply i_loadM
      · exact rfl
      · exact True.intro
      · omega
      · exact fun _ => rfl
      (refine ⟨by omega, ?_⟩)
      apply i_mov
      · exact tP rfl
      apply i_mov
      · exact tS rfl
      apply i_mov
      · exact tI rfl
      apply i_idxM
      · exact rfl
      · exact rfl
      · exact rfl
      · exact rfl
      · exact True.intro
      · omega
      apply i_loadM
      · exact rfl
      · exact True.intro
      · omega
      · exact fun _ => rfl
      (refine ⟨by omega, ?_⟩)
      refine i_call (packPut o1 c line ob cut .ro 1 ls[i] _ (.inl rfl) Rd.ro Apart.ro hat hc (by omega) (by omega) (by omega)) rfl ?_
      have hpl := pk_len c ls[i] ⟨[], line, cut⟩
      change (pkOut c line cut ls[i]).out.length ≤ _ ∧ (pkOut c line cut ls[i]).line.length ≤ _ ∧ (pkOut c line cut ls[i]).cut ≤ _ at hpl
      simp only at hpl
      rintro v S5 ⟨hst5, ov, sv, ob', rfl, hav, hnv, hat5, hnew5, hap5⟩
      have hrb2 := hat'.rd
      have hapv2 : Apart ov ob2 := (Apart.lt hrb2 (fun t ht => hnv t (hav.tok t ht))).symm
      have hap' : Apart ob' ob2 := (Apart.new hap.symm hrb2 hnew5).symm
      replace hat' := hat'.stayx hst5 (by simp; omega) hap.symm
      have hs5 : sv = 1 ∨ (pkOut c line cut ls[i]).out = [] := hav.sz.imp id (fun h => List.length_eq_zero_iff.1 h)
      have hrv := hav.rd
      apply c_re
      · (apply c_loadM; (· exact rfl); (· exact True.intro); (· omega); (· exact fun _ => rfl); (refine ⟨by omega, rfl⟩))
      apply c_re
      · (apply c_idxM; (· exact rfl); (· exact rfl); (· exact rfl); (· exact rfl); (· exact True.intro); (· omega); (· exact rfl))
      apply i_toStr
      · exact rfl
      · assumption
      · (refine Rd.rd ?_; assumption)
      refine i_call (refPackPut o2 0 c line ob2 cut .ro 1 ls[i] cs _ (.inl rfl) Rd.ro Apart.ro hat' hc (by omega) (by omega) (by omega)) rfl ?_
      rintro v S6 ⟨hst6, ow, sw, ob2', cs', rfl, haw, hnw, hat6', hnew6, hap6, hoff6⟩
      have hrb' := hat5.rd
      have hat6 := hat5.stayx hst6 (by simp; omega) hap'
      replace hrv := hrv.stayo hst6 hapv2
      have hap6' : Apart ob' ob2' := Apart.new hap' hrb' hnew6
      have hs6 : sw = 1 ∨ (pkOut c line cut ls[i]).out = [] := haw.sz.imp id (fun h => List.length_eq_zero_iff.1 h)
      have hrw := haw.rd
      obtain ⟨sb6, hob6, g0, g1, g2, ha6⟩ := id hat6'
      have g1' : cs'[1]? = _ := g1
      have g2' : cs'[2]? = _ := g2
      apply c_re
      · (apply c_toStr; (· exact rfl); (· assumption); (· (refine Rd.rd ?_; assumption)); (· exact rfl))
      apply i_toStr
      · exact rfl
      · assumption
      · (refine Rd.rd ?_; assumption)
      apply i_snF
      · exact rfl
      · exact rfl
      · exact rfl
      apply i_mov
      · exact tB rfl
      apply i_gT
      · exact rfl
      apply i_mov
      · exact tP rfl
      apply i_gT
      · exact rfl
      apply i_nckP
      · exact rfl
      apply i_gT
      · exact rfl
      apply i_fld0
      · exact rfl
      apply i_gT
      · exact rfl
      apply i_mov
      · exact tP rfl
      apply i_gT
      · exact rfl
      apply i_nckP
      · exact rfl
      apply i_gT
      · exact rfl
      apply i_fld0
      · exact rfl
      apply i_gT
      · exact rfl
      apply i_load
      · exact rfl
      · assumption
      · assumption
      apply i_gT
      · exact rfl
      apply i_lenM
      · exact rfl
      apply i_gT
      · exact rfl
      refine i_call (recHeld _ _ _ _ _ _ hat6) rfl ?_
      rintro v S7 ⟨rfl, rfl⟩
      apply i_gT
      · exact rfl
      apply c_re
      · (apply c_load; (· exact rfl); (· assumption); (· assumption); (· exact rfl))
      apply i_gT
      · exact rfl
      apply c_re
      · (apply c_fldP; (· exact rfl); (· exact rfl))
      apply i_gT
      · exact rfl
      apply i_neF
      · exact rfl
      · exact rfl
      · omega
      apply i_pickF
      · exact rfl
      · exact tB rfl
      apply i_mov
      · exact tB rfl
      apply i_gT
      · exact rfl
      apply i_mov
      · exact tP rfl
      apply i_gT
      · exact rfl
      apply i_mov
      · exact tP rfl
      apply i_gT
      · exact rfl
      apply i_nckP
      · exact rfl
      apply i_gT
      · exact rfl
      apply i_fld0
      · exact rfl
      apply i_gT
      · exact rfl
      apply i_load
      · exact rfl
      · assumption
      · assumption
      apply i_gT
      · exact rfl
      refine i_call (packCut _ _ _ _ _ _ hat6) rfl ?_
      rintro v S7 ⟨rfl, rfl⟩
      apply i_gT
      · exact rfl
      apply c_re
      · (apply c_load; (· exact rfl); (· assumption); (· assumption); (· exact rfl))
      apply i_gT
      · exact rfl
      apply c_re
      · (apply c_fldP; (· exact rfl); (· exact rfl))
      apply i_gT
      · exact rfl
      apply i_neF
      · exact rfl
      · exact rfl
      · omega
      apply i_pickF
      · exact rfl
      · exact tB rfl
      refine i_nil ?_
      apply r_condF
      · exact rfl
      refine r_nop ?_
      refine r_reg ?_
      apply i_mov
      · exact tI rfl
      apply i_mov
      · exact tS rfl
      apply i_lenM
      · exact rfl
      by_cases hce : i < es.length
      · cases he : es[i] with
        | false =>
          apply i_ltT
          · exact rfl
          · exact rfl
          · omega
          apply i_mov
          · exact tB rfl
          apply i_gT
          · exact rfl
          apply i_mov
          · exact tS rfl
          apply i_gT
          · exact rfl
          apply i_mov
          · exact tI rfl
          apply i_gT
          · exact rfl
          apply i_idxM
          · exact rfl
          · exact rfl
          · exact rfl
          · exact rfl
          · exact True.intro
          · omega
          apply i_gT
          · exact rfl
          apply i_loadM
          · exact rfl
          · exact True.intro
          · omega
          · exact fun _ => rfl
          (refine ⟨by omega, ?_⟩)
          apply i_pickT
          · exact rfl
          · exact tB rfl
          apply i_mov
          · exact tB rfl
          simp only [he]
          apply i_gF
          · exact rfl
          · exact rfl
          apply i_gF
          · exact rfl
          · exact rfl
          apply i_gF
          · exact rfl
          · exact rfl
          apply i_gF
          · exact rfl
          · exact rfl
          apply i_gF
          · exact rfl
          · exact rfl
          apply i_gR
          · exact rfl
          · exact rfl
          apply i_gF
          · exact rfl
          · exact rfl
          apply i_gF
          · exact rfl
          · exact rfl
          apply i_pickF
          · exact rfl
          · exact tB rfl
          refine i_nil ?_
          apply r_condF
          · exact rfl
          refine r_nop ?_
          refine r_nop ?_
          refine r_reg ?_
          apply i_mov
          · exact tI rfl
          apply i_add
          · exact rfl
          · exact rfl
          · omega
          apply i_mov
          · exact tI rfl
          refine i_nil ?_
          refine r_nop ?_
          apply q_lp [1, 2, 7, 8, 9]
          · exact ⟨i + 1, _, _, _, _, _, rfl, rfl, h, by omega, by omega, hat6, hat6', hap6'⟩
          · omega
        | true =>
          apply i_ltT
          · exact rfl
          · exact rfl
          · omega
          apply i_mov
          · exact tB rfl
          apply i_gT
          · exact rfl
          apply i_mov
          · exact tS rfl
          apply i_gT
          · exact rfl
          apply i_mov
          · exact tI rfl
          apply i_gT
          · exact rfl
          apply i_idxM
          · exact rfl
          · exact rfl
          · exact rfl
          · exact rfl
          · exact True.intro
          · omega
          apply i_gT
          · exact rfl
          apply i_loadM
          · exact rfl
          · exact True.intro
          · omega
          · exact fun _ => rfl
          (refine ⟨by omega, ?_⟩)
          apply i_pickT
          · exact rfl
          · exact tB rfl
          apply i_mov
          · exact tB rfl
          simp only [he]
          apply i_gT
          · exact rfl
          apply i_mov
          · exact tP rfl
          apply i_gT
          · exact rfl
          apply i_mov
          · exact tP rfl
          apply i_gT
          · exact rfl
          refine i_call (packEnd o1 c _ ob' _ _ hat6 hc (by omega) (by omega)) rfl ?_
          rintro v S8 ⟨hst8, ⟨o8, s8, rfl, ha8, hn8⟩, ob8, hat8, hob8, hap8⟩
          have hat8' := hat6'.stays hst8 (by simp; omega)
          have hs8 : s8 = 1 ∨ (pkE c (pkOut c line cut ls[i]).line (pkOut c line cut ls[i]).cut).out = [] := ha8.sz.imp id (fun h => List.length_eq_zero_iff.1 h)
          have hr8 := ha8.rd
          have hap82 : Apart ob8 ob2' := by
            rcases hob8 with rfl | rfl
            · exact hap6'
            · exact Apart.nil
          apply i_gT
          · exact rfl
          apply i_toStr
          · exact rfl
          · assumption
          · (refine Rd.rd ?_; assumption)
          apply i_gT
          · exact rfl
          refine i_call (refPackEnd o2 0 c _ ob2' _ cs' _ hat8' hc (by omega) (by omega)) rfl ?_
          rintro v S9 ⟨hst9, ⟨o9, s9, rfl, ha9, hn9⟩, ob9, cs9, hat9', hob9, hap9, hoff9⟩
          have hat9 := hat8.stays hst9 (by simp; omega)
          have hs9 : s9 = 1 ∨ (pkE c (pkOut c line cut ls[i]).line (pkOut c line cut ls[i]).cut).out = [] := ha9.sz.imp id (fun h => List.length_eq_zero_iff.1 h)
          have hr9 := ha9.rd
          replace hr8 := hr8.stays hst9
          have hap99 : Apart ob8 ob9 := by
            rcases hob9 with rfl | rfl
            · exact hap82
            · exact Apart.nilR
          have hel := pkE_len c (pkOut c line cut ls[i]).line (pkOut c line cut ls[i]).cut
          apply i_gT
          · exact rfl
          apply c_re
          · (apply c_toStr; (· exact rfl); (· assumption); (· (refine Rd.rd ?_; assumption)); (· exact rfl))
          apply i_gT
          · exact rfl
          apply i_toStr
          · exact rfl
          · assumption
          · (refine Rd.rd ?_; assumption)
          apply i_gT
          · exact rfl
          apply i_snF
          · exact rfl
          · exact rfl
          · exact rfl
          apply i_pickT
          · exact rfl
          · exact tB rfl
          refine i_nil ?_
          apply r_condF
          · exact rfl
          refine r_nop ?_
          refine r_nop ?_
          refine r_reg ?_
          apply i_mov
          · exact tI rfl
          apply i_add
          · exact rfl
          · exact rfl
          · omega
          apply i_mov
          · exact tI rfl
          refine i_nil ?_
          refine r_nop ?_
          apply q_lp [1, 2, 7, 8, 9]
          · exact ⟨i + 1, [], _, ob8, ob9, cs9, rfl, rfl, h, by simp, by omega, hat9, hat9', hap99⟩
          · omega
      · apply i_ltF
        · exact rfl
        · exact rfl
        · omega
        apply i_mov
        · exact tB rfl
        apply i_gF
        · exact rfl
        · exact rfl
        apply i_gF
        · exact rfl
        · exact rfl
        apply i_gF
        · exact rfl
        · exact rfl
        apply i_gF
        · exact rfl
        · exact rfl
        apply i_pickF
        · exact rfl
        · exact tB rfl
        apply i_mov
        · exact tB rfl
        apply i_gF
        · exact rfl
        · exact rfl
        apply i_gF
        · exact rfl
        · exact rfl
        apply i_gF
        · exact rfl
        · exact rfl
        apply i_gF
        · exact rfl
        · exact rfl
        apply i_gF
        · exact rfl
        · exact rfl
        apply i_gR
        · exact rfl
        · exact rfl
        apply i_gF
        · exact rfl
        · exact rfl
        apply i_gF
        · exact rfl
        · exact rfl
        apply i_pickF
        · exact rfl
        · exact tB rfl
        refine i_nil ?_
        apply r_condF
        · exact rfl
        refine r_nop ?_
        refine r_nop ?_
        refine r_reg ?_
        apply i_mov
        · exact tI rfl
        apply i_add
        · exact rfl
        · exact rfl
        · omega
        apply i_mov
        · exact tI rfl
        refine i_nil ?_
        refine r_nop ?_
        apply q_lp [1, 2, 7, 8, 9]
        · exact ⟨i + 1, _, _, _, _, _, rfl, rfl, h, by omega, by omega, hat6, hat6', hap6'⟩
        · omega
    · have e : i = ls.length := by omega
      subst e
      rw [List.take_length] at hll hcut
      have hl0 : ([] : List UInt8).length = 0 := rfl
      have hel := pkE_len c line cut
      refine r_reg ?_
      apply i_mov
      · exact tI rfl
      apply i_mov
      · exact tS rfl
      apply i_lenM
      · exact rfl
      apply i_ltF
      · exact rfl
      · exact rfl
      · omega
      refine i_nil ?_
      apply r_condF
      · exact rfl
      refine r_exit ?_
      refine r_reg ?_
      apply i_mov
      · exact tP rfl
      apply i_mov
      · exact tP rfl
      refine i_call (packEnd o1 c _ ob _ _ hat hc (by omega) (by omega)) rfl ?_
      rintro v S8 ⟨hst8, ⟨o8, s8, rfl, ha8, hn8⟩, ob8, hat8, hob8, hap8⟩
      have hat8' := hat'.stays hst8 (by simp; omega)
      have hs8 : s8 = 1 ∨ (pkE c line cut).out = [] := ha8.sz.imp id (fun h => List.length_eq_zero_iff.1 h)
      have hr8 := ha8.rd
      apply i_toStr
      · exact rfl
      · assumption
      · (refine Rd.rd ?_; assumption)
      refine i_call (refPackEnd o2 0 c _ ob2 _ cs _ hat8' hc (by omega) (by omega)) rfl ?_
      rintro v S9 ⟨hst9, ⟨o9, s9, rfl, ha9, hn9⟩, ob9, cs9, hat9', hob9, hap9, hoff9⟩
      have hat9 := hat8.stays hst9 (by simp; omega)
      have hs9 : s9 = 1 ∨ (pkE c line cut).out = [] := ha9.sz.imp id (fun h => List.length_eq_zero_iff.1 h)
      have hr9 := ha9.rd
      replace hr8 := hr8.stays hst9
      obtain ⟨sb6, hob6, g0, g1, g2, ha6⟩ := id hat9'
      have g1' : cs9[1]? = _ := g1
      have g2' : cs9[2]? = _ := g2
      apply c_re
      · (apply c_toStr; (· exact rfl); (· assumption); (· (refine Rd.rd ?_; assumption)); (· exact rfl))
      apply i_toStr
      · exact rfl
      · assumption
      · (refine Rd.rd ?_; assumption)
      apply i_seT
      · exact rfl
      · exact rfl
      · exact rfl
      apply i_mov
      · exact tB rfl
      apply i_gT
      · exact rfl
      apply i_mov
      · exact tP rfl
      apply i_gT
      · exact rfl
      apply i_nckP
      · exact rfl
      apply i_gT
      · exact rfl
      apply i_fld0
      · exact rfl
      apply i_gT
      · exact rfl
      refine i_call (recHeld _ _ _ _ _ _ hat9) rfl ?_
      rintro v S7 ⟨rfl, rfl⟩
      apply i_gT
      · exact rfl
      apply i_eqT
      · exact rfl
      · exact rfl
      · omega
      apply i_pickT
      · exact rfl
      · exact tB rfl
      apply i_mov
      · exact tB rfl
      apply i_gT
      · exact rfl
      apply i_mov
      · exact tP rfl
      apply i_gT
      · exact rfl
      apply i_mov
      · exact tP rfl
      apply i_gT
      · exact rfl
      apply i_nckP
      · exact rfl
      apply i_gT
      · exact rfl
      apply i_fld0
      · exact rfl
      apply i_gT
      · exact rfl
      apply i_load
      · exact rfl
      · assumption
      · assumption
      apply i_gT
      · exact rfl
      refine i_call (packCut _ _ _ _ _ _ hat9) rfl ?_
      rintro v S7 ⟨rfl, rfl⟩
      apply i_gT
      · exact rfl
      apply c_re
      · (apply c_load; (· exact rfl); (· assumption); (· assumption); (· exact rfl))
      apply i_gT
      · exact rfl
      apply c_re
      · (apply c_fldP; (· exact rfl); (· exact rfl))
      apply i_gT
      · exact rfl
      apply i_eqT
      · exact rfl
      · exact rfl
      · omega
      apply i_pickT
      · exact rfl
      · exact tB rfl
      apply i_mov
      · exact tB rfl
      apply i_gT
      · exact rfl
      apply i_mov
      · exact tP rfl
      apply i_gT
      · exact rfl
      refine i_call (packEnd o1 c _ ob8 _ _ hat9 hc (by omega) (by omega)) rfl ?_
      rw [show pkE c [] (pkE c line cut).cut = ⟨[], [], (pkE c line cut).cut⟩ from rfl]
      rintro v S10 ⟨hst10, ⟨o10, s10, rfl, ha10, hn10⟩, ob10, hat10, hob10, hap10⟩
      apply i_gT
      · exact rfl
      apply i_len0
      · exact rfl
      apply i_gT
      · exact rfl
      apply i_eqT
      · exact rfl
      · exact rfl
      · omega
      apply i_pickT
      · exact rfl
      · exact tB rfl
      apply i_mov
      · exact tB rfl
      apply i_gT
      · exact rfl
      refine i_call (fixedRuns _) rfl ?_
      rintro v S11 ⟨rfl, hst11⟩
      apply i_pickT
      · exact rfl
      · exact tB rfl
      apply i_mov
      · exact tB rfl
      refine i_nil ?_
      refine r_ret ?_
      apply q_ret1
      · exact tB rfl
      rfl
end Go.Proofs.Ytmfkocmbmadkmaa.Abs
