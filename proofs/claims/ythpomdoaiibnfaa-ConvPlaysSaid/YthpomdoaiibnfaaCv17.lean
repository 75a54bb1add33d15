/- The law ConvPlays: that it answers true. -/
import Derived.Test.YthpomdoaiibnfaaCv16
import Derived.Test.YthpomdoaiibnfaaCv9
namespace Go.Proofs.Ythpomdoaiibnfaa.Abs
open Go Go.Proofs
set_option linter.unusedVariables false
set_option linter.unusedSimpArgs false
attribute [local irreducible] wpI wpR ropK chk ASt.push ASt.put ASt.fresh ASt.kill appS

theorem cvCutC (C : CV) (A B : List UInt8) (o osw op : Nat) (s : CvS) (ok ob : Own) (S : ASt) (k0 : Nat) (hat : ConvAt S C A B o osw op s ok ob) (hok : cvOk C s k0) :
    ACalls Try.prog 28 [.ptr (some (o, 0))] S fun v S' => v = .int .i64 (s.cut : Nat) ∧ S' = S := by
  refine en_28 (by exact Nat.le_of_ble_eq_true rfl) ?_
  unfold rc_28
  obtain ⟨st, pk, csw, hob, hA, hB, hfA, hfB, hsw, hst, hap, hoo⟩ := hat
  obtain ⟨_, hok2⟩ := hok
  have h514 := cvc_pk (p := .ptr (some (osw, 0))) (st := st) (pk := pk) (u8l hA) (u8l hB)
  obtain ⟨cells, hcells⟩ : ∃ cells, cvc (.ptr (some (osw, 0))) (u8s A) (u8s B) st pk = cells := ⟨_, rfl⟩
  rw [hcells] at hob h514
  cases hmd : C.md with
  | thr =>
    rw [hmd] at hst hok2
    obtain ⟨rfl, rfl, rfl⟩ := hst
    rw [hok2.2]
    refine r_reg ?_
    apply i_mov
    · exact tI rfl
    refine i_nil ?_
    refine r_reg ?_
    apply i_mov
    · exact tP rfl
    apply i_nckP
    · exact rfl
    apply i_fld0
    · exact rfl
    apply i_load
    · exact rfl
    · assumption
    · assumption
    apply i_eqpN
    · exact rfl
    · exact rfl
    refine i_nil ?_
    apply r_condT
    · exact rfl
    refine r_reg ?_
    apply i_mov
    · exact tI rfl
    refine i_nil ?_
    refine r_ret ?_
    refine q_kr ?_
    apply q_ret1
    · exact tI rfl
    exact ⟨rfl, rfl⟩
  | pck =>
    rw [hmd] at hst hok2
    obtain ⟨rfl, rfl, hrec, _⟩ := hst
    refine r_reg ?_
    apply i_mov
    · exact tI rfl
    refine i_nil ?_
    refine r_reg ?_
    apply i_mov
    · exact tP rfl
    apply i_nckP
    · exact rfl
    apply i_fld0
    · exact rfl
    apply i_load
    · exact rfl
    · assumption
    · assumption
    apply i_eqpS
    · exact rfl
    · exact rfl
    refine i_nil ?_
    apply r_condF
    · exact rfl
    refine r_nop ?_
    refine r_reg ?_
    apply i_mov
    · exact tP rfl
    apply i_nckP
    · exact rfl
    apply i_fld0
    · exact rfl
    apply i_load
    · exact rfl
    · assumption
    · assumption
    refine i_call (packCut _ _ _ _ _ _ hrec) rfl ?_
    rintro v S1 ⟨rfl, rfl⟩
    apply i_mov
    · exact tI rfl
    refine i_nil ?_
    refine r_ret ?_
    apply q_ret1
    · exact tI rfl
    exact ⟨rfl, rfl⟩
  | unp =>
    rw [hmd] at hst hok2
    obtain ⟨rfl, rfl, _⟩ := hst
    rw [hok2.2]
    refine r_reg ?_
    apply i_mov
    · exact tI rfl
    refine i_nil ?_
    refine r_reg ?_
    apply i_mov
    · exact tP rfl
    apply i_nckP
    · exact rfl
    apply i_fld0
    · exact rfl
    apply i_load
    · exact rfl
    · assumption
    · assumption
    apply i_eqpN
    · exact rfl
    · exact rfl
    refine i_nil ?_
    apply r_condT
    · exact rfl
    refine r_reg ?_
    apply i_mov
    · exact tI rfl
    refine i_nil ?_
    refine r_ret ?_
    refine q_kr ?_
    apply q_ret1
    · exact tI rfl
    exact ⟨rfl, rfl⟩

/-- Both conversions, side by side. -/
structure Both (S : ASt) (C : CV) (A B : List UInt8) (o osw op o2 : Nat) (s : CvS) (ok ob ok2 ob2 : Own) : Prop where
  a : ConvAt S C A B o osw op s ok ob
  r : RcAt S C o2 s ok2 ob2
  h1 : Apart ok2 ob
  h2 : Apart ob2 ob
  h3 : Apart ok ob2
theorem Both.cells {S : ASt} {C : CV} {A B : List UInt8} {o osw op o2 : Nat} {s : CvS} {ok ob ok2 ob2 : Own} (h : Both S C A B o osw op o2 s ok ob ok2 ob2) : ∃ cells, S.objs[o2]? = some cells ∧ cells[12]? = some (.int .i64 (s.cut : Nat)) := by
  obtain ⟨sk, lv, uv, hob, _⟩ := h.r
  exact ⟨_, hob, rfl⟩

set_option maxHeartbeats 2000000 in
theorem convPlays (c : CV) (ls : List (List UInt8)) (es : List Bool) (S : ASt) :
    ACalls Try.prog 9 [.agg c.cells, .sl .ro 1 (ls.map rov), .sl .ro 1 (es.map .bool)] S fun v S' => v = .bool true := by
  refine en_9 (by exact Nat.le_of_ble_eq_true rfl) ?_
  unfold rc_9
  refine r_reg ?_
  apply i_boxA
  · exact rfl
  apply i_mov
  · exact tB rfl
  refine i_nil ?_
  refine r_reg ?_
  apply i_mov
  · exact tS rfl
  refine i_call (few8 ls _) rfl ?_
  rintro v S1 ⟨b, rfl, rfl, hb⟩
  cases b with
  | false =>
    apply i_notF
    · exact rfl
    apply i_mov
    · exact tB rfl
    apply i_gF
    · exact rfl
    · exact rfl
    apply i_gF
    · exact rfl
    · exact rfl
    apply i_gF
    · exact rfl
    · exact rfl
    apply i_gF
    · exact rfl
    · exact rfl
    apply i_gU
    · exact rfl
    apply i_gU
    · exact rfl
    apply i_gU
    · exact rfl
    apply i_gF
    · exact rfl
    · exact rfl
    apply i_pickT
    · exact rfl
    · exact tB rfl
    refine i_nil ?_
    apply r_condT
    · exact rfl
    refine r_reg ?_
    refine i_call (convRuns _) rfl ?_
    rintro v S2 ⟨rfl, hst⟩
    apply i_mov
    · exact tB rfl
    refine i_nil ?_
    refine r_ret ?_
    refine q_kr ?_
    apply q_ret1
    · exact tB rfl
    rfl
  | true =>
    obtain ⟨h60, h3000⟩ := hb rfl
    clear hb
    have hoc0 : (S.push c.cells).objs[S.objs.length]? = some c.cells := Ob.new
    generalize S.objs.length = oc at hoc0 ⊢
    generalize S.push c.cells = S1 at hoc0 ⊢
    by_cases hbig : 500 < c.cbs ∧ c.cbs ≤ 4096
    · obtain ⟨h1, h2⟩ := hbig
      apply i_notT
      · exact rfl
      apply i_mov
      · exact tB rfl
      apply i_gT
      · exact rfl
      apply i_fld0
      · exact rfl
      apply i_gT
      · exact rfl
      apply i_load
      · exact rfl
      · assumption
      · exact rfl
      apply i_gT
      · exact rfl
      apply i_gtT
      · exact rfl
      · exact rfl
      · omega
      apply i_gT
      · exact rfl
      apply i_mov
      · exact tB rfl
      apply i_gT
      · exact rfl
      apply i_fld0
      · exact rfl
      apply i_gT
      · exact rfl
      apply i_load
      · exact rfl
      · assumption
      · exact rfl
      apply i_gT
      · exact rfl
      apply i_leT
      · exact rfl
      · exact rfl
      · omega
      apply i_gT
      · exact rfl
      apply i_pickT
      · exact rfl
      · exact tB rfl
      apply i_pickF
      · exact rfl
      · exact tB rfl
      refine i_nil ?_
      apply r_condT
      · exact rfl
      refine r_reg ?_
      refine i_call (convRuns _) rfl ?_
      rintro v S2 ⟨rfl, hst⟩
      apply i_mov
      · exact tB rfl
      refine i_nil ?_
      refine r_ret ?_
      refine q_kr ?_
      apply q_ret1
      · exact tB rfl
      rfl
    · have hcn : c.norm.n ≤ 500 := norm_n (by omega)
      have hmay := may_norm c
      rcases (by omega : (500 < c.cbs ∧ ¬ c.cbs ≤ 4096) ∨ ¬ 500 < c.cbs) with ⟨h5, h4096⟩ | h5
      · apply i_notT
        · exact rfl
        apply i_mov
        · exact tB rfl
        apply i_gT
        · exact rfl
        apply i_fld0
        · exact rfl
        apply i_gT
        · exact rfl
        apply i_load
        · exact rfl
        · assumption
        · exact rfl
        apply i_gT
        · exact rfl
        apply i_gtT
        · exact rfl
        · exact rfl
        · omega
        apply i_gT
        · exact rfl
        apply i_mov
        · exact tB rfl
        apply i_gT
        · exact rfl
        apply i_fld0
        · exact rfl
        apply i_gT
        · exact rfl
        apply i_load
        · exact rfl
        · assumption
        · exact rfl
        apply i_gT
        · exact rfl
        apply i_leF
        · exact rfl
        · exact rfl
        · omega
        apply i_gT
        · exact rfl
        apply i_pickT
        · exact rfl
        · exact tB rfl
        apply i_pickF
        · exact rfl
        · exact tB rfl
        refine i_nil ?_
        apply r_condF
        · exact rfl
        refine r_nop ?_
        refine r_reg ?_
        apply i_loadN
        · exact rfl
        · assumption
        · exact rfl
        apply i_loadN
        · exact rfl
        · assumption
        · exact rfl
        refine i_call (cNew c _) rfl ?_
        rintro v S2 ⟨o, osw, op, A, B, rfl, hge, hst2, hat⟩
        have hoc2 := Ob.stays0 hoc0 hst2
        apply c_re
        · (apply c_loadNO; (· exact rfl); (· assumption); (· first | assumption | exact rfl); (· exact rfl); (· exact Nat.le_of_ble_eq_true rfl); (· exact rfl))
        refine i_call (rNewConv c _) rfl ?_
        generalize hCe : c.norm = C at hmay hcn hat hge ⊢
        rintro v S3 ⟨o2, rfl, hge2, hst3, hrt⟩
        have hne : ∀ p ∈ o :: osw :: opL C.md op, p ≠ o2 := fun p hp => by
          have := hat.lt p hp
          omega
        have hB0 : Both S3 C A B o osw op o2 ⟨[], [], 0⟩ .nil .nil .nil .nil := ⟨hat.stays0 hst3, hrt, Apart.nil, Apart.nil, Apart.nil⟩
        have hok0 : cvOk C ⟨[], [], 0⟩ 0 := by have := ok_F hmay []; rw [st_F] at this; exact this
        clear hat hrt hst3 hge2 hoc2 hst2 hge hoc0
        have hn1 : o2 ∉ osw :: opL C.md op := fun h => hne o2 (List.mem_cons_of_mem _ h) rfl
        have hn2 : o ∉ [o2] := fun h => hne o (List.mem_cons_self ..) (List.mem_singleton.1 h)
        have hn3 : osw ∉ [o2] := fun h => hne osw (List.mem_cons_of_mem _ (List.mem_cons_self ..)) (List.mem_singleton.1 h)
        have hn4 : ∀ p ∈ opL C.md op, p ∉ [o2] := fun p hp h => hne p (List.mem_cons_of_mem _ (List.mem_cons_of_mem _ hp)) (List.mem_singleton.1 h)
        apply i_mov
        · exact tP rfl
        apply i_mov
        · exact tP rfl
        refine i_nil ?_
        refine r_reg ?_
        apply i_mov
        · exact tP rfl
        apply i_eqpS
        · exact rfl
        · exact rfl
        refine i_nil ?_
        apply r_condF
        · exact rfl
        refine r_nop ?_
        refine r_reg ?_
        apply i_mov
        · exact tI rfl
        refine i_nil ?_
        refine r_block ?_
        refine r_loopP [1, 2, 7, 8, 9] (fun m G S' => ∃ (i k : Nat) (s : CvS) (ok ob ok2 ob2 : Own), G = [(1, .sl .ro 1 (ls.map rov)), (2, .sl .ro 1 (es.map .bool)), (7, .ptr (some (o, 0))), (8, .ptr (some (o2, 0))), (9, .int .i64 (i : Nat))] ∧ m = ls.length - i ∧ i ≤ ls.length ∧
          k ≤ (ls.take i).flatten.length + 3 * i ∧ cvOk C s k ∧ Both S' C A B o osw op o2 s ok ob ok2 ob2) ?_ ?_
        · exact ⟨_, 0, 0, _, .nil, .nil, .nil, .nil, rfl, rfl, Nat.zero_le _, by simp, hok0, hB0⟩
        clear hB0 hok0
        rintro m G S4 ⟨i, k, s, ok, ob, ok2, ob2, rfl, rfl, hi, hk, hok, hB⟩
        have hfl := flat_le ls i
        by_cases h : i < ls.length
        · have hfm := flat_mem h
          have hct := congrArg List.length (flat_take h)
          rw [List.length_append] at hct
          have hok' := cvPut_ok ls[i] hmay hok
          refine r_reg ?_
          apply i_mov
          · exact tI rfl
          apply i_mov
          · exact tS rfl
          apply i_lenM
          · exact rfl
          apply i_ltT
          · exact rfl
          · exact rfl
          · omega
          refine i_nil ?_
          apply r_condT
          · exact rfl
          refine r_nop ?_
          refine r_block ?_
          refine r_reg ?_
          apply i_mov
          · exact tP rfl
          apply i_mov
          · exact tS rfl
          apply i_mov
          · exact tI rfl
          apply i_idxM
          · exact rfl
          · exact rfl
          · exact rfl
          · exact rfl
          · exact True.intro
          · omega
          apply i_loadM
          · exact rfl
          · exact True.intro
          · omega
          · exact fun _ => rfl
          (refine ⟨by omega, ?_⟩)
          apply i_mov
          · exact tP rfl
          apply i_mov
          · exact tS rfl
          apply i_mov
          · exact tI rfl
          apply i_idxM
          · exact rfl
          · exact rfl
          · exact rfl
          · exact rfl
          · exact True.intro
          · omega
          apply i_loadM
          · exact rfl
          · exact True.intro
          · omega
          · exact fun _ => rfl
          (refine ⟨by omega, ?_⟩)
          refine i_call (cvPutC C A B o osw op s ok ob .ro 1 ls[i] _ k hB.a hmay (.inl rfl) (by intro h; cases h) Rd.ro hok (by omega) (by omega) hcn) rfl ?_
          rintro v S5 ⟨hst5, ov, sv, ok', ob', rfl, hav, hnv, hat5, hnk, hnb, hapv⟩
          have hrr := hB.r.rd
          have hra := hB.a.rd
          have hrt5 := hB.r.stayx hst5 hn1 hB.h1 hB.h2
          have g1 : Apart ok2 ob' := Apart.new hB.h1 hrr.1 hnb
          have g2 : Apart ob2 ob' := Apart.new hB.h2 hrr.2 hnb
          have g3 : Apart ok' ob2 := (Apart.new hB.h3.symm hrr.2 hnk).symm
          have g4 : Apart ov ob2 := (Apart.lt hrr.2 (tok_own hav hnv)).symm
          have hsv : sv = 1 ∨ cvPutO C s ls[i] = [] := hav.sz.imp id (fun h => List.length_eq_zero_iff.1 h)
          have hrv := hav.rd
          apply c_re
          · (apply c_loadM; (· exact rfl); (· exact True.intro); (· omega); (· exact fun _ => rfl); (refine ⟨by omega, rfl⟩))
          apply c_re
          · (apply c_idxM; (· exact rfl); (· exact rfl); (· exact rfl); (· exact rfl); (· exact True.intro); (· omega); (· exact rfl))
          apply i_toStr
          · exact rfl
          · assumption
          · (refine Rd.rd ?_; assumption)
          refine i_call (rPut C o2 s ok2 ob2 ls[i] _ k hrt5 hmay hok (by omega) (by omega) hcn) rfl ?_
          rintro v S6 ⟨hst6, ow, sw, ok2', ob2', rfl, hsw, hrw, hrt6, hnk2, hnb2⟩
          have hra5 := hat5.rd
          have hB6 : Both S6 C A B o osw op o2 (cvPut C s ls[i]) ok' ob' ok2' ob2' :=
            ⟨hat5.stayx hst6 hn2 hn3 hn4 g3 g2.symm, hrt6, (Apart.new g1.symm hra5.2 hnk2).symm, (Apart.new g2.symm hra5.2 hnb2).symm, Apart.new g3 hra5.1 hnb2⟩
          replace hrv := hrv.stayo hst6 g4
          clear hat5 hrt5 hst5 hst6 hrt6 hnk hnb hnk2 hnb2 hra5 g1 g2 g3 g4 hapv hav hnv hrr hra hB
          obtain ⟨cells6, hob6, h12⟩ := hB6.cells
          apply c_re
          · (apply c_toStr; (· exact rfl); (· assumption); (· (refine Rd.rd ?_; assumption)); (· exact rfl))
          apply i_toStr
          · exact rfl
          · assumption
          · (refine Rd.rd ?_; assumption)
          apply i_snF
          · exact rfl
          · exact rfl
          · exact rfl
          apply i_mov
          · exact tB rfl
          apply i_gT
          · exact rfl
          apply i_mov
          · exact tP rfl
          apply i_gT
          · exact rfl
          apply i_mov
          · exact tP rfl
          apply i_gT
          · exact rfl
          apply i_nckP
          · exact rfl
          apply i_gT
          · exact rfl
          apply i_fld0
          · exact rfl
          apply i_gT
          · exact rfl
          apply i_fldP
          · exact rfl
          apply i_gT
          · exact rfl
          apply i_load
          · exact rfl
          · assumption
          · assumption
          apply i_gT
          · exact rfl
          refine i_call (cvCutC C A B o osw op _ ok' ob' _ _ hB6.a hok') rfl ?_
          rintro v S7 ⟨rfl, rfl⟩
          generalize cvPutO C s ls[i] = oo at hsv hsw
          generalize cvPut C s ls[i] = s' at hok' hB6 h12 ⊢
          apply i_gT
          · exact rfl
          apply c_re
          · (apply c_load; (· exact rfl); (· assumption); (· assumption); (· exact rfl))
          apply i_gT
          · exact rfl
          apply c_re
          · (apply c_fldP; (· exact rfl); (· exact rfl))
          apply i_gT
          · exact rfl
          apply c_re
          · (apply c_fldP; (· exact rfl); (· exact rfl))
          apply i_gT
          · exact rfl
          apply i_neF
          · exact rfl
          · exact rfl
          · omega
          apply i_pickF
          · exact rfl
          · exact tB rfl
          refine i_nil ?_
          apply r_condF
          · exact rfl
          refine r_nop ?_
          refine r_reg ?_
          apply i_mov
          · exact tI rfl
          apply i_mov
          · exact tS rfl
          apply i_lenM
          · exact rfl
          by_cases hce : i < es.length
          · cases he : es[i] with
            | false =>
              apply i_ltT
              · exact rfl
              · exact rfl
              · omega
              apply i_mov
              · exact tB rfl
              apply i_gT
              · exact rfl
              apply i_mov
              · exact tS rfl
              apply i_gT
              · exact rfl
              apply i_mov
              · exact tI rfl
              apply i_gT
              · exact rfl
              apply i_idxM
              · exact rfl
              · exact rfl
              · exact rfl
              · exact rfl
              · exact True.intro
              · omega
              apply i_gT
              · exact rfl
              apply i_loadM
              · exact rfl
              · exact True.intro
              · omega
              · exact fun _ => rfl
              (refine ⟨by omega, ?_⟩)
              apply i_pickT
              · exact rfl
              · exact tB rfl
              apply i_mov
              · exact tB rfl
              simp only [he]
              apply i_gF
              · exact rfl
              · exact rfl
              apply i_gF
              · exact rfl
              · exact rfl
              apply i_gF
              · exact rfl
              · exact rfl
              apply i_gF
              · exact rfl
              · exact rfl
              apply i_gF
              · exact rfl
              · exact rfl
              apply i_gR
              · exact rfl
              · exact rfl
              apply i_gF
              · exact rfl
              · exact rfl
              apply i_gF
              · exact rfl
              · exact rfl
              apply i_gF
              · exact rfl
              · exact rfl
              apply i_gU
              · exact rfl
              apply i_gU
              · exact rfl
              apply i_gU
              · exact rfl
              apply i_gU
              · exact rfl
              apply i_gU
              · exact rfl
              apply i_gU
              · exact rfl
              apply i_gU
              · exact rfl
              apply i_gUr
              · exact rfl
              apply i_gUr
              · exact rfl
              apply i_gUr
              · exact rfl
              apply i_gU
              · exact rfl
              apply i_gF
              · exact rfl
              · exact rfl
              apply i_pickF
              · exact rfl
              · exact tB rfl
              refine i_nil ?_
              apply r_condF
              · exact rfl
              refine r_nop ?_
              refine r_nop ?_
              refine r_reg ?_
              apply i_mov
              · exact tI rfl
              apply i_add
              · exact rfl
              · exact rfl
              · omega
              apply i_mov
              · exact tI rfl
              refine i_nil ?_
              refine r_nop ?_
              apply q_lp [1, 2, 7, 8, 9]
              · exact ⟨i + 1, _, s', _, _, _, _, rfl, rfl, h, by omega, hok', hB6⟩
              · omega
            | true =>
              have hok'' := cvEnd_ok hmay hok'
              apply i_ltT
              · exact rfl
              · exact rfl
              · omega
              apply i_mov
              · exact tB rfl
              apply i_gT
              · exact rfl
              apply i_mov
              · exact tS rfl
              apply i_gT
              · exact rfl
              apply i_mov
              · exact tI rfl
              apply i_gT
              · exact rfl
              apply i_idxM
              · exact rfl
              · exact rfl
              · exact rfl
              · exact rfl
              · exact True.intro
              · omega
              apply i_gT
              · exact rfl
              apply i_loadM
              · exact rfl
              · exact True.intro
              · omega
              · exact fun _ => rfl
              (refine ⟨by omega, ?_⟩)
              apply i_pickT
              · exact rfl
              · exact tB rfl
              apply i_mov
              · exact tB rfl
              simp only [he]
              apply i_gT
              · exact rfl
              apply i_mov
              · exact tP rfl
              apply i_gT
              · exact rfl
              apply i_mov
              · exact tP rfl
              apply i_gT
              · exact rfl
              refine i_call (cvEndC C A B o osw op s' ok' ob' _ _ hB6.a hmay hok' (by omega) hcn) rfl ?_
              rintro v S8 ⟨hst8, ox, sx, ok3, ob3, rfl, hax, hnx, hat8, hnk, hnb, hapx⟩
              have hrr := hB6.r.rd
              have hrt8 := hB6.r.stayx hst8 hn1 hB6.h1 hB6.h2
              have g1 : Apart ok2' ob3 := Apart.new hB6.h1 hrr.1 hnb
              have g2 : Apart ob2' ob3 := Apart.new hB6.h2 hrr.2 hnb
              have g3 : Apart ok3 ob2' := (Apart.new hB6.h3.symm hrr.2 hnk).symm
              have g4 : Apart ox ob2' := (Apart.lt hrr.2 (tok_own hax hnx)).symm
              have hsx : sx = 1 ∨ cvEndO C s' = [] := hax.sz.imp id (fun h => List.length_eq_zero_iff.1 h)
              have hrx := hax.rd
              apply i_gT
              · exact rfl
              apply i_toStr
              · exact rfl
              · assumption
              · (refine Rd.rd ?_; assumption)
              apply i_gT
              · exact rfl
              refine i_call (rEnd C o2 s' ok2' ob2' _ _ hrt8 hmay hok' (by omega) hcn) rfl ?_
              rintro v S9 ⟨hst9, oy, sy, ok4, ob4, rfl, hsy, hry, hrt9, hnk2, hnb2⟩
              have hra8 := hat8.rd
              have hB9 : Both S9 C A B o osw op o2 (cvEnd C s') ok3 ob3 ok4 ob4 :=
                ⟨hat8.stayx hst9 hn2 hn3 hn4 g3 g2.symm, hrt9, (Apart.new g1.symm hra8.2 hnk2).symm, (Apart.new g2.symm hra8.2 hnb2).symm, Apart.new g3 hra8.1 hnb2⟩
              replace hrx := hrx.stayo hst9 g4
              clear hat8 hrt8 hst8 hst9 hrt9 hnk hnb hnk2 hnb2 hra8 g1 g2 g3 g4 hapx hax hnx hrr hB6 hob6 h12
              obtain ⟨cells9, hob9, h12⟩ := hB9.cells
              apply i_gT
              · exact rfl
              apply c_re
              · (apply c_toStr; (· exact rfl); (· assumption); (· (refine Rd.rd ?_; assumption)); (· exact rfl))
              apply i_gT
              · exact rfl
              apply i_toStr
              · exact rfl
              · assumption
              · (refine Rd.rd ?_; assumption)
              apply i_gT
              · exact rfl
              apply i_snF
              · exact rfl
              · exact rfl
              · exact rfl
              apply i_gT
              · exact rfl
              apply i_mov
              · exact tB rfl
              apply i_gT
              · exact rfl
              apply i_mov
              · exact tP rfl
              apply i_gT
              · exact rfl
              apply i_mov
              · exact tP rfl
              apply i_gT
              · exact rfl
              apply i_nckP
              · exact rfl
              apply i_gT
              · exact rfl
              apply i_fld0
              · exact rfl
              apply i_gT
              · exact rfl
              apply i_fldP
              · exact rfl
              apply i_gT
              · exact rfl
              apply i_load
              · exact rfl
              · assumption
              · assumption
              apply i_gT
              · exact rfl
              refine i_call (cvCutC C A B o osw op _ ok3 ob3 _ _ hB9.a hok'') rfl ?_
              rintro v S10 ⟨rfl, rfl⟩
              apply i_gT
              · exact rfl
              apply c_re
              · (apply c_load; (· exact rfl); (· assumption); (· assumption); (· exact rfl))
              apply i_gT
              · exact rfl
              apply c_re
              · (apply c_fldP; (· exact rfl); (· exact rfl))
              apply i_gT
              · exact rfl
              apply c_re
              · (apply c_fldP; (· exact rfl); (· exact rfl))
              apply i_gT
              · exact rfl
              apply i_neF
              · exact rfl
              · exact rfl
              · omega
              apply i_gT
              · exact rfl
              apply i_pickF
              · exact rfl
              · exact tB rfl
              apply i_pickT
              · exact rfl
              · exact tB rfl
              refine i_nil ?_
              apply r_condF
              · exact rfl
              refine r_nop ?_
              refine r_nop ?_
              refine r_reg ?_
              apply i_mov
              · exact tI rfl
              apply i_add
              · exact rfl
              · exact rfl
              · omega
              apply i_mov
              · exact tI rfl
              refine i_nil ?_
              refine r_nop ?_
              apply q_lp [1, 2, 7, 8, 9]
              · exact ⟨i + 1, _, cvEnd C s', _, _, _, _, rfl, rfl, h, by omega, hok'', hB9⟩
              · omega
          · apply i_ltF
            · exact rfl
            · exact rfl
            · omega
            apply i_mov
            · exact tB rfl
            apply i_gF
            · exact rfl
            · exact rfl
            apply i_gF
            · exact rfl
            · exact rfl
            apply i_gF
            · exact rfl
            · exact rfl
            apply i_gF
            · exact rfl
            · exact rfl
            apply i_pickF
            · exact rfl
            · exact tB rfl
            apply i_mov
            · exact tB rfl
            apply i_gF
            · exact rfl
            · exact rfl
            apply i_gF
            · exact rfl
            · exact rfl
            apply i_gF
            · exact rfl
            · exact rfl
            apply i_gF
            · exact rfl
            · exact rfl
            apply i_gF
            · exact rfl
            · exact rfl
            apply i_gR
            · exact rfl
            · exact rfl
            apply i_gF
            · exact rfl
            · exact rfl
            apply i_gF
            · exact rfl
            · exact rfl
            apply i_gF
            · exact rfl
            · exact rfl
            apply i_gU
            · exact rfl
            apply i_gU
            · exact rfl
            apply i_gU
            · exact rfl
            apply i_gU
            · exact rfl
            apply i_gU
            · exact rfl
            apply i_gU
            · exact rfl
            apply i_gU
            · exact rfl
            apply i_gUr
            · exact rfl
            apply i_gUr
            · exact rfl
            apply i_gUr
            · exact rfl
            apply i_gU
            · exact rfl
            apply i_gF
            · exact rfl
            · exact rfl
            apply i_pickF
            · exact rfl
            · exact tB rfl
            refine i_nil ?_
            apply r_condF
            · exact rfl
            refine r_nop ?_
            refine r_nop ?_
            refine r_reg ?_
            apply i_mov
            · exact tI rfl
            apply i_add
            · exact rfl
            · exact rfl
            · omega
            apply i_mov
            · exact tI rfl
            refine i_nil ?_
            refine r_nop ?_
            apply q_lp [1, 2, 7, 8, 9]
            · exact ⟨i + 1, _, s', _, _, _, _, rfl, rfl, h, by omega, hok', hB6⟩
            · omega
        · have e : i = ls.length := by omega
          subst e
          rw [List.take_length] at hk
          have hok'' := cvEnd_ok hmay hok
          refine r_reg ?_
          apply i_mov
          · exact tI rfl
          apply i_mov
          · exact tS rfl
          apply i_lenM
          · exact rfl
          apply i_ltF
          · exact rfl
          · exact rfl
          · omega
          refine i_nil ?_
          apply r_condF
          · exact rfl
          refine r_exit ?_
          refine r_reg ?_
          apply i_mov
          · exact tP rfl
          apply i_mov
          · exact tP rfl
          refine i_call (cvEndC C A B o osw op s ok ob _ _ hB.a hmay hok (by omega) hcn) rfl ?_
          rintro v S8 ⟨hst8, ox, sx, ok3, ob3, rfl, hax, hnx, hat8, hnk, hnb, hapx⟩
          have hrr := hB.r.rd
          have hrt8 := hB.r.stayx hst8 hn1 hB.h1 hB.h2
          have g1 : Apart ok2 ob3 := Apart.new hB.h1 hrr.1 hnb
          have g2 : Apart ob2 ob3 := Apart.new hB.h2 hrr.2 hnb
          have g3 : Apart ok3 ob2 := (Apart.new hB.h3.symm hrr.2 hnk).symm
          have g4 : Apart ox ob2 := (Apart.lt hrr.2 (tok_own hax hnx)).symm
          have hsx : sx = 1 ∨ cvEndO C s = [] := hax.sz.imp id (fun h => List.length_eq_zero_iff.1 h)
          have hrx := hax.rd
          apply i_toStr
          · exact rfl
          · assumption
          · (refine Rd.rd ?_; assumption)
          refine i_call (rEnd C o2 s ok2 ob2 _ _ hrt8 hmay hok (by omega) hcn) rfl ?_
          rintro v S9 ⟨hst9, oy, sy, ok4, ob4, rfl, hsy, hry, hrt9, hnk2, hnb2⟩
          have hra8 := hat8.rd
          have hB9 : Both S9 C A B o osw op o2 (cvEnd C s) ok3 ob3 ok4 ob4 :=
            ⟨hat8.stayx hst9 hn2 hn3 hn4 g3 g2.symm, hrt9, (Apart.new g1.symm hra8.2 hnk2).symm, (Apart.new g2.symm hra8.2 hnb2).symm, Apart.new g3 hra8.1 hnb2⟩
          replace hrx := hrx.stayo hst9 g4
          obtain ⟨cells9, hob9, h12⟩ := hB9.cells
          apply c_re
          · (apply c_toStr; (· exact rfl); (· assumption); (· (refine Rd.rd ?_; assumption)); (· exact rfl))
          apply i_toStr
          · exact rfl
          · assumption
          · (refine Rd.rd ?_; assumption)
          apply i_seT
          · exact rfl
          · exact rfl
          · exact rfl
          apply i_mov
          · exact tB rfl
          apply i_gT
          · exact rfl
          apply i_mov
          · exact tP rfl
          apply i_gT
          · exact rfl
          apply i_mov
          · exact tP rfl
          apply i_gT
          · exact rfl
          apply i_nckP
          · exact rfl
          apply i_gT
          · exact rfl
          apply i_fld0
          · exact rfl
          apply i_gT
          · exact rfl
          apply i_fldP
          · exact rfl
          apply i_gT
          · exact rfl
          apply i_load
          · exact rfl
          · assumption
          · assumption
          apply i_gT
          · exact rfl
          refine i_call (cvCutC C A B o osw op _ ok3 ob3 _ _ hB9.a hok'') rfl ?_
          rintro v S10 ⟨rfl, rfl⟩
          apply i_gT
          · exact rfl
          apply c_re
          · (apply c_load; (· exact rfl); (· assumption); (· assumption); (· exact rfl))
          apply i_gT
          · exact rfl
          apply c_re
          · (apply c_fldP; (· exact rfl); (· exact rfl))
          apply i_gT
          · exact rfl
          apply c_re
          · (apply c_fldP; (· exact rfl); (· exact rfl))
          apply i_gT
          · exact rfl
          apply i_eqT
          · exact rfl
          · exact rfl
          · omega
          apply i_pickT
          · exact rfl
          · exact tB rfl
          apply i_mov
          · exact tB rfl
          apply i_gT
          · exact rfl
          refine i_call (convRuns _) rfl ?_
          rintro v S11 ⟨rfl, hst11⟩
          apply i_pickT
          · exact rfl
          · exact tB rfl
          apply i_mov
          · exact tB rfl
          refine i_nil ?_
          refine r_ret ?_
          apply q_ret1
          · exact tB rfl
          rfl
      · apply i_notT
        · exact rfl
        apply i_mov
        · exact tB rfl
        apply i_gT
        · exact rfl
        apply i_fld0
        · exact rfl
        apply i_gT
        · exact rfl
        apply i_load
        · exact rfl
        · assumption
        · exact rfl
        apply i_gT
        · exact rfl
        apply i_gtF
        · exact rfl
        · exact rfl
        · omega
        apply i_gT
        · exact rfl
        apply i_mov
        · exact tB rfl
        apply i_gF
        · exact rfl
        · exact rfl
        apply i_gF
        · exact rfl
        · exact rfl
        apply i_gF
        · exact rfl
        · exact rfl
        apply i_gT
        · exact rfl
        apply i_pickF
        · exact rfl
        · exact tB rfl
        apply i_pickF
        · exact rfl
        · exact tB rfl
        refine i_nil ?_
        apply r_condF
        · exact rfl
        refine r_nop ?_
        refine r_reg ?_
        apply i_loadN
        · exact rfl
        · assumption
        · exact rfl
        apply i_loadN
        · exact rfl
        · assumption
        · exact rfl
        refine i_call (cNew c _) rfl ?_
        rintro v S2 ⟨o, osw, op, A, B, rfl, hge, hst2, hat⟩
        have hoc2 := Ob.stays0 hoc0 hst2
        apply c_re
        · (apply c_loadNO; (· exact rfl); (· assumption); (· first | assumption | exact rfl); (· exact rfl); (· exact Nat.le_of_ble_eq_true rfl); (· exact rfl))
        refine i_call (rNewConv c _) rfl ?_
        generalize hCe : c.norm = C at hmay hcn hat hge ⊢
        rintro v S3 ⟨o2, rfl, hge2, hst3, hrt⟩
        have hne : ∀ p ∈ o :: osw :: opL C.md op, p ≠ o2 := fun p hp => by
          have := hat.lt p hp
          omega
        have hB0 : Both S3 C A B o osw op o2 ⟨[], [], 0⟩ .nil .nil .nil .nil := ⟨hat.stays0 hst3, hrt, Apart.nil, Apart.nil, Apart.nil⟩
        have hok0 : cvOk C ⟨[], [], 0⟩ 0 := by have := ok_F hmay []; rw [st_F] at this; exact this
        clear hat hrt hst3 hge2 hoc2 hst2 hge hoc0
        have hn1 : o2 ∉ osw :: opL C.md op := fun h => hne o2 (List.mem_cons_of_mem _ h) rfl
        have hn2 : o ∉ [o2] := fun h => hne o (List.mem_cons_self ..) (List.mem_singleton.1 h)
        have hn3 : osw ∉ [o2] := fun h => hne osw (List.mem_cons_of_mem _ (List.mem_cons_self ..)) (List.mem_singleton.1 h)
        have hn4 : ∀ p ∈ opL C.md op, p ∉ [o2] := fun p hp h => hne p (List.mem_cons_of_mem _ (List.mem_cons_of_mem _ hp)) (List.mem_singleton.1 h)
        apply i_mov
        · exact tP rfl
        apply i_mov
        · exact tP rfl
        refine i_nil ?_
        refine r_reg ?_
        apply i_mov
        · exact tP rfl
        apply i_eqpS
        · exact rfl
        · exact rfl
        refine i_nil ?_
        apply r_condF
        · exact rfl
        refine r_nop ?_
        refine r_reg ?_
        apply i_mov
        · exact tI rfl
        refine i_nil ?_
        refine r_block ?_
        refine r_loopP [1, 2, 7, 8, 9] (fun m G S' => ∃ (i k : Nat) (s : CvS) (ok ob ok2 ob2 : Own), G = [(1, .sl .ro 1 (ls.map rov)), (2, .sl .ro 1 (es.map .bool)), (7, .ptr (some (o, 0))), (8, .ptr (some (o2, 0))), (9, .int .i64 (i : Nat))] ∧ m = ls.length - i ∧ i ≤ ls.length ∧
          k ≤ (ls.take i).flatten.length + 3 * i ∧ cvOk C s k ∧ Both S' C A B o osw op o2 s ok ob ok2 ob2) ?_ ?_
        · exact ⟨_, 0, 0, _, .nil, .nil, .nil, .nil, rfl, rfl, Nat.zero_le _, by simp, hok0, hB0⟩
        clear hB0 hok0
        rintro m G S4 ⟨i, k, s, ok, ob, ok2, ob2, rfl, rfl, hi, hk, hok, hB⟩
        have hfl := flat_le ls i
        by_cases h : i < ls.length
        · have hfm := flat_mem h
          have hct := congrArg List.length (flat_take h)
          rw [List.length_append] at hct
          have hok' := cvPut_ok ls[i] hmay hok
          refine r_reg ?_
          apply i_mov
          · exact tI rfl
          apply i_mov
          · exact tS rfl
          apply i_lenM
          · exact rfl
          apply i_ltT
          · exact rfl
          · exact rfl
          · omega
          refine i_nil ?_
          apply r_condT
          · exact rfl
          refine r_nop ?_
          refine r_block ?_
          refine r_reg ?_
          apply i_mov
          · exact tP rfl
          apply i_mov
          · exact tS rfl
          apply i_mov
          · exact tI rfl
          apply i_idxM
          · exact rfl
          · exact rfl
          · exact rfl
          · exact rfl
          · exact True.intro
          · omega
          apply i_loadM
          · exact rfl
          · exact True.intro
          · omega
          · exact fun _ => rfl
          (refine ⟨by omega, ?_⟩)
          apply i_mov
          · exact tP rfl
          apply i_mov
          · exact tS rfl
          apply i_mov
          · exact tI rfl
          apply i_idxM
          · exact rfl
          · exact rfl
          · exact rfl
          · exact rfl
          · exact True.intro
          · omega
          apply i_loadM
          · exact rfl
          · exact True.intro
          · omega
          · exact fun _ => rfl
          (refine ⟨by omega, ?_⟩)
          refine i_call (cvPutC C A B o osw op s ok ob .ro 1 ls[i] _ k hB.a hmay (.inl rfl) (by intro h; cases h) Rd.ro hok (by omega) (by omega) hcn) rfl ?_
          rintro v S5 ⟨hst5, ov, sv, ok', ob', rfl, hav, hnv, hat5, hnk, hnb, hapv⟩
          have hrr := hB.r.rd
          have hra := hB.a.rd
          have hrt5 := hB.r.stayx hst5 hn1 hB.h1 hB.h2
          have g1 : Apart ok2 ob' := Apart.new hB.h1 hrr.1 hnb
          have g2 : Apart ob2 ob' := Apart.new hB.h2 hrr.2 hnb
          have g3 : Apart ok' ob2 := (Apart.new hB.h3.symm hrr.2 hnk).symm
          have g4 : Apart ov ob2 := (Apart.lt hrr.2 (tok_own hav hnv)).symm
          have hsv : sv = 1 ∨ cvPutO C s ls[i] = [] := hav.sz.imp id (fun h => List.length_eq_zero_iff.1 h)
          have hrv := hav.rd
          apply c_re
          · (apply c_loadM; (· exact rfl); (· exact True.intro); (· omega); (· exact fun _ => rfl); (refine ⟨by omega, rfl⟩))
          apply c_re
          · (apply c_idxM; (· exact rfl); (· exact rfl); (· exact rfl); (· exact rfl); (· exact True.intro); (· omega); (· exact rfl))
          apply i_toStr
          · exact rfl
          · assumption
          · (refine Rd.rd ?_; assumption)
          refine i_call (rPut C o2 s ok2 ob2 ls[i] _ k hrt5 hmay hok (by omega) (by omega) hcn) rfl ?_
          rintro v S6 ⟨hst6, ow, sw, ok2', ob2', rfl, hsw, hrw, hrt6, hnk2, hnb2⟩
          have hra5 := hat5.rd
          have hB6 : Both S6 C A B o osw op o2 (cvPut C s ls[i]) ok' ob' ok2' ob2' :=
            ⟨hat5.stayx hst6 hn2 hn3 hn4 g3 g2.symm, hrt6, (Apart.new g1.symm hra5.2 hnk2).symm, (Apart.new g2.symm hra5.2 hnb2).symm, Apart.new g3 hra5.1 hnb2⟩
          replace hrv := hrv.stayo hst6 g4
          clear hat5 hrt5 hst5 hst6 hrt6 hnk hnb hnk2 hnb2 hra5 g1 g2 g3 g4 hapv hav hnv hrr hra hB
          obtain ⟨cells6, hob6, h12⟩ := hB6.cells
          apply c_re
          · (apply c_toStr; (· exact rfl); (· assumption); (· (refine Rd.rd ?_; assumption)); (· exact rfl))
          apply i_toStr
          · exact rfl
          · assumption
          · (refine Rd.rd ?_; assumption)
          apply i_snF
          · exact rfl
          · exact rfl
          · exact rfl
          apply i_mov
          · exact tB rfl
          apply i_gT
          · exact rfl
          apply i_mov
          · exact tP rfl
          apply i_gT
          · exact rfl
          apply i_mov
          · exact tP rfl
          apply i_gT
          · exact rfl
          apply i_nckP
          · exact rfl
          apply i_gT
          · exact rfl
          apply i_fld0
          · exact rfl
          apply i_gT
          · exact rfl
          apply i_fldP
          · exact rfl
          apply i_gT
          · exact rfl
          apply i_load
          · exact rfl
          · assumption
          · assumption
          apply i_gT
          · exact rfl
          refine i_call (cvCutC C A B o osw op _ ok' ob' _ _ hB6.a hok') rfl ?_
          rintro v S7 ⟨rfl, rfl⟩
          generalize cvPutO C s ls[i] = oo at hsv hsw
          generalize cvPut C s ls[i] = s' at hok' hB6 h12 ⊢
          apply i_gT
          · exact rfl
          apply c_re
          · (apply c_load; (· exact rfl); (· assumption); (· assumption); (· exact rfl))
          apply i_gT
          · exact rfl
          apply c_re
          · (apply c_fldP; (· exact rfl); (· exact rfl))
          apply i_gT
          · exact rfl
          apply c_re
          · (apply c_fldP; (· exact rfl); (· exact rfl))
          apply i_gT
          · exact rfl
          apply i_neF
          · exact rfl
          · exact rfl
          · omega
          apply i_pickF
          · exact rfl
          · exact tB rfl
          refine i_nil ?_
          apply r_condF
          · exact rfl
          refine r_nop ?_
          refine r_reg ?_
          apply i_mov
          · exact tI rfl
          apply i_mov
          · exact tS rfl
          apply i_lenM
          · exact rfl
          by_cases hce : i < es.length
          · cases he : es[i] with
            | false =>
              apply i_ltT
              · exact rfl
              · exact rfl
              · omega
              apply i_mov
              · exact tB rfl
              apply i_gT
              · exact rfl
              apply i_mov
              · exact tS rfl
              apply i_gT
              · exact rfl
              apply i_mov
              · exact tI rfl
              apply i_gT
              · exact rfl
              apply i_idxM
              · exact rfl
              · exact rfl
              · exact rfl
              · exact rfl
              · exact True.intro
              · omega
              apply i_gT
              · exact rfl
              apply i_loadM
              · exact rfl
              · exact True.intro
              · omega
              · exact fun _ => rfl
              (refine ⟨by omega, ?_⟩)
              apply i_pickT
              · exact rfl
              · exact tB rfl
              apply i_mov
              · exact tB rfl
              simp only [he]
              apply i_gF
              · exact rfl
              · exact rfl
              apply i_gF
              · exact rfl
              · exact rfl
              apply i_gF
              · exact rfl
              · exact rfl
              apply i_gF
              · exact rfl
              · exact rfl
              apply i_gF
              · exact rfl
              · exact rfl
              apply i_gR
              · exact rfl
              · exact rfl
              apply i_gF
              · exact rfl
              · exact rfl
              apply i_gF
              · exact rfl
              · exact rfl
              apply i_gF
              · exact rfl
              · exact rfl
              apply i_gU
              · exact rfl
              apply i_gU
              · exact rfl
              apply i_gU
              · exact rfl
              apply i_gU
              · exact rfl
              apply i_gU
              · exact rfl
              apply i_gU
              · exact rfl
              apply i_gU
              · exact rfl
              apply i_gUr
              · exact rfl
              apply i_gUr
              · exact rfl
              apply i_gUr
              · exact rfl
              apply i_gU
              · exact rfl
              apply i_gF
              · exact rfl
              · exact rfl
              apply i_pickF
              · exact rfl
              · exact tB rfl
              refine i_nil ?_
              apply r_condF
              · exact rfl
              refine r_nop ?_
              refine r_nop ?_
              refine r_reg ?_
              apply i_mov
              · exact tI rfl
              apply i_add
              · exact rfl
              · exact rfl
              · omega
              apply i_mov
              · exact tI rfl
              refine i_nil ?_
              refine r_nop ?_
              apply q_lp [1, 2, 7, 8, 9]
              · exact ⟨i + 1, _, s', _, _, _, _, rfl, rfl, h, by omega, hok', hB6⟩
              · omega
            | true =>
              have hok'' := cvEnd_ok hmay hok'
              apply i_ltT
              · exact rfl
              · exact rfl
              · omega
              apply i_mov
              · exact tB rfl
              apply i_gT
              · exact rfl
              apply i_mov
              · exact tS rfl
              apply i_gT
              · exact rfl
              apply i_mov
              · exact tI rfl
              apply i_gT
              · exact rfl
              apply i_idxM
              · exact rfl
              · exact rfl
              · exact rfl
              · exact rfl
              · exact True.intro
              · omega
              apply i_gT
              · exact rfl
              apply i_loadM
              · exact rfl
              · exact True.intro
              · omega
              · exact fun _ => rfl
              (refine ⟨by omega, ?_⟩)
              apply i_pickT
              · exact rfl
              · exact tB rfl
              apply i_mov
              · exact tB rfl
              simp only [he]
              apply i_gT
              · exact rfl
              apply i_mov
              · exact tP rfl
              apply i_gT
              · exact rfl
              apply i_mov
              · exact tP rfl
              apply i_gT
              · exact rfl
              refine i_call (cvEndC C A B o osw op s' ok' ob' _ _ hB6.a hmay hok' (by omega) hcn) rfl ?_
              rintro v S8 ⟨hst8, ox, sx, ok3, ob3, rfl, hax, hnx, hat8, hnk, hnb, hapx⟩
              have hrr := hB6.r.rd
              have hrt8 := hB6.r.stayx hst8 hn1 hB6.h1 hB6.h2
              have g1 : Apart ok2' ob3 := Apart.new hB6.h1 hrr.1 hnb
              have g2 : Apart ob2' ob3 := Apart.new hB6.h2 hrr.2 hnb
              have g3 : Apart ok3 ob2' := (Apart.new hB6.h3.symm hrr.2 hnk).symm
              have g4 : Apart ox ob2' := (Apart.lt hrr.2 (tok_own hax hnx)).symm
              have hsx : sx = 1 ∨ cvEndO C s' = [] := hax.sz.imp id (fun h => List.length_eq_zero_iff.1 h)
              have hrx := hax.rd
              apply i_gT
              · exact rfl
              apply i_toStr
              · exact rfl
              · assumption
              · (refine Rd.rd ?_; assumption)
              apply i_gT
              · exact rfl
              refine i_call (rEnd C o2 s' ok2' ob2' _ _ hrt8 hmay hok' (by omega) hcn) rfl ?_
              rintro v S9 ⟨hst9, oy, sy, ok4, ob4, rfl, hsy, hry, hrt9, hnk2, hnb2⟩
              have hra8 := hat8.rd
              have hB9 : Both S9 C A B o osw op o2 (cvEnd C s') ok3 ob3 ok4 ob4 :=
                ⟨hat8.stayx hst9 hn2 hn3 hn4 g3 g2.symm, hrt9, (Apart.new g1.symm hra8.2 hnk2).symm, (Apart.new g2.symm hra8.2 hnb2).symm, Apart.new g3 hra8.1 hnb2⟩
              replace hrx := hrx.stayo hst9 g4
              clear hat8 hrt8 hst8 hst9 hrt9 hnk hnb hnk2 hnb2 hra8 g1 g2 g3 g4 hapx hax hnx hrr hB6 hob6 h12
              obtain ⟨cells9, hob9, h12⟩ := hB9.cells
              apply i_gT
              · exact rfl
              apply c_re
              · (apply c_toStr; (· exact rfl); (· assumption); (· (refine Rd.rd ?_; assumption)); (· exact rfl))
              apply i_gT
              · exact rfl
              apply i_toStr
              · exact rfl
              · assumption
              · (refine Rd.rd ?_; assumption)
              apply i_gT
              · exact rfl
              apply i_snF
              · exact rfl
              · exact rfl
              · exact rfl
              apply i_gT
              · exact rfl
              apply i_mov
              · exact tB rfl
              apply i_gT
              · exact rfl
              apply i_mov
              · exact tP rfl
              apply i_gT
              · exact rfl
              apply i_mov
              · exact tP rfl
              apply i_gT
              · exact rfl
              apply i_nckP
              · exact rfl
              apply i_gT
              · exact rfl
              apply i_fld0
              · exact rfl
              apply i_gT
              · exact rfl
              apply i_fldP
              · exact rfl
              apply i_gT
              · exact rfl
              apply i_load
              · exact rfl
              · assumption
              · assumption
              apply i_gT
              · exact rfl
              refine i_call (cvCutC C A B o osw op _ ok3 ob3 _ _ hB9.a hok'') rfl ?_
              rintro v S10 ⟨rfl, rfl⟩
              apply i_gT
              · exact rfl
              apply c_re
              · (apply c_load; (· exact rfl); (· assumption); (· assumption); (· exact rfl))
              apply i_gT
              · exact rfl
              apply c_re
              · (apply c_fldP; (· exact rfl); (· exact rfl))
              apply i_gT
              · exact rfl
              apply c_re
              · (apply c_fldP; (· exact rfl); (· exact rfl))
              apply i_gT
              · exact rfl
              apply i_neF
              · exact rfl
              · exact rfl
              · omega
              apply i_gT
              · exact rfl
              apply i_pickF
              · exact rfl
              · exact tB rfl
              apply i_pickT
              · exact rfl
              · exact tB rfl
              refine i_nil ?_
              apply r_condF
              · exact rfl
              refine r_nop ?_
              refine r_nop ?_
              refine r_reg ?_
              apply i_mov
              · exact tI rfl
              apply i_add
              · exact rfl
              · exact rfl
              · omega
              apply i_mov
              · exact tI rfl
              refine i_nil ?_
              refine r_nop ?_
              apply q_lp [1, 2, 7, 8, 9]
              · exact ⟨i + 1, _, cvEnd C s', _, _, _, _, rfl, rfl, h, by omega, hok'', hB9⟩
              · omega
          · apply i_ltF
            · exact rfl
            · exact rfl
            · omega
            apply i_mov
            · exact tB rfl
            apply i_gF
            · exact rfl
            · exact rfl
            apply i_gF
            · exact rfl
            · exact rfl
            apply i_gF
            · exact rfl
            · exact rfl
            apply i_gF
            · exact rfl
            · exact rfl
            apply i_pickF
            · exact rfl
            · exact tB rfl
            apply i_mov
            · exact tB rfl
            apply i_gF
            · exact rfl
            · exact rfl
            apply i_gF
            · exact rfl
            · exact rfl
            apply i_gF
            · exact rfl
            · exact rfl
            apply i_gF
            · exact rfl
            · exact rfl
            apply i_gF
            · exact rfl
            · exact rfl
            apply i_gR
            · exact rfl
            · exact rfl
            apply i_gF
            · exact rfl
            · exact rfl
            apply i_gF
            · exact rfl
            · exact rfl
            apply i_gF
            · exact rfl
            · exact rfl
            apply i_gU
            · exact rfl
            apply i_gU
            · exact rfl
            apply i_gU
            · exact rfl
            apply i_gU
            · exact rfl
            apply i_gU
            · exact rfl
            apply i_gU
            · exact rfl
            apply i_gU
            · exact rfl
            apply i_gUr
            · exact rfl
            apply i_gUr
            · exact rfl
            apply i_gUr
            · exact rfl
            apply i_gU
            · exact rfl
            apply i_gF
            · exact rfl
            · exact rfl
            apply i_pickF
            · exact rfl
            · exact tB rfl
            refine i_nil ?_
            apply r_condF
            · exact rfl
            refine r_nop ?_
            refine r_nop ?_
            refine r_reg ?_
            apply i_mov
            · exact tI rfl
            apply i_add
            · exact rfl
            · exact rfl
            · omega
            apply i_mov
            · exact tI rfl
            refine i_nil ?_
            refine r_nop ?_
            apply q_lp [1, 2, 7, 8, 9]
            · exact ⟨i + 1, _, s', _, _, _, _, rfl, rfl, h, by omega, hok', hB6⟩
            · omega
        · have e : i = ls.length := by omega
          subst e
          rw [List.take_length] at hk
          have hok'' := cvEnd_ok hmay hok
          refine r_reg ?_
          apply i_mov
          · exact tI rfl
          apply i_mov
          · exact tS rfl
          apply i_lenM
          · exact rfl
          apply i_ltF
          · exact rfl
          · exact rfl
          · omega
          refine i_nil ?_
          apply r_condF
          · exact rfl
          refine r_exit ?_
          refine r_reg ?_
          apply i_mov
          · exact tP rfl
          apply i_mov
          · exact tP rfl
          refine i_call (cvEndC C A B o osw op s ok ob _ _ hB.a hmay hok (by omega) hcn) rfl ?_
          rintro v S8 ⟨hst8, ox, sx, ok3, ob3, rfl, hax, hnx, hat8, hnk, hnb, hapx⟩
          have hrr := hB.r.rd
          have hrt8 := hB.r.stayx hst8 hn1 hB.h1 hB.h2
          have g1 : Apart ok2 ob3 := Apart.new hB.h1 hrr.1 hnb
          have g2 : Apart ob2 ob3 := Apart.new hB.h2 hrr.2 hnb
          have g3 : Apart ok3 ob2 := (Apart.new hB.h3.symm hrr.2 hnk).symm
          have g4 : Apart ox ob2 := (Apart.lt hrr.2 (tok_own hax hnx)).symm
          have hsx : sx = 1 ∨ cvEndO C s = [] := hax.sz.imp id (fun h => List.length_eq_zero_iff.1 h)
          have hrx := hax.rd
          apply i_toStr
          · exact rfl
          · assumption
          · (refine Rd.rd ?_; assumption)
          refine i_call (rEnd C o2 s ok2 ob2 _ _ hrt8 hmay hok (by omega) hcn) rfl ?_
          rintro v S9 ⟨hst9, oy, sy, ok4, ob4, rfl, hsy, hry, hrt9, hnk2, hnb2⟩
          have hra8 := hat8.rd
          have hB9 : Both S9 C A B o osw op o2 (cvEnd C s) ok3 ob3 ok4 ob4 :=
            ⟨hat8.stayx hst9 hn2 hn3 hn4 g3 g2.symm, hrt9, (Apart.new g1.symm hra8.2 hnk2).symm, (Apart.new g2.symm hra8.2 hnb2).symm, Apart.new g3 hra8.1 hnb2⟩
          replace hrx := hrx.stayo hst9 g4
          obtain ⟨cells9, hob9, h12⟩ := hB9.cells
          apply c_re
          · (apply c_toStr; (· exact rfl); (· assumption); (· (refine Rd.rd ?_; assumption)); (· exact rfl))
          apply i_toStr
          · exact rfl
          · assumption
          · (refine Rd.rd ?_; assumption)
          apply i_seT
          · exact rfl
          · exact rfl
          · exact rfl
          apply i_mov
          · exact tB rfl
          apply i_gT
          · exact rfl
          apply i_mov
          · exact tP rfl
          apply i_gT
          · exact rfl
          apply i_mov
          · exact tP rfl
          apply i_gT
          · exact rfl
          apply i_nckP
          · exact rfl
          apply i_gT
          · exact rfl
          apply i_fld0
          · exact rfl
          apply i_gT
          · exact rfl
          apply i_fldP
          · exact rfl
          apply i_gT
          · exact rfl
          apply i_load
          · exact rfl
          · assumption
          · assumption
          apply i_gT
          · exact rfl
          refine i_call (cvCutC C A B o osw op _ ok3 ob3 _ _ hB9.a hok'') rfl ?_
          rintro v S10 ⟨rfl, rfl⟩
          apply i_gT
          · exact rfl
          apply c_re
          · (apply c_load; (· exact rfl); (· assumption); (· assumption); (· exact rfl))
          apply i_gT
          · exact rfl
          apply c_re
          · (apply c_fldP; (· exact rfl); (· exact rfl))
          apply i_gT
          · exact rfl
          apply c_re
          · (apply c_fldP; (· exact rfl); (· exact rfl))
          apply i_gT
          · exact rfl
          apply i_eqT
          · exact rfl
          · exact rfl
          · omega
          apply i_pickT
          · exact rfl
          · exact tB rfl
          apply i_mov
          · exact tB rfl
          apply i_gT
          · exact rfl
          refine i_call (convRuns _) rfl ?_
          rintro v S11 ⟨rfl, hst11⟩
          apply i_pickT
          · exact rfl
          · exact tB rfl
          apply i_mov
          · exact tB rfl
          refine i_nil ?_
          refine r_ret ?_
          apply q_ret1
          · exact tB rfl
          rfl
end Go.Proofs.Ythpomdoaiibnfaa.Abs
