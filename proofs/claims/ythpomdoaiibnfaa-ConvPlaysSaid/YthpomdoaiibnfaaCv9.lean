/- The law ConvPieces: that it answers true. -/
import Derived.Test.YthpomdoaiibnfaaCv8
namespace Go.Proofs.Ythpomdoaiibnfaa.Abs
open Go Go.Proofs
set_option linter.unusedVariables false
set_option linter.unusedSimpArgs false
attribute [local irreducible] wpI wpR ropK chk ASt.push ASt.put ASt.fresh ASt.kill appS

theorem norm_n {c : CV} (h : c.cbs ≤ 500 ∨ 4096 < c.cbs) : c.norm.n ≤ 500 := by
  unfold CV.norm
  cases hm : c.may
  · simp [CV.zero, CV.n]
  · have h1 := may_cbs hm
    simp only [if_true]
    unfold CV.n
    omega
theorem convPieces (c : CV) (ls : List (List UInt8)) (S : ASt) :
    ACalls Try.prog 5 [.agg c.cells, .sl .ro 1 (ls.map rov)] S fun v S' => v = .bool true := by
  refine en_5 (by exact Nat.le_of_ble_eq_true rfl) ?_
  unfold rc_5
  refine r_reg ?_
  apply i_boxA
  · exact rfl
  apply i_mov
  · exact tB rfl
  refine i_nil ?_
  refine r_reg ?_
  apply i_mov
  · exact tS rfl
  refine i_call (few8 ls _) rfl ?_
  rintro v S1 ⟨b, rfl, rfl, hb⟩
  cases b with
  | false =>
    apply i_notF
    · exact rfl
    apply i_mov
    · exact tB rfl
    apply i_gF
    · exact rfl
    · exact rfl
    apply i_gF
    · exact rfl
    · exact rfl
    apply i_gF
    · exact rfl
    · exact rfl
    apply i_gF
    · exact rfl
    · exact rfl
    apply i_gU
    · exact rfl
    apply i_gU
    · exact rfl
    apply i_gU
    · exact rfl
    apply i_gF
    · exact rfl
    · exact rfl
    apply i_pickT
    · exact rfl
    · exact tB rfl
    refine i_nil ?_
    apply r_condT
    · exact rfl
    refine r_reg ?_
    refine i_call (convRuns _) rfl ?_
    rintro v S2 ⟨rfl, hst⟩
    apply i_mov
    · exact tB rfl
    refine i_nil ?_
    refine r_ret ?_
    refine q_kr ?_
    apply q_ret1
    · exact tB rfl
    rfl
  | true =>
    obtain ⟨h60, h3000⟩ := hb rfl
    clear hb
    have hoc0 : (S.push c.cells).objs[S.objs.length]? = some c.cells := Ob.new
    generalize S.objs.length = oc at hoc0 ⊢
    generalize S.push c.cells = S1 at hoc0 ⊢
    by_cases hbig : 500 < c.cbs ∧ c.cbs ≤ 4096
    · obtain ⟨h1, h2⟩ := hbig
      apply i_notT
      · exact rfl
      apply i_mov
      · exact tB rfl
      apply i_gT
      · exact rfl
      apply i_fld0
      · exact rfl
      apply i_gT
      · exact rfl
      apply i_load
      · exact rfl
      · assumption
      · exact rfl
      apply i_gT
      · exact rfl
      apply i_gtT
      · exact rfl
      · exact rfl
      · omega
      apply i_gT
      · exact rfl
      apply i_mov
      · exact tB rfl
      apply i_gT
      · exact rfl
      apply i_fld0
      · exact rfl
      apply i_gT
      · exact rfl
      apply i_load
      · exact rfl
      · assumption
      · exact rfl
      apply i_gT
      · exact rfl
      apply i_leT
      · exact rfl
      · exact rfl
      · omega
      apply i_gT
      · exact rfl
      apply i_pickT
      · exact rfl
      · exact tB rfl
      apply i_pickF
      · exact rfl
      · exact tB rfl
      refine i_nil ?_
      apply r_condT
      · exact rfl
      refine r_reg ?_
      refine i_call (convRuns _) rfl ?_
      rintro v S2 ⟨rfl, hst⟩
      apply i_mov
      · exact tB rfl
      refine i_nil ?_
      refine r_ret ?_
      refine q_kr ?_
      apply q_ret1
      · exact tB rfl
      rfl
    · have hcn : c.norm.n ≤ 500 := norm_n (by omega)
      have hmay := may_norm c
      rcases (by omega : (500 < c.cbs ∧ ¬ c.cbs ≤ 4096) ∨ ¬ 500 < c.cbs) with ⟨h5, h4096⟩ | h5
      · apply i_notT
        · exact rfl
        apply i_mov
        · exact tB rfl
        apply i_gT
        · exact rfl
        apply i_fld0
        · exact rfl
        apply i_gT
        · exact rfl
        apply i_load
        · exact rfl
        · assumption
        · exact rfl
        apply i_gT
        · exact rfl
        apply i_gtT
        · exact rfl
        · exact rfl
        · omega
        apply i_gT
        · exact rfl
        apply i_mov
        · exact tB rfl
        apply i_gT
        · exact rfl
        apply i_fld0
        · exact rfl
        apply i_gT
        · exact rfl
        apply i_load
        · exact rfl
        · assumption
        · exact rfl
        apply i_gT
        · exact rfl
        apply i_leF
        · exact rfl
        · exact rfl
        · omega
        apply i_gT
        · exact rfl
        apply i_pickT
        · exact rfl
        · exact tB rfl
        apply i_pickF
        · exact rfl
        · exact tB rfl
        refine i_nil ?_
        apply r_condF
        · exact rfl
        refine r_nop ?_
        refine r_reg ?_
        apply i_loadN
        · exact rfl
        · assumption
        · exact rfl
        refine i_call (cNew c _) rfl ?_
        generalize hCe : c.norm = C at hmay hcn ⊢
        rintro v S2 ⟨o, osw, op, A, B, rfl, hge, hst2, hat⟩
        have hoc := Ob.stays0 hoc0 hst2
        have hltc := Ob.lt hoc0
        rw [← st_F C] at hat
        apply i_mov
        · exact tP rfl
        refine i_nil ?_
        refine r_reg ?_
        apply i_mov
        · exact tP rfl
        apply i_eqpS
        · exact rfl
        · exact rfl
        refine i_nil ?_
        apply r_condF
        · exact rfl
        refine r_nop ?_
        refine r_reg ?_
        apply i_mov
        · exact tS0 rfl
        refine i_nil ?_
        refine r_reg ?_
        apply i_mov
        · exact tC rfl
        refine i_nil ?_
        refine r_reg ?_
        apply i_mov
        · exact tI rfl
        refine i_nil ?_
        refine r_block ?_
        refine r_loopP [1, 2, 5, 6, 7, 8] (fun m G S' => ∃ (i : Nat) (oa : Own) (sa : Nat) (ok ob : Own) (F : List UInt8), G = [(1, .sl .ro 1 (ls.map rov)), (2, .ptr (some (oc, 0))), (5, .ptr (some (o, 0))), (6, .sl oa sa (u8s F)), (7, .str (outF C F)), (8, .int .i64 (i : Nat))] ∧ m = ls.length - i ∧ i ≤ ls.length ∧ F = (ls.take i).flatten ∧
           ConvAt S' C A B o osw op (cvF C F) ok ob ∧ S'.objs[oc]? = some c.cells ∧ App S' oa 1 sa F.length ∧ Apart oa ok ∧ Apart oa ob) ?_ ?_
        · exact ⟨_, 0, .nil, 0, .nil, .nil, [], by rw [out_F]; rfl, rfl, Nat.zero_le _, rfl, hat, hoc, App.none, Apart.nil, Apart.nil⟩
        clear hat hoc hst2
        rintro m G S3 ⟨i, oa, sa, ok, ob, F, rfl, rfl, hi, hF, hat, hoc, haa, hapk, hap⟩
        have hfl := flat_le ls i
        rw [← hF] at hfl
        have hok := ok_F hmay F
        have hol := outF_le hmay F hcn (by omega)
        have hnoc : ∀ p ∈ osw :: opL C.md op, oc ≠ p := fun p hp e => by
          have := hge p (List.mem_cons_of_mem _ hp)
          omega
        have hnoc2 : oc ∉ osw :: opL C.md op := fun h => hnoc oc h rfl
        by_cases h : i < ls.length
        · have hfm := flat_mem h
          have hct := flat_take h
          rw [← hF] at hct
          obtain ⟨hp1, hp2⟩ := put_F C F ls[i]
          have hpl := cvPutO_len ls[i] hmay hok hcn (by omega)
          have hrd := hat.rd
          refine r_reg ?_
          apply i_mov
          · exact tI rfl
          apply i_mov
          · exact tS rfl
          apply i_lenM
          · exact rfl
          apply i_ltT
          · exact rfl
          · exact rfl
          · omega
          refine i_nil ?_
          apply r_condT
          · exact rfl
          refine r_nop ?_
          refine r_block ?_
          refine r_reg ?_
          apply i_mov
          · exact tS rfl
          apply i_mov
          · exact tS rfl
          apply i_mov
          · exact tI rfl
          apply i_idxM
          · exact rfl
          · exact rfl
          · exact rfl
          · exact rfl
          · exact True.intro
          · omega
          apply i_loadM
          · exact rfl
          · exact True.intro
          · omega
          · exact fun _ => rfl
          (refine ⟨by omega, ?_⟩)
          apply i_appX
          · exact rfl
          · exact rfl
          · assumption
          · exact Or.inl rfl
          · exact True.intro
          · omega
          apply i_mov
          · exact tS rfl
          refine i_nil ?_
          refine r_reg ?_
          apply i_mov
          · exact tC rfl
          apply i_mov
          · exact tP rfl
          apply i_mov
          · exact tS rfl
          apply i_mov
          · exact tI rfl
          apply i_idxM
          · exact rfl
          · exact rfl
          · exact rfl
          · exact rfl
          · exact True.intro
          · omega
          apply i_loadM
          · exact rfl
          · exact True.intro
          · omega
          · exact fun _ => rfl
          (refine ⟨by omega, ?_⟩)
          have hat4 := hat.app hapk.symm hap.symm
          have hoc4 := Ob.app (o := oa) hoc
          have ha4 := App.new (S := S3) (o := oa) (sz := 1) (n := (F ++ ls[i]).length)
          have hk4 : Apart (.own S3.next) ok := (Apart.lt hrd.1 (fun t ht => by cases ht; exact Nat.le_refl _)).symm
          have hb4 : Apart (.own S3.next) ob := (Apart.lt hrd.2 (fun t ht => by cases ht; exact Nat.le_refl _)).symm
          refine i_call (cvPutC C A B o osw op (cvF C F) ok ob .ro 1 ls[i] _ F.length hat4 hmay (.inl rfl) (by intro h; cases h) Rd.ro hok (by omega) (by omega) hcn) rfl ?_
          rw [hp1]
          rintro v S5 ⟨hst5, ow, sw, ok', ob', rfl, haw, hnw, hat5, hnk5, hnb5, hap5⟩
          have ha5 := ha4.stayo hst5 hb4
          have hk5 := Apart.new hk4 ha4.rd hnk5
          have hb5 := Apart.new hb4 ha4.rd hnb5
          have hsw : sw = 1 ∨ cvPutO C (cvF C F) ls[i] = [] := haw.sz.imp id (fun h => List.length_eq_zero_iff.1 h)
          have hrw := haw.rd
          have hoc5 := Ob.stayx hoc4 hst5 hnoc2
          apply i_toStr
          · exact rfl
          · assumption
          · (refine Rd.rd ?_; assumption)
          apply i_sadd
          · exact rfl
          · exact rfl
          · omega
          apply i_mov
          · exact tC rfl
          refine i_nil ?_
          refine r_nop ?_
          refine r_reg ?_
          apply i_mov
          · exact tI rfl
          apply i_add
          · exact rfl
          · exact rfl
          · omega
          apply i_mov
          · exact tI rfl
          refine i_nil ?_
          refine r_nop ?_
          rw [← hp2, ← hct]
          rw [← hct] at hat5 ha5
          apply q_lp [1, 2, 5, 6, 7, 8]
          · exact ⟨i + 1, _, _, ok', ob', _, rfl, rfl, h, rfl, hat5, hoc5, ha5, hk5, hb5⟩
          · omega
        · have e : i = ls.length := by omega
          subst e
          rw [List.take_length] at hF
          have hel := cvEndO_len hmay hok hcn
          have hra := haa.rd
          have hsa : sa = 1 ∨ F = [] := haa.sz.imp id (fun h => List.length_eq_zero_iff.1 h)
          have hna : oa = .nil → F = [] := fun h => List.length_eq_zero_iff.1 (haa.nil h)
          refine r_reg ?_
          apply i_mov
          · exact tI rfl
          apply i_mov
          · exact tS rfl
          apply i_lenM
          · exact rfl
          apply i_ltF
          · exact rfl
          · exact rfl
          · omega
          refine i_nil ?_
          apply r_condF
          · exact rfl
          refine r_exit ?_
          refine r_reg ?_
          apply i_mov
          · exact tC rfl
          apply i_mov
          · exact tP rfl
          refine i_call (cvEndC C A B o osw op (cvF C F) ok ob _ F.length hat hmay hok (by omega) hcn) rfl ?_
          rintro v S5 ⟨hst5, ow, sw, ok', ob', rfl, haw, hnw, hat5, hnk5, hnb5, hap5⟩
          have hsw : sw = 1 ∨ cvEndO C (cvF C F) = [] := haw.sz.imp id (fun h => List.length_eq_zero_iff.1 h)
          have hrw := haw.rd
          have hoc5 := Ob.stayx hoc hst5 hnoc2
          have hra5 := hra.stayo hst5 hap
          apply i_toStr
          · exact rfl
          · assumption
          · (refine Rd.rd ?_; assumption)
          apply i_sadd
          · exact rfl
          · exact rfl
          · omega
          apply i_mov
          · exact tC rfl
          refine i_nil ?_
          refine r_reg ?_
          apply i_mov
          · exact tC rfl
          apply i_loadN
          · exact rfl
          · assumption
          · exact rfl
          apply i_mov
          · exact tS rfl
          rw [all_F]
          refine i_call (cAllR c ls _ (by rw [hCe]; exact hcn) (by omega) (by omega)) rfl ?_
          rw [hCe, ← hF]
          rintro v S6 ⟨hst6, hv⟩
          obtain ⟨ox, sx, rfl, hsx, hnx, hrx⟩ := hv.bs
          have hoc6 := Ob.stays0 hoc5 hst6
          have hra6 := hra5.stays hst6
          apply i_toStr
          · exact rfl
          · assumption
          · (refine Rd.rd ?_; assumption)
          apply i_seT
          · exact rfl
          · exact rfl
          · exact rfl
          apply i_mov
          · exact tB rfl
          apply i_gT
          · exact rfl
          apply i_mov
          · exact tC rfl
          apply i_gT
          · exact rfl
          apply i_loadN
          · exact rfl
          · assumption
          · exact rfl
          apply i_gT
          · exact rfl
          apply i_mov
          · exact tS rfl
          apply i_gT
          · exact rfl
          apply i_mk1
          · exact tS rfl
          · exact rfl
          apply i_gT
          · exact rfl
          refine i_call (cAll1 c oa sa F _ (by rw [hCe]; exact hcn) hsa hna hra6 (by omega)) rfl ?_
          rw [hCe]
          rintro v S7 ⟨hst7, hv⟩
          obtain ⟨oy, sy, rfl, hsy, hny, hry⟩ := hv.bs
          apply i_gT
          · exact rfl
          apply i_toStr
          · exact rfl
          · assumption
          · (refine Rd.rd ?_; assumption)
          apply i_gT
          · exact rfl
          apply i_seT
          · exact rfl
          · exact rfl
          · exact rfl
          apply i_pickT
          · exact rfl
          · exact tB rfl
          apply i_mov
          · exact tB rfl
          apply i_gT
          · exact rfl
          refine i_call (convRuns _) rfl ?_
          rintro v S8 ⟨rfl, hst8⟩
          apply i_pickT
          · exact rfl
          · exact tB rfl
          apply i_mov
          · exact tB rfl
          refine i_nil ?_
          refine r_ret ?_
          apply q_ret1
          · exact tB rfl
          rfl
      · apply i_notT
        · exact rfl
        apply i_mov
        · exact tB rfl
        apply i_gT
        · exact rfl
        apply i_fld0
        · exact rfl
        apply i_gT
        · exact rfl
        apply i_load
        · exact rfl
        · assumption
        · exact rfl
        apply i_gT
        · exact rfl
        apply i_gtF
        · exact rfl
        · exact rfl
        · omega
        apply i_gT
        · exact rfl
        apply i_mov
        · exact tB rfl
        apply i_gF
        · exact rfl
        · exact rfl
        apply i_gF
        · exact rfl
        · exact rfl
        apply i_gF
        · exact rfl
        · exact rfl
        apply i_gT
        · exact rfl
        apply i_pickF
        · exact rfl
        · exact tB rfl
        apply i_pickF
        · exact rfl
        · exact tB rfl
        refine i_nil ?_
        apply r_condF
        · exact rfl
        refine r_nop ?_
        refine r_reg ?_
        apply i_loadN
        · exact rfl
        · assumption
        · exact rfl
        refine i_call (cNew c _) rfl ?_
        generalize hCe : c.norm = C at hmay hcn ⊢
        rintro v S2 ⟨o, osw, op, A, B, rfl, hge, hst2, hat⟩
        have hoc := Ob.stays0 hoc0 hst2
        have hltc := Ob.lt hoc0
        rw [← st_F C] at hat
        apply i_mov
        · exact tP rfl
        refine i_nil ?_
        refine r_reg ?_
        apply i_mov
        · exact tP rfl
        apply i_eqpS
        · exact rfl
        · exact rfl
        refine i_nil ?_
        apply r_condF
        · exact rfl
        refine r_nop ?_
        refine r_reg ?_
        apply i_mov
        · exact tS0 rfl
        refine i_nil ?_
        refine r_reg ?_
        apply i_mov
        · exact tC rfl
        refine i_nil ?_
        refine r_reg ?_
        apply i_mov
        · exact tI rfl
        refine i_nil ?_
        refine r_block ?_
        refine r_loopP [1, 2, 5, 6, 7, 8] (fun m G S' => ∃ (i : Nat) (oa : Own) (sa : Nat) (ok ob : Own) (F : List UInt8), G = [(1, .sl .ro 1 (ls.map rov)), (2, .ptr (some (oc, 0))), (5, .ptr (some (o, 0))), (6, .sl oa sa (u8s F)), (7, .str (outF C F)), (8, .int .i64 (i : Nat))] ∧ m = ls.length - i ∧ i ≤ ls.length ∧ F = (ls.take i).flatten ∧
           ConvAt S' C A B o osw op (cvF C F) ok ob ∧ S'.objs[oc]? = some c.cells ∧ App S' oa 1 sa F.length ∧ Apart oa ok ∧ Apart oa ob) ?_ ?_
        · exact ⟨_, 0, .nil, 0, .nil, .nil, [], by rw [out_F]; rfl, rfl, Nat.zero_le _, rfl, hat, hoc, App.none, Apart.nil, Apart.nil⟩
        clear hat hoc hst2
        rintro m G S3 ⟨i, oa, sa, ok, ob, F, rfl, rfl, hi, hF, hat, hoc, haa, hapk, hap⟩
        have hfl := flat_le ls i
        rw [← hF] at hfl
        have hok := ok_F hmay F
        have hol := outF_le hmay F hcn (by omega)
        have hnoc : ∀ p ∈ osw :: opL C.md op, oc ≠ p := fun p hp e => by
          have := hge p (List.mem_cons_of_mem _ hp)
          omega
        have hnoc2 : oc ∉ osw :: opL C.md op := fun h => hnoc oc h rfl
        by_cases h : i < ls.length
        · have hfm := flat_mem h
          have hct := flat_take h
          rw [← hF] at hct
          obtain ⟨hp1, hp2⟩ := put_F C F ls[i]
          have hpl := cvPutO_len ls[i] hmay hok hcn (by omega)
          have hrd := hat.rd
          refine r_reg ?_
          apply i_mov
          · exact tI rfl
          apply i_mov
          · exact tS rfl
          apply i_lenM
          · exact rfl
          apply i_ltT
          · exact rfl
          · exact rfl
          · omega
          refine i_nil ?_
          apply r_condT
          · exact rfl
          refine r_nop ?_
          refine r_block ?_
          refine r_reg ?_
          apply i_mov
          · exact tS rfl
          apply i_mov
          · exact tS rfl
          apply i_mov
          · exact tI rfl
          apply i_idxM
          · exact rfl
          · exact rfl
          · exact rfl
          · exact rfl
          · exact True.intro
          · omega
          apply i_loadM
          · exact rfl
          · exact True.intro
          · omega
          · exact fun _ => rfl
          (refine ⟨by omega, ?_⟩)
          apply i_appX
          · exact rfl
          · exact rfl
          · assumption
          · exact Or.inl rfl
          · exact True.intro
          · omega
          apply i_mov
          · exact tS rfl
          refine i_nil ?_
          refine r_reg ?_
          apply i_mov
          · exact tC rfl
          apply i_mov
          · exact tP rfl
          apply i_mov
          · exact tS rfl
          apply i_mov
          · exact tI rfl
          apply i_idxM
          · exact rfl
          · exact rfl
          · exact rfl
          · exact rfl
          · exact True.intro
          · omega
          apply i_loadM
          · exact rfl
          · exact True.intro
          · omega
          · exact fun _ => rfl
          (refine ⟨by omega, ?_⟩)
          have hat4 := hat.app hapk.symm hap.symm
          have hoc4 := Ob.app (o := oa) hoc
          have ha4 := App.new (S := S3) (o := oa) (sz := 1) (n := (F ++ ls[i]).length)
          have hk4 : Apart (.own S3.next) ok := (Apart.lt hrd.1 (fun t ht => by cases ht; exact Nat.le_refl _)).symm
          have hb4 : Apart (.own S3.next) ob := (Apart.lt hrd.2 (fun t ht => by cases ht; exact Nat.le_refl _)).symm
          refine i_call (cvPutC C A B o osw op (cvF C F) ok ob .ro 1 ls[i] _ F.length hat4 hmay (.inl rfl) (by intro h; cases h) Rd.ro hok (by omega) (by omega) hcn) rfl ?_
          rw [hp1]
          rintro v S5 ⟨hst5, ow, sw, ok', ob', rfl, haw, hnw, hat5, hnk5, hnb5, hap5⟩
          have ha5 := ha4.stayo hst5 hb4
          have hk5 := Apart.new hk4 ha4.rd hnk5
          have hb5 := Apart.new hb4 ha4.rd hnb5
          have hsw : sw = 1 ∨ cvPutO C (cvF C F) ls[i] = [] := haw.sz.imp id (fun h => List.length_eq_zero_iff.1 h)
          have hrw := haw.rd
          have hoc5 := Ob.stayx hoc4 hst5 hnoc2
          apply i_toStr
          · exact rfl
          · assumption
          · (refine Rd.rd ?_; assumption)
          apply i_sadd
          · exact rfl
          · exact rfl
          · omega
          apply i_mov
          · exact tC rfl
          refine i_nil ?_
          refine r_nop ?_
          refine r_reg ?_
          apply i_mov
          · exact tI rfl
          apply i_add
          · exact rfl
          · exact rfl
          · omega
          apply i_mov
          · exact tI rfl
          refine i_nil ?_
          refine r_nop ?_
          rw [← hp2, ← hct]
          rw [← hct] at hat5 ha5
          apply q_lp [1, 2, 5, 6, 7, 8]
          · exact ⟨i + 1, _, _, ok', ob', _, rfl, rfl, h, rfl, hat5, hoc5, ha5, hk5, hb5⟩
          · omega
        · have e : i = ls.length := by omega
          subst e
          rw [List.take_length] at hF
          have hel := cvEndO_len hmay hok hcn
          have hra := haa.rd
          have hsa : sa = 1 ∨ F = [] := haa.sz.imp id (fun h => List.length_eq_zero_iff.1 h)
          have hna : oa = .nil → F = [] := fun h => List.length_eq_zero_iff.1 (haa.nil h)
          refine r_reg ?_
          apply i_mov
          · exact tI rfl
          apply i_mov
          · exact tS rfl
          apply i_lenM
          · exact rfl
          apply i_ltF
          · exact rfl
          · exact rfl
          · omega
          refine i_nil ?_
          apply r_condF
          · exact rfl
          refine r_exit ?_
          refine r_reg ?_
          apply i_mov
          · exact tC rfl
          apply i_mov
          · exact tP rfl
          refine i_call (cvEndC C A B o osw op (cvF C F) ok ob _ F.length hat hmay hok (by omega) hcn) rfl ?_
          rintro v S5 ⟨hst5, ow, sw, ok', ob', rfl, haw, hnw, hat5, hnk5, hnb5, hap5⟩
          have hsw : sw = 1 ∨ cvEndO C (cvF C F) = [] := haw.sz.imp id (fun h => List.length_eq_zero_iff.1 h)
          have hrw := haw.rd
          have hoc5 := Ob.stayx hoc hst5 hnoc2
          have hra5 := hra.stayo hst5 hap
          apply i_toStr
          · exact rfl
          · assumption
          · (refine Rd.rd ?_; assumption)
          apply i_sadd
          · exact rfl
          · exact rfl
          · omega
          apply i_mov
          · exact tC rfl
          refine i_nil ?_
          refine r_reg ?_
          apply i_mov
          · exact tC rfl
          apply i_loadN
          · exact rfl
          · assumption
          · exact rfl
          apply i_mov
          · exact tS rfl
          rw [all_F]
          refine i_call (cAllR c ls _ (by rw [hCe]; exact hcn) (by omega) (by omega)) rfl ?_
          rw [hCe, ← hF]
          rintro v S6 ⟨hst6, hv⟩
          obtain ⟨ox, sx, rfl, hsx, hnx, hrx⟩ := hv.bs
          have hoc6 := Ob.stays0 hoc5 hst6
          have hra6 := hra5.stays hst6
          apply i_toStr
          · exact rfl
          · assumption
          · (refine Rd.rd ?_; assumption)
          apply i_seT
          · exact rfl
          · exact rfl
          · exact rfl
          apply i_mov
          · exact tB rfl
          apply i_gT
          · exact rfl
          apply i_mov
          · exact tC rfl
          apply i_gT
          · exact rfl
          apply i_loadN
          · exact rfl
          · assumption
          · exact rfl
          apply i_gT
          · exact rfl
          apply i_mov
          · exact tS rfl
          apply i_gT
          · exact rfl
          apply i_mk1
          · exact tS rfl
          · exact rfl
          apply i_gT
          · exact rfl
          refine i_call (cAll1 c oa sa F _ (by rw [hCe]; exact hcn) hsa hna hra6 (by omega)) rfl ?_
          rw [hCe]
          rintro v S7 ⟨hst7, hv⟩
          obtain ⟨oy, sy, rfl, hsy, hny, hry⟩ := hv.bs
          apply i_gT
          · exact rfl
          apply i_toStr
          · exact rfl
          · assumption
          · (refine Rd.rd ?_; assumption)
          apply i_gT
          · exact rfl
          apply i_seT
          · exact rfl
          · exact rfl
          · exact rfl
          apply i_pickT
          · exact rfl
          · exact tB rfl
          apply i_mov
          · exact tB rfl
          apply i_gT
          · exact rfl
          refine i_call (convRuns _) rfl ?_
          rintro v S8 ⟨rfl, hst8⟩
          apply i_pickT
          · exact rfl
          · exact tB rfl
          apply i_mov
          · exact tB rfl
          refine i_nil ?_
          refine r_ret ?_
          apply q_ret1
          · exact tB rfl
          rfl
end Go.Proofs.Ythpomdoaiibnfaa.Abs
