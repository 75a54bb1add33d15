/- The document's conversion, Put and End: contracts. -/
import Derived.Test.YthpomdoaiibnfaaCv14
namespace Go.Proofs.Ythpomdoaiibnfaa.Abs
open Go Go.Proofs
set_option linter.unusedVariables false

theorem md_of_thr {C : CV} (h : C.md = .thr) : C.blocks = false ∧ C.unblocks = false := by
  unfold CV.md at h
  cases hb : C.blocks <;> cases hu : C.unblocks <;> rw [hb, hu] at h <;> first | exact ⟨rfl, rfl⟩ | cases h
theorem md_of_pck {C : CV} (h : C.md = .pck) : C.blocks = true := by
  unfold CV.md at h
  cases hb : C.blocks <;> cases hu : C.unblocks <;> rw [hb, hu] at h <;> first | rfl | cases h
theorem md_of_unp {C : CV} (h : C.md = .unp) : C.blocks = false ∧ C.unblocks = true := by
  unfold CV.md at h
  cases hb : C.blocks <;> cases hu : C.unblocks <;> rw [hb, hu] at h <;> first | exact ⟨rfl, rfl⟩ | cases h
theorem rcc_9 (C : CV) (kv : AV) (cut : Nat) (lv uv : AV) : ((rcc C kv cut lv uv).drop 0).take 9 = C.cells := rfl
theorem rcc_sw {C : CV} {kv kv2 : AV} {cut : Nat} {lv uv : AV} {cs' : List AV} (h : Off 9 2 (rcc C kv cut lv uv) cs') (h0 : cs'[9]? = some (.bool C.swab)) (h1 : cs'[10]? = some kv2) : cs' = rcc C kv2 cut lv uv := off2 h h0 h1
theorem rcc_pk {C : CV} {kv lv2 : AV} {cut cut2 : Nat} {lv uv : AV} {cs' : List AV} (hn : (C.n : Int) = C.cbs) (h : Off 11 3 (rcc C kv cut lv uv) cs') (h0 : cs'[11]? = some (.int .i64 (C.n : Nat))) (h1 : cs'[12]? = some (.int .i64 (cut2 : Nat))) (h2 : cs'[13]? = some lv2) : cs' = rcc C kv cut2 lv2 uv := by
  rw [hn] at h0
  exact off3 h h0 h1 h2
theorem rcc_un {C : CV} {kv uv2 : AV} {cut : Nat} {lv uv : AV} {cs' : List AV} (hn : (C.n : Int) = C.cbs) (h : Off 14 2 (rcc C kv cut lv uv) cs') (h0 : cs'[14]? = some (.int .i64 (C.n : Nat))) (h1 : cs'[15]? = some uv2) : cs' = rcc C kv cut lv uv2 := by
  rw [hn] at h0
  exact off2 h h0 h1
set_option linter.unusedSimpArgs false
attribute [local irreducible] wpI wpR ropK chk ASt.push ASt.put ASt.fresh ASt.kill appS

theorem rLines (C : CV) (o : Nat) (s : CvS) (ok ob : Own) (o1 : Own) (s1 : Nat) (y : List UInt8) (S : ASt) (k0 : Nat) (hat : RcAt S C o s ok ob) (hmay : C.may = true) (hs : s1 = 1 ∨ y = []) (hn : o1 = .nil → y = []) (hr : Rd S o1) (hap1 : Apart o1 ob)
    (hok : mdOk C.md C.n s.line s.cut k0) (hk0 : k0 ≤ 100000) (hy : y.length ≤ 1001) :
    ACalls Try.prog 47 [.ptr (some (o, 0)), .sl o1 s1 (u8s y)] S fun v S' => StayX S S' [o] ob.ts ∧ ∃ ov sv ob', v = .sl ov sv (u8s (mdOut C.md C.n s.line s.cut y).out) ∧
      BSO S S' o1 s1 y.length ov sv (mdOut C.md C.n s.line s.cut y).out ∧ RcAt S' C o ⟨s.kept, (mdOut C.md C.n s.line s.cut y).line, (mdOut C.md C.n s.line s.cut y).cut⟩ ok ob' ∧ OwnNew S ob ob' ∧ Apart ov ob' ∧
      (C.md ≠ .thr → App S' ov 1 sv (mdOut C.md C.n s.line s.cut y).out.length ∧ ∀ t, ov = .own t → S.next ≤ t) := by
  refine en_47 (by exact Nat.le_of_ble_eq_true rfl) ?_
  unfold rc_47
  obtain ⟨sk, lv, uv, hob, hk1, hk2, hk3, hap, hm⟩ := hat
  obtain ⟨hcn, hn4⟩ := may_n hmay
  have h9 := rcc_9 C (.sl ok sk (u8s s.kept)) s.cut lv uv
  have h11 : (rcc C (.sl ok sk (u8s s.kept)) s.cut lv uv)[11]? = some (.int .i64 (C.n : Nat)) := by rw [hcn]; rfl
  have h12 : (rcc C (.sl ok sk (u8s s.kept)) s.cut lv uv)[12]? = some (.int .i64 (s.cut : Nat)) := rfl
  have h13 : (rcc C (.sl ok sk (u8s s.kept)) s.cut lv uv)[13]? = some lv := rfl
  have h14 : (rcc C (.sl ok sk (u8s s.kept)) s.cut lv uv)[14]? = some (.int .i64 (C.n : Nat)) := by rw [hcn]; rfl
  have h15 : (rcc C (.sl ok sk (u8s s.kept)) s.cut lv uv)[15]? = some uv := rfl
  have hpk := fun cs' lv2 cut2 => rcc_pk (C := C) (kv := .sl ok sk (u8s s.kept)) (cut := s.cut) (cut2 := cut2) (lv := lv) (uv := uv) (lv2 := lv2) (cs' := cs') hcn
  have hun := fun cs' uv2 => rcc_un (C := C) (kv := .sl ok sk (u8s s.kept)) (cut := s.cut) (lv := lv) (uv := uv) (uv2 := uv2) (cs' := cs') hcn
  obtain ⟨cells, hcells⟩ : ∃ cells, rcc C (.sl ok sk (u8s s.kept)) s.cut lv uv = cells := ⟨_, rfl⟩
  rw [hcells] at hob h9 h11 h12 h13 h14 h15
  rw [hcells] at hpk hun
  cases hmd : C.md with
  | thr =>
    obtain ⟨hB, hU⟩ := md_of_thr hmd
    rw [hmd] at hm hok
    refine r_reg ?_
    apply i_mov
    · exact tS0 rfl
    refine i_nil ?_
    refine r_block ?_
    refine r_reg ?_
    apply i_mov
    · exact tP rfl
    apply i_nckP
    · exact rfl
    apply i_fld0
    · exact rfl
    apply i_loadNO
    · exact rfl
    · assumption
    · first | assumption | exact rfl
    · exact rfl
    · exact Nat.le_of_ble_eq_true rfl
    refine i_call (rBlocks C _) rfl ?_
    rw [hB]
    rintro v S1 ⟨rfl, hst1⟩
    apply i_mov
    · exact tB rfl
    refine i_nil ?_
    apply r_condF
    · exact rfl
    refine r_reg ?_
    apply i_mov
    · exact tP rfl
    apply i_nckP
    · exact rfl
    apply i_fld0
    · exact rfl
    apply i_loadNO
    · exact rfl
    · ((apply Ob.stays0'; (· assumption)); assumption)
    · first | assumption | exact rfl
    · exact rfl
    · exact Nat.le_of_ble_eq_true rfl
    refine i_call (rUnblocks C _) rfl ?_
    rw [hU]
    rintro v S2 ⟨rfl, hst2⟩
    have hst : Stays S S2 [] := hst1.then0 hst2
    have hnil : ob = .nil := hm.1
    apply i_mov
    · exact tB rfl
    refine i_nil ?_
    apply r_condF
    · exact rfl
    refine r_nop ?_
    refine r_nop ?_
    refine r_nop ?_
    refine r_reg ?_
    apply i_mov
    · exact tS rfl
    apply i_mov
    · exact tS rfl
    refine i_nil ?_
    refine r_ret ?_
    apply q_ret1
    · exact tS rfl
    refine ⟨StayX.of (hst.mono (by simp)), o1, s1, ob, rfl, ⟨hs, hn, hr.stays hst, OwnNew.refl, fun ha => ha.stays hst⟩, ?_, OwnNew.refl, hap1, fun h => absurd rfl h⟩
    exact ⟨sk, lv, uv, by subst hcells; exact Ob.stays0 hob hst, hk1, hk2, hk3.stays hst, hap, by rw [hmd]; exact RmAt.stays hm hst⟩
  | pck =>
    have hB := md_of_pck hmd
    rw [hmd] at hm hok
    obtain ⟨huv, sb, rfl, ha⟩ := hm
    obtain ⟨hk5, hk6⟩ := hok
    refine r_reg ?_
    apply i_mov
    · exact tS0 rfl
    refine i_nil ?_
    refine r_block ?_
    refine r_reg ?_
    apply i_mov
    · exact tP rfl
    apply i_nckP
    · exact rfl
    apply i_fld0
    · exact rfl
    apply i_loadNO
    · exact rfl
    · assumption
    · first | assumption | exact rfl
    · exact rfl
    · exact Nat.le_of_ble_eq_true rfl
    refine i_call (rBlocks C _) rfl ?_
    rw [hB]
    rintro v S1 ⟨rfl, hst1⟩
    apply i_mov
    · exact tB rfl
    refine i_nil ?_
    apply r_condT
    · exact rfl
    refine r_reg ?_
    apply i_mov
    · exact tP rfl
    apply i_nckP
    · exact rfl
    apply i_fld0
    · exact rfl
    apply i_mov
    · exact tS rfl
    refine i_call (refPackPut o 11 C.n s.line ob s.cut o1 s1 y cells _ hs (hr.stays hst1) hap1 ⟨sb, Ob.stays0 hob hst1, h11, h12, h13, ha.stays hst1⟩ hn4 (by omega) (by omega) (by omega)) rfl ?_
    rintro v S2 ⟨hst2, ov, sv, ob', cs', rfl, hav, hnv, hat2, hnew2, hap2, hoff⟩
    obtain ⟨sb2, hob2, g0, g1, g2, ha2⟩ := hat2
    have hn1 := hst1.next
    apply i_mov
    · exact tS rfl
    refine i_nil ?_
    refine r_ret ?_
    refine q_kr ?_
    refine q_br ?_
    apply q_ret1
    · exact tS rfl
    refine ⟨(StayX.of (hst1.mono (by simp))).then hst2 (fun _ h => .inl h) (fun _ h => .inl h), ov, sv, ob', rfl, BSO.ba hav hnv hn1, ?_, OwnNew.trans OwnNew.refl hn1 hnew2, hap2, fun _ => ⟨hav, fun t ht => Nat.le_trans hn1 (hnv t ht)⟩⟩
    have e := hpk cs' _ _ hoff g0 g1 g2
    subst e
    exact ⟨sk, _, uv, hob2, hk1, hk2, (hk3.stays hst1).stayo hst2 hap, Apart.new hap (hk3.stays hst1) hnew2, by rw [hmd]; exact ⟨huv, sb2, rfl, ha2⟩⟩
  | unp =>
    obtain ⟨hB, hU⟩ := md_of_unp hmd
    rw [hmd] at hm hok
    obtain ⟨hlv, sb, rfl, ha⟩ := hm
    obtain ⟨hk5, hk6⟩ := hok
    refine r_reg ?_
    apply i_mov
    · exact tS0 rfl
    refine i_nil ?_
    refine r_block ?_
    refine r_reg ?_
    apply i_mov
    · exact tP rfl
    apply i_nckP
    · exact rfl
    apply i_fld0
    · exact rfl
    apply i_loadNO
    · exact rfl
    · assumption
    · first | assumption | exact rfl
    · exact rfl
    · exact Nat.le_of_ble_eq_true rfl
    refine i_call (rBlocks C _) rfl ?_
    rw [hB]
    rintro v S1 ⟨rfl, hst1⟩
    apply i_mov
    · exact tB rfl
    refine i_nil ?_
    apply r_condF
    · exact rfl
    refine r_reg ?_
    apply i_mov
    · exact tP rfl
    apply i_nckP
    · exact rfl
    apply i_fld0
    · exact rfl
    apply i_loadNO
    · exact rfl
    · ((apply Ob.stays0'; (· assumption)); assumption)
    · first | assumption | exact rfl
    · exact rfl
    · exact Nat.le_of_ble_eq_true rfl
    refine i_call (rUnblocks C _) rfl ?_
    rw [hU]
    rintro v S1' ⟨rfl, hst1'⟩
    have hst : Stays S S1' [] := hst1.then0 hst1'
    apply i_mov
    · exact tB rfl
    refine i_nil ?_
    apply r_condT
    · exact rfl
    refine r_reg ?_
    apply i_mov
    · exact tP rfl
    apply i_nckP
    · exact rfl
    apply i_fld0
    · exact rfl
    apply i_mov
    · exact tS rfl
    refine i_call (refUnPut o 14 C.n s.line ob o1 s1 y cells _ hs (hr.stays hst) hap1 ⟨sb, Ob.stays0 hob hst, h14, h15, ha.stays hst⟩ (by omega) hn4 (by omega) hk5) rfl ?_
    rintro v S2 ⟨hst2, ov, sv, ob', cs', rfl, hav, hnv, hat2, hnew2, hap2, hoff⟩
    obtain ⟨sb2, hob2, g0, g1, ha2⟩ := hat2
    have hn1 := hst.next
    apply i_mov
    · exact tS rfl
    refine i_nil ?_
    refine r_ret ?_
    refine q_kr ?_
    refine q_kr ?_
    refine q_br ?_
    apply q_ret1
    · exact tS rfl
    refine ⟨(StayX.of (hst.mono (by simp))).then hst2 (fun _ h => .inl h) (fun _ h => .inl h), ov, sv, ob', rfl, BSO.ba hav hnv hn1, ?_, OwnNew.trans OwnNew.refl hn1 hnew2, hap2, fun _ => ⟨hav, fun t ht => Nat.le_trans hn1 (hnv t ht)⟩⟩
    have e := hun cs' _ hoff g0 g1
    subst e
    exact ⟨sk, lv, _, hob2, hk1, hk2, (hk3.stays hst).stayo hst2 hap, Apart.new hap (hk3.stays hst) hnew2, by rw [hmd]; exact ⟨hlv, sb2, rfl, ha2⟩⟩

/-- Behind the swab: tables, records, tables. -/
theorem rPut (C : CV) (o : Nat) (s : CvS) (ok ob : Own) (b : List UInt8) (S : ASt) (k0 : Nat) (hat : RcAt S C o s ok ob) (hmay : C.may = true) (hok : cvOk C s k0) (hk0 : k0 ≤ 10000) (hb : b.length ≤ 1000) (hcn : C.n ≤ 500) :
    ACalls Try.prog 27 [.ptr (some (o, 0)), .sl .ro 1 (u8s b)] S fun v S' => StayX S S' [o] ob.ts ∧ ∃ ov sv ok' ob', v = .sl ov sv (u8s (cvPutO C s b)) ∧ (sv = 1 ∨ cvPutO C s b = []) ∧ Rd S' ov ∧
      RcAt S' C o (cvPut C s b) ok' ob' ∧ OwnNew S ok ok' ∧ OwnNew S ob ob' := by
  refine en_27 (by exact Nat.le_of_ble_eq_true rfl) ?_
  unfold rc_27
  obtain ⟨sk, lv, uv, hob, hk1, hk2, hk3, hap, hm⟩ := hat
  obtain ⟨hk7, hok2⟩ := hok
  refine r_reg ?_
  apply i_mov
  · exact tS0 rfl
  refine i_nil ?_
  refine r_reg ?_
  apply i_mov
  · exact tP rfl
  apply i_mov
  · exact tP rfl
  apply i_mov
  · exact tP rfl
  apply i_mov
  · exact tP rfl
  apply i_nckP
  · exact rfl
  apply i_fld0
  · exact rfl
  apply i_mov
  · exact tS rfl
  refine i_call (refSwPut o 9 C.swab s.kept ok (rcc C (.sl ok sk (u8s s.kept)) s.cut lv uv) .ro 1 b _ (.inl rfl) (by intro h; cases h) Rd.ro ⟨sk, hob, rfl, rfl, hk1, hk2, hk3⟩ (by omega)) rfl ?_
  rintro v S1 ⟨hst1, ⟨ox, sx, rfl, hax, hnx⟩, ok1, cs1, hsw1, hnew1, hoff1⟩
  obtain ⟨sk1, hob1, g0, g1, hk1', hk2', hk3'⟩ := hsw1
  have e := rcc_sw hoff1 g0 g1
  subst e
  have hxl := cvX_len C s b
  have hapk : Apart ok1 ob := (Apart.new hap.symm hm.rd hnew1).symm
  have hn1 := hst1.next
  have hrb1 := hm.rd.stays hst1
  have hapx : Apart ob ox := Apart.lt hm.rd (tok_own hax hnx)
  have hrx := hax.rd
  change App S1 ox 1 sx (cvX C s b).length at hax
  refine i_call (rFirst C _ o ox sx (cvX C s b) _ hob1 (hax.sz.imp id (fun h => List.length_eq_zero_iff.1 h)) (fun h => List.length_eq_zero_iff.1 (hax.nil h)) hrx (by omega)) rfl ?_
  rintro v S2 ⟨hst2, oy, sy, rfl, hy1, hy2, hy3, hy4, hy5⟩
  have hfl := first_len C (cvX C s b)
  have hat2 : RcAt S2 C o ⟨cvK C s b, s.line, s.cut⟩ ok1 ob := ⟨sk1, lv, uv, Ob.stays0 hob1 hst2, hk1', hk2', hk3'.stays hst2, hapk, (hm.stays hst1).stays hst2⟩
  refine i_call (rLines C o ⟨cvK C s b, s.line, s.cut⟩ ok1 ob oy sy (C.first (cvX C s b)) _ k0 hat2 hmay hy1 hy2 hy3 (Apart.new hapx hrb1 hy4).symm hok2 (by omega) (by omega)) rfl ?_
  rintro v S3 ⟨hst3, oz, sz, ob3, rfl, ⟨hz1, hz2, hz3, hz4, hz5⟩, hat3, hnb3, hap3, happ3⟩
  have hmo := (cvM_ok (cvX C s b) hmay hok2).2
  have hm2 : (C.n + 2) * (cvX C s b).length ≤ 502 * 1001 := Nat.mul_le_mul (by omega) (by omega)
  change (mdOut C.md C.n s.line s.cut (C.first (cvX C s b))).out.length ≤ _ at hmo
  obtain ⟨sk3, lv3, uv3, hob3, hk13, hk23, hk33, hapk3, hm3⟩ := id hat3
  refine i_call (rLast C _ o oz sz (mdOut C.md C.n s.line s.cut (C.first (cvX C s b))).out _ hob3 hz1 hz2 hz3 (by omega)) rfl ?_
  rintro v S4 ⟨hst4, ow, sw, rfl, hw1, hw2, hw3, hw4, hw5⟩
  have hn2 := hst2.next
  apply i_mov
  · exact tS rfl
  refine i_nil ?_
  refine r_ret ?_
  apply q_ret1
  · exact tS rfl
  refine ⟨?_, ow, sw, ok1, ob3, rfl, hw1, hw3, hat3.stays0 hst4, hnew1, OwnNew.trans OwnNew.refl (Nat.le_trans hn1 hn2) hnb3⟩
  exact (((StayX.of hst1).then0 hst2).then hst3 (fun _ h => .inl h) (fun _ h => .inl h)).then0 hst4

theorem rEnd (C : CV) (o : Nat) (s : CvS) (ok ob : Own) (S : ASt) (k0 : Nat) (hat : RcAt S C o s ok ob) (hmay : C.may = true) (hok : cvOk C s k0) (hk0 : k0 ≤ 10000) (hcn : C.n ≤ 500) :
    ACalls Try.prog 29 [.ptr (some (o, 0))] S fun v S' => StayX S S' [o] ob.ts ∧ ∃ ov sv ok' ob', v = .sl ov sv (u8s (cvEndO C s)) ∧ (sv = 1 ∨ cvEndO C s = []) ∧ Rd S' ov ∧
      RcAt S' C o (cvEnd C s) ok' ob' ∧ OwnNew S ok ok' ∧ OwnNew S ob ob' := by
  refine en_29 (by exact Nat.le_of_ble_eq_true rfl) ?_
  unfold rc_29
  obtain ⟨sk, lv, uv, hob, hk1, hk2, hk3, hap, hm⟩ := hat
  obtain ⟨hk7, hok2⟩ := hok
  obtain ⟨hcnn, hn4⟩ := may_n hmay
  refine r_reg ?_
  apply i_mov
  · exact tS0 rfl
  refine i_nil ?_
  refine r_reg ?_
  apply i_mov
  · exact tP rfl
  apply i_mov
  · exact tP rfl
  apply i_mov
  · exact tP rfl
  apply i_mov
  · exact tP rfl
  apply i_nckP
  · exact rfl
  apply i_fld0
  · exact rfl
  refine i_call (refSwEnd o 9 C.swab s.kept ok (rcc C (.sl ok sk (u8s s.kept)) s.cut lv uv) _ ⟨sk, hob, rfl, rfl, hk1, hk2, hk3⟩) rfl ?_
  rintro v S1 ⟨hst1, ⟨sx, rfl, hsx, hnx, hrx⟩, cs1, hsw1, hoff1⟩
  obtain ⟨sk1, hob1, g0, g1, hk1', hk2', hk3'⟩ := hsw1
  have e := rcc_sw hoff1 g0 g1
  subst e
  have hn1 := hst1.next
  have hrb1 := hm.rd.stays hst1
  refine i_call (rFirst C _ o ok sx s.kept _ hob1 hsx hnx hrx (by omega)) rfl ?_
  rintro v S2 ⟨hst2, oy, sy, rfl, hy1, hy2, hy3, hy4, hy5⟩
  have hfl := first_len C s.kept
  have hat2 : RcAt S2 C o ⟨[], s.line, s.cut⟩ .nil ob := ⟨sk1, lv, uv, Ob.stays0 hob1 hst2, hk1', hk2', hk3'.stays hst2, Apart.nil, (hm.stays hst1).stays hst2⟩
  refine i_call (rLines C o ⟨[], s.line, s.cut⟩ .nil ob oy sy (C.first s.kept) _ k0 hat2 hmay hy1 hy2 hy3 (Apart.new hap.symm hrb1 hy4).symm hok2 (by omega) (by omega)) rfl ?_
  have hmo := cvM_ok s.kept hmay hok2
  have hme := mdEnd_ok (md_pos hmay) hmo.1
  have hm2 : (C.n + 2) * s.kept.length ≤ 502 * 1 := Nat.mul_le_mul (by omega) hk7
  have hN : mdEnd C.md C.n (cvM C s s.kept).line (cvM C s s.kept).cut = cvN C s := rfl
  rw [show mdOut C.md C.n (CvS.mk [] s.line s.cut).line (CvS.mk [] s.line s.cut).cut (C.first s.kept) = cvM C s s.kept from rfl]
  have hEO : cvEndO C s = C.last (cvM C s s.kept).out ++ C.last (cvN C s).out := rfl
  have hES : cvEnd C s = ⟨[], (cvN C s).line, (cvN C s).cut⟩ := rfl
  rw [hN] at hme
  rw [hEO, hES]
  generalize hMM : cvM C s s.kept = M at hmo hme hN ⊢
  generalize cvN C s = E at hme hN ⊢
  rintro v S3 ⟨hst3, oz, sz, ob3, rfl, ⟨hz1, hz2, hz3, hz4, hz5⟩, hat3, hnb3, hap3, happ3⟩
  obtain ⟨sk3, lv3, uv3, hob3, hk13, hk23, hk33, hapk3, hm3⟩ := id hat3
  have hll := last_len C M.out
  have hle := last_len C E.out
  have hrb3 := hm3.rd
  refine i_call (rLast C _ o oz sz M.out _ hob3 hz1 hz2 hz3 (by omega)) rfl ?_
  rintro v S4 ⟨hst4, ow, sw, rfl, hw1, hw2, hw3, hw4, hw5⟩
  have hn2 := hst2.next
  have hn3 := hst3.next
  have hn4' := hst4.next
  have hst14 : StayX S S4 [o] ob.ts := (((StayX.of hst1).then0 hst2).then hst3 (fun _ h => .inl h) (fun _ h => .inl h)).then0 hst4
  have hob4 := Ob.stays0 hob3 hst4
  have hnb4 : OwnNew S ob ob3 := OwnNew.trans OwnNew.refl (Nat.le_trans hn1 hn2) hnb3
  have hapw : Apart ob3 ow := Apart.new hap3.symm hrb3 hw4
  have h9 := rcc_9 C (.sl .nil sk3 (u8s [])) M.cut lv3 uv3
  have h11 : (rcc C (.sl .nil sk3 (u8s [])) M.cut lv3 uv3)[11]? = some (.int .i64 (C.n : Nat)) := by rw [hcnn]; rfl
  have h12 : (rcc C (.sl .nil sk3 (u8s [])) M.cut lv3 uv3)[12]? = some (.int .i64 (M.cut : Nat)) := rfl
  have h13 : (rcc C (.sl .nil sk3 (u8s [])) M.cut lv3 uv3)[13]? = some lv3 := rfl
  have h14 : (rcc C (.sl .nil sk3 (u8s [])) M.cut lv3 uv3)[14]? = some (.int .i64 (C.n : Nat)) := by rw [hcnn]; rfl
  have h15 : (rcc C (.sl .nil sk3 (u8s [])) M.cut lv3 uv3)[15]? = some uv3 := rfl
  have hpk := fun cs' lv2 cut2 => rcc_pk (C := C) (kv := .sl .nil sk3 (u8s [])) (cut := M.cut) (cut2 := cut2) (lv := lv3) (uv := uv3) (lv2 := lv2) (cs' := cs') hcnn
  have hun := fun cs' uv2 => rcc_un (C := C) (kv := .sl .nil sk3 (u8s [])) (cut := M.cut) (lv := lv3) (uv := uv3) (uv2 := uv2) (cs' := cs') hcnn
  obtain ⟨cells, hcells⟩ : ∃ cells, rcc C (.sl .nil sk3 (u8s [])) M.cut lv3 uv3 = cells := ⟨_, rfl⟩
  change S3.objs[o]? = some (rcc C (.sl .nil sk3 (u8s [])) M.cut lv3 uv3) at hob3
  change S4.objs[o]? = some (rcc C (.sl .nil sk3 (u8s [])) M.cut lv3 uv3) at hob4
  rw [hcells] at hob4 h9 h11 h12 h13 h14 h15 hpk hun
  cases hmd : C.md with
  | thr =>
    obtain ⟨hB, hU⟩ := md_of_thr hmd
    rw [hmd] at hN
    have hE : E = ⟨[], M.line, M.cut⟩ := hN.symm
    subst hE
    have hL0 : C.last [] = [] := List.length_eq_zero_iff.1 (last_len C [])
    apply i_mov
    · exact tS rfl
    refine i_nil ?_
    refine r_block ?_
    refine r_reg ?_
    apply i_mov
    · exact tP rfl
    apply i_nckP
    · exact rfl
    apply i_fld0
    · exact rfl
    apply i_loadNO
    · exact rfl
    · assumption
    · first | assumption | exact rfl
    · exact rfl
    · exact Nat.le_of_ble_eq_true rfl
    refine i_call (rBlocks C _) rfl ?_
    rw [hB]
    rintro v S5 ⟨rfl, hst5⟩
    apply i_mov
    · exact tB rfl
    refine i_nil ?_
    apply r_condF
    · exact rfl
    refine r_reg ?_
    apply i_mov
    · exact tP rfl
    apply i_nckP
    · exact rfl
    apply i_fld0
    · exact rfl
    apply i_loadNO
    · exact rfl
    · ((apply Ob.stays0'; (· assumption)); assumption)
    · first | assumption | exact rfl
    · exact rfl
    · exact Nat.le_of_ble_eq_true rfl
    refine i_call (rUnblocks C _) rfl ?_
    rw [hU]
    rintro v S6 ⟨rfl, hst6⟩
    apply i_mov
    · exact tB rfl
    refine i_nil ?_
    apply r_condF
    · exact rfl
    refine r_nop ?_
    refine r_nop ?_
    refine r_nop ?_
    refine r_reg ?_
    apply i_mov
    · exact tS rfl
    apply i_mov
    · exact tS rfl
    refine i_nil ?_
    refine r_ret ?_
    apply q_ret1
    · exact tS rfl
    rw [hL0, List.append_nil]
    exact ⟨(hst14.then0 hst5).then0 hst6, ow, sw, .nil, ob3, rfl, hw1, (hw3.stays hst5).stays hst6, ((hat3.stays0 hst4).stays0 hst5).stays0 hst6, OwnNew.nil, hnb4⟩
  | pck =>
    have hB := md_of_pck hmd
    have hne3 := happ3 (by rw [hmd]; intro h; cases h)
    have haw := hw5 hne3.1
    have hownew : ∀ t, ow = .own t → S.next ≤ t := fun t ht => by
      rcases hw4 with rfl | hw4
      · have := hne3.2 t ht; omega
      · have := hw4 t (by rw [ht]; rfl); omega
    rw [hmd] at hN hm3 hmo
    obtain ⟨huv, sb, rfl, ha⟩ := hm3
    obtain ⟨⟨hk5, hk6⟩, _⟩ := hmo
    have hE : E = pkE C.n M.line M.cut := hN.symm
    apply i_mov
    · exact tS rfl
    refine i_nil ?_
    refine r_block ?_
    refine r_reg ?_
    apply i_mov
    · exact tP rfl
    apply i_nckP
    · exact rfl
    apply i_fld0
    · exact rfl
    apply i_loadNO
    · exact rfl
    · assumption
    · first | assumption | exact rfl
    · exact rfl
    · exact Nat.le_of_ble_eq_true rfl
    refine i_call (rBlocks C _) rfl ?_
    rw [hB]
    rintro v S5 ⟨rfl, hst5⟩
    apply i_mov
    · exact tB rfl
    refine i_nil ?_
    apply r_condT
    · exact rfl
    refine r_reg ?_
    apply i_mov
    · exact tS rfl
    apply i_mov
    · exact tP rfl
    apply i_mov
    · exact tP rfl
    apply i_nckP
    · exact rfl
    apply i_fld0
    · exact rfl
    refine i_call (refPackEnd o 11 C.n M.line ob3 M.cut cells _ ⟨sb, Ob.stays0 hob4 hst5, h11, h12, h13, (ha.stays hst4).stays hst5⟩ hn4 (by omega) (by omega)) rfl ?_
    rw [← hE]
    rintro v S6 ⟨hst6, ⟨oe, se, rfl, hae, hne⟩, ob6, cs6, hat6, hob6, hap6, hoff6⟩
    obtain ⟨sb6, hobj6, g0', g1', g2', ha6⟩ := hat6
    have e6 := hpk cs6 _ _ hoff6 g0' g1' g2'
    subst e6
    refine i_call (rLast C _ o oe se E.out _ hobj6 (hae.sz.imp id (fun h => List.length_eq_zero_iff.1 h)) (fun h => List.length_eq_zero_iff.1 (hae.nil h)) hae.rd (by omega)) rfl ?_
    rintro v S7 ⟨hst7, og, sg, rfl, hg1, hg2, hg3, hg4, hg5⟩
    have haw7 := ((haw.stays hst5).stays hst6).stays hst7
    have hap6' : Apart ob6 ow := by
      rcases hob6 with rfl | rfl
      · exact hapw
      · exact Apart.nil
    have hnb6 : OwnNew S ob ob6 := by
      rcases hob6 with rfl | rfl
      · exact hnb4
      · exact OwnNew.nil
    apply i_appX
    · exact rfl
    · exact rfl
    · assumption
    · assumption
    · (refine Rd.rd ?_; assumption)
    · omega
    apply i_mov
    · exact tS rfl
    refine i_nil ?_
    refine r_ret ?_
    refine q_kr ?_
    refine q_br ?_
    apply q_ret1
    · exact tS rfl
    refine ⟨?_, _, 1, .nil, ob6, rfl, .inl rfl, Rd.appN, ?_, OwnNew.nil, hnb6⟩
    · refine StayX.app (((hst14.then0 hst5).thenS hst6 (fun _ h => .inl h)).then0 hst7) (fun t ht => .inr ?_)
      exact hownew t ht
    · have hl : E.line = [] := by rw [hE]; exact pkE_line ..
      have : RcAt S6 C o ⟨[], E.line, E.cut⟩ .nil ob6 := ⟨sk3, _, uv3, hobj6, hk13, hk23, Rd.nil, Apart.nil, by rw [hmd, hl]; exact ⟨huv, sb6, rfl, ha6⟩⟩
      exact (this.stays0 hst7).app Apart.nil hap6'
  | unp =>
    obtain ⟨hB, hU⟩ := md_of_unp hmd
    have hne3 := happ3 (by rw [hmd]; intro h; cases h)
    have haw := hw5 hne3.1
    have hownew : ∀ t, ow = .own t → S.next ≤ t := fun t ht => by
      rcases hw4 with rfl | hw4
      · have := hne3.2 t ht; omega
      · have := hw4 t (by rw [ht]; rfl); omega
    rw [hmd] at hN hm3 hmo
    obtain ⟨hlv, sb, rfl, ha⟩ := hm3
    obtain ⟨⟨hk5, hk6⟩, _⟩ := hmo
    have hE : E = ⟨(unE M.line).out, [], M.cut⟩ := hN.symm
    have hEo : (unE M.line).out = E.out := by rw [hE]
    apply i_mov
    · exact tS rfl
    refine i_nil ?_
    refine r_block ?_
    refine r_reg ?_
    apply i_mov
    · exact tP rfl
    apply i_nckP
    · exact rfl
    apply i_fld0
    · exact rfl
    apply i_loadNO
    · exact rfl
    · assumption
    · first | assumption | exact rfl
    · exact rfl
    · exact Nat.le_of_ble_eq_true rfl
    refine i_call (rBlocks C _) rfl ?_
    rw [hB]
    rintro v S5 ⟨rfl, hst5⟩
    apply i_mov
    · exact tB rfl
    refine i_nil ?_
    apply r_condF
    · exact rfl
    refine r_reg ?_
    apply i_mov
    · exact tP rfl
    apply i_nckP
    · exact rfl
    apply i_fld0
    · exact rfl
    apply i_loadNO
    · exact rfl
    · ((apply Ob.stays0'; (· assumption)); assumption)
    · first | assumption | exact rfl
    · exact rfl
    · exact Nat.le_of_ble_eq_true rfl
    refine i_call (rUnblocks C _) rfl ?_
    rw [hU]
    rintro v S5' ⟨rfl, hst5'⟩
    apply i_mov
    · exact tB rfl
    refine i_nil ?_
    apply r_condT
    · exact rfl
    refine r_reg ?_
    apply i_mov
    · exact tS rfl
    apply i_mov
    · exact tP rfl
    apply i_mov
    · exact tP rfl
    apply i_nckP
    · exact rfl
    apply i_fld0
    · exact rfl
    refine i_call (refUnEnd o 14 C.n M.line ob3 cells _ ⟨sb, Ob.stays0 (Ob.stays0 hob4 hst5) hst5', h14, h15, ((ha.stays hst4).stays hst5).stays hst5'⟩ (by omega)) rfl ?_
    rw [hEo]
    rintro v S6 ⟨hst6, ⟨oe, se, rfl, hae, hne⟩, ob6, cs6, hat6, hob6, hap6, hoff6⟩
    obtain ⟨sb6, hobj6, g0', g1', ha6⟩ := hat6
    have e6 := hun cs6 _ hoff6 g0' g1'
    subst e6
    refine i_call (rLast C _ o oe se E.out _ hobj6 (hae.sz.imp id (fun h => List.length_eq_zero_iff.1 h)) (fun h => List.length_eq_zero_iff.1 (hae.nil h)) hae.rd (by omega)) rfl ?_
    rintro v S7 ⟨hst7, og, sg, rfl, hg1, hg2, hg3, hg4, hg5⟩
    have haw7 := (((haw.stays hst5).stays hst5').stays hst6).stays hst7
    have hap6' : Apart ob6 ow := by
      rcases hob6 with rfl | rfl
      · exact hapw
      · exact Apart.nil
    have hnb6 : OwnNew S ob ob6 := by
      rcases hob6 with rfl | rfl
      · exact hnb4
      · exact OwnNew.nil
    apply i_appX
    · exact rfl
    · exact rfl
    · assumption
    · assumption
    · (refine Rd.rd ?_; assumption)
    · omega
    apply i_mov
    · exact tS rfl
    refine i_nil ?_
    refine r_ret ?_
    refine q_kr ?_
    refine q_kr ?_
    refine q_br ?_
    apply q_ret1
    · exact tS rfl
    refine ⟨?_, _, 1, .nil, ob6, rfl, .inl rfl, Rd.appN, ?_, OwnNew.nil, hnb6⟩
    · refine StayX.app ((((hst14.then0 hst5).then0 hst5').thenS hst6 (fun _ h => .inl h)).then0 hst7) (fun t ht => .inr ?_)
      exact hownew t ht
    · have hl : E.line = [] := by rw [hE]
      have hc : E.cut = M.cut := by rw [hE]
      have : RcAt S6 C o ⟨[], E.line, E.cut⟩ .nil ob6 := ⟨sk3, lv3, _, by rw [hc]; exact hobj6, hk13, hk23, Rd.nil, Apart.nil, by rw [hmd, hl]; exact ⟨hlv, sb6, rfl, ha6⟩⟩
      exact (this.stays0 hst7).app Apart.nil hap6'
end Go.Proofs.Ythpomdoaiibnfaa.Abs
