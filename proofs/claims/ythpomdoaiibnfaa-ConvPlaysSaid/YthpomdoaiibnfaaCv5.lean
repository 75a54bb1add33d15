/- Put, End, Cut of a conversion: contracts. -/
import Derived.Test.YthpomdoaiibnfaaCv4
namespace Go.Proofs.Ythpomdoaiibnfaa.Abs
open Go Go.Proofs
set_option linter.unusedVariables false
set_option linter.unusedSimpArgs false
attribute [local irreducible] wpI wpR ropK chk ASt.push ASt.put ASt.fresh ASt.kill appS

theorem SwO.app {S : ASt} {o j : Nat} {on : Bool} {kept : List UInt8} {ok o2 : Own} {cs : List AV} (h : SwO S o j on kept ok cs) (hn : Apart ok o2) : SwO (appS S o2) o j on kept ok cs := by
  obtain ⟨sk, h1, h2, h3, h4, h5, h6⟩ := h
  exact ⟨sk, Ob.app h1, h2, h3, h4, h5, h6.app (fun t ht h => hn t h (by rw [ht]; rfl))⟩
theorem StAt.app {S : ASt} {m : Md} {o osw op n : Nat} {line : List UInt8} {cut : Nat} {ob o2 : Own} {st pk : AV} (h : StAt S m o osw op n line cut ob st pk) (hn : Apart ob o2) : StAt (appS S o2) m o osw op n line cut ob st pk := by
  cases m
  · exact h
  · obtain ⟨h1, h2, h3, h4⟩ := h
    exact ⟨h1, h2, h3.app hn, h4⟩
  · obtain ⟨h1, h2, h3, h4⟩ := h
    exact ⟨h1, h2, h3.app hn, h4⟩
theorem StAt.stayx {S S' : ASt} {m : Md} {o osw op n : Nat} {line : List UInt8} {cut : Nat} {ob ob2 : Own} {st pk : AV} {os : List Nat} (h : StAt S m o osw op n line cut ob st pk) (hs : StayX S S' os ob2.ts) (ho : ∀ p ∈ opL m op, p ∉ os) (hn : Apart ob ob2) : StAt S' m o osw op n line cut ob st pk := by
  cases m
  · exact h
  · obtain ⟨h1, h2, h3, h4⟩ := h
    exact ⟨h1, h2, h3.stayx hs (ho op (List.mem_singleton.2 rfl)) hn, h4⟩
  · obtain ⟨h1, h2, h3, h4⟩ := h
    exact ⟨h1, h2, h3.stayx hs (ho op (List.mem_singleton.2 rfl)) hn, h4⟩
theorem ConvAt.app {S : ASt} {C : CV} {A B : List UInt8} {o osw op : Nat} {s : CvS} {ok ob o2 : Own} (h : ConvAt S C A B o osw op s ok ob) (h1 : Apart ok o2) (h2 : Apart ob o2) : ConvAt (appS S o2) C A B o osw op s ok ob := by
  obtain ⟨st, pk, csw, hob, hA, hB, hfA, hfB, hsw, hst, hap, hoo⟩ := h
  exact ⟨st, pk, csw, Ob.app hob, hA, hB, hfA, hfB, hsw.app h1, hst.app h2, hap, hoo⟩
theorem ConvAt.stayx {S S' : ASt} {C : CV} {A B : List UInt8} {o osw op : Nat} {s : CvS} {ok ob o2 : Own} {os : List Nat} (h : ConvAt S C A B o osw op s ok ob) (hs : StayX S S' os o2.ts) (ho : o ∉ os) (ho2 : osw ∉ os) (ho3 : ∀ p ∈ opL C.md op, p ∉ os)
    (h1 : Apart ok o2) (h2 : Apart ob o2) : ConvAt S' C A B o osw op s ok ob := by
  obtain ⟨st, pk, csw, hob, hA, hB, hfA, hfB, hsw, hst, hap, hoo⟩ := h
  exact ⟨st, pk, csw, Ob.stayx hob hs ho, hA, hB, hfA, hfB, hsw.stayx hs ho2 h1, hst.stayx hs ho3 h2, hap, hoo⟩
theorem ConvAt.stays0 {S S' : ASt} {C : CV} {A B : List UInt8} {o osw op : Nat} {s : CvS} {ok ob : Own} (h : ConvAt S C A B o osw op s ok ob) (hs : Stays S S' []) : ConvAt S' C A B o osw op s ok ob :=
  h.stayx (o2 := .nil) (StayX.of hs) (by simp) (by simp) (fun _ _ => by simp) Apart.nilR Apart.nilR
theorem ConvAt.rd {S : ASt} {C : CV} {A B : List UInt8} {o osw op : Nat} {s : CvS} {ok ob : Own} (h : ConvAt S C A B o osw op s ok ob) : Rd S ok ∧ Rd S ob := by
  obtain ⟨st, pk, csw, hob, hA, hB, hfA, hfB, hsw, hst, hap, hoo⟩ := h
  exact ⟨hsw.rd, hst.rd⟩
theorem ConvAt.lt {S : ASt} {C : CV} {A B : List UInt8} {o osw op : Nat} {s : CvS} {ok ob : Own} (h : ConvAt S C A B o osw op s ok ob) : ∀ p ∈ o :: osw :: opL C.md op, p < S.objs.length := by
  obtain ⟨st, pk, csw, hob, hA, hB, hfA, hfB, hsw, hst, hap, hoo⟩ := h
  intro p hp
  rcases List.mem_cons.1 hp with rfl | hp
  · exact Ob.lt hob
  · rcases List.mem_cons.1 hp with rfl | hp
    · exact hsw.len.2
    · exact hst.lt p hp

theorem cvPutC (C : CV) (A B : List UInt8) (o osw op : Nat) (s : CvS) (ok ob : Own) (o1 : Own) (s1 : Nat) (b : List UInt8) (S : ASt) (k0 : Nat) (hat : ConvAt S C A B o osw op s ok ob) (hmay : C.may = true)
    (hs : s1 = 1 ∨ b = []) (hn : o1 = .nil → b = []) (hr : Rd S o1) (hok : cvOk C s k0) (hk0 : k0 ≤ 100000) (hb : b.length ≤ 1000) (hcn : C.n ≤ 500) :
    ACalls Try.prog 17 [.ptr (some (o, 0)), .sl o1 s1 (u8s b)] S fun v S' => StayX S S' (osw :: opL C.md op) ob.ts ∧
      ∃ ov sv ok' ob', v = .sl ov sv (u8s (cvPutO C s b)) ∧ App S' ov 1 sv (cvPutO C s b).length ∧ (∀ t, ov = .own t → S.next ≤ t) ∧
        ConvAt S' C A B o osw op (cvPut C s b) ok' ob' ∧ OwnNew S ok ok' ∧ OwnNew S ob ob' ∧ Apart ov ob' := by
  refine en_17 (by exact Nat.le_of_ble_eq_true rfl) ?_
  unfold rc_17
  obtain ⟨st, pk, csw, hob, hA, hB, hfA, hfB, hsw, hst, hap, hoo⟩ := hat
  obtain ⟨hk1, hok2⟩ := hok
  obtain ⟨cells, hcells⟩ : ∃ cells, cvc (.ptr (some (osw, 0))) (u8s A) (u8s B) st pk = cells := ⟨_, rfl⟩
  have h0 : cells[0]? = some (.ptr (some (osw, 0))) := by rw [← hcells]; rfl
  rw [hcells] at hob
  refine r_reg ?_
  apply i_mov
  · exact tS0 rfl
  refine i_nil ?_
  refine r_reg ?_
  apply i_mov
  · exact tP rfl
  apply i_mov
  · exact tP rfl
  apply i_nckP
  · exact rfl
  apply i_fld0
  · exact rfl
  apply i_load
  · exact rfl
  · assumption
  · assumption
  apply i_mov
  · exact tS rfl
  refine i_call (swPut osw C.swab s.kept ok csw o1 s1 b _ hs hn hr hsw (by omega)) rfl ?_
  rintro v S1 ⟨hst1, ⟨ox, sx, rfl, hax, hnx⟩, ok1, csw1, hsw1, hnew1⟩
  have hxl := cvX_len C s b
  have hapk : Apart ok1 ob := (Apart.new hap.symm hst.rd hnew1).symm
  have hat1 : ConvAt S1 C A B o osw op ⟨cvK C s b, s.line, s.cut⟩ ok1 ob := ⟨st, pk, csw1, by rw [hcells]; exact Ob.stays hob hst1 (by simpa using hoo), hA, hB, hfA, hfB, hsw1, hst.sw hst1, hapk, hoo⟩
  refine i_call (cvput C A B o osw op _ ok1 ob ox sx (cvX C s b) _ k0 hat1 hmay (hax.sz.imp id (fun h => List.length_eq_zero_iff.1 h)) (fun h => List.length_eq_zero_iff.1 (hax.nil h)) hax.rd hok2 hk0 (by omega) hcn) rfl ?_
  rintro v S2 ⟨hst2, ov, sv, ob', rfl, hav, hnv, hat2, hnew2, hapv⟩
  apply i_mov
  · exact tS rfl
  refine i_nil ?_
  refine r_ret ?_
  apply q_ret1
  · exact tS rfl
  have hnext := hst1.next
  refine ⟨(StayX.of (hst1.mono (fun p hp => .inl (by rw [List.mem_singleton.1 hp]; exact List.mem_cons_self ..)))).then hst2 (fun p hp => .inl (List.mem_cons_of_mem _ hp)) (fun t ht => .inl ht), ov, sv, ok1, ob', rfl, hav, fun t ht => by have := hnv t ht; omega, hat2, hnew1, OwnNew.trans OwnNew.refl hnext hnew2, hapv⟩

theorem cvEndC (C : CV) (A B : List UInt8) (o osw op : Nat) (s : CvS) (ok ob : Own) (S : ASt) (k0 : Nat) (hat : ConvAt S C A B o osw op s ok ob) (hmay : C.may = true)
    (hok : cvOk C s k0) (hk0 : k0 ≤ 10000) (hcn : C.n ≤ 500) :
    ACalls Try.prog 18 [.ptr (some (o, 0))] S fun v S' => StayX S S' (osw :: opL C.md op) ob.ts ∧
      ∃ ov sv ok' ob', v = .sl ov sv (u8s (cvEndO C s)) ∧ App S' ov 1 sv (cvEndO C s).length ∧ (∀ t, ov = .own t → S.next ≤ t) ∧
        ConvAt S' C A B o osw op (cvEnd C s) ok' ob' ∧ OwnNew S ok ok' ∧ OwnNew S ob ob' ∧ Apart ov ob' := by
  refine en_18 (by exact Nat.le_of_ble_eq_true rfl) ?_
  unfold rc_18
  obtain ⟨st, pk, csw, hob, hA, hB, hfA, hfB, hsw, hst, hap, hoo⟩ := hat
  obtain ⟨hk1, hok2⟩ := hok
  obtain ⟨t0, w0, rfl⟩ := hst.face
  obtain ⟨cells, hcells⟩ : ∃ cells, cvc (.ptr (some (osw, 0))) (u8s A) (u8s B) (.iface t0 w0) pk = cells := ⟨_, rfl⟩
  have hlA : (u8s A).length = 256 := by rw [List.length_map]; exact hA
  have hlB : (u8s B).length = 256 := by rw [List.length_map]; exact hB
  have h0 : cells[0]? = some (.ptr (some (osw, 0))) := by rw [← hcells]; rfl
  rw [hcells] at hob
  refine r_reg ?_
  apply i_mov
  · exact tS0 rfl
  refine i_nil ?_
  refine r_reg ?_
  apply i_mov
  · exact tP rfl
  apply i_mov
  · exact tP rfl
  apply i_nckP
  · exact rfl
  apply i_fld0
  · exact rfl
  apply i_load
  · exact rfl
  · assumption
  · assumption
  refine i_call (swEnd osw C.swab s.kept ok csw _ hsw) rfl ?_
  rintro v S1 ⟨hst1, ⟨sx, rfl, hsx, hnx, hrx⟩, csw1, hsw1⟩
  have hat1 : ConvAt S1 C A B o osw op ⟨[], s.line, s.cut⟩ .nil ob := ⟨.iface t0 w0, pk, csw1, by rw [hcells]; exact Ob.stays hob hst1 (by simpa using hoo), hA, hB, hfA, hfB, hsw1, hst.sw hst1, Apart.nil, hoo⟩
  refine i_call (cvput C A B o osw op _ .nil ob ok sx s.kept _ k0 hat1 hmay hsx hnx hrx hok2 (by omega) (by omega) hcn) rfl ?_
  rintro v S2 ⟨hst2, ov, sv, ob', rfl, hav, hnv, hat2, hnew2, hapv⟩
  obtain ⟨st2, pk2, csw2, hob2, _, _, _, _, hsw2, hst2', hap2, _⟩ := hat2
  obtain ⟨t2, w2, rfl⟩ := hst2'.face
  have h513 := cvc_st (p := .ptr (some (osw, 0))) (st := .iface t2 w2) (pk := pk2) hlA hlB
  have hcB := cvc_B (p := .ptr (some (osw, 0))) (st := .iface t2 w2) (pk := pk2) hlA hlB
  obtain ⟨cells2, hcells2⟩ : ∃ cells2, cvc (.ptr (some (osw, 0))) (u8s A) (u8s B) (.iface t2 w2) pk2 = cells2 := ⟨_, rfl⟩
  rw [hcells2] at hob2 h513 hcB
  have hmo := cvM_ok s.kept hmay hok2
  have hme := (mdEnd_ok (md_pos hmay) hmo.1).2
  have hl1 := last_len C (cvM C s s.kept).out
  have hl2 := last_len C (cvN C s).out
  have hm2 : (C.n + 2) * s.kept.length ≤ 502 * 1 := Nat.mul_le_mul (by omega) hk1
  change (cvN C s).out.length ≤ C.n + 1 at hme
  apply i_mov
  · exact tS rfl
  refine i_nil ?_
  refine r_reg ?_
  apply i_mov
  · exact tS rfl
  apply i_mov
  · exact tP rfl
  apply i_nckP
  · exact rfl
  apply i_fld0
  · exact rfl
  apply i_loadNO
  · exact rfl
  · assumption
  · first | assumption | exact rfl
  · with_reducible assumption
  · exact Nat.le_of_ble_eq_true rfl
  apply i_mov
  · exact tP rfl
  apply i_nckP
  · exact rfl
  apply i_fld0
  · exact rfl
  apply i_load
  · exact rfl
  · assumption
  · assumption
  refine i_streamE (st := .iface t2 w2) rfl hst2' (by omega) hmo.1 (by omega) ?_
  rintro v S3 ⟨hst3, oe, se, ob3, rfl, hae, hne, hs3, hnew3⟩
  have hob3 := Ob.stayx hob2 hst3 hst2'.ne.1
  have hse : se = 1 ∨ (mdEnd C.md C.n (cvM C s s.kept).line (cvM C s s.kept).cut).out = [] := hae.sz.imp id (fun h => List.length_eq_zero_iff.1 h)
  have hml := mapL_len B (mdEnd C.md C.n (cvM C s s.kept).line (cvM C s s.kept).cut).out
  change (mapL B (cvN C s).out).length = (cvN C s).out.length at hml
  apply c_re
  · (apply c_loadNO; (· exact rfl); (· assumption); (· first | assumption | exact rfl); (· with_reducible assumption); (· exact Nat.le_of_ble_eq_true rfl); (· exact rfl))
  apply c_re
  · (apply c_fldP; (· exact rfl); (· exact rfl))
  refine i_call (tabMap B oe se _ _ hB hse hae.rd (by change (cvN C s).out.length ≤ _; omega)) rfl ?_
  rintro v S4 ⟨hst4, oz, sz, rfl, haz, hnz⟩
  have hav4 := (hav.stayo hst3 hapv).stays hst4
  have hrz := haz.rd
  have hsz : sz = 1 ∨ mapL B (cvN C s).out = [] := haz.sz.imp id (fun h => List.length_eq_zero_iff.1 h)
  have hapv3 : Apart ov ob3 := Apart.new hapv hav.rd hnew3
  have hob4 := Ob.stays0 hob3 hst4
  change App S2 ov 1 sv (C.last (cvM C s s.kept).out).length at hav
  change App S4 ov 1 sv (C.last (cvM C s s.kept).out).length at hav4
  skip
  refine i_appX (f := u8) (a := C.last (cvM C s s.kept).out) (b := mapL B (cvN C s).out) rfl rfl hav4 hsz hrz.rd (by omega) ?_
  apply i_mov
  · exact tS rfl
  refine i_nil ?_
  refine r_ret ?_
  apply q_ret1
  · exact tS rfl
  have hn1 := hst1.next
  have hn2 := hst2.next
  have hn3 := hst3.next
  have hn4 := hst4.next
  have hfin : C.last (cvM C s s.kept).out ++ mapL B (cvN C s).out = cvEndO C s := by rw [hfB]; rfl
  rw [← hfin]
  refine ⟨?_, .own S4.next, 1, .nil, ob3, rfl, App.new, fun t ht => by cases ht; omega, ?_, OwnNew.nil, ?_, ?_⟩
  · refine StayX.app ?_ (fun t ht => .inr (Nat.le_trans hn1 (hnv t ht)))
    refine StayX.then0 ?_ hst4
    refine StayX.then (ts' := ob'.ts) ?_ hst3 (fun p hp => .inl (List.mem_cons_of_mem _ hp)) (new_ts (OwnNew.trans OwnNew.refl hn1 hnew2))
    exact (StayX.of (hst1.mono (fun p hp => .inl (by rw [List.mem_singleton.1 hp]; exact List.mem_cons_self ..)))).then hst2 (fun p hp => .inl (List.mem_cons_of_mem _ hp)) (fun t ht => .inl ht)
  · refine ⟨.iface t2 w2, pk2, csw2, by rw [hcells2]; exact Ob.app hob4, hA, hB, hfA, hfB, ?_, (hs3.stays0 hst4).app hapv3.symm, Apart.nil, hoo⟩
    exact ((hsw2.stayx hst3 hst2'.ne.2 Apart.nil).stays hst4 (by simp)).app Apart.nil
  · exact OwnNew.trans (OwnNew.trans OwnNew.refl hn1 hnew2) (Nat.le_trans hn1 hn2) hnew3
  · exact (Apart.lt (hs3.stays0 hst4).rd (fun t ht => by cases ht; exact Nat.le_refl _)).symm
end Go.Proofs.Ythpomdoaiibnfaa.Abs
