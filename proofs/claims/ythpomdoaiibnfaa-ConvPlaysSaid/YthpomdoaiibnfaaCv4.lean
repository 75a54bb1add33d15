/- Streams, and a conversion's own put: contracts. -/
import Derived.Test.YthpomdoaiibnfaaCv0
import Derived.Test.YthpomdoaiibnfaaCv2
namespace Go.Proofs.Ythpomdoaiibnfaa.Abs
open Go Go.Proofs
set_option linter.unusedVariables false
set_option linter.unusedSimpArgs false
attribute [local irreducible] wpI wpR ropK chk ASt.push ASt.put ASt.fresh ASt.kill appS

/-- The stream of a conversion. -/
def StAt (S : ASt) (m : Md) (o osw op n : Nat) (line : List UInt8) (cut : Nat) (ob : Own) (st pk : AV) : Prop :=
  match m with
  | .thr => st = .iface 62 (.agg []) ∧ pk = .ptr none ∧ ob = .nil
  | .pck => st = .iface 65 (.ptr (some (op, 0))) ∧ pk = .ptr (some (op, 0)) ∧ RecAt S op n line ob [.int .i64 (cut : Nat)] ∧ o ≠ op ∧ osw ≠ op
  | .unp => st = .iface 69 (.ptr (some (op, 0))) ∧ pk = .ptr none ∧ RecAt S op n line ob [] ∧ o ≠ op ∧ osw ≠ op
theorem StAt.stays {S S' : ASt} {m : Md} {o osw op n : Nat} {line : List UInt8} {cut : Nat} {ob : Own} {st pk : AV} {os : List Nat} (h : StAt S m o osw op n line cut ob st pk) (hs : Stays S S' os) (ho : op ∉ os) : StAt S' m o osw op n line cut ob st pk := by
  cases m
  · exact h
  · obtain ⟨h1, h2, h3, h4⟩ := h
    exact ⟨h1, h2, h3.stays hs ho, h4⟩
  · obtain ⟨h1, h2, h3, h4⟩ := h
    exact ⟨h1, h2, h3.stays hs ho, h4⟩
theorem StAt.stays0 {S S' : ASt} {m : Md} {o osw op n : Nat} {line : List UInt8} {cut : Nat} {ob : Own} {st pk : AV} (h : StAt S m o osw op n line cut ob st pk) (hs : Stays S S' []) : StAt S' m o osw op n line cut ob st pk := h.stays hs (by simp)
/-- Behind what changes the swab alone. -/
theorem StAt.sw {S S' : ASt} {m : Md} {o osw op n : Nat} {line : List UInt8} {cut : Nat} {ob : Own} {st pk : AV} (h : StAt S m o osw op n line cut ob st pk) (hs : Stays S S' [osw]) : StAt S' m o osw op n line cut ob st pk := by
  cases m
  · exact h
  · obtain ⟨h1, h2, h3, h4, h5⟩ := h
    exact ⟨h1, h2, h3.stays hs (by simp; omega), h4, h5⟩
  · obtain ⟨h1, h2, h3, h4, h5⟩ := h
    exact ⟨h1, h2, h3.stays hs (by simp; omega), h4, h5⟩
theorem StAt.rd {S : ASt} {m : Md} {o osw op n : Nat} {line : List UInt8} {cut : Nat} {ob : Own} {st pk : AV} (h : StAt S m o osw op n line cut ob st pk) : Rd S ob := by
  cases m
  · obtain ⟨_, _, rfl⟩ := h; exact Rd.nil
  · exact h.2.2.1.rd
  · exact h.2.2.1.rd
/-- What the stream may write. -/
def opL (m : Md) (op : Nat) : List Nat :=
  match m with
  | .thr => []
  | .pck => [op]
  | .unp => [op]
theorem StAt.ne {S : ASt} {m : Md} {o osw op n : Nat} {line : List UInt8} {cut : Nat} {ob : Own} {st pk : AV} (h : StAt S m o osw op n line cut ob st pk) : o ∉ opL m op ∧ osw ∉ opL m op := by
  cases m
  · simp [opL]
  · obtain ⟨_, _, _, h4, h5⟩ := h
    simp only [opL, List.mem_singleton]; exact ⟨h4, h5⟩
  · obtain ⟨_, _, _, h4, h5⟩ := h
    simp only [opL, List.mem_singleton]; exact ⟨h4, h5⟩
theorem StAt.lt {S : ASt} {m : Md} {o osw op n : Nat} {line : List UInt8} {cut : Nat} {ob : Own} {st pk : AV} (h : StAt S m o osw op n line cut ob st pk) : ∀ p ∈ opL m op, p < S.objs.length := by
  cases m
  · simp [opL]
  · obtain ⟨_, _, ⟨_, h3, _⟩, _⟩ := h
    intro p hp
    rw [List.mem_singleton.1 hp]; exact Ob.lt h3
  · obtain ⟨_, _, ⟨_, h3, _⟩, _⟩ := h
    intro p hp
    rw [List.mem_singleton.1 hp]; exact Ob.lt h3
theorem StAt.face {S : ASt} {m : Md} {o osw op n : Nat} {line : List UInt8} {cut : Nat} {ob : Own} {st pk : AV} (h : StAt S m o osw op n line cut ob st pk) : ∃ t w, st = .iface t w := by
  cases m <;> exact ⟨_, _, h.1⟩

theorem thrPut (ob : Own) (sb : Nat) (b : List UInt8) (S : ASt) (hs : sb = 1 ∨ b = []) (hn : ob = .nil → b = []) (hr : Rd S ob) (hb : b.length ≤ 10000000) :
    ACalls Try.prog 88 [.agg [], .sl ob sb (u8s b)] S fun v S' => Stays S S' [] ∧ BA S S' v b := by
  refine en_88 (by exact Nat.le_of_ble_eq_true rfl) ?_
  unfold rc_88
  refine r_reg ?_
  apply i_boxA
  · exact rfl
  apply i_mov
  · exact tS0 rfl
  refine i_nil ?_
  refine r_reg ?_
  apply i_mov
  · exact tS rfl
  refine i_call (clone ob sb b _ hs hn (by (refine Rd.push ?_; assumption)) (by omega)) rfl ?_
  rintro v S1 ⟨hst, o1, s1, rfl, h1, h2⟩
  apply i_mov
  · exact tS rfl
  refine i_nil ?_
  refine r_ret ?_
  apply q_ret1
  · exact tS rfl
  exact ⟨by ((refine Stays.then0 ?_ (by assumption); refine Stays.push ?_; exact Stays.refl _ _)), o1, s1, rfl, h1, fun t ht => (by have h9 := h2 t ht; simp only [next_push] at h9; omega)⟩
theorem thrEnd (S : ASt) : ACalls Try.prog 87 [.agg []] S fun v S' => Stays S S' [] ∧ BA S S' v [] := by
  refine en_87 (by exact Nat.le_of_ble_eq_true rfl) ?_
  unfold rc_87
  refine r_reg ?_
  apply i_boxA
  · exact rfl
  apply i_mov
  · exact tS0 rfl
  refine i_nil ?_
  refine r_reg ?_
  apply i_mov
  · exact tS0 rfl
  refine i_nil ?_
  refine r_ret ?_
  apply q_ret1
  · exact tS0 rfl
  exact ⟨by ((refine Stays.push ?_; exact Stays.refl _ _)), .nil, 0, rfl, App.none, by (intro t ht; cases ht; first | done | ((try simp only [next_fresh, next_kill, next_push, next_put, appS_next]); omega))⟩

theorem i_stream {r : List RI} {K : Fr → ASt → Prop} {F : Fr} {S : ASt} {d : Nat} {x y : RO} {m : Md} {o osw op n cut : Nat} {line : List UInt8} {ob oy : Own} {sy : Nat} {yb : List UInt8} {st pk : AV} {k0 : Nat}
    (hx : ro F x = st) (hy : ro F y = .sl oy sy (u8s yb)) (hst : StAt S m o osw op n line cut ob st pk) (hsy : sy = 1 ∨ yb = []) (hny : oy = .nil → yb = []) (hry : Rd S oy) (hapy : Apart oy ob)
    (hn : m ≠ .thr → 0 < n) (hn2 : n ≤ 4096) (hok : mdOk m n line cut k0) (hk0 : k0 ≤ 100000) (hyb : yb.length ≤ 10000)
    (k : ∀ v S', (StayX S S' (opL m op) ob.ts ∧ ∃ ov sv ob', v = .sl ov sv (u8s (mdOut m n line cut yb).out) ∧ App S' ov 1 sv (mdOut m n line cut yb).out.length ∧ (∀ t, ov = .own t → S.next ≤ t) ∧
      StAt S' m o osw op n (mdOut m n line cut yb).line (mdOut m n line cut yb).cut ob' st pk ∧ OwnNew S ob ob') → wpI Try.prog r K ((d, v) :: F) S') :
    wpI Try.prog (⟨false, none, .inv x [(62, 88), (65, 91), (69, 101)] [y], some d⟩ :: r) K F S := by
  cases m with
  | thr =>
    obtain ⟨rfl, rfl, rfl⟩ := hst
    refine i_inv (vs := [.sl oy sy (u8s yb)]) hx rfl (thrPut oy sy yb S hsy hny hry (by omega)) (by simp [roL, hy]) ?_
    rintro v S1 ⟨hst1, o1, s1, rfl, h1, h2⟩
    exact k _ _ ⟨StayX.of (hst1.mono (by simp)), o1, s1, .nil, rfl, h1, h2, ⟨rfl, rfl, rfl⟩, OwnNew.refl⟩
  | pck =>
    obtain ⟨rfl, rfl, h3, h4⟩ := hst
    obtain ⟨h5, h6⟩ := hok
    refine i_inv (vs := [.sl oy sy (u8s yb)]) hx rfl (packPut op n line ob cut oy sy yb S hsy hry hapy h3 hn2 hyb (by omega) (by omega)) (by simp [roL, hy]) ?_
    rintro v S1 ⟨hst1, ov, sv, ob', rfl, hav, hnv, hrec, hnew, hap⟩
    exact k _ _ ⟨hst1, ov, sv, ob', rfl, hav, hnv, ⟨rfl, rfl, hrec, h4⟩, hnew⟩
  | unp =>
    obtain ⟨rfl, rfl, h3, h4⟩ := hst
    obtain ⟨h5, h6⟩ := hok
    refine i_inv (vs := [.sl oy sy (u8s yb)]) hx rfl (unPut op n line ob oy sy yb S hsy hry hapy h3 (hn (by intro h; cases h)) hn2 hyb h5) (by simp [roL, hy]) ?_
    rintro v S1 ⟨hst1, ov, sv, ob', rfl, hav, hnv, hrec, hnew, hap⟩
    exact k _ _ ⟨hst1, ov, sv, ob', rfl, hav, hnv, ⟨rfl, rfl, hrec, h4⟩, hnew⟩
theorem i_streamE {r : List RI} {K : Fr → ASt → Prop} {F : Fr} {S : ASt} {d : Nat} {x : RO} {m : Md} {o osw op n cut : Nat} {line : List UInt8} {ob : Own} {st pk : AV} {k0 : Nat}
    (hx : ro F x = st) (hst : StAt S m o osw op n line cut ob st pk) (hn2 : n ≤ 4096) (hok : mdOk m n line cut k0) (hk0 : k0 ≤ 100000)
    (k : ∀ v S', (StayX S S' (opL m op) ob.ts ∧ ∃ ov sv ob', v = .sl ov sv (u8s (mdEnd m n line cut).out) ∧ App S' ov 1 sv (mdEnd m n line cut).out.length ∧ (∀ t, ov = .own t → S.next ≤ t) ∧
      StAt S' m o osw op n (mdEnd m n line cut).line (mdEnd m n line cut).cut ob' st pk ∧ OwnNew S ob ob') → wpI Try.prog r K ((d, v) :: F) S') :
    wpI Try.prog (⟨false, none, .inv x [(62, 87), (65, 90), (69, 100)] [], some d⟩ :: r) K F S := by
  cases m with
  | thr =>
    obtain ⟨rfl, rfl, rfl⟩ := hst
    refine i_inv (vs := []) hx rfl (thrEnd S) rfl ?_
    rintro v S1 ⟨hst1, o1, s1, rfl, h1, h2⟩
    exact k _ _ ⟨StayX.of (hst1.mono (by simp)), o1, s1, .nil, rfl, h1, h2, ⟨rfl, rfl, rfl⟩, OwnNew.refl⟩
  | pck =>
    obtain ⟨rfl, rfl, h3, h4⟩ := hst
    obtain ⟨h5, h6⟩ := hok
    refine i_inv (vs := []) hx rfl (packEnd op n line ob cut S h3 hn2 (by omega) (by omega)) rfl ?_
    rintro v S1 ⟨hst1, ⟨ov, sv, rfl, hav, hnv⟩, ob', hrec, hob, hap⟩
    refine k _ _ ⟨StayX.of hst1, ov, sv, ob', rfl, hav, hnv, ⟨rfl, rfl, ?_, h4⟩, ?_⟩
    · show RecAt S1 op n (pkE n line cut).line ob' _
      rw [pkE_line]; exact hrec
    · rcases hob with rfl | rfl
      · exact OwnNew.refl
      · exact OwnNew.nil
  | unp =>
    obtain ⟨rfl, rfl, h3, h4⟩ := hst
    obtain ⟨h5, h6⟩ := hok
    refine i_inv (vs := []) hx rfl (unEnd_c op n line ob S h3 hn2 (by omega)) rfl ?_
    rintro v S1 ⟨hst1, ⟨ov, sv, rfl, hav, hnv⟩, ob', hrec, hob, hap⟩
    refine k _ _ ⟨hst1, ov, sv, ob', rfl, hav, hnv, ⟨rfl, rfl, hrec, h4⟩, ?_⟩
    rcases hob with rfl | rfl
    · exact OwnNew.refl
    · exact OwnNew.nil

/-- A conversion. -/
def ConvAt (S : ASt) (C : CV) (A B : List UInt8) (o osw op : Nat) (s : CvS) (ok ob : Own) : Prop :=
  ∃ st pk csw, S.objs[o]? = some (cvc (.ptr (some (osw, 0))) (u8s A) (u8s B) st pk) ∧ A.length = 256 ∧ B.length = 256 ∧ (∀ b, mapL A b = C.first b) ∧ (∀ b, mapL B b = C.last b) ∧
    SwO S osw 0 C.swab s.kept ok csw ∧ StAt S C.md o osw op C.n s.line s.cut ob st pk ∧ Apart ok ob ∧ o ≠ osw

theorem cvput (C : CV) (A B : List UInt8) (o osw op : Nat) (s : CvS) (ok ob : Own) (o1 : Own) (s1 : Nat) (x : List UInt8) (S : ASt) (k0 : Nat) (hat : ConvAt S C A B o osw op s ok ob) (hmay : C.may = true)
    (hs : s1 = 1 ∨ x = []) (hn : o1 = .nil → x = []) (hr : Rd S o1) (hok : mdOk C.md C.n s.line s.cut k0) (hk0 : k0 ≤ 100000) (hx : x.length ≤ 1001) (hcn : C.n ≤ 500) :
    ACalls Try.prog 39 [.ptr (some (o, 0)), .sl o1 s1 (u8s x)] S fun v S' => StayX S S' (opL C.md op) ob.ts ∧
      ∃ ov sv ob', v = .sl ov sv (u8s (C.last (cvM C s x).out)) ∧ App S' ov 1 sv (C.last (cvM C s x).out).length ∧ (∀ t, ov = .own t → S.next ≤ t) ∧
        ConvAt S' C A B o osw op ⟨s.kept, (cvM C s x).line, (cvM C s x).cut⟩ ok ob' ∧ OwnNew S ob ob' ∧ Apart ov ob' := by
  refine en_39 (by exact Nat.le_of_ble_eq_true rfl) ?_
  unfold rc_39
  obtain ⟨st, pk, csw, hob, hA, hB, hfA, hfB, hsw, hst, hap, hoo⟩ := hat
  obtain ⟨t0, w0, rfl⟩ := hst.face
  have hlA : (u8s A).length = 256 := by rw [List.length_map]; exact hA
  have hlB : (u8s B).length = 256 := by rw [List.length_map]; exact hB
  have h513 := cvc_st (p := .ptr (some (osw, 0))) (st := .iface t0 w0) (pk := pk) hlA hlB
  have hcA := cvc_A (p := .ptr (some (osw, 0))) (b := u8s B) (st := .iface t0 w0) (pk := pk) hlA
  have hcB := cvc_B (p := .ptr (some (osw, 0))) (st := .iface t0 w0) (pk := pk) hlA hlB
  have hml := mapL_len A x
  have hmo := (cvM_ok x hmay hok).2
  have hm2 : (C.n + 2) * x.length ≤ 502 * 1001 := Nat.mul_le_mul (by omega) hx
  rw [show cvM C s x = mdOut C.md C.n s.line s.cut (mapL A x) by rw [hfA]; rfl] at hmo ⊢
  rw [← hfB]
  have hml2 := mapL_len B (mdOut C.md C.n s.line s.cut (mapL A x)).out
  obtain ⟨cells, hcells⟩ : ∃ cells, cvc (.ptr (some (osw, 0))) (u8s A) (u8s B) (.iface t0 w0) pk = cells := ⟨_, rfl⟩
  rw [hcells] at hob h513 hcA hcB
  obtain ⟨hne, hne2⟩ := hst.ne
  refine r_reg ?_
  apply i_mov
  · exact tS0 rfl
  refine i_nil ?_
  refine r_reg ?_
  apply i_mov
  · exact tP rfl
  apply i_nckP
  · exact rfl
  apply i_fld0
  · exact rfl
  apply i_loadNO
  · exact rfl
  · assumption
  · first | assumption | exact rfl
  · with_reducible assumption
  · exact Nat.le_of_ble_eq_true rfl
  apply i_mov
  · exact tP rfl
  apply i_nckP
  · exact rfl
  apply i_fld0
  · exact rfl
  apply i_load
  · exact rfl
  · assumption
  · assumption
  apply i_mov
  · exact tP rfl
  apply i_nckP
  · exact rfl
  apply i_fld0
  · exact rfl
  apply i_loadNO
  · exact rfl
  · assumption
  · first | assumption | exact rfl
  · with_reducible assumption
  · exact Nat.le_of_ble_eq_true rfl
  apply i_mov
  · exact tS rfl
  apply i_nckI
  · exact rfl
  apply i_mov
  · exact tF rfl
  refine i_call (tabMap A o1 s1 x _ hA hs hr (by omega)) rfl ?_
  rintro v S1 ⟨hst1, oy, sy, rfl, hay, hny⟩
  have hsy : sy = 1 ∨ mapL A x = [] := hay.sz.imp id (fun h => List.length_eq_zero_iff.1 h)
  have hay2 : Apart oy ob := (Apart.lt hst.rd (tok_own hay hny)).symm
  have hs1 := hst.stays0 hst1
  have hsw1 := hsw.stays hst1 (by simp)
  apply c_re
  · (apply c_load; (· exact rfl); (· ((apply Ob.stays0'; (· assumption)); assumption)); (· assumption); (· exact rfl))
  apply c_re
  · (apply c_fldP; (· exact rfl); (· exact rfl))
  apply c_re
  · (apply c_loadNO; (· exact rfl); (· ((apply Ob.stays0'; (· assumption)); assumption)); (· first | assumption | exact rfl); (· with_reducible assumption); (· exact Nat.le_of_ble_eq_true rfl); (· exact rfl))
  apply c_re
  · (apply c_fldP; (· exact rfl); (· exact rfl))
  refine i_stream (st := .iface t0 w0) rfl rfl hs1 hsy (fun h => List.length_eq_zero_iff.1 (hay.nil h)) hay.rd hay2 (md_pos hmay) (by omega) hok hk0 (by omega) ?_
  rintro v S2 ⟨hst2, ov, sv, ob', rfl, hav, hnv, hs2, hnew⟩
  have hob2 := Ob.stayx (Ob.stays0 hob hst1) hst2 hne
  have hsw2 := hsw1.stayx hst2 hne2 hap
  have hsv : sv = 1 ∨ (mdOut C.md C.n s.line s.cut (mapL A x)).out = [] := hav.sz.imp id (fun h => List.length_eq_zero_iff.1 h)
  apply c_re
  · (apply c_loadNO; (· exact rfl); (· assumption); (· first | assumption | exact rfl); (· with_reducible assumption); (· exact Nat.le_of_ble_eq_true rfl); (· exact rfl))
  apply c_re
  · (apply c_fldP; (· exact rfl); (· exact rfl))
  refine i_call (tabMap B ov sv _ _ hB hsv hav.rd (by omega)) rfl ?_
  rintro v S3 ⟨hst3, oz, sz, rfl, haz, hnz⟩
  have hob3 := Ob.stays0 hob2 hst3
  apply i_mov
  · exact tS rfl
  refine i_nil ?_
  refine r_ret ?_
  apply q_ret1
  · exact tS rfl
  have hnext := hst1.next
  have hnext2 := hst2.next
  refine ⟨((StayX.of (hst1.mono (by simp))).then hst2 (fun _ h => .inl h) (fun t ht => .inl ht)).then0 hst3, oz, sz, ob', rfl, haz, fun t ht => by have := hnz t ht; omega, ?_, ?_, (Apart.lt hs2.rd (tok_own haz hnz)).symm⟩
  · exact ⟨.iface t0 w0, pk, csw, by rw [hcells]; exact hob3, hA, hB, hfA, hfB, hsw2.stays hst3 (by simp), hs2.stays0 hst3, Apart.new hap (hsw1.rd) hnew, hoo⟩
  · exact OwnNew.trans OwnNew.refl hnext hnew
end Go.Proofs.Ythpomdoaiibnfaa.Abs
