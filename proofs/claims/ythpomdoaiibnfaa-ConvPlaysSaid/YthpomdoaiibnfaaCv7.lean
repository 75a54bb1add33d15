/- All: contract; the laws' own functions. -/
import Derived.Test.YthpomdoaiibnfaaCv6
import Derived.Test.YthpomdoaiibnfaaPcs
namespace Go.Proofs.Ythpomdoaiibnfaa.Abs
open Go Go.Proofs
set_option linter.unusedVariables false
set_option linter.unusedSimpArgs false
attribute [local irreducible] wpI wpR ropK chk ASt.push ASt.put ASt.fresh ASt.kill appS

theorem cvPutO_len {c : CV} {s : CvS} {k : Nat} (b : List UInt8) (hc : c.may = true) (h : cvOk c s k) (hn : c.n ≤ 500) (hb : b.length ≤ 1000) : (cvPutO c s b).length ≤ 502 * 1001 + 500 := by
  have h1 := (cvM_ok (cvX c s b) hc h.2).2
  have h2 := cvX_len c s b
  have h3 := h.1
  have h4 : (c.n + 2) * (cvX c s b).length ≤ 502 * 1001 := Nat.mul_le_mul (by omega) (by omega)
  unfold cvPutO
  rw [last_len]; omega
theorem cvEndO_len {c : CV} {s : CvS} {k : Nat} (hc : c.may = true) (h : cvOk c s k) (hn : c.n ≤ 500) : (cvEndO c s).length ≤ 2000 := by
  have h1 := cvM_ok s.kept hc h.2
  have h2 := (mdEnd_ok (md_pos hc) h1.1).2
  have h3 := h.1
  have h4 : (c.n + 2) * s.kept.length ≤ 502 * 1 := Nat.mul_le_mul (by omega) h3
  change (cvN c s).out.length ≤ _ at h2
  unfold cvEndO
  rw [List.length_append, last_len, last_len]; omega
theorem outF_le {c : CV} (hc : c.may = true) (F : List UInt8) (hn : c.n ≤ 500) (hF : F.length ≤ 1000) : (outF c F).length ≤ 502 * 1000 + 500 := by
  have h1 := outF_len hc F
  have h4 : (c.n + 2) * F.length ≤ 502 * 1000 := Nat.mul_le_mul (by omega) hF
  omega

theorem cAll (c : CV) (o1 : Own) (vs : List BL) (S : ASt) (hcn : c.norm.n ≤ 500) (hr : Rd S o1) (hx : ∀ x ∈ vs, x.ok S) (hn : vs.length ≤ 100000) (hb : (cat vs).length ≤ 1000) :
    ACalls Try.prog 10 [.agg c.cells, .sl o1 1 (vs.map slv)] S fun v S' => Stays S S' [] ∧ BA S S' v (cvAll c.norm (cat vs)) := by
  refine en_10 (by exact Nat.le_of_ble_eq_true rfl) ?_
  unfold rc_10
  refine r_reg ?_
  apply i_boxA
  · exact rfl
  apply i_mov
  · exact tS0 rfl
  refine i_nil ?_
  refine r_reg ?_
  apply i_loadN
  · exact rfl
  · exact Ob.new
  · exact rfl
  refine i_call (cNew c _) rfl ?_
  have hmay := may_norm c
  generalize c.norm = C at hmay hcn ⊢
  rintro v S1 ⟨o, osw, op, A, B, rfl, hge, hst1, hat⟩
  have hge' : ∀ p ∈ o :: osw :: opL C.md op, S.objs.length ≤ p := fun p hp => by
    have := hge p hp
    rw [Ob.len_push] at this; omega
  have hst01 : Stays S S1 [] := by (refine Stays.then0 ?_ (by assumption); refine Stays.push ?_; exact Stays.refl _ _)
  clear hst1 hge
  rw [← st_F C] at hat
  apply i_mov
  · exact tP rfl
  refine i_nil ?_
  refine r_reg ?_
  apply i_mov
  · exact tS0 rfl
  refine i_nil ?_
  refine r_reg ?_
  apply i_mov
  · exact tS rfl
  apply i_lenM
  · exact rfl
  apply i_mov
  · exact tI rfl
  refine i_nil ?_
  refine r_block ?_
  refine r_loopP [5, 6, 11, 12, 13] (fun m G S' => ∃ (i : Nat) (ov : Own) (sv : Nat) (ok ob : Own) (F : List UInt8), G = [(5, .ptr (some (o, 0))), (6, .sl ov sv (u8s (outF C F))), (11, .sl o1 1 (vs.map slv)), (12, .int .i64 (vs.length : Nat)), (13, .int .i64 (i : Nat))] ∧ m = vs.length - i ∧ i ≤ vs.length ∧ F = cat (vs.take i) ∧
     StayX S S' [] Own.nil.ts ∧ ConvAt S' C A B o osw op (cvF C F) ok ob ∧ OwnNew S .nil ok ∧ OwnNew S .nil ob ∧ App S' ov 1 sv (outF C F).length ∧ (∀ t, ov = .own t → S.next ≤ t) ∧ Apart ov ob ∧ Apart ov ok) ?_ ?_
  · exact ⟨_, 0, .nil, 0, .nil, .nil, [], by rw [out_F]; rfl, rfl, Nat.zero_le _, rfl, StayX.of hst01, hat, OwnNew.refl, OwnNew.refl, by rw [out_F]; exact App.none, by (intro t ht; cases ht; first | done | ((try simp only [next_fresh, next_kill, next_push, next_put, appS_next]); omega)), Apart.nil, Apart.nil⟩
  clear hst01 hat
  rintro m G S2 ⟨i, ov, sv, ok, ob, F, rfl, rfl, hi, hF, hst, hat, hnk, hnb, hav, hnv, hap, hapk⟩
  have hcl := cat_le vs i
  have hok := ok_F hmay F
  rw [← hF] at hcl
  have hol := outF_le hmay F hcn (by omega)
  have hrr := hr.stayo hst Apart.nilR
  by_cases h : i < vs.length
  · have hcl1 := cat_le vs (i + 1)
    have hct := cat_take h
    rw [← hF] at hct
    have hctl := congrArg List.length hct
    rw [List.length_append] at hctl
    obtain ⟨hx1, hx2, hx3⟩ := hx vs[i] (List.getElem_mem h)
    have hx4 := hx3.stayo hst Apart.nilR
    obtain ⟨hp1, hp2⟩ := put_F C F vs[i].l
    have hpl := cvPutO_len vs[i].l hmay hok hcn (by omega)
    refine r_reg ?_
    apply i_ltT
    · exact rfl
    · exact rfl
    · omega
    refine i_nil ?_
    apply r_condT
    · exact rfl
    refine r_nop ?_
    refine r_block ?_
    refine r_reg ?_
    apply i_idxM
    · exact rfl
    · exact rfl
    · exact rfl
    · exact rfl
    · (refine Rd.rd ?_; assumption)
    · omega
    apply i_loadM
    · exact rfl
    · (refine Rd.rd ?_; assumption)
    · omega
    · exact fun _ => rfl
    (refine ⟨by omega, ?_⟩)
    apply i_mov
    · exact tS rfl
    refine i_nil ?_
    refine r_reg ?_
    apply i_mov
    · exact tS rfl
    apply i_mov
    · exact tP rfl
    apply i_mov
    · exact tS rfl
    refine i_call (cvPutC C A B o osw op (cvF C F) ok ob vs[i].o vs[i].sz vs[i].l _ F.length hat hmay hx1 hx2 hx4 hok (by omega) (by omega) hcn) rfl ?_
    rw [hp1]
    rintro v S3 ⟨hst3, ow, sw, ok', ob', rfl, haw, hnw, hat3, hnk3, hnb3, hap3⟩
    have hav3 := hav.stayo hst3 hap
    have hrv := hav.rd
    have hsw : sw = 1 ∨ cvPutO C (cvF C F) vs[i].l = [] := haw.sz.imp id (fun h => List.length_eq_zero_iff.1 h)
    have hrw := haw.rd
    have hn2 := hst.next
    have hn3 := hst3.next
    apply i_appX
    · exact rfl
    · exact rfl
    · assumption
    · assumption
    · (refine Rd.rd ?_; assumption)
    · omega
    apply i_mov
    · exact tS rfl
    refine i_nil ?_
    refine r_nop ?_
    refine r_reg ?_
    apply i_add
    · exact rfl
    · exact rfl
    · omega
    apply i_mov
    · exact tI rfl
    refine i_nil ?_
    refine r_nop ?_
    rw [← hp2, ← hct]
    rw [← hct] at hat3
    apply q_lp [5, 6, 11, 12, 13]
    · refine ⟨i + 1, _, _, ok', ob', _, rfl, rfl, h, rfl, ?_, hat3.app (Apart.new hapk hrv hnk3).symm (Apart.new hap hrv hnb3).symm, hnk.trans hn2 hnk3, hnb.trans hn2 hnb3, App.new, ?_, ?_, ?_⟩
      · refine StayX.appN (hst.then hst3 (fun p hp => .inr (hge' p (by rcases List.mem_cons.1 hp with rfl | hp; exact List.mem_cons_of_mem _ (List.mem_cons_self ..); exact List.mem_cons_of_mem _ (List.mem_cons_of_mem _ hp)))) (new_ts hnb)) hnv
      · intro t ht; cases ht; omega
      · exact (Apart.lt hat3.rd.2 (fun t ht => by cases ht; exact Nat.le_refl _)).symm
      · exact (Apart.lt hat3.rd.1 (fun t ht => by cases ht; exact Nat.le_refl _)).symm
    · omega
  · have e : i = vs.length := by omega
    subst e
    rw [List.take_length] at hF
    have hel := cvEndO_len hmay hok hcn
    refine r_reg ?_
    apply i_ltF
    · exact rfl
    · exact rfl
    · omega
    refine i_nil ?_
    apply r_condF
    · exact rfl
    refine r_exit ?_
    refine r_reg ?_
    apply i_mov
    · exact tS rfl
    apply i_mov
    · exact tP rfl
    refine i_call (cvEndC C A B o osw op (cvF C F) ok ob _ F.length hat hmay hok (by omega) hcn) rfl ?_
    rintro v S3 ⟨hst3, ow, sw, ok', ob', rfl, haw, hnw, hat3, hnk3, hnb3, hap3⟩
    have hav3 := hav.stayo hst3 hap
    have hsw : sw = 1 ∨ cvEndO C (cvF C F) = [] := haw.sz.imp id (fun h => List.length_eq_zero_iff.1 h)
    have hrw := haw.rd
    have hn2 := hst.next
    have hn3 := hst3.next
    apply i_appX
    · exact rfl
    · exact rfl
    · assumption
    · assumption
    · (refine Rd.rd ?_; assumption)
    · omega
    apply i_mov
    · exact tS rfl
    refine i_nil ?_
    refine r_ret ?_
    apply q_ret1
    · exact tS rfl
    rw [all_F, hF]
    refine ⟨StayX.stays ?_, _, 1, rfl, App.new, fun t ht => by cases ht; omega⟩
    exact StayX.appN (hst.then hst3 (fun p hp => .inr (hge' p (by rcases List.mem_cons.1 hp with rfl | hp; exact List.mem_cons_of_mem _ (List.mem_cons_self ..); exact List.mem_cons_of_mem _ (List.mem_cons_of_mem _ hp)))) (new_ts hnb)) hnv
end Go.Proofs.Ythpomdoaiibnfaa.Abs
