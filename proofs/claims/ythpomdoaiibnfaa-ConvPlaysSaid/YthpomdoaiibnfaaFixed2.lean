/- Package fixed, Packer: contracts. -/
import Derived.Test.YthpomdoaiibnfaaFixed1
namespace Go.Proofs.Ythpomdoaiibnfaa.Abs
open Go Go.Proofs
set_option linter.unusedVariables false
set_option linter.unusedSimpArgs false
attribute [local irreducible] wpI wpR ropK chk ASt.push ASt.put ASt.fresh ASt.kill appS

theorem RecAt.app {S : ASt} {o c : Nat} {line : List UInt8} {ob o2 : Own} {rest : List AV} (h : RecAt S o c line ob rest) (hn : Apart ob o2) : RecAt (appS S o2) o c line ob rest := by
  obtain ⟨sb, h1, h2⟩ := h
  exact ⟨sb, Ob.app h1, h2.app hn⟩
theorem RecAt.fresh {S : ASt} {o c : Nat} {line : List UInt8} {ob : Own} {rest : List AV} (h : RecAt S o c line ob rest) : RecAt S.fresh o c line ob rest := by
  obtain ⟨sb, h1, h2⟩ := h
  exact ⟨sb, Ob.fresh h1, h2.fresh⟩
theorem RecAt.push {S : ASt} {o c : Nat} {line : List UInt8} {ob : Own} {rest cs : List AV} (h : RecAt S o c line ob rest) : RecAt (S.push cs) o c line ob rest := by
  obtain ⟨sb, h1, h2⟩ := h
  exact ⟨sb, Ob.push h1, h2.push⟩

theorem BA.mono {S S1 S' : ASt} {v : AV} {l : List UInt8} (h : BA S1 S' v l) (hn : S.next ≤ S1.next) : BA S S' v l := by
  obtain ⟨o, sz, h1, h2, h3⟩ := h
  exact ⟨o, sz, h1, h2, fun t ht => Nat.le_trans hn (h3 t ht)⟩
theorem rec_ok {S : ASt} {ob : Own} {sb n : Nat} {l : List UInt8} (ha : App S ob 1 sb l.length) : ∀ x ∈ [(⟨ob, sb, l⟩ : BL), ⟨.ro, 1, List.replicate n 32⟩], x.ok S := by
  intro x hx
  simp only [List.mem_cons, List.not_mem_nil, or_false] at hx
  rcases hx with rfl | rfl
  · exact ⟨ha.sz.imp id (fun h => List.length_eq_zero_iff.1 h), fun h => List.length_eq_zero_iff.1 (ha.nil h), ha.rd⟩
  · exact ⟨.inl rfl, (by intro h; cases h), Rd.ro⟩
theorem rec_cat (ob : Own) (sb c : Nat) (line : List UInt8) : cat [(⟨ob, sb, line.take c⟩ : BL), ⟨.ro, 1, List.replicate (c - line.length) 32⟩] = recP c line := by
  simp [cat, recP]

theorem packRecord (o c : Nat) (line : List UInt8) (ob : Own) (cut : Nat) (S : ASt) (hat : RecAt S o c line ob [.int .i64 (cut : Nat)]) (hc : c ≤ 4096) (hl : line.length ≤ 100000000) (hcut : cut ≤ 100000000) :
    ACalls Try.prog 92 [.ptr (some (o, 0))] S fun v S' => Stays S S' [o] ∧ BA S S' v (recP c line) ∧ RecAt S' o c [] .nil [.int .i64 ((cut + over c line : Nat) : Int)] := by
  refine en_92 (by exact Nat.le_of_ble_eq_true rfl) ?_
  unfold rc_92
  have hsub : (c : Int) - ((line.take c).length : Nat) = ((c - line.length : Nat) : Int) := by rw [List.length_take]; omega
  have hlen := recP_len c line
  by_cases h : c < line.length
  · have hov : over c line = 1 := (by simp only [over, if_pos h])
    rw [hov]
    obtain ⟨sb, hob, ha⟩ := id hat
    have hlt := Ob.lt hob
    refine r_reg ?_
    apply i_mov
    · exact tS0 rfl
    refine i_nil ?_
    refine r_reg ?_
    apply i_mov
    · exact tP rfl
    apply i_nckP
    · exact rfl
    apply i_fld0
    · exact rfl
    apply i_fld0
    · exact rfl
    apply i_load
    · exact rfl
    · assumption
    · exact rfl
    apply i_mov
    · exact tP rfl
    apply i_nckP
    · exact rfl
    apply i_fld0
    · exact rfl
    apply i_fld0
    · exact rfl
    apply i_load
    · exact rfl
    · assumption
    · exact rfl
    apply i_gtT
    · exact rfl
    · exact rfl
    · omega
    refine i_nil ?_
    apply r_condT
    · exact rfl
    refine r_reg ?_
    apply i_mov
    · exact tP rfl
    apply i_nckP
    · exact rfl
    apply i_fld0
    · exact rfl
    apply i_load
    · exact rfl
    · assumption
    · exact rfl
    apply i_add
    · exact rfl
    · exact rfl
    · omega
    apply i_nckP
    · exact rfl
    apply i_fld0
    · exact rfl
    apply i_st
    · exact rfl
    · exact tI rfl
    · exact rfl
    · assumption
    · exact Nat.le_of_ble_eq_true rfl
    refine i_nil ?_
    refine r_nop ?_
    refine r_reg ?_
    apply i_mov
    · exact tP rfl
    apply i_nckP
    · exact rfl
    apply i_fld0
    · exact rfl
    refine i_call (recFree o c line ob [.int .i64 ((cut + 1 : Nat) : Int)] _ (by first | exact hat | exact ⟨sb, Ob.eq (Ob.put' hob) rfl, App.put ha⟩) ) rfl ?_
    rintro v S1 ⟨hst1, hat1, sb1, rfl, ha1⟩
    obtain ⟨sb2, hob1, _⟩ := id hat1
    apply i_mov
    · exact tS rfl
    refine i_nil ?_
    refine r_reg ?_
    apply i_mov
    · exact tS rfl
    apply i_mk1
    · exact tI rfl
    · exact rfl
    apply i_mov
    · exact tP rfl
    apply i_nckP
    · exact rfl
    apply i_fld0
    · exact rfl
    apply i_fld0
    · exact rfl
    apply i_load
    · exact rfl
    · assumption
    · exact rfl
    apply i_mov
    · exact tS rfl
    apply i_lenM
    · exact rfl
    apply i_sub
    · exact rfl
    · exact rfl
    · omega
    rw [hsub]
    refine i_call (repeatA 32 (c - line.length) (by omega) _) rfl ?_
    rintro v S2 ⟨rfl, rfl⟩
    apply i_mk2
    · exact tS rfl
    · exact tS rfl
    · exact rfl
    · exact rfl
    refine i_call (concat .ro [⟨ob, sb1, line.take c⟩, ⟨.ro, 1, List.replicate (c - line.length) 32⟩] _ Rd.ro (rec_ok ha1) (by simp) (by rw [rec_cat, hlen]; omega)) rfl ?_
    rw [rec_cat]
    rintro v S3 ⟨hst3, o3, s3, rfl, ha3, hn3⟩
    apply i_mov
    · exact tS rfl
    refine i_nil ?_
    refine r_ret ?_
    apply q_ret1
    · exact tS rfl
    exact ⟨by ((refine Stays.then0 ?_ (by assumption); refine Stays.then ?_ (by assumption) (by (first | (intro o ho; cases ho; done) | (intro o ho; exact Or.inl ho) | (intro o ho; simp only [List.mem_cons, List.not_mem_nil, or_false] at ho ⊢; omega))); refine Stays.put ?_ (by (first | exact Or.inl (List.mem_cons_self ..) | exact Or.inl (List.mem_cons_of_mem _ (List.mem_cons_self ..)) | exact Or.inr (by simp only [Ob.len_push, Ob.len_put, appS_objs, objs_fresh, objs_kill]; omega) | exact Or.inr (by omega))); exact Stays.refl _ _)), ⟨o3, s3, rfl, ha3, fun t ht => (by have h5 := hst1.next; (try simp only [next_put] at h5); have h6 := hn3 t ht; omega)⟩, hat1.stays hst3 (by simp)⟩
  · have hov : over c line = 0 := (by simp only [over, if_neg h])
    rw [hov]
    obtain ⟨sb, hob, ha⟩ := id hat
    have hlt := Ob.lt hob
    refine r_reg ?_
    apply i_mov
    · exact tS0 rfl
    refine i_nil ?_
    refine r_reg ?_
    apply i_mov
    · exact tP rfl
    apply i_nckP
    · exact rfl
    apply i_fld0
    · exact rfl
    apply i_fld0
    · exact rfl
    apply i_load
    · exact rfl
    · assumption
    · exact rfl
    apply i_mov
    · exact tP rfl
    apply i_nckP
    · exact rfl
    apply i_fld0
    · exact rfl
    apply i_fld0
    · exact rfl
    apply i_load
    · exact rfl
    · assumption
    · exact rfl
    apply i_gtF
    · exact rfl
    · exact rfl
    · omega
    refine i_nil ?_
    apply r_condF
    · exact rfl
    refine r_nop ?_
    refine r_reg ?_
    apply i_mov
    · exact tP rfl
    apply i_nckP
    · exact rfl
    apply i_fld0
    · exact rfl
    refine i_call (recFree o c line ob [.int .i64 ((cut + 0 : Nat) : Int)] _ (by first | exact hat | exact ⟨sb, Ob.eq (Ob.put' hob) rfl, App.put ha⟩) ) rfl ?_
    rintro v S1 ⟨hst1, hat1, sb1, rfl, ha1⟩
    obtain ⟨sb2, hob1, _⟩ := id hat1
    apply i_mov
    · exact tS rfl
    refine i_nil ?_
    refine r_reg ?_
    apply i_mov
    · exact tS rfl
    apply i_mk1
    · exact tI rfl
    · exact rfl
    apply i_mov
    · exact tP rfl
    apply i_nckP
    · exact rfl
    apply i_fld0
    · exact rfl
    apply i_fld0
    · exact rfl
    apply i_load
    · exact rfl
    · assumption
    · exact rfl
    apply i_mov
    · exact tS rfl
    apply i_lenM
    · exact rfl
    apply i_sub
    · exact rfl
    · exact rfl
    · omega
    rw [hsub]
    refine i_call (repeatA 32 (c - line.length) (by omega) _) rfl ?_
    rintro v S2 ⟨rfl, rfl⟩
    apply i_mk2
    · exact tS rfl
    · exact tS rfl
    · exact rfl
    · exact rfl
    refine i_call (concat .ro [⟨ob, sb1, line.take c⟩, ⟨.ro, 1, List.replicate (c - line.length) 32⟩] _ Rd.ro (rec_ok ha1) (by simp) (by rw [rec_cat, hlen]; omega)) rfl ?_
    rw [rec_cat]
    rintro v S3 ⟨hst3, o3, s3, rfl, ha3, hn3⟩
    apply i_mov
    · exact tS rfl
    refine i_nil ?_
    refine r_ret ?_
    apply q_ret1
    · exact tS rfl
    exact ⟨by ((refine Stays.then0 ?_ (by assumption); assumption)), ⟨o3, s3, rfl, ha3, fun t ht => (by have h5 := hst1.next; (try simp only [next_put] at h5); have h6 := hn3 t ht; omega)⟩, hat1.stays hst3 (by simp)⟩

theorem u8_eq {x : UInt8} (h : x = 10) : (x.toNat : Int) = 10 := by subst h; rfl
theorem u8_ne {x : UInt8} (h : ¬ x = 10) : ¬ (x.toNat : Int) = 10 := by
  intro e
  exact h (UInt8.toNat.inj (by show x.toNat = 10; omega))

theorem packPut (o c : Nat) (line : List UInt8) (ob : Own) (cut : Nat) (o1 : Own) (s1 : Nat) (b : List UInt8) (S : ASt) (hs : s1 = 1 ∨ b = []) (hr : Rd S o1) (hap : Apart o1 ob) (hat : RecAt S o c line ob [.int .i64 (cut : Nat)])
    (hc : c ≤ 4096) (hb : b.length ≤ 10000) (hl : line.length ≤ 1000000) (hcut : cut ≤ 1000000) :
    ACalls Try.prog 91 [.ptr (some (o, 0)), .sl o1 s1 (u8s b)] S fun v S' => StayX S S' [o] ob.ts ∧
      ∃ ov sv ob', v = .sl ov sv (u8s (pkOut c line cut b).out) ∧ App S' ov 1 sv (pkOut c line cut b).out.length ∧ (∀ t, ov = .own t → S.next ≤ t) ∧ RecAt S' o c (pkOut c line cut b).line ob' [.int .i64 ((pkOut c line cut b).cut : Nat)] ∧ OwnNew S ob ob' ∧ Apart ov ob' := by
  refine en_91 (by exact Nat.le_of_ble_eq_true rfl) ?_
  unfold rc_91
  have hlt : o < S.objs.length := by obtain ⟨sb, hob, ha⟩ := hat; exact Ob.lt hob
  refine r_reg ?_
  apply i_mov
  · exact tS0 rfl
  refine i_nil ?_
  refine r_reg ?_
  apply i_mov
  · exact tS0 rfl
  refine i_nil ?_
  refine r_reg ?_
  apply i_mov
  · exact tS rfl
  apply i_lenM
  · exact rfl
  apply i_mov
  · exact tI rfl
  refine i_nil ?_
  refine r_block ?_
  refine r_loopP [0, 5, 8, 9, 10] (fun m G S' => ∃ (i : Nat) (ov : Own) (sv : Nat) (ob' : Own) (p : PkS), G = [(0, .ptr (some (o, 0))), (5, .sl ov sv (u8s p.out)), (8, .sl o1 s1 (u8s b)), (9, .int .i64 (b.length : Nat)), (10, .int .i64 (i : Nat))] ∧ m = b.length - i ∧ i ≤ b.length ∧ p = pk c ⟨[], line, cut⟩ (b.take i) ∧
    StayX S S' [o] ob.ts ∧ App S' ov 1 sv p.out.length ∧ (∀ t, ov = .own t → S.next ≤ t) ∧ RecAt S' o c p.line ob' [.int .i64 (p.cut : Nat)] ∧ OwnNew S ob ob' ∧ Apart ov ob') ?_ ?_
  · exact ⟨_, 0, .nil, 0, ob, ⟨[], line, cut⟩, rfl, rfl, Nat.zero_le _, rfl, StayX.refl _ _ _, App.none, by (intro t ht; cases ht; first | done | ((try simp only [next_fresh, next_kill, next_push, next_put, appS_next]); omega)), hat, OwnNew.refl, Apart.nil⟩
  rintro m G S2 ⟨i, ov, sv, ob', p, rfl, rfl, hi, hp, hst, hav, hnv, hat2, hnew, hapv⟩
  have hplen := pk_len c (b.take i) ⟨[], line, cut⟩
  rw [← hp, List.length_take, Nat.min_eq_left hi] at hplen
  have hmul : c * i ≤ 4096 * 10000 := Nat.mul_le_mul hc (by omega)
  simp only [List.length_nil] at hplen
  have hr2 := hr.stayo hst hap
  by_cases h : i < b.length
  · obtain rfl := sz_pos hs (by omega)
    have hstep := pk_take c ⟨[], line, cut⟩ b h
    rw [← hp] at hstep
    by_cases hx : b[i] = 10
    · have hxn := u8_eq hx
      simp only [pkStep, if_pos hx] at hstep
      have hrl := recP_len c p.line
      refine r_reg ?_
      apply i_ltT
      · exact rfl
      · exact rfl
      · omega
      refine i_nil ?_
      apply r_condT
      · exact rfl
      refine r_nop ?_
      refine r_block ?_
      refine r_reg ?_
      apply i_idxM
      · exact rfl
      · exact rfl
      · exact rfl
      · exact rfl
      · (refine Rd.rd ?_; assumption)
      · omega
      apply i_loadM
      · exact rfl
      · (refine Rd.rd ?_; assumption)
      · omega
      · exact fun _ => rfl
      (refine ⟨by omega, ?_⟩)
      apply i_mov
      · exact tI rfl
      refine i_nil ?_
      refine r_reg ?_
      apply i_mov
      · exact tI rfl
      apply i_eqT
      · exact rfl
      · exact rfl
      · omega
      refine i_nil ?_
      apply r_condT
      · exact rfl
      refine r_reg ?_
      apply i_mov
      · exact tS rfl
      apply i_mov
      · exact tP rfl
      refine i_call (packRecord o c p.line ob' p.cut _ hat2 hc (by omega) (by omega)) rfl ?_
      rintro v S3 ⟨hst3, ⟨o3, s3, rfl, ha3, hn3⟩, hat3⟩
      have hav3 := hav.stays hst3
      have hs3 : s3 = 1 ∨ recP c p.line = [] := ha3.sz.imp id (fun h => List.length_eq_zero_iff.1 h)
      have hr3 := ha3.rd
      apply i_appX
      · exact rfl
      · exact rfl
      · assumption
      · assumption
      · (refine Rd.rd ?_; assumption)
      · omega
      apply i_mov
      · exact tS rfl
      refine i_nil ?_
      refine r_nop ?_
      refine r_nop ?_
      refine r_reg ?_
      apply i_add
      · exact rfl
      · exact rfl
      · omega
      apply i_mov
      · exact tI rfl
      refine i_nil ?_
      refine r_nop ?_
      apply q_lp [0, 5, 8, 9, 10]
      · refine ⟨i + 1, _, _, _, _, rfl, rfl, h, hstep.symm, by ((refine StayX.appN ?_ (by (first | assumption | (intro t ht; cases ht; done) | (intro t ht; cases ht; ((try simp only [next_fresh, next_kill, next_push, next_put, appS_next]); omega)))); refine StayX.thenS ?_ (by assumption) (by (first | (intro o ho; cases ho; done) | (intro o ho; exact Or.inl ho) | (intro o ho; simp only [List.mem_cons, List.not_mem_nil, or_false] at ho ⊢; omega))); assumption)), App.new, ?_, hat3.app Apart.nil, OwnNew.nil, Apart.nilR⟩
        have := hst.next; have := hst3.next; (intro t ht; cases ht; first | done | ((try simp only [next_fresh, next_kill, next_push, next_put, appS_next]); omega))
      · omega
    · have hxn := u8_ne hx
      simp only [pkStep, if_neg hx] at hstep
      refine r_reg ?_
      apply i_ltT
      · exact rfl
      · exact rfl
      · omega
      refine i_nil ?_
      apply r_condT
      · exact rfl
      refine r_nop ?_
      refine r_block ?_
      refine r_reg ?_
      apply i_idxM
      · exact rfl
      · exact rfl
      · exact rfl
      · exact rfl
      · (refine Rd.rd ?_; assumption)
      · omega
      apply i_loadM
      · exact rfl
      · (refine Rd.rd ?_; assumption)
      · omega
      · exact fun _ => rfl
      (refine ⟨by omega, ?_⟩)
      apply i_mov
      · exact tI rfl
      refine i_nil ?_
      refine r_reg ?_
      apply i_mov
      · exact tI rfl
      apply i_eqF
      · exact rfl
      · exact rfl
      · omega
      refine i_nil ?_
      apply r_condF
      · exact rfl
      refine r_reg ?_
      apply i_mov
      · exact tP rfl
      apply i_nckP
      · exact rfl
      apply i_fld0
      · exact rfl
      apply i_mov
      · exact tI rfl
      refine i_call (recHold o c p.line ob' _ b[i] _ hat2 (by omega) hc) rfl ?_
      rintro v S3 ⟨hst3, ob3, hat3, hnew3⟩
      have hrv := hav.rd
      have hav3 := hav.stayo hst3 hapv
      refine i_nil ?_
      refine r_nop ?_
      refine r_nop ?_
      refine r_reg ?_
      apply i_add
      · exact rfl
      · exact rfl
      · omega
      apply i_mov
      · exact tI rfl
      refine i_nil ?_
      refine r_nop ?_
      apply q_lp [0, 5, 8, 9, 10]
      · exact ⟨i + 1, _, _, _, ⟨p.out, p.line ++ [b[i]], p.cut⟩, rfl, rfl, h, hstep.symm, by ((refine StayX.then ?_ (by assumption) (by (first | (intro o ho; cases ho; done) | (intro o ho; exact Or.inl ho) | (intro o ho; simp only [List.mem_cons, List.not_mem_nil, or_false] at ho ⊢; omega))) (by (first | (intro t ht; exact Or.inl ht) | (intro t ht; exact new_ts (by assumption) t ht) | (intro t ht; cases ht; done))); assumption)), hav3, hnv, hat3, hnew.trans hst.next hnew3, hapv.new hrv hnew3⟩
      · omega
  · have e : i = b.length := by omega
    subst e
    rw [List.take_length] at hp
    refine r_reg ?_
    apply i_ltF
    · exact rfl
    · exact rfl
    · omega
    refine i_nil ?_
    apply r_condF
    · exact rfl
    refine r_exit ?_
    refine r_reg ?_
    apply i_mov
    · exact tS rfl
    apply i_mov
    · exact tS rfl
    refine i_nil ?_
    refine r_ret ?_
    apply q_ret1
    · exact tS rfl
    rw [pkOut, ← hp]
    exact ⟨hst, ov, sv, ob', rfl, hav, hnv, hat2, hnew, hapv⟩

theorem packEnd (o c : Nat) (line : List UInt8) (ob : Own) (cut : Nat) (S : ASt) (hat : RecAt S o c line ob [.int .i64 (cut : Nat)]) (hc : c ≤ 4096) (hl : line.length ≤ 100000000) (hcut : cut ≤ 100000000) :
    ACalls Try.prog 90 [.ptr (some (o, 0))] S fun v S' => Stays S S' [o] ∧ BA S S' v (pkE c line cut).out ∧ ∃ ob', RecAt S' o c [] ob' [.int .i64 ((pkE c line cut).cut : Nat)] ∧ (ob' = ob ∨ ob' = .nil) ∧ ∀ ov sv xs, v = .sl ov sv xs → Apart ov ob' := by
  refine en_90 (by exact Nat.le_of_ble_eq_true rfl) ?_
  unfold rc_90
  obtain ⟨sb, hob, ha⟩ := id hat
  by_cases h : line = []
  · have hz : line.length = 0 := by rw [h]; rfl
    have he : pkE c line cut = ⟨[], [], cut⟩ := by simp [pkE, pkEnd, h]
    rw [he]
    refine r_reg ?_
    apply i_mov
    · exact tS0 rfl
    refine i_nil ?_
    refine r_reg ?_
    apply i_mov
    · exact tP rfl
    apply i_nckP
    · exact rfl
    apply i_fld0
    · exact rfl
    apply i_fld0
    · exact rfl
    apply i_load
    · exact rfl
    · assumption
    · exact rfl
    apply i_eqT
    · exact rfl
    · exact rfl
    · omega
    refine i_nil ?_
    apply r_condT
    · exact rfl
    refine r_reg ?_
    apply i_mov
    · exact tS0 rfl
    refine i_nil ?_
    refine r_ret ?_
    refine q_kr ?_
    apply q_ret1
    · exact tS0 rfl
    exact ⟨Stays.refl _ _, ⟨.nil, 0, rfl, App.none, by (intro t ht; cases ht; first | done | ((try simp only [next_fresh, next_kill, next_push, next_put, appS_next]); omega))⟩, ob, by rw [← h]; exact hat, .inl rfl, by rintro ov sv xs h; cases h; exact Apart.nil⟩
  · have hpos : 0 < line.length := List.length_pos_iff.2 h
    have he : pkE c line cut = ⟨recP c line, [], cut + over c line⟩ := by simp [pkE, pkEnd, h]
    rw [he]
    refine r_reg ?_
    apply i_mov
    · exact tS0 rfl
    refine i_nil ?_
    refine r_reg ?_
    apply i_mov
    · exact tP rfl
    apply i_nckP
    · exact rfl
    apply i_fld0
    · exact rfl
    apply i_fld0
    · exact rfl
    apply i_load
    · exact rfl
    · assumption
    · exact rfl
    apply i_eqF
    · exact rfl
    · exact rfl
    · omega
    refine i_nil ?_
    apply r_condF
    · exact rfl
    refine r_nop ?_
    refine r_reg ?_
    apply i_mov
    · exact tP rfl
    refine i_call (packRecord o c line ob cut _ hat hc hl hcut) rfl ?_
    rintro v S3 ⟨hst3, ⟨o3, s3, rfl, ha3, hn3⟩, hat3⟩
    apply i_mov
    · exact tS rfl
    refine i_nil ?_
    refine r_ret ?_
    apply q_ret1
    · exact tS rfl
    exact ⟨hst3, ⟨o3, s3, rfl, ha3, hn3⟩, .nil, hat3, .inr rfl, fun ov sv xs h => Apart.nilR⟩
end Go.Proofs.Ythpomdoaiibnfaa.Abs
