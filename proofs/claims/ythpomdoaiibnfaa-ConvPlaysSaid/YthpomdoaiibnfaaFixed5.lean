/- The document's Unpacker, wherever it lies: contracts. -/
import Derived.Test.YthpomdoaiibnfaaFixed4
namespace Go.Proofs.Ythpomdoaiibnfaa.Abs
open Go Go.Proofs
set_option linter.unusedVariables false
set_option linter.unusedSimpArgs false
attribute [local irreducible] wpI wpR ropK chk ASt.push ASt.put ASt.fresh ASt.kill appS

theorem refLine (o j c : Nat) (line : List UInt8) (ob : Own) (cs : List AV) (S : ASt) (hat : RuAt S o j c line ob cs) (hl : line.length ≤ 100000000) :
    ACalls Try.prog 66 [.ptr (some (o, j))] S fun v S' => Stays S S' [o] ∧ BA S S' v (lineU line) ∧ ∃ cs', RuAt S' o j c [] .nil cs' ∧ Off j 2 cs cs' := by
  refine en_66 (by exact Nat.le_of_ble_eq_true rfl) ?_
  unfold rc_66
  obtain ⟨hlen, hlt⟩ := hat.len
  obtain ⟨sb, hob, h0, h1, ha⟩ := hat
  have hrd := ha.rd
  have hsb : sb = 1 ∨ line = [] := ha.sz.imp id fun h => List.length_eq_zero_iff.1 h
  have hsb1 : 1 = sb ∨ line = [] := hsb.imp (·.symm) id
  refine r_reg ?_
  apply i_mov
  · exact tS0 rfl
  refine i_nil ?_
  refine r_reg ?_
  apply i_mov
  · exact tP rfl
  apply i_nckP
  · exact rfl
  apply i_fldP
  · exact rfl
  apply i_load
  · exact rfl
  · assumption
  · assumption
  apply i_lenM
  · exact rfl
  apply i_mov
  · exact tI rfl
  refine i_nil ?_
  refine r_block ?_
  refine r_loopP [0, 3] (fun m G S' => ∃ n : Nat, G = [(0, .ptr (some (o, j))), (3, .int .i64 (n : Nat))] ∧ m = n ∧ n ≤ line.length ∧ strip (line.take n) = strip line ∧ S' = S) ?_ ?_
  · exact ⟨_, line.length, rfl, rfl, Nat.le_refl _, by rw [List.take_length], rfl⟩
  rintro m G S2 ⟨n, rfl, rfl, hn, hstr, rfl⟩
  have htk : (line.take m).length = m := by rw [List.length_take]; omega
  have hst : sb = 1 ∨ line.take m = [] := hsb.imp id fun h => by rw [h]; simp
  rcases Nat.eq_zero_or_pos m with hm | hm
  · have hl2 : lineU line = line.take m ++ [10] := by rw [lineU, ← hstr, hm, strip_nil]
    refine r_reg ?_
    apply i_mov
    · exact tI rfl
    apply i_gtF
    · exact rfl
    · exact rfl
    · omega
    apply i_mov
    · exact tB rfl
    apply i_gF
    · exact rfl
    · exact rfl
    apply i_gF
    · exact rfl
    · exact rfl
    apply i_gF
    · exact rfl
    · exact rfl
    apply i_gF
    · exact rfl
    · exact rfl
    apply i_gF
    · exact rfl
    · exact rfl
    apply i_gF
    · exact rfl
    · exact rfl
    apply i_gF
    · exact rfl
    · exact rfl
    apply i_gF
    · exact rfl
    · exact rfl
    apply i_gF
    · exact rfl
    · exact rfl
    apply i_pickF
    · exact rfl
    · exact tB rfl
    refine i_nil ?_
    apply r_condF
    · exact rfl
    refine r_exit ?_
    refine r_reg ?_
    apply i_mov
    · exact tP rfl
    apply i_nckP
    · exact rfl
    apply i_fldP
    · exact rfl
    apply i_load
    · exact rfl
    · assumption
    · assumption
    apply i_mov
    · exact tI rfl
    apply i_sliceHi
    · exact rfl
    · assumption
    · (refine Rd.rd ?_; assumption)
    · exact rfl
    · exact rfl
    · omega
    apply i_app0M
    · exact rfl
    · exact rfl
    · assumption
    · (refine Rd.rd ?_; assumption)
    · omega
    apply i_mk1
    · exact tI rfl
    · exact rfl
    refine i_appX (f := u8) (a := line.take m) (b := [10]) rfl rfl (App.some Rd.new) (.inl rfl) (by exact True.intro) (by rw [htk]; simp only [List.length_singleton]; omega) ?_
    apply i_mov
    · exact tS rfl
    refine i_nil ?_
    refine r_reg ?_
    apply i_mov
    · exact tP rfl
    apply i_nckP
    · exact rfl
    apply i_fldP
    · exact rfl
    apply i_st
    · exact rfl
    · exact tS0 rfl
    · exact rfl
    · (apply Ob.app; apply Ob.fresh; assumption)
    · omega
    refine i_nil ?_
    refine r_reg ?_
    apply i_mov
    · exact tS rfl
    apply i_mov
    · exact tS rfl
    refine i_nil ?_
    refine r_ret ?_
    apply q_ret1
    · exact tS rfl
    exact ⟨by ((refine Stays.put ?_ (by (first | exact Or.inl (List.mem_cons_self ..) | exact Or.inl (List.mem_cons_of_mem _ (List.mem_cons_self ..)) | exact Or.inr (by simp only [Ob.len_push, Ob.len_put, appS_objs, objs_fresh, objs_kill]; omega) | exact Or.inr (by omega))); refine Stays.app ?_ (by (first | assumption | (intro t ht; cases ht; done) | (intro t ht; cases ht; ((try simp only [next_fresh, next_kill, next_push, next_put, appS_next]); omega)))); refine Stays.fresh ?_; exact Stays.refl _ _)), ⟨_, _, by rw [hl2], by rw [hl2]; exact App.put App.new, by (intro t ht; cases ht; first | done | ((try simp only [next_fresh, next_kill, next_push, next_put, appS_next]); omega))⟩, _, ⟨0, by ((apply Ob.put'; apply Ob.app; apply Ob.fresh; assumption)), by ((apply gs_ne3; rotate_left; (· omega)); assumption), by exact gs_eq (by omega), App.none⟩, (Off.refl _ _ _).set (by omega) (by omega)⟩
  · obtain ⟨k, rfl⟩ : ∃ k, m = k + 1 := ⟨m - 1, by omega⟩
    obtain rfl : sb = 1 := by
      rcases hsb with h | h
      · exact h
      · rw [h] at hn; simp at hn
    by_cases hx : line[k]'(by omega) = 32
    · have hxn : (line[k]'(by omega)).toNat = (32 : Int) := u8_eqN rfl hx
      refine r_reg ?_
      apply i_mov
      · exact tI rfl
      apply i_gtT
      · exact rfl
      · exact rfl
      · omega
      apply i_mov
      · exact tB rfl
      apply i_gT
      · exact rfl
      apply i_mov
      · exact tP rfl
      apply i_gT
      · exact rfl
      apply i_nckP
      · exact rfl
      apply i_gT
      · exact rfl
      apply i_fldP
      · exact rfl
      apply i_gT
      · exact rfl
      apply i_load
      · exact rfl
      · assumption
      · assumption
      apply i_gT
      · exact rfl
      apply i_mov
      · exact tI rfl
      apply i_gT
      · exact rfl
      apply i_sub
      · exact rfl
      · exact rfl
      · omega
      apply i_gT
      · exact rfl
      refine i_idxM k rfl rfl (by omega) rfl (by (refine Rd.rd ?_; assumption)) (by omega) ?_
      apply i_gT
      · exact rfl
      apply i_loadM
      · exact rfl
      · (refine Rd.rd ?_; assumption)
      · omega
      · exact fun _ => rfl
      (refine ⟨by omega, ?_⟩)
      apply i_gT
      · exact rfl
      apply i_eqT
      · exact rfl
      · exact rfl
      · omega
      apply i_pickT
      · exact rfl
      · exact tB rfl
      refine i_nil ?_
      apply r_condT
      · exact rfl
      refine r_nop ?_
      refine r_block ?_
      refine r_reg ?_
      apply i_mov
      · exact tI rfl
      apply i_sub
      · exact rfl
      · exact rfl
      · omega
      apply i_mov
      · exact tI rfl
      refine i_nil ?_
      refine r_nop ?_
      refine r_nop ?_
      apply q_l
      · exact ⟨k, rfl, rfl, by omega, by rw [← hstr]; exact (strip_step line (by omega) hx).symm, rfl⟩
      · omega
      · exact ⟨rfl, int_eq (by omega), trivial⟩
    · have hxn : ¬ (line[k]'(by omega)).toNat = (32 : Int) := u8_neN rfl hx
      have hl2 : lineU line = line.take (k + 1) ++ [10] := by rw [lineU, ← hstr, strip_stop line (by omega) hx]
      refine r_reg ?_
      apply i_mov
      · exact tI rfl
      apply i_gtT
      · exact rfl
      · exact rfl
      · omega
      apply i_mov
      · exact tB rfl
      apply i_gT
      · exact rfl
      apply i_mov
      · exact tP rfl
      apply i_gT
      · exact rfl
      apply i_nckP
      · exact rfl
      apply i_gT
      · exact rfl
      apply i_fldP
      · exact rfl
      apply i_gT
      · exact rfl
      apply i_load
      · exact rfl
      · assumption
      · assumption
      apply i_gT
      · exact rfl
      apply i_mov
      · exact tI rfl
      apply i_gT
      · exact rfl
      apply i_sub
      · exact rfl
      · exact rfl
      · omega
      apply i_gT
      · exact rfl
      refine i_idxM k rfl rfl (by omega) rfl (by (refine Rd.rd ?_; assumption)) (by omega) ?_
      apply i_gT
      · exact rfl
      apply i_loadM
      · exact rfl
      · (refine Rd.rd ?_; assumption)
      · omega
      · exact fun _ => rfl
      (refine ⟨by omega, ?_⟩)
      apply i_gT
      · exact rfl
      apply i_eqF
      · exact rfl
      · exact rfl
      · omega
      apply i_pickT
      · exact rfl
      · exact tB rfl
      refine i_nil ?_
      apply r_condF
      · exact rfl
      refine r_exit ?_
      refine r_reg ?_
      apply i_mov
      · exact tP rfl
      apply i_nckP
      · exact rfl
      apply i_fldP
      · exact rfl
      apply i_load
      · exact rfl
      · assumption
      · assumption
      apply i_mov
      · exact tI rfl
      apply i_sliceHi
      · exact rfl
      · exact Or.inl rfl
      · (refine Rd.rd ?_; assumption)
      · exact rfl
      · exact rfl
      · omega
      apply i_app0M
      · exact rfl
      · exact rfl
      · exact Or.inl rfl
      · (refine Rd.rd ?_; assumption)
      · omega
      apply i_mk1
      · exact tI rfl
      · exact rfl
      refine i_appX (f := u8) (a := line.take (k + 1)) (b := [10]) rfl rfl (App.some Rd.new) (.inl rfl) (by exact True.intro) (by rw [htk]; simp only [List.length_singleton]; omega) ?_
      apply i_mov
      · exact tS rfl
      refine i_nil ?_
      refine r_reg ?_
      apply i_mov
      · exact tP rfl
      apply i_nckP
      · exact rfl
      apply i_fldP
      · exact rfl
      apply i_st
      · exact rfl
      · exact tS0 rfl
      · exact rfl
      · (apply Ob.app; apply Ob.fresh; assumption)
      · omega
      refine i_nil ?_
      refine r_reg ?_
      apply i_mov
      · exact tS rfl
      apply i_mov
      · exact tS rfl
      refine i_nil ?_
      refine r_ret ?_
      apply q_ret1
      · exact tS rfl
      exact ⟨by ((refine Stays.put ?_ (by (first | exact Or.inl (List.mem_cons_self ..) | exact Or.inl (List.mem_cons_of_mem _ (List.mem_cons_self ..)) | exact Or.inr (by simp only [Ob.len_push, Ob.len_put, appS_objs, objs_fresh, objs_kill]; omega) | exact Or.inr (by omega))); refine Stays.app ?_ (by (first | assumption | (intro t ht; cases ht; done) | (intro t ht; cases ht; ((try simp only [next_fresh, next_kill, next_push, next_put, appS_next]); omega)))); refine Stays.fresh ?_; exact Stays.refl _ _)), ⟨_, _, by rw [hl2], by rw [hl2]; exact App.put App.new, by (intro t ht; cases ht; first | done | ((try simp only [next_fresh, next_kill, next_push, next_put, appS_next]); omega))⟩, _, ⟨0, by ((apply Ob.put'; apply Ob.app; apply Ob.fresh; assumption)), by ((apply gs_ne3; rotate_left; (· omega)); assumption), by exact gs_eq (by omega), App.none⟩, (Off.refl _ _ _).set (by omega) (by omega)⟩

theorem refUnPut (o j c : Nat) (line : List UInt8) (ob : Own) (o1 : Own) (s1 : Nat) (b : List UInt8) (cs : List AV) (S : ASt) (hs : s1 = 1 ∨ b = []) (hr : Rd S o1) (hap : Apart o1 ob) (hat : RuAt S o j c line ob cs)
    (hc0 : 0 < c) (hc : c ≤ 4096) (hb : b.length ≤ 10000) (hl : line.length < c) :
    ACalls Try.prog 61 [.ptr (some (o, j)), .sl o1 s1 (u8s b)] S fun v S' => StayX S S' [o] ob.ts ∧
      ∃ ov sv ob' cs', v = .sl ov sv (u8s (unOut c line b).out) ∧ App S' ov 1 sv (unOut c line b).out.length ∧ (∀ t, ov = .own t → S.next ≤ t) ∧ RuAt S' o j c (unOut c line b).b ob' cs' ∧ OwnNew S ob ob' ∧ Apart ov ob' ∧ Off j 2 cs cs' := by
  refine en_61 (by exact Nat.le_of_ble_eq_true rfl) ?_
  unfold rc_61
  have hlt := hat.len.2
  refine r_reg ?_
  apply i_mov
  · exact tS0 rfl
  refine i_nil ?_
  refine r_reg ?_
  apply i_mov
  · exact tS0 rfl
  refine i_nil ?_
  refine r_reg ?_
  apply i_mov
  · exact tI rfl
  refine i_nil ?_
  refine r_block ?_
  refine r_loopP [0, 1, 5, 6] (fun m G S' => ∃ (i : Nat) (ov : Own) (sv : Nat) (ob' : Own) (p : UnS) (cs' : List AV), G = [(0, .ptr (some (o, j))), (1, .sl o1 s1 (u8s b)), (5, .sl ov sv (u8s p.out)), (6, .int .i64 (i : Nat))] ∧ m = b.length - i ∧ i ≤ b.length ∧ p = un c ⟨[], line⟩ (b.take i) ∧
    StayX S S' [o] ob.ts ∧ App S' ov 1 sv p.out.length ∧ (∀ t, ov = .own t → S.next ≤ t) ∧ RuAt S' o j c p.b ob' cs' ∧ OwnNew S ob ob' ∧ Apart ov ob' ∧ Off j 2 cs cs') ?_ ?_
  · exact ⟨_, 0, .nil, 0, ob, ⟨[], line⟩, cs, rfl, rfl, Nat.zero_le _, rfl, StayX.refl _ _ _, App.none, by (intro t ht; cases ht; first | done | ((try simp only [next_fresh, next_kill, next_push, next_put, appS_next]); omega)), hat, OwnNew.refl, Apart.nil, Off.refl _ _ _⟩
  rintro m G S2 ⟨i, ov, sv, ob', p, cs2, rfl, rfl, hi, hp, hst, hav, hnv, hat2, hnew, hapv, hoff⟩
  have hplen := un_len c (b.take i) ⟨[], line⟩
  have hpb := un_b c hc0 (b.take i) ⟨[], line⟩ hl
  rw [← hp, List.length_take, Nat.min_eq_left hi] at hplen
  rw [← hp] at hpb
  simp only [List.length_nil] at hplen
  have hr2 := hr.stayo hst hap
  by_cases h : i < b.length
  · obtain rfl := sz_pos hs (by omega)
    have hstep := un_take c ⟨[], line⟩ b h
    rw [← hp] at hstep
    have hbl : (p.b ++ [b[i]]).length = p.b.length + 1 := by simp
    obtain ⟨hlen2, hlt2⟩ := hat2.len
    obtain ⟨sb, hob, h0, h1, ha⟩ := hat2
    have hrv := hav.rd
    have hn2 := hst.next
    have hlen3 := hoff.1
    have hav2 := App.put (b := o) (cs := cs2.set (j + 1) (.sl (.own S2.next) 1 (u8s (p.b ++ [b[i]])))) (hav.app hapv)
    have ho1 : ∀ t, ob' = .own t → o1.tok ≠ some t := fun t ht h => by
      rcases hnew with rfl | hnew
      · exact hap t h (by rw [ht]; rfl)
      · have := hr.2 t h; have := hnew t (by rw [ht]; rfl); omega
    have hapn : Apart ov (.own S2.next) := Apart.lt hrv (by intro t ht; cases ht; exact Nat.le_refl _)
    by_cases hx : p.b.length + 1 = c
    · simp only [unStep, if_pos hx] at hstep
      have hrl := lineU_len (p.b ++ [b[i]])
      refine r_reg ?_
      apply i_mov
      · exact tI rfl
      apply i_mov
      · exact tS rfl
      apply i_lenM
      · exact rfl
      apply i_ltT
      · exact rfl
      · exact rfl
      · omega
      refine i_nil ?_
      apply r_condT
      · exact rfl
      refine r_nop ?_
      refine r_block ?_
      refine r_reg ?_
      apply i_mov
      · exact tP rfl
      apply i_mov
      · exact tP rfl
      apply i_nckP
      · exact rfl
      apply i_fldP
      · exact rfl
      apply i_load
      · exact rfl
      · assumption
      · assumption
      apply i_mov
      · exact tS rfl
      apply i_mov
      · exact tI rfl
      apply i_idxM
      · exact rfl
      · exact rfl
      · exact rfl
      · exact rfl
      · (refine Rd.rd ?_; assumption)
      · omega
      apply i_loadM
      · exact rfl
      · (refine Rd.rd ?_; assumption)
      · omega
      · exact fun _ => rfl
      (refine ⟨by omega, ?_⟩)
      apply i_mk1B
      · exact rfl
      apply i_appX
      · exact rfl
      · exact rfl
      · assumption
      · exact Or.inl rfl
      · exact True.intro
      · (simp only [List.length_map, List.length_append, List.length_cons, List.length_nil, List.length_take, List.length_drop, List.length_replicate]; omega)
      apply i_nckP
      · exact rfl
      apply i_fldP
      · exact rfl
      apply i_st
      · exact rfl
      · exact tS rfl
      · exact rfl
      · (apply Ob.app; assumption)
      · omega
      refine i_nil ?_
      refine r_reg ?_
      apply i_mov
      · exact tP rfl
      apply i_nckP
      · exact rfl
      apply i_fldP
      · exact rfl
      apply i_load
      · exact rfl
      · (apply Ob.put'; apply Ob.app; assumption)
      · exact gs_eq (by omega)
      apply i_lenM
      · exact rfl
      apply i_mov
      · exact tP rfl
      apply i_nckP
      · exact rfl
      apply i_fldP
      · exact rfl
      apply i_load
      · exact rfl
      · (apply Ob.put'; apply Ob.app; assumption)
      · ((apply gs_ne3; rotate_left; (· omega)); assumption)
      apply i_eqT
      · exact rfl
      · exact rfl
      · omega
      refine i_nil ?_
      apply r_condT
      · exact rfl
      refine r_reg ?_
      apply i_mov
      · exact tS rfl
      apply i_mov
      · exact tP rfl
      refine i_call (refLine o j c (p.b ++ [b[i]]) (.own S2.next) _ _ ⟨1, by ((apply Ob.put'; apply Ob.app; assumption)), by ((apply gs_ne3; rotate_left; (· omega)); assumption), by exact gs_eq (by omega), App.put App.new⟩ (by omega)) rfl ?_
      rintro v S4 ⟨hst4, ⟨o4, s4, rfl, ha4, hn4⟩, cs4, hat4, hoff4⟩
      have hav4 := hav2.stays hst4
      have hs4 : s4 = 1 ∨ lineU (p.b ++ [b[i]]) = [] := ha4.sz.imp id (fun h => List.length_eq_zero_iff.1 h)
      have hr4 := ha4.rd
      have hn4' := hst4.next
      simp only [next_put, appS_next] at hn4'
      have hst14 : StayX S S4 [o] ob.ts := by (refine StayX.thenS ?_ (by assumption) (by (first | (intro o ho; cases ho; done) | (intro o ho; exact Or.inl ho) | (intro o ho; simp only [List.mem_cons, List.not_mem_nil, or_false] at ho ⊢; omega))); refine StayX.put ?_ (by (first | exact Or.inl (List.mem_cons_self ..) | exact Or.inl (List.mem_cons_of_mem _ (List.mem_cons_self ..)) | exact Or.inr (by simp only [Ob.len_push, Ob.len_put, appS_objs, objs_fresh, objs_kill]; omega) | exact Or.inr (by omega))); refine StayX.app ?_ (by (first | (intro t ht; exact new_own (by assumption) t ht) | (intro t ht; cases ht; first | exact Or.inl (List.mem_singleton.2 rfl) | (refine Or.inr ?_; first | done | ((try simp only [next_fresh, next_kill, next_push, next_put, appS_next]); omega))) | (intro t ht; exact Or.inl (by rw [ht]; exact List.mem_singleton.2 rfl)))); assumption)
      apply i_appX
      · exact rfl
      · exact rfl
      · assumption
      · assumption
      · (refine Rd.rd ?_; assumption)
      · omega
      apply i_mov
      · exact tS rfl
      refine i_nil ?_
      refine r_nop ?_
      refine r_nop ?_
      refine r_reg ?_
      apply i_mov
      · exact tI rfl
      apply i_add
      · exact rfl
      · exact rfl
      · omega
      apply i_mov
      · exact tI rfl
      refine i_nil ?_
      refine r_nop ?_
      apply q_lp [0, 1, 5, 6]
      · refine ⟨i + 1, _, _, _, _, cs4, rfl, rfl, h, hstep.symm, by ((refine StayX.appN ?_ (by (first | assumption | (intro t ht; cases ht; done) | (intro t ht; cases ht; ((try simp only [next_fresh, next_kill, next_push, next_put, appS_next]); omega)))); assumption)), App.new, ?_, hat4.app Apart.nil, OwnNew.nil, Apart.nilR, (hoff.set (by omega) (by omega)).trans hoff4⟩
        (intro t ht; cases ht; first | done | ((try simp only [next_fresh, next_kill, next_push, next_put, appS_next]); omega))
      · omega
    · simp only [unStep, if_neg hx] at hstep
      refine r_reg ?_
      apply i_mov
      · exact tI rfl
      apply i_mov
      · exact tS rfl
      apply i_lenM
      · exact rfl
      apply i_ltT
      · exact rfl
      · exact rfl
      · omega
      refine i_nil ?_
      apply r_condT
      · exact rfl
      refine r_nop ?_
      refine r_block ?_
      refine r_reg ?_
      apply i_mov
      · exact tP rfl
      apply i_mov
      · exact tP rfl
      apply i_nckP
      · exact rfl
      apply i_fldP
      · exact rfl
      apply i_load
      · exact rfl
      · assumption
      · assumption
      apply i_mov
      · exact tS rfl
      apply i_mov
      · exact tI rfl
      apply i_idxM
      · exact rfl
      · exact rfl
      · exact rfl
      · exact rfl
      · (refine Rd.rd ?_; assumption)
      · omega
      apply i_loadM
      · exact rfl
      · (refine Rd.rd ?_; assumption)
      · omega
      · exact fun _ => rfl
      (refine ⟨by omega, ?_⟩)
      apply i_mk1B
      · exact rfl
      apply i_appX
      · exact rfl
      · exact rfl
      · assumption
      · exact Or.inl rfl
      · exact True.intro
      · (simp only [List.length_map, List.length_append, List.length_cons, List.length_nil, List.length_take, List.length_drop, List.length_replicate]; omega)
      apply i_nckP
      · exact rfl
      apply i_fldP
      · exact rfl
      apply i_st
      · exact rfl
      · exact tS rfl
      · exact rfl
      · (apply Ob.app; assumption)
      · omega
      refine i_nil ?_
      refine r_reg ?_
      apply i_mov
      · exact tP rfl
      apply i_nckP
      · exact rfl
      apply i_fldP
      · exact rfl
      apply i_load
      · exact rfl
      · (apply Ob.put'; apply Ob.app; assumption)
      · exact gs_eq (by omega)
      apply i_lenM
      · exact rfl
      apply i_mov
      · exact tP rfl
      apply i_nckP
      · exact rfl
      apply i_fldP
      · exact rfl
      apply i_load
      · exact rfl
      · (apply Ob.put'; apply Ob.app; assumption)
      · ((apply gs_ne3; rotate_left; (· omega)); assumption)
      apply i_eqF
      · exact rfl
      · exact rfl
      · omega
      refine i_nil ?_
      apply r_condF
      · exact rfl
      refine r_nop ?_
      refine r_nop ?_
      refine r_reg ?_
      apply i_mov
      · exact tI rfl
      apply i_add
      · exact rfl
      · exact rfl
      · omega
      apply i_mov
      · exact tI rfl
      refine i_nil ?_
      refine r_nop ?_
      apply q_lp [0, 1, 5, 6]
      · refine ⟨i + 1, _, _, .own S2.next, ⟨p.out, p.b ++ [b[i]]⟩, _, rfl, rfl, h, hstep.symm, by ((refine StayX.put ?_ (by (first | exact Or.inl (List.mem_cons_self ..) | exact Or.inl (List.mem_cons_of_mem _ (List.mem_cons_self ..)) | exact Or.inr (by simp only [Ob.len_push, Ob.len_put, appS_objs, objs_fresh, objs_kill]; omega) | exact Or.inr (by omega))); refine StayX.app ?_ (by (first | (intro t ht; exact new_own (by assumption) t ht) | (intro t ht; cases ht; first | exact Or.inl (List.mem_singleton.2 rfl) | (refine Or.inr ?_; first | done | ((try simp only [next_fresh, next_kill, next_push, next_put, appS_next]); omega))) | (intro t ht; exact Or.inl (by rw [ht]; exact List.mem_singleton.2 rfl)))); assumption)), hav2, hnv, ⟨1, by ((apply Ob.put'; apply Ob.app; assumption)), by ((apply gs_ne3; rotate_left; (· omega)); assumption), by exact gs_eq (by omega), App.put App.new⟩, OwnNew.ge hn2, hapn, hoff.set (by omega) (by omega)⟩
      · omega
  · have e : i = b.length := by omega
    subst e
    rw [List.take_length] at hp
    refine r_reg ?_
    apply i_mov
    · exact tI rfl
    apply i_mov
    · exact tS rfl
    apply i_lenM
    · exact rfl
    apply i_ltF
    · exact rfl
    · exact rfl
    · omega
    refine i_nil ?_
    apply r_condF
    · exact rfl
    refine r_exit ?_
    refine r_reg ?_
    apply i_mov
    · exact tS rfl
    apply i_mov
    · exact tS rfl
    refine i_nil ?_
    refine r_ret ?_
    apply q_ret1
    · exact tS rfl
    rw [unOut, ← hp]
    exact ⟨hst, ov, sv, ob', cs2, rfl, hav, hnv, hat2, hnew, hapv, hoff⟩

theorem refUnEnd (o j c : Nat) (line : List UInt8) (ob : Own) (cs : List AV) (S : ASt) (hat : RuAt S o j c line ob cs) (hl : line.length ≤ 100000000) :
    ACalls Try.prog 53 [.ptr (some (o, j))] S fun v S' => Stays S S' [o] ∧ BA S S' v (unE line).out ∧ ∃ ob' cs', RuAt S' o j c [] ob' cs' ∧ (ob' = ob ∨ ob' = .nil) ∧ (∀ ov sv xs, v = .sl ov sv xs → Apart ov ob') ∧ Off j 2 cs cs' := by
  refine en_53 (by exact Nat.le_of_ble_eq_true rfl) ?_
  unfold rc_53
  obtain ⟨sb, hob, h0, h1, ha⟩ := id hat
  by_cases h : line = []
  · have hz : line.length = 0 := by rw [h]; rfl
    have he : unE line = ⟨[], []⟩ := by simp [unE, unEnd, h]
    rw [he]
    refine r_reg ?_
    apply i_mov
    · exact tS0 rfl
    refine i_nil ?_
    refine r_reg ?_
    apply i_mov
    · exact tP rfl
    apply i_nckP
    · exact rfl
    apply i_fldP
    · exact rfl
    apply i_load
    · exact rfl
    · assumption
    · assumption
    apply i_lenM
    · exact rfl
    apply i_eqT
    · exact rfl
    · exact rfl
    · omega
    refine i_nil ?_
    apply r_condT
    · exact rfl
    refine r_reg ?_
    apply i_mov
    · exact tS0 rfl
    refine i_nil ?_
    refine r_ret ?_
    refine q_kr ?_
    apply q_ret1
    · exact tS0 rfl
    exact ⟨Stays.refl _ _, ⟨.nil, 0, rfl, App.none, by (intro t ht; cases ht; first | done | ((try simp only [next_fresh, next_kill, next_push, next_put, appS_next]); omega))⟩, ob, cs, by rw [← h]; exact hat, .inl rfl, (by rintro ov sv xs h; cases h; exact Apart.nil), Off.refl _ _ _⟩
  · have hpos : 0 < line.length := List.length_pos_iff.2 h
    have he : unE line = ⟨lineU line, []⟩ := by simp [unE, unEnd, h]
    rw [he]
    refine r_reg ?_
    apply i_mov
    · exact tS0 rfl
    refine i_nil ?_
    refine r_reg ?_
    apply i_mov
    · exact tP rfl
    apply i_nckP
    · exact rfl
    apply i_fldP
    · exact rfl
    apply i_load
    · exact rfl
    · assumption
    · assumption
    apply i_lenM
    · exact rfl
    apply i_eqF
    · exact rfl
    · exact rfl
    · omega
    refine i_nil ?_
    apply r_condF
    · exact rfl
    refine r_nop ?_
    refine r_reg ?_
    apply i_mov
    · exact tP rfl
    refine i_call (refLine o j c line ob cs _ hat hl) rfl ?_
    rintro v S3 ⟨hst3, ⟨o3, s3, rfl, ha3, hn3⟩, cs3, hat3, hoff3⟩
    apply i_mov
    · exact tS rfl
    refine i_nil ?_
    refine r_ret ?_
    apply q_ret1
    · exact tS rfl
    exact ⟨hst3, ⟨o3, s3, rfl, ha3, hn3⟩, .nil, cs3, hat3, .inr rfl, (fun ov sv xs h => Apart.nilR), hoff3⟩
end Go.Proofs.Ythpomdoaiibnfaa.Abs
