/- Package fixed, Unpacker: contracts. -/
import Derived.Test.YthpomdoaiibnfaaFixed2
namespace Go.Proofs.Ythpomdoaiibnfaa.Abs
open Go Go.Proofs
set_option linter.unusedVariables false
set_option linter.unusedSimpArgs false
attribute [local irreducible] wpI wpR ropK chk ASt.push ASt.put ASt.fresh ASt.kill appS

theorem subB_none (o : Own) : subB none o = o := by cases o <;> rfl
theorem App.shrink {S : ASt} {o : Own} {sz sz1 n m : Nat} (h : App S o sz sz1 n) (hm : m ≤ n) : App S o sz sz1 m := by
  rcases h with ⟨h1, h2⟩ | h
  · exact .inl ⟨h1, by omega⟩
  · exact .inr h
theorem u8_eqN {x y : UInt8} {n : Nat} (hn : y.toNat = n) (h : x = y) : (x.toNat : Int) = n := by subst h; omega
theorem u8_neN {x y : UInt8} {n : Nat} (hn : y.toNat = n) (h : ¬ x = y) : ¬ (x.toNat : Int) = n := by
  intro e
  exact h (UInt8.toNat.inj (by omega))

theorem unLine (o c : Nat) (line : List UInt8) (ob : Own) (S : ASt) (hat : RecAt S o c line ob []) (hc : c ≤ 4096) (hl : line.length ≤ c) :
    ACalls Try.prog 102 [.ptr (some (o, 0))] S fun v S' => StayX S S' [o] ob.ts ∧ BA S S' v (lineU line) ∧ RecAt S' o c [] .nil [] := by
  refine en_102 (by exact Nat.le_of_ble_eq_true rfl) ?_
  unfold rc_102
  have hlt : o < S.objs.length := by obtain ⟨sb, hob, ha⟩ := hat; exact Ob.lt hob
  refine r_reg ?_
  apply i_mov
  · exact tS0 rfl
  refine i_nil ?_
  refine r_reg ?_
  apply i_mov
  · exact tP rfl
  apply i_nckP
  · exact rfl
  apply i_fld0
  · exact rfl
  refine i_call (recFree o c line ob [] _ hat) rfl ?_
  rw [List.take_of_length_le hl]
  rintro v S1 ⟨hst1, hat1, sb1, rfl, ha1⟩
  have hr1 := ha1.rd
  apply i_mov
  · exact tS rfl
  refine i_nil ?_
  refine r_block ?_
  refine r_loopP [3] (fun m G S' => ∃ n : Nat, G = [(3, .sl ob sb1 (u8s (line.take n)))] ∧ m = n ∧ n ≤ line.length ∧ strip (line.take n) = strip line ∧ S' = S1) ?_ ?_
  · exact ⟨_, line.length, by rw [List.take_length]; rfl, rfl, Nat.le_refl _, by rw [List.take_length], rfl⟩
  rintro m G S2 ⟨n, rfl, rfl, hn, hstr, rfl⟩
  have hs1 := ha1.sz
  rcases Nat.eq_zero_or_pos m with hm | hm
  · have hz : (line.take m).length = 0 := by rw [List.length_take]; omega
    have hl2 : lineU line = line.take m ++ [10] := by rw [lineU, ← hstr, hm, strip_nil]
    have ha2 : App S2 ob 1 sb1 (line.take m).length := by
      rcases ha1.sz with h | h
      · exact ha1.shrink (by rw [hz]; omega)
      · exact ha1.shrink (by rw [hz]; omega)
    refine r_reg ?_
    apply i_mov
    · exact tS rfl
    apply i_lenM
    · exact rfl
    apply i_gtF
    · exact rfl
    · exact rfl
    · omega
    apply i_mov
    · exact tB rfl
    apply i_gF
    · exact rfl
    · exact rfl
    apply i_gF
    · exact rfl
    · exact rfl
    apply i_gF
    · exact rfl
    · exact rfl
    apply i_gF
    · exact rfl
    · exact rfl
    apply i_gF
    · exact rfl
    · exact rfl
    apply i_gF
    · exact rfl
    · exact rfl
    apply i_gF
    · exact rfl
    · exact rfl
    apply i_pickF
    · exact rfl
    · exact tB rfl
    refine i_nil ?_
    apply r_condF
    · exact rfl
    refine r_exit ?_
    refine r_reg ?_
    apply i_mov
    · exact tS rfl
    apply i_mk1
    · exact tI rfl
    · exact rfl
    refine i_appX (f := u8) (a := line.take m) (b := [10]) rfl rfl ha2 (.inl rfl) (by exact True.intro) (by simp; omega) ?_
    apply i_mov
    · exact tS rfl
    refine i_nil ?_
    refine r_ret ?_
    apply q_ret1
    · exact tS rfl
    exact ⟨by ((refine StayX.app ?_ (by (first | (intro t ht; exact new_own (by assumption) t ht) | (intro t ht; cases ht; first | exact Or.inl (List.mem_singleton.2 rfl) | (refine Or.inr ?_; first | done | ((try simp only [next_fresh, next_kill, next_push, next_put, appS_next]); omega))) | (intro t ht; exact Or.inl (by rw [ht]; exact List.mem_singleton.2 rfl)))); refine StayX.thenS ?_ (by assumption) (by (first | (intro o ho; cases ho; done) | (intro o ho; exact Or.inl ho) | (intro o ho; simp only [List.mem_cons, List.not_mem_nil, or_false] at ho ⊢; omega))); exact StayX.refl _ _ _)), ⟨_, _, by rw [hl2], by rw [hl2]; exact App.new, by have := hst1.next; (intro t ht; cases ht; first | done | ((try simp only [next_fresh, next_kill, next_push, next_put, appS_next]); omega))⟩, hat1.app Apart.nil⟩
  · obtain ⟨k, rfl⟩ : ∃ k, m = k + 1 := ⟨m - 1, by omega⟩
    have hlen : (line.take (k + 1)).length = k + 1 := by rw [List.length_take]; omega
    have ha2 : App S2 ob 1 sb1 (line.take (k + 1)).length := ha1.shrink (by rw [hlen]; omega)
    have hs2 : sb1 = 1 := by
      rcases ha1.sz with h | h
      · exact h
      · omega
    subst hs2
    have hk : (line.take (k + 1))[k]'(by omega) = line[k]'(by omega) := List.getElem_take ..
    by_cases hx : line[k]'(by omega) = 32
    · have hxn : ((line.take (k + 1))[k]'(by omega)).toNat = (32 : Int) := by rw [hk]; exact u8_eqN rfl hx
      refine r_reg ?_
      apply i_mov
      · exact tS rfl
      apply i_lenM
      · exact rfl
      apply i_gtT
      · exact rfl
      · exact rfl
      · omega
      apply i_mov
      · exact tB rfl
      apply i_gT
      · exact rfl
      apply i_mov
      · exact tS rfl
      apply i_gT
      · exact rfl
      apply i_mov
      · exact tS rfl
      apply i_gT
      · exact rfl
      apply i_lenM
      · exact rfl
      apply i_gT
      · exact rfl
      apply i_sub
      · exact rfl
      · exact rfl
      · omega
      apply i_gT
      · exact rfl
      refine i_idxM k rfl rfl (by omega) rfl (by (refine Rd.rd ?_; assumption)) (by omega) ?_
      apply i_gT
      · exact rfl
      apply i_loadM
      · exact rfl
      · (refine Rd.rd ?_; assumption)
      · omega
      · exact fun _ => rfl
      (refine ⟨by omega, ?_⟩)
      apply i_gT
      · exact rfl
      apply i_eqT
      · exact rfl
      · exact rfl
      · omega
      apply i_pickT
      · exact rfl
      · exact tB rfl
      refine i_nil ?_
      apply r_condT
      · exact rfl
      refine r_nop ?_
      refine r_block ?_
      refine r_reg ?_
      apply i_mov
      · exact tS rfl
      apply i_mov
      · exact tS rfl
      apply i_lenM
      · exact rfl
      apply i_sub
      · exact rfl
      · exact rfl
      · omega
      refine i_sliceHi k rfl (.inl rfl) (by (refine Rd.rd ?_; assumption)) rfl (by omega) (by omega) ?_
      apply i_mov
      · exact tS rfl
      refine i_nil ?_
      refine r_nop ?_
      refine r_nop ?_
      apply q_lp [3]
      · exact ⟨k, by rw [List.take_take, Nat.min_eq_left (by omega)]; rfl, rfl, by omega, by rw [← hstr]; exact (strip_step line (by omega) hx).symm, rfl⟩
      · omega
    · have hxn : ¬ ((line.take (k + 1))[k]'(by omega)).toNat = (32 : Int) := by rw [hk]; exact u8_neN rfl hx
      have hl2 : lineU line = line.take (k + 1) ++ [10] := by rw [lineU, ← hstr, strip_stop line (by omega) hx]
      refine r_reg ?_
      apply i_mov
      · exact tS rfl
      apply i_lenM
      · exact rfl
      apply i_gtT
      · exact rfl
      · exact rfl
      · omega
      apply i_mov
      · exact tB rfl
      apply i_gT
      · exact rfl
      apply i_mov
      · exact tS rfl
      apply i_gT
      · exact rfl
      apply i_mov
      · exact tS rfl
      apply i_gT
      · exact rfl
      apply i_lenM
      · exact rfl
      apply i_gT
      · exact rfl
      apply i_sub
      · exact rfl
      · exact rfl
      · omega
      apply i_gT
      · exact rfl
      refine i_idxM k rfl rfl (by omega) rfl (by (refine Rd.rd ?_; assumption)) (by omega) ?_
      apply i_gT
      · exact rfl
      apply i_loadM
      · exact rfl
      · (refine Rd.rd ?_; assumption)
      · omega
      · exact fun _ => rfl
      (refine ⟨by omega, ?_⟩)
      apply i_gT
      · exact rfl
      apply i_eqF
      · exact rfl
      · exact rfl
      · omega
      apply i_pickT
      · exact rfl
      · exact tB rfl
      refine i_nil ?_
      apply r_condF
      · exact rfl
      refine r_exit ?_
      refine r_reg ?_
      apply i_mov
      · exact tS rfl
      apply i_mk1
      · exact tI rfl
      · exact rfl
      refine i_appX (f := u8) (a := line.take (k + 1)) (b := [10]) rfl rfl ha2 (.inl rfl) (by exact True.intro) (by simp; omega) ?_
      apply i_mov
      · exact tS rfl
      refine i_nil ?_
      refine r_ret ?_
      apply q_ret1
      · exact tS rfl
      exact ⟨by ((refine StayX.app ?_ (by (first | (intro t ht; exact new_own (by assumption) t ht) | (intro t ht; cases ht; first | exact Or.inl (List.mem_singleton.2 rfl) | (refine Or.inr ?_; first | done | ((try simp only [next_fresh, next_kill, next_push, next_put, appS_next]); omega))) | (intro t ht; exact Or.inl (by rw [ht]; exact List.mem_singleton.2 rfl)))); refine StayX.thenS ?_ (by assumption) (by (first | (intro o ho; cases ho; done) | (intro o ho; exact Or.inl ho) | (intro o ho; simp only [List.mem_cons, List.not_mem_nil, or_false] at ho ⊢; omega))); exact StayX.refl _ _ _)), ⟨_, _, by rw [hl2], by rw [hl2]; exact App.new, by have := hst1.next; (intro t ht; cases ht; first | done | ((try simp only [next_fresh, next_kill, next_push, next_put, appS_next]); omega))⟩, hat1.app Apart.nil⟩

theorem unPut (o c : Nat) (line : List UInt8) (ob : Own) (o1 : Own) (s1 : Nat) (b : List UInt8) (S : ASt) (hs : s1 = 1 ∨ b = []) (hr : Rd S o1) (hap : Apart o1 ob) (hat : RecAt S o c line ob [])
    (hc0 : 0 < c) (hc : c ≤ 4096) (hb : b.length ≤ 10000) (hl : line.length < c) :
    ACalls Try.prog 101 [.ptr (some (o, 0)), .sl o1 s1 (u8s b)] S fun v S' => StayX S S' [o] ob.ts ∧
      ∃ ov sv ob', v = .sl ov sv (u8s (unOut c line b).out) ∧ App S' ov 1 sv (unOut c line b).out.length ∧ (∀ t, ov = .own t → S.next ≤ t) ∧ RecAt S' o c (unOut c line b).b ob' [] ∧ OwnNew S ob ob' ∧ Apart ov ob' := by
  refine en_101 (by exact Nat.le_of_ble_eq_true rfl) ?_
  unfold rc_101
  have hlt : o < S.objs.length := by obtain ⟨sb, hob, ha⟩ := hat; exact Ob.lt hob
  refine r_reg ?_
  apply i_mov
  · exact tS0 rfl
  refine i_nil ?_
  refine r_reg ?_
  apply i_mov
  · exact tS0 rfl
  refine i_nil ?_
  refine r_reg ?_
  apply i_mov
  · exact tS rfl
  apply i_lenM
  · exact rfl
  apply i_mov
  · exact tI rfl
  refine i_nil ?_
  refine r_block ?_
  refine r_loopP [0, 5, 8, 9, 10] (fun m G S' => ∃ (i : Nat) (ov : Own) (sv : Nat) (ob' : Own) (p : UnS), G = [(0, .ptr (some (o, 0))), (5, .sl ov sv (u8s p.out)), (8, .sl o1 s1 (u8s b)), (9, .int .i64 (b.length : Nat)), (10, .int .i64 (i : Nat))] ∧ m = b.length - i ∧ i ≤ b.length ∧ p = un c ⟨[], line⟩ (b.take i) ∧
    StayX S S' [o] ob.ts ∧ App S' ov 1 sv p.out.length ∧ (∀ t, ov = .own t → S.next ≤ t) ∧ RecAt S' o c p.b ob' [] ∧ OwnNew S ob ob' ∧ Apart ov ob') ?_ ?_
  · exact ⟨_, 0, .nil, 0, ob, ⟨[], line⟩, rfl, rfl, Nat.zero_le _, rfl, StayX.refl _ _ _, App.none, by (intro t ht; cases ht; first | done | ((try simp only [next_fresh, next_kill, next_push, next_put, appS_next]); omega)), hat, OwnNew.refl, Apart.nil⟩
  rintro m G S2 ⟨i, ov, sv, ob', p, rfl, rfl, hi, hp, hst, hav, hnv, hat2, hnew, hapv⟩
  have hplen := un_len c (b.take i) ⟨[], line⟩
  have hpb := un_b c hc0 (b.take i) ⟨[], line⟩ hl
  rw [← hp, List.length_take, Nat.min_eq_left hi] at hplen
  rw [← hp] at hpb
  simp only [List.length_nil] at hplen
  have hr2 := hr.stayo hst hap
  by_cases h : i < b.length
  · obtain rfl := sz_pos hs (by omega)
    have hstep := un_take c ⟨[], line⟩ b h
    rw [← hp] at hstep
    have hbl : (p.b ++ [b[i]]).length = p.b.length + 1 := by simp
    by_cases hx : p.b.length + 1 = c
    · simp only [unStep, if_pos hx] at hstep
      have hrl := lineU_len (p.b ++ [b[i]])
      refine r_reg ?_
      apply i_ltT
      · exact rfl
      · exact rfl
      · omega
      refine i_nil ?_
      apply r_condT
      · exact rfl
      refine r_nop ?_
      refine r_block ?_
      refine r_reg ?_
      apply i_idxM
      · exact rfl
      · exact rfl
      · exact rfl
      · exact rfl
      · (refine Rd.rd ?_; assumption)
      · omega
      apply i_loadM
      · exact rfl
      · (refine Rd.rd ?_; assumption)
      · omega
      · exact fun _ => rfl
      (refine ⟨by omega, ?_⟩)
      apply i_mov
      · exact tI rfl
      refine i_nil ?_
      refine r_reg ?_
      apply i_mov
      · exact tP rfl
      apply i_nckP
      · exact rfl
      apply i_fld0
      · exact rfl
      apply i_mov
      · exact tI rfl
      refine i_call (recHold o c p.b ob' _ b[i] _ hat2 (by omega) hc) rfl ?_
      rintro v S3 ⟨hst3, ob3, hat3, hnew3⟩
      have hrv := hav.rd
      have hav3 := hav.stayo hst3 hapv
      have hap3 := hapv.new hrv hnew3
      obtain ⟨sb3, hob3, _⟩ := id hat3
      have hn3 := hst3.next
      have hst13 : StayX S S3 [o] ob.ts := by (refine StayX.then ?_ (by assumption) (by (first | (intro o ho; cases ho; done) | (intro o ho; exact Or.inl ho) | (intro o ho; simp only [List.mem_cons, List.not_mem_nil, or_false] at ho ⊢; omega))) (by (first | (intro t ht; exact Or.inl ht) | (intro t ht; exact new_ts (by assumption) t ht) | (intro t ht; cases ht; done))); assumption)
      have hnew13 := hnew.trans hst.next hnew3
      refine i_nil ?_
      refine r_reg ?_
      apply i_mov
      · exact tP rfl
      apply i_nckP
      · exact rfl
      apply i_fld0
      · exact rfl
      apply i_fld0
      · exact rfl
      apply i_load
      · exact rfl
      · assumption
      · exact rfl
      apply i_mov
      · exact tP rfl
      apply i_nckP
      · exact rfl
      apply i_fld0
      · exact rfl
      apply i_fld0
      · exact rfl
      apply i_load
      · exact rfl
      · assumption
      · exact rfl
      apply i_eqT
      · exact rfl
      · exact rfl
      · omega
      refine i_nil ?_
      apply r_condT
      · exact rfl
      refine r_reg ?_
      apply i_mov
      · exact tS rfl
      apply i_mov
      · exact tP rfl
      refine i_call (unLine o c (p.b ++ [b[i]]) ob3 _ hat3 hc (by omega)) rfl ?_
      rintro v S4 ⟨hst4, ⟨o4, s4, rfl, ha4, hn4⟩, hat4⟩
      have hav4 := hav3.stayo hst4 hap3
      have hs4 : s4 = 1 ∨ lineU (p.b ++ [b[i]]) = [] := ha4.sz.imp id (fun h => List.length_eq_zero_iff.1 h)
      have hr4 := ha4.rd
      apply i_appX
      · exact rfl
      · exact rfl
      · assumption
      · assumption
      · (refine Rd.rd ?_; assumption)
      · omega
      apply i_mov
      · exact tS rfl
      refine i_nil ?_
      refine r_nop ?_
      refine r_nop ?_
      refine r_reg ?_
      apply i_add
      · exact rfl
      · exact rfl
      · omega
      apply i_mov
      · exact tI rfl
      refine i_nil ?_
      refine r_nop ?_
      apply q_lp [0, 5, 8, 9, 10]
      · refine ⟨i + 1, _, _, _, _, rfl, rfl, h, hstep.symm, by ((refine StayX.appN ?_ (by (first | assumption | (intro t ht; cases ht; done) | (intro t ht; cases ht; ((try simp only [next_fresh, next_kill, next_push, next_put, appS_next]); omega)))); refine StayX.then ?_ (by assumption) (by (first | (intro o ho; cases ho; done) | (intro o ho; exact Or.inl ho) | (intro o ho; simp only [List.mem_cons, List.not_mem_nil, or_false] at ho ⊢; omega))) (by (first | (intro t ht; exact Or.inl ht) | (intro t ht; exact new_ts (by assumption) t ht) | (intro t ht; cases ht; done))); assumption)), App.new, ?_, hat4.app Apart.nil, OwnNew.nil, Apart.nilR⟩
        have := hst.next; have := hst4.next; (intro t ht; cases ht; first | done | ((try simp only [next_fresh, next_kill, next_push, next_put, appS_next]); omega))
      · omega
    · simp only [unStep, if_neg hx] at hstep
      refine r_reg ?_
      apply i_ltT
      · exact rfl
      · exact rfl
      · omega
      refine i_nil ?_
      apply r_condT
      · exact rfl
      refine r_nop ?_
      refine r_block ?_
      refine r_reg ?_
      apply i_idxM
      · exact rfl
      · exact rfl
      · exact rfl
      · exact rfl
      · (refine Rd.rd ?_; assumption)
      · omega
      apply i_loadM
      · exact rfl
      · (refine Rd.rd ?_; assumption)
      · omega
      · exact fun _ => rfl
      (refine ⟨by omega, ?_⟩)
      apply i_mov
      · exact tI rfl
      refine i_nil ?_
      refine r_reg ?_
      apply i_mov
      · exact tP rfl
      apply i_nckP
      · exact rfl
      apply i_fld0
      · exact rfl
      apply i_mov
      · exact tI rfl
      refine i_call (recHold o c p.b ob' _ b[i] _ hat2 (by omega) hc) rfl ?_
      rintro v S3 ⟨hst3, ob3, hat3, hnew3⟩
      have hrv := hav.rd
      have hav3 := hav.stayo hst3 hapv
      obtain ⟨sb3, hob3, _⟩ := id hat3
      refine i_nil ?_
      refine r_reg ?_
      apply i_mov
      · exact tP rfl
      apply i_nckP
      · exact rfl
      apply i_fld0
      · exact rfl
      apply i_fld0
      · exact rfl
      apply i_load
      · exact rfl
      · assumption
      · exact rfl
      apply i_mov
      · exact tP rfl
      apply i_nckP
      · exact rfl
      apply i_fld0
      · exact rfl
      apply i_fld0
      · exact rfl
      apply i_load
      · exact rfl
      · assumption
      · exact rfl
      apply i_eqF
      · exact rfl
      · exact rfl
      · omega
      refine i_nil ?_
      apply r_condF
      · exact rfl
      refine r_nop ?_
      refine r_nop ?_
      refine r_reg ?_
      apply i_add
      · exact rfl
      · exact rfl
      · omega
      apply i_mov
      · exact tI rfl
      refine i_nil ?_
      refine r_nop ?_
      apply q_lp [0, 5, 8, 9, 10]
      · exact ⟨i + 1, _, _, _, ⟨p.out, p.b ++ [b[i]]⟩, rfl, rfl, h, hstep.symm, by ((refine StayX.then ?_ (by assumption) (by (first | (intro o ho; cases ho; done) | (intro o ho; exact Or.inl ho) | (intro o ho; simp only [List.mem_cons, List.not_mem_nil, or_false] at ho ⊢; omega))) (by (first | (intro t ht; exact Or.inl ht) | (intro t ht; exact new_ts (by assumption) t ht) | (intro t ht; cases ht; done))); assumption)), hav3, hnv, hat3, hnew.trans hst.next hnew3, hapv.new hrv hnew3⟩
      · omega
  · have e : i = b.length := by omega
    subst e
    rw [List.take_length] at hp
    refine r_reg ?_
    apply i_ltF
    · exact rfl
    · exact rfl
    · omega
    refine i_nil ?_
    apply r_condF
    · exact rfl
    refine r_exit ?_
    refine r_reg ?_
    apply i_mov
    · exact tS rfl
    apply i_mov
    · exact tS rfl
    refine i_nil ?_
    refine r_ret ?_
    apply q_ret1
    · exact tS rfl
    rw [unOut, ← hp]
    exact ⟨hst, ov, sv, ob', rfl, hav, hnv, hat2, hnew, hapv⟩

theorem unEnd_c (o c : Nat) (line : List UInt8) (ob : Own) (S : ASt) (hat : RecAt S o c line ob []) (hc : c ≤ 4096) (hl : line.length ≤ c) :
    ACalls Try.prog 100 [.ptr (some (o, 0))] S fun v S' => StayX S S' [o] ob.ts ∧ BA S S' v (unE line).out ∧ ∃ ob', RecAt S' o c [] ob' [] ∧ (ob' = ob ∨ ob' = .nil) ∧ ∀ ov sv xs, v = .sl ov sv xs → Apart ov ob' := by
  refine en_100 (by exact Nat.le_of_ble_eq_true rfl) ?_
  unfold rc_100
  obtain ⟨sb, hob, ha⟩ := id hat
  by_cases h : line = []
  · have hz : line.length = 0 := by rw [h]; rfl
    have he : unE line = ⟨[], []⟩ := by simp [unE, unEnd, h]
    rw [he]
    refine r_reg ?_
    apply i_mov
    · exact tS0 rfl
    refine i_nil ?_
    refine r_reg ?_
    apply i_mov
    · exact tP rfl
    apply i_nckP
    · exact rfl
    apply i_fld0
    · exact rfl
    apply i_fld0
    · exact rfl
    apply i_load
    · exact rfl
    · assumption
    · exact rfl
    apply i_eqT
    · exact rfl
    · exact rfl
    · omega
    refine i_nil ?_
    apply r_condT
    · exact rfl
    refine r_reg ?_
    apply i_mov
    · exact tS0 rfl
    refine i_nil ?_
    refine r_ret ?_
    refine q_kr ?_
    apply q_ret1
    · exact tS0 rfl
    exact ⟨StayX.refl _ _ _, ⟨.nil, 0, rfl, App.none, by (intro t ht; cases ht; first | done | ((try simp only [next_fresh, next_kill, next_push, next_put, appS_next]); omega))⟩, ob, by rw [← h]; exact hat, .inl rfl, by rintro ov sv xs h; cases h; exact Apart.nil⟩
  · have hpos : 0 < line.length := List.length_pos_iff.2 h
    have he : unE line = ⟨lineU line, []⟩ := by simp [unE, unEnd, h]
    rw [he]
    refine r_reg ?_
    apply i_mov
    · exact tS0 rfl
    refine i_nil ?_
    refine r_reg ?_
    apply i_mov
    · exact tP rfl
    apply i_nckP
    · exact rfl
    apply i_fld0
    · exact rfl
    apply i_fld0
    · exact rfl
    apply i_load
    · exact rfl
    · assumption
    · exact rfl
    apply i_eqF
    · exact rfl
    · exact rfl
    · omega
    refine i_nil ?_
    apply r_condF
    · exact rfl
    refine r_nop ?_
    refine r_reg ?_
    apply i_mov
    · exact tP rfl
    refine i_call (unLine o c line ob _ hat hc hl) rfl ?_
    rintro v S3 ⟨hst3, ⟨o3, s3, rfl, ha3, hn3⟩, hat3⟩
    apply i_mov
    · exact tS rfl
    refine i_nil ?_
    refine r_ret ?_
    apply q_ret1
    · exact tS rfl
    exact ⟨hst3, ⟨o3, s3, rfl, ha3, hn3⟩, .nil, hat3, .inr rfl, fun ov sv xs h => Apart.nilR⟩
end Go.Proofs.Ythpomdoaiibnfaa.Abs
