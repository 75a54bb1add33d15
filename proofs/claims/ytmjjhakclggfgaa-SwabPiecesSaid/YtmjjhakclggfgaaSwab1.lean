/- Package swab, and the document's: contracts. -/
import Derived.Test.YtmjjhakclggfgaaLib1
namespace Go.Proofs.Ytmjjhakclggfgaa.Abs
open Go Go.Proofs
set_option linter.unusedVariables false
set_option linter.unusedSimpArgs false
attribute [local irreducible] wpI wpR ropK chk ASt.push ASt.put ASt.fresh ASt.kill appS

theorem swapL_step {l : List UInt8} (h : 1 < l.length) : swapL l = l[1] :: l[0] :: swapL (l.drop 2) ∧ restL l = restL (l.drop 2) := by
  match l, h with
  | a :: b :: r, _ => exact ⟨rfl, rfl⟩
theorem swapL_stop {l : List UInt8} (h : ¬ 1 < l.length) : swapL l = [] ∧ restL l = l := by
  match l, h with
  | [], _ => exact ⟨rfl, rfl⟩
  | [a], _ => exact ⟨rfl, rfl⟩
  | a :: b :: r, h => simp at h

/-- A swab: on or not, and what it keeps. -/
def SwabAt (S : ASt) (o : Nat) (on : Bool) (kept : List UInt8) : Prop := ∃ v, S.objs[o]? = some [.bool on, v] ∧ BS S v kept
theorem SwabAt.stays {S S' : ASt} {os : List Nat} {o : Nat} {on : Bool} {kept : List UInt8} (h : SwabAt S o on kept) (hs : Stays S S' os) (ho : o ∉ os) : SwabAt S' o on kept := by
  obtain ⟨v, h1, h2⟩ := h
  exact ⟨v, Ob.stays h1 hs ho, h2.stays hs⟩

theorem sz_pos {sz : Nat} {l : List UInt8} (h : sz = 1 ∨ l = []) (hl : 0 < l.length) : sz = 1 := by
  rcases h with h | h
  · exact h
  · subst h; simp at hl
theorem swabNew (on : Bool) (S : ASt) : ACalls Try.prog 7 [.bool on] S fun v S' => v = .ptr (some (S.objs.length, 0)) ∧ Stays S S' [] ∧ S.objs.length < S'.objs.length ∧ SwabAt S' S.objs.length on [] := by
  refine en_7 (by exact Nat.le_of_ble_eq_true rfl) ?_
  unfold rc_7
  refine r_reg ?_
  apply i_mov
  · exact tP rfl
  refine i_nil ?_
  refine r_reg ?_
  apply i_mov
  · exact tB rfl
  refine i_build (cs := [.bool on, .sl .nil 0 (u8s [])]) rfl ?_
  apply i_boxA
  · exact rfl
  apply i_mov
  · exact tP rfl
  refine i_nil ?_
  refine r_ret ?_
  apply q_ret1
  · exact tP rfl
  refine ⟨rfl, by ((refine Stays.push ?_; exact Stays.refl _ _)), by rw [Ob.len_push]; omega, _, Ob.new, _, _, rfl, .inr rfl, fun _ => rfl, Rd.nil⟩

theorem swabPut (o : Nat) (on : Bool) (kept : List UInt8) (ob : Own) (sb : Nat) (b : List UInt8) (S : ASt) (hs : sb = 1 ∨ b = []) (hn : ob = .nil → b = []) (hr : Rd S ob) (hat : SwabAt S o on kept) (hb : kept.length + b.length ≤ 1000000) :
    ACalls Try.prog 8 [.ptr (some (o, 0)), .sl ob sb (u8s b)] S fun v S' => Stays S S' [o] ∧
      BA S S' v (if on then swapL (kept ++ b) else b) ∧ SwabAt S' o on (if on then restL (kept ++ b) else kept) := by
  refine en_8 (by exact Nat.le_of_ble_eq_true rfl) ?_
  unfold rc_8
  obtain ⟨_, hob, ok, sk, rfl, hk1, hk2, hk3⟩ := hat
  have hlt := Ob.lt hob
  cases on with
  | false =>
    refine r_reg ?_
    apply i_mov
    · exact tS0 rfl
    refine i_nil ?_
    refine r_reg ?_
    apply i_mov
    · exact tP rfl
    apply i_nckP
    · exact rfl
    apply i_fld0
    · exact rfl
    apply i_load
    · exact rfl
    · assumption
    · exact rfl
    apply i_notF
    · exact rfl
    refine i_nil ?_
    apply r_condT
    · exact rfl
    refine r_reg ?_
    apply i_mov
    · exact tS rfl
    refine i_call (clone ob sb b S hs hn hr (by omega)) rfl ?_
    rintro v S1 ⟨hst, hv⟩
    obtain ⟨o1, s1, rfl, h1, h2⟩ := hv
    apply i_mov
    · exact tS rfl
    refine i_nil ?_
    refine r_ret ?_
    refine q_kr ?_
    apply q_ret1
    · exact tS rfl
    exact ⟨hst.mono (by simp), ⟨o1, s1, rfl, h1, h2⟩, _, Ob.stays0 hob hst, _, _, rfl, hk1, hk2, hk3.stays hst⟩
  | true =>
    refine r_reg ?_
    apply i_mov
    · exact tS0 rfl
    refine i_nil ?_
    refine r_reg ?_
    apply i_mov
    · exact tP rfl
    apply i_nckP
    · exact rfl
    apply i_fld0
    · exact rfl
    apply i_load
    · exact rfl
    · assumption
    · exact rfl
    apply i_notT
    · exact rfl
    refine i_nil ?_
    apply r_condF
    · exact rfl
    refine r_nop ?_
    refine r_reg ?_
    apply i_mov
    · exact tS0 rfl
    refine i_nil ?_
    refine r_reg ?_
    apply i_mov
    · exact tP rfl
    apply i_nckP
    · exact rfl
    apply i_fld0
    · exact rfl
    apply i_load
    · exact rfl
    · assumption
    · exact rfl
    apply i_mov
    · exact tS rfl
    apply i_mk2
    · exact tS rfl
    · exact tS rfl
    · exact rfl
    · exact rfl
    refine i_call (concat .ro [⟨ok, sk, kept⟩, ⟨ob, sb, b⟩] S Rd.ro ?_ (by simp) ?_) rfl ?_
    · intro x hx
      simp only [List.mem_cons, List.not_mem_nil, or_false] at hx
      rcases hx with rfl | rfl
      · exact ⟨hk1, hk2, hk3⟩
      · exact ⟨hs, hn, hr⟩
    · simp [cat]; omega
    rintro v S1 ⟨hst, o6, s6, rfl, ha6, hn6⟩
    have ec : cat [⟨ok, sk, kept⟩, ⟨ob, sb, b⟩] = kept ++ b := by simp [cat]
    rw [ec] at ha6 ⊢
    simp only [if_true]
    apply i_mov
    · exact tS rfl
    refine i_nil ?_
    refine r_block ?_
    refine r_loopP [0, 5, 6] (fun m G S' => ∃ (out l : List UInt8) (o5 o6 : Own) (s5 s6 : Nat), G = [(0, .ptr (some (o, 0))), (5, .sl o5 s5 (u8s out)), (6, .sl o6 s6 (u8s l))] ∧ m = l.length ∧ swapL (kept ++ b) = out ++ swapL l ∧ restL (kept ++ b) = restL l ∧
      Stays S S' [] ∧ App S' o5 1 s5 out.length ∧ (∀ t, o5 = .own t → S.next ≤ t) ∧ Rd S' o6 ∧ (s6 = 1 ∨ l = []) ∧ (o6 = .nil → l = []) ∧ (∀ t, o5 = .own t → o6.tok ≠ some t) ∧ out.length + l.length ≤ 1000000) ?_ ?_
    · refine ⟨_, [], kept ++ b, .nil, o6, 0, s6, rfl, rfl, rfl, rfl, hst, App.none, by (intro t ht; cases ht; first | done | ((try simp only [next_fresh, next_kill, next_push, next_put, appS_next]); omega)), ha6.rd, ha6.sz.imp id (fun h => List.length_eq_zero_iff.1 h), fun h => List.length_eq_zero_iff.1 (ha6.nil h), by (first | assumption | (intro t ht h; cases ht; done) | (intro t ht h; cases h; done) | (intro t ht; cases ht; done)), by simp; omega⟩
    clear hst ha6 hn6 ec
    rintro m G S2 ⟨out, l, o5, o6, s5, s6, rfl, rfl, hsw, hre, hst, ha5, hn5, hr6, hs6, hn6, hne, hlen⟩
    have hob2 := Ob.stays0 hob hst
    by_cases hc : 1 < l.length
    · obtain rfl := sz_pos hs6 (by omega)
      obtain ⟨e1, e2⟩ := swapL_step hc
      refine r_reg ?_
      apply i_mov
      · exact tS rfl
      apply i_lenM
      · exact rfl
      apply i_gtT
      · exact rfl
      · exact rfl
      · omega
      refine i_nil ?_
      apply r_condT
      · exact rfl
      refine r_nop ?_
      refine r_block ?_
      refine r_reg ?_
      apply i_mov
      · exact tS rfl
      apply i_mov
      · exact tS rfl
      apply i_idxM 1
      · exact rfl
      · exact rfl
      · exact rfl
      · exact rfl
      · (refine Rd.rd ?_; assumption)
      · omega
      apply i_loadM
      · exact rfl
      · (refine Rd.rd ?_; assumption)
      · omega
      · exact fun _ => rfl
      (refine ⟨by omega, ?_⟩)
      apply i_mov
      · exact tS rfl
      apply i_idxM 0
      · exact rfl
      · exact rfl
      · exact rfl
      · exact rfl
      · (refine Rd.rd ?_; assumption)
      · omega
      apply i_loadM
      · exact rfl
      · (refine Rd.rd ?_; assumption)
      · omega
      · exact fun _ => rfl
      (refine ⟨by omega, ?_⟩)
      apply i_mk2B
      · exact rfl
      · exact rfl
      apply i_appX
      · exact rfl
      · exact rfl
      · assumption
      · exact Or.inl rfl
      · exact True.intro
      · (simp only [List.length_map, List.length_append, List.length_cons, List.length_nil, List.length_take, List.length_drop, List.length_replicate]; omega)
      apply i_mov
      · exact tS rfl
      refine i_nil ?_
      refine r_reg ?_
      apply i_mov
      · exact tS rfl
      apply i_sliceLo 2
      · exact rfl
      · exact Or.inl rfl
      · (refine Rd.rd ?_; (refine Rd.app ?_ (by (first | assumption | (intro t ht h; cases ht; done) | (intro t ht h; cases h; done) | (intro t ht; cases ht; done))); assumption))
      · exact rfl
      · exact rfl
      · omega
      apply i_mov
      · exact tS rfl
      refine i_nil ?_
      refine r_nop ?_
      refine r_nop ?_
      apply q_lp [0, 5, 6]
      · refine ⟨_, _, _, _, _, _, rfl, rfl, ?_, ?_, by ((refine Stays.app ?_ (by (first | assumption | (intro t ht; cases ht; done) | (intro t ht; cases ht; ((try simp only [next_fresh, next_kill, next_push, next_put, appS_next]); omega)))); assumption)), App.new, ?_, by ((refine Rd.sub ?_; refine Rd.app ?_ (by (first | assumption | (intro t ht h; cases ht; done) | (intro t ht h; cases h; done) | (intro t ht; cases ht; done))); assumption)), .inl rfl, ?_, ?_, ?_⟩
        · rw [hsw, e1, List.append_assoc]; rfl
        · rw [hre, e2]
        · have := hst.next; (intro t ht; cases ht; first | done | ((try simp only [next_fresh, next_kill, next_push, next_put, appS_next]); omega))
        · intro h; cases o6 <;> simp [subB] at h; exact absurd (hn6 rfl) (by intro h; rw [h] at hc; simp at hc)
        · intro t ht; cases ht
          intro h
          have := (Rd.sub (lo := some (RO.c (.int .i64 2))) hr6).2 _ h
          omega
        · simp; omega
      · simp; omega
    · obtain ⟨e1, e2⟩ := swapL_stop hc
      rw [hsw, e1, List.append_nil, hre, e2]
      refine r_reg ?_
      apply i_mov
      · exact tS rfl
      apply i_lenM
      · exact rfl
      apply i_gtF
      · exact rfl
      · exact rfl
      · omega
      refine i_nil ?_
      apply r_condF
      · exact rfl
      refine r_exit ?_
      refine r_reg ?_
      apply i_mov
      · exact tP rfl
      apply i_mov
      · exact tS rfl
      refine i_call (clone o6 s6 l S2 hs6 hn6 hr6 (by omega)) rfl ?_
      rintro v S3 ⟨hst3, o7, s7, rfl, ha7, hn7⟩
      apply i_nckP
      · exact rfl
      apply i_fld0
      · exact rfl
      apply i_st
      · exact rfl
      · exact tS rfl
      · exact rfl
      · ((apply Ob.stays0'; (· assumption)); assumption)
      · exact Nat.le_of_ble_eq_true rfl
      refine i_nil ?_
      refine r_reg ?_
      apply i_mov
      · exact tS rfl
      apply i_mov
      · exact tS rfl
      refine i_nil ?_
      refine r_ret ?_
      apply q_ret1
      · exact tS rfl
      refine ⟨by ((refine Stays.put ?_ (by (first | exact Or.inl (List.mem_cons_self ..) | exact Or.inl (List.mem_cons_of_mem _ (List.mem_cons_self ..)) | exact Or.inr (by simp only [Ob.len_push, Ob.len_put, appS_objs, objs_fresh, objs_kill]; omega) | exact Or.inr (by omega))); refine Stays.then0 ?_ (by assumption); refine Stays.then0 ?_ (by assumption); exact Stays.refl _ _)), ⟨o5, s5, rfl, (ha5.stays hst3).put, hn5⟩, _, Ob.put' (Ob.stays0 hob2 hst3), ?_⟩
      exact BS.stays (BA.bs ⟨o7, s7, rfl, ha7, hn7⟩) (S' := S3.put o _) (os := [o]) (by ((refine Stays.put ?_ (by (first | exact Or.inl (List.mem_cons_self ..) | exact Or.inl (List.mem_cons_of_mem _ (List.mem_cons_self ..)) | exact Or.inr (by simp only [Ob.len_push, Ob.len_put, appS_objs, objs_fresh, objs_kill]; omega) | exact Or.inr (by omega))); exact Stays.refl _ _)))

theorem swabEnd (o : Nat) (on : Bool) (kept : List UInt8) (S : ASt) (hat : SwabAt S o on kept) :
    ACalls Try.prog 9 [.ptr (some (o, 0))] S fun v S' => Stays S S' [o] ∧ BS S' v kept ∧ SwabAt S' o on [] := by
  refine en_9 (by exact Nat.le_of_ble_eq_true rfl) ?_
  unfold rc_9
  obtain ⟨_, hob, ok, sk, rfl, hk1, hk2, hk3⟩ := hat
  have hlt := Ob.lt hob
  refine r_reg ?_
  apply i_mov
  · exact tS0 rfl
  refine i_nil ?_
  refine r_reg ?_
  apply i_mov
  · exact tP rfl
  apply i_nckP
  · exact rfl
  apply i_fld0
  · exact rfl
  apply i_load
  · exact rfl
  · assumption
  · exact rfl
  apply i_mov
  · exact tS rfl
  refine i_nil ?_
  refine r_reg ?_
  apply i_mov
  · exact tP rfl
  apply i_nckP
  · exact rfl
  apply i_fld0
  · exact rfl
  apply i_st
  · exact rfl
  · exact tS0 rfl
  · exact rfl
  · assumption
  · exact Nat.le_of_ble_eq_true rfl
  refine i_nil ?_
  refine r_reg ?_
  apply i_mov
  · exact tS rfl
  apply i_mov
  · exact tS rfl
  refine i_nil ?_
  refine r_ret ?_
  apply q_ret1
  · exact tS rfl
  exact ⟨by ((refine Stays.put ?_ (by (first | exact Or.inl (List.mem_cons_self ..) | exact Or.inl (List.mem_cons_of_mem _ (List.mem_cons_self ..)) | exact Or.inr (by simp only [Ob.len_push, Ob.len_put, appS_objs, objs_fresh, objs_kill]; omega) | exact Or.inr (by omega))); exact Stays.refl _ _)), ⟨ok, sk, rfl, hk1, hk2, hk3.put⟩, _, Ob.put hlt, _, _, rfl, .inr rfl, fun _ => rfl, Rd.nil⟩
end Go.Proofs.Ytmjjhakclggfgaa.Abs
