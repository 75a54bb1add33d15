/- Package swab, and the document's swab at a place of an object: contracts that name the owners. -/
import Derived.Test.YthpomdoaiibnfaaCv1
import Derived.Test.YthpomdoaiibnfaaFixed4
namespace Go.Proofs.Ythpomdoaiibnfaa.Abs
open Go Go.Proofs
set_option linter.unusedVariables false
set_option linter.unusedSimpArgs false
attribute [local irreducible] wpI wpR ropK chk ASt.push ASt.put ASt.fresh ASt.kill appS

theorem swapL_step {l : List UInt8} (h : 1 < l.length) : swapL l = l[1] :: l[0] :: swapL (l.drop 2) ∧ restL l = restL (l.drop 2) := by
  match l, h with
  | a :: b :: r, _ => exact ⟨rfl, rfl⟩
theorem swapL_stop {l : List UInt8} (h : ¬ 1 < l.length) : swapL l = [] ∧ restL l = l := by
  match l, h with
  | [], _ => exact ⟨rfl, rfl⟩
  | [a], _ => exact ⟨rfl, rfl⟩
  | a :: b :: r, h => simp at h

/-- A swab: on or not, what it keeps, and whose that is. -/
def SwO (S : ASt) (o j : Nat) (on : Bool) (kept : List UInt8) (ok : Own) (cs : List AV) : Prop :=
  ∃ sk, S.objs[o]? = some cs ∧ cs[j]? = some (.bool on) ∧ cs[j + 1]? = some (.sl ok sk (u8s kept)) ∧ (sk = 1 ∨ kept = []) ∧ (ok = .nil → kept = []) ∧ Rd S ok
section
variable {S S' : ASt} {o j : Nat} {on : Bool} {kept : List UInt8} {ok ob2 : Own} {cs : List AV} {os : List Nat}
theorem SwO.stayx (h : SwO S o j on kept ok cs) (hs : StayX S S' os ob2.ts) (ho : o ∉ os) (hn : Apart ok ob2) : SwO S' o j on kept ok cs := by
  obtain ⟨sk, h1, h2, h3, h4, h5, h6⟩ := h
  exact ⟨sk, Ob.stayx h1 hs ho, h2, h3, h4, h5, h6.stayo hs hn⟩
theorem SwO.stays (h : SwO S o j on kept ok cs) (hs : Stays S S' os) (ho : o ∉ os) : SwO S' o j on kept ok cs := by
  obtain ⟨sk, h1, h2, h3, h4, h5, h6⟩ := h
  exact ⟨sk, Ob.stays h1 hs ho, h2, h3, h4, h5, h6.stays hs⟩
theorem SwO.rd (h : SwO S o j on kept ok cs) : Rd S ok := by
  obtain ⟨sk, h1, h2, h3, h4, h5, h6⟩ := h
  exact h6
theorem SwO.len (h : SwO S o j on kept ok cs) : j + 1 < cs.length ∧ o < S.objs.length := by
  obtain ⟨sk, h1, h2, h3, h4, h5, h6⟩ := h
  exact ⟨(List.getElem?_eq_some_iff.1 h3).1, Ob.lt h1⟩
end
theorem tok_own {S : ASt} {o : Own} {sz sz1 n m : Nat} (ha : App S o sz sz1 n) (h : ∀ t, o = .own t → m ≤ t) : ∀ t, o.tok = some t → m ≤ t := fun t ht => h t (ha.tok t ht)

theorem swNew (on : Bool) (S : ASt) : ACalls Try.prog 36 [.bool on] S fun v S' => ∃ o, v = .ptr (some (o, 0)) ∧ S.objs.length ≤ o ∧ Stays S S' [] ∧ SwO S' o 0 on [] .nil [.bool on, .sl .nil 0 (u8s [])] := by
  refine en_36 (by exact Nat.le_of_ble_eq_true rfl) ?_
  unfold rc_36
  refine r_reg ?_
  apply i_mov
  · exact tP rfl
  refine i_nil ?_
  refine r_reg ?_
  apply i_mov
  · exact tB rfl
  refine i_build (cs := [.bool on, .sl .nil 0 (u8s [])]) rfl ?_
  apply i_boxA
  · exact rfl
  apply i_mov
  · exact tP rfl
  refine i_nil ?_
  refine r_ret ?_
  apply q_ret1
  · exact tP rfl
  exact ⟨_, rfl, Nat.le_refl _, by ((refine Stays.push ?_; exact Stays.refl _ _)), _, Ob.new, rfl, rfl, .inr rfl, fun _ => rfl, Rd.nil⟩

theorem swPut (o : Nat) (on : Bool) (kept : List UInt8) (ok : Own) (cs : List AV) (ob : Own) (sb : Nat) (b : List UInt8) (S : ASt) (hs : sb = 1 ∨ b = []) (hn : ob = .nil → b = []) (hr : Rd S ob) (hat : SwO S o 0 on kept ok cs) (hb : kept.length + b.length ≤ 1000000) :
    ACalls Try.prog 40 [.ptr (some (o, 0)), .sl ob sb (u8s b)] S fun v S' => Stays S S' [o] ∧
      BA S S' v (if on then swapL (kept ++ b) else b) ∧ ∃ ok' cs', SwO S' o 0 on (if on then restL (kept ++ b) else kept) ok' cs' ∧ OwnNew S ok ok' := by
  refine en_40 (by exact Nat.le_of_ble_eq_true rfl) ?_
  unfold rc_40
  obtain ⟨hlen, hlt⟩ := hat.len
  obtain ⟨sk, hob, g0, g1, hk1, hk2, hk3⟩ := id hat
  have g1' : cs[1]? = some (.sl ok sk (u8s kept)) := g1
  cases on with
  | false =>
    refine r_reg ?_
    apply i_mov
    · exact tS0 rfl
    refine i_nil ?_
    refine r_reg ?_
    apply i_mov
    · exact tP rfl
    apply i_nckP
    · exact rfl
    apply i_fld0
    · exact rfl
    apply i_load
    · exact rfl
    · assumption
    · assumption
    apply i_notF
    · exact rfl
    refine i_nil ?_
    apply r_condT
    · exact rfl
    refine r_reg ?_
    apply i_mov
    · exact tS rfl
    refine i_call (clone ob sb b S hs hn hr (by omega)) rfl ?_
    rintro v S1 ⟨hst, hv⟩
    obtain ⟨o1, s1, rfl, h1, h2⟩ := hv
    apply i_mov
    · exact tS rfl
    refine i_nil ?_
    refine r_ret ?_
    refine q_kr ?_
    apply q_ret1
    · exact tS rfl
    exact ⟨hst.mono (by simp), ⟨o1, s1, rfl, h1, h2⟩, ok, cs, hat.stays hst (by simp), OwnNew.refl⟩
  | true =>
    refine r_reg ?_
    apply i_mov
    · exact tS0 rfl
    refine i_nil ?_
    refine r_reg ?_
    apply i_mov
    · exact tP rfl
    apply i_nckP
    · exact rfl
    apply i_fld0
    · exact rfl
    apply i_load
    · exact rfl
    · assumption
    · assumption
    apply i_notT
    · exact rfl
    refine i_nil ?_
    apply r_condF
    · exact rfl
    refine r_nop ?_
    refine r_reg ?_
    apply i_mov
    · exact tS0 rfl
    refine i_nil ?_
    refine r_reg ?_
    apply i_mov
    · exact tP rfl
    apply i_nckP
    · exact rfl
    apply i_fld0
    · exact rfl
    apply i_load
    · exact rfl
    · assumption
    · assumption
    apply i_mov
    · exact tS rfl
    apply i_mk2
    · exact tS rfl
    · exact tS rfl
    · exact rfl
    · exact rfl
    refine i_call (concat .ro [⟨ok, sk, kept⟩, ⟨ob, sb, b⟩] S Rd.ro ?_ (by simp) ?_) rfl ?_
    · intro x hx
      simp only [List.mem_cons, List.not_mem_nil, or_false] at hx
      rcases hx with rfl | rfl
      · exact ⟨hk1, hk2, hk3⟩
      · exact ⟨hs, hn, hr⟩
    · simp [cat]; omega
    rintro v S1 ⟨hst, o6, s6, rfl, ha6, hn6⟩
    have ec : cat [⟨ok, sk, kept⟩, ⟨ob, sb, b⟩] = kept ++ b := by simp [cat]
    rw [ec] at ha6 ⊢
    simp only [if_true]
    apply i_mov
    · exact tS rfl
    refine i_nil ?_
    refine r_block ?_
    refine r_loopP [0, 5, 6] (fun m G S' => ∃ (out l : List UInt8) (o5 o6 : Own) (s5 s6 : Nat), G = [(0, .ptr (some (o, 0))), (5, .sl o5 s5 (u8s out)), (6, .sl o6 s6 (u8s l))] ∧ m = l.length ∧ swapL (kept ++ b) = out ++ swapL l ∧ restL (kept ++ b) = restL l ∧
      Stays S S' [] ∧ App S' o5 1 s5 out.length ∧ (∀ t, o5 = .own t → S.next ≤ t) ∧ Rd S' o6 ∧ (s6 = 1 ∨ l = []) ∧ (o6 = .nil → l = []) ∧ (∀ t, o5 = .own t → o6.tok ≠ some t) ∧ out.length + l.length ≤ 1000000) ?_ ?_
    · refine ⟨_, [], kept ++ b, .nil, o6, 0, s6, rfl, rfl, rfl, rfl, hst, App.none, by (intro t ht; cases ht; first | done | ((try simp only [next_fresh, next_kill, next_push, next_put, appS_next]); omega)), ha6.rd, ha6.sz.imp id (fun h => List.length_eq_zero_iff.1 h), fun h => List.length_eq_zero_iff.1 (ha6.nil h), by (first | assumption | (intro t ht h; cases ht; done) | (intro t ht h; cases h; done) | (intro t ht; cases ht; done)), by simp; omega⟩
    clear hst ha6 hn6 ec
    rintro m G S2 ⟨out, l, o5, o6, s5, s6, rfl, rfl, hsw, hre, hst, ha5, hn5, hr6, hs6, hn6, hne, hlen⟩
    have hob2 := Ob.stays0 hob hst
    by_cases hc : 1 < l.length
    · obtain rfl := sz_pos hs6 (by omega)
      obtain ⟨e1, e2⟩ := swapL_step hc
      refine r_reg ?_
      apply i_mov
      · exact tS rfl
      apply i_lenM
      · exact rfl
      apply i_gtT
      · exact rfl
      · exact rfl
      · omega
      refine i_nil ?_
      apply r_condT
      · exact rfl
      refine r_nop ?_
      refine r_block ?_
      refine r_reg ?_
      apply i_mov
      · exact tS rfl
      apply i_mov
      · exact tS rfl
      apply i_idxM 1
      · exact rfl
      · exact rfl
      · exact rfl
      · exact rfl
      · (refine Rd.rd ?_; assumption)
      · omega
      apply i_loadM
      · exact rfl
      · (refine Rd.rd ?_; assumption)
      · omega
      · exact fun _ => rfl
      (refine ⟨by omega, ?_⟩)
      apply i_mov
      · exact tS rfl
      apply i_idxM 0
      · exact rfl
      · exact rfl
      · exact rfl
      · exact rfl
      · (refine Rd.rd ?_; assumption)
      · omega
      apply i_loadM
      · exact rfl
      · (refine Rd.rd ?_; assumption)
      · omega
      · exact fun _ => rfl
      (refine ⟨by omega, ?_⟩)
      apply i_mk2B
      · exact rfl
      · exact rfl
      apply i_appX
      · exact rfl
      · exact rfl
      · assumption
      · exact Or.inl rfl
      · exact True.intro
      · (simp only [List.length_map, List.length_append, List.length_cons, List.length_nil, List.length_take, List.length_drop, List.length_replicate]; omega)
      apply i_mov
      · exact tS rfl
      refine i_nil ?_
      refine r_reg ?_
      apply i_mov
      · exact tS rfl
      apply i_sliceLo 2
      · exact rfl
      · exact Or.inl rfl
      · (refine Rd.rd ?_; (refine Rd.app ?_ (by (first | assumption | (intro t ht h; cases ht; done) | (intro t ht h; cases h; done) | (intro t ht; cases ht; done))); assumption))
      · exact rfl
      · exact rfl
      · omega
      apply i_mov
      · exact tS rfl
      refine i_nil ?_
      refine r_nop ?_
      refine r_nop ?_
      apply q_lp [0, 5, 6]
      · refine ⟨_, _, _, _, _, _, rfl, rfl, ?_, ?_, by ((refine Stays.app ?_ (by (first | assumption | (intro t ht; cases ht; done) | (intro t ht; cases ht; ((try simp only [next_fresh, next_kill, next_push, next_put, appS_next]); omega)))); assumption)), App.new, ?_, by ((refine Rd.sub ?_; refine Rd.app ?_ (by (first | assumption | (intro t ht h; cases ht; done) | (intro t ht h; cases h; done) | (intro t ht; cases ht; done))); assumption)), .inl rfl, ?_, ?_, ?_⟩
        · rw [hsw, e1, List.append_assoc]; rfl
        · rw [hre, e2]
        · have := hst.next; (intro t ht; cases ht; first | done | ((try simp only [next_fresh, next_kill, next_push, next_put, appS_next]); omega))
        · intro h; cases o6 <;> simp [subB] at h; exact absurd (hn6 rfl) (by intro h; rw [h] at hc; simp at hc)
        · intro t ht; cases ht
          intro h
          have := (Rd.sub (lo := some (RO.c (.int .i64 2))) hr6).2 _ h
          omega
        · simp; omega
      · simp; omega
    · obtain ⟨e1, e2⟩ := swapL_stop hc
      rw [hsw, e1, List.append_nil, hre, e2]
      have hst2 := hst
      refine r_reg ?_
      apply i_mov
      · exact tS rfl
      apply i_lenM
      · exact rfl
      apply i_gtF
      · exact rfl
      · exact rfl
      · omega
      refine i_nil ?_
      apply r_condF
      · exact rfl
      refine r_exit ?_
      refine r_reg ?_
      apply i_mov
      · exact tP rfl
      apply i_mov
      · exact tS rfl
      refine i_call (clone o6 s6 l S2 hs6 hn6 hr6 (by omega)) rfl ?_
      rintro v S3 ⟨hst3, o7, s7, rfl, ha7, hn7⟩
      apply i_nckP
      · exact rfl
      apply i_fld0
      · exact rfl
      apply i_st
      · exact rfl
      · exact tS rfl
      · exact rfl
      · ((apply Ob.stays0'; (· assumption)); assumption)
      · omega
      refine i_nil ?_
      refine r_reg ?_
      apply i_mov
      · exact tS rfl
      apply i_mov
      · exact tS rfl
      refine i_nil ?_
      refine r_ret ?_
      apply q_ret1
      · exact tS rfl
      refine ⟨by ((refine Stays.put ?_ (by (first | exact Or.inl (List.mem_cons_self ..) | exact Or.inl (List.mem_cons_of_mem _ (List.mem_cons_self ..)) | exact Or.inr (by simp only [Ob.len_push, Ob.len_put, appS_objs, objs_fresh, objs_kill]; omega) | exact Or.inr (by omega))); refine Stays.then0 ?_ (by assumption); refine Stays.then0 ?_ (by assumption); exact Stays.refl _ _)), ⟨o5, s5, rfl, (ha5.stays hst3).put, hn5⟩, o7, _, ⟨s7, by ((apply Ob.put'; (apply Ob.stays0'; (· assumption)); assumption)), by ((apply gs_ne3; rotate_left; (· omega)); assumption), by exact gs_eq (by omega), ha7.sz.imp id (fun h => List.length_eq_zero_iff.1 h), fun h => List.length_eq_zero_iff.1 (ha7.nil h), ha7.rd.put⟩, .inr fun t ht => Nat.le_trans hst2.next (tok_own ha7 hn7 t ht)⟩

theorem swEnd (o : Nat) (on : Bool) (kept : List UInt8) (ok : Own) (cs : List AV) (S : ASt) (hat : SwO S o 0 on kept ok cs) :
    ACalls Try.prog 41 [.ptr (some (o, 0))] S fun v S' => Stays S S' [o] ∧ (∃ sk, v = .sl ok sk (u8s kept) ∧ (sk = 1 ∨ kept = []) ∧ (ok = .nil → kept = []) ∧ Rd S' ok) ∧ ∃ cs', SwO S' o 0 on [] .nil cs' := by
  refine en_41 (by exact Nat.le_of_ble_eq_true rfl) ?_
  unfold rc_41
  obtain ⟨hlen, hlt⟩ := hat.len
  obtain ⟨sk, hob, g0, g1, hk1, hk2, hk3⟩ := id hat
  have g1' : cs[1]? = some (.sl ok sk (u8s kept)) := g1
  refine r_reg ?_
  apply i_mov
  · exact tS0 rfl
  refine i_nil ?_
  refine r_reg ?_
  apply i_mov
  · exact tP rfl
  apply i_nckP
  · exact rfl
  apply i_fld0
  · exact rfl
  apply i_load
  · exact rfl
  · assumption
  · assumption
  apply i_mov
  · exact tS rfl
  refine i_nil ?_
  refine r_reg ?_
  apply i_mov
  · exact tP rfl
  apply i_nckP
  · exact rfl
  apply i_fld0
  · exact rfl
  apply i_st
  · exact rfl
  · exact tS0 rfl
  · exact rfl
  · assumption
  · omega
  refine i_nil ?_
  refine r_reg ?_
  apply i_mov
  · exact tS rfl
  apply i_mov
  · exact tS rfl
  refine i_nil ?_
  refine r_ret ?_
  apply q_ret1
  · exact tS rfl
  exact ⟨by ((refine Stays.put ?_ (by (first | exact Or.inl (List.mem_cons_self ..) | exact Or.inl (List.mem_cons_of_mem _ (List.mem_cons_self ..)) | exact Or.inr (by simp only [Ob.len_push, Ob.len_put, appS_objs, objs_fresh, objs_kill]; omega) | exact Or.inr (by omega))); exact Stays.refl _ _)), ⟨sk, rfl, hk1, hk2, hk3.put⟩, _, 0, by ((apply Ob.put'; assumption)), by ((apply gs_ne3; rotate_left; (· omega)); assumption), by exact gs_eq (by omega), .inr rfl, fun _ => rfl, Rd.nil⟩

theorem refSwPut (o j : Nat) (on : Bool) (kept : List UInt8) (ok : Own) (cs : List AV) (ob : Own) (sb : Nat) (b : List UInt8) (S : ASt) (hs : sb = 1 ∨ b = []) (hn : ob = .nil → b = []) (hr : Rd S ob) (hat : SwO S o j on kept ok cs) (hb : kept.length + b.length ≤ 1000000) :
    ACalls Try.prog 49 [.ptr (some (o, j)), .sl ob sb (u8s b)] S fun v S' => Stays S S' [o] ∧
      BA S S' v (if on then swapL (kept ++ b) else b) ∧ ∃ ok' cs', SwO S' o j on (if on then restL (kept ++ b) else kept) ok' cs' ∧ OwnNew S ok ok' ∧ Off j 2 cs cs' := by
  refine en_49 (by exact Nat.le_of_ble_eq_true rfl) ?_
  unfold rc_49
  obtain ⟨hlen, hlt⟩ := hat.len
  obtain ⟨sk, hob, g0, g1, hk1, hk2, hk3⟩ := id hat
  cases on with
  | false =>
    refine r_reg ?_
    apply i_mov
    · exact tS0 rfl
    refine i_nil ?_
    refine r_reg ?_
    apply i_mov
    · exact tP rfl
    apply i_nckP
    · exact rfl
    apply i_fldP
    · exact rfl
    apply i_load
    · exact rfl
    · assumption
    · assumption
    apply i_notF
    · exact rfl
    refine i_nil ?_
    apply r_condT
    · exact rfl
    refine r_reg ?_
    apply i_mov
    · exact tS rfl
    apply i_app0M
    · exact rfl
    · exact rfl
    · assumption
    · (refine Rd.rd ?_; assumption)
    · omega
    apply i_mov
    · exact tS rfl
    refine i_nil ?_
    refine r_ret ?_
    refine q_kr ?_
    apply q_ret1
    · exact tS rfl
    exact ⟨by ((refine Stays.fresh ?_; exact Stays.refl _ _)), ⟨_, _, rfl, App.some Rd.new, by (intro t ht; cases ht; first | done | ((try simp only [next_fresh, next_kill, next_push, next_put, appS_next]); omega))⟩, ok, cs, ⟨sk, Ob.fresh hob, g0, g1, hk1, hk2, hk3.fresh⟩, OwnNew.refl, Off.refl _ _ _⟩
  | true =>
    refine r_reg ?_
    apply i_mov
    · exact tS0 rfl
    refine i_nil ?_
    refine r_reg ?_
    apply i_mov
    · exact tP rfl
    apply i_nckP
    · exact rfl
    apply i_fldP
    · exact rfl
    apply i_load
    · exact rfl
    · assumption
    · assumption
    apply i_notT
    · exact rfl
    refine i_nil ?_
    apply r_condF
    · exact rfl
    refine r_nop ?_
    refine r_reg ?_
    apply i_mov
    · exact tP rfl
    apply i_nckP
    · exact rfl
    apply i_fldP
    · exact rfl
    apply i_load
    · exact rfl
    · assumption
    · assumption
    apply i_app0M
    · exact rfl
    · exact rfl
    · assumption
    · (refine Rd.rd ?_; assumption)
    · omega
    apply i_mov
    · exact tS rfl
    apply i_appX
    · exact rfl
    · exact rfl
    · exact App.some (by exact Rd.new)
    · assumption
    · (refine Rd.rd ?_; (refine Rd.fresh ?_; assumption))
    · omega
    apply i_mov
    · exact tS rfl
    refine i_nil ?_
    refine r_reg ?_
    apply i_mov
    · exact tS0 rfl
    refine i_nil ?_
    refine r_block ?_
    refine r_loopP [0, 5, 6] (fun m G S' => ∃ (out l : List UInt8) (o6 o5 : Own) (s6 s5 : Nat), G = [(0, .ptr (some (o, j))), (5, .sl o5 s5 (u8s l)), (6, .sl o6 s6 (u8s out))] ∧ m = l.length ∧ swapL (kept ++ b) = out ++ swapL l ∧ restL (kept ++ b) = restL l ∧
      Stays S S' [] ∧ App S' o6 1 s6 out.length ∧ (∀ t, o6 = .own t → S.next ≤ t) ∧ Rd S' o5 ∧ (s5 = 1 ∨ l = []) ∧ (o5 = .nil → l = []) ∧ (∀ t, o6 = .own t → o5.tok ≠ some t) ∧ out.length + l.length ≤ 1000000) ?_ ?_
    · refine ⟨_, [], kept ++ b, .nil, _, 0, 1, rfl, rfl, rfl, rfl, by ((refine Stays.app ?_ (by (first | assumption | (intro t ht; cases ht; done) | (intro t ht; cases ht; ((try simp only [next_fresh, next_kill, next_push, next_put, appS_next]); omega)))); refine Stays.fresh ?_; exact Stays.refl _ _)), App.none, by (intro t ht; cases ht; first | done | ((try simp only [next_fresh, next_kill, next_push, next_put, appS_next]); omega)), Rd.appN, .inl rfl, ?_, by (first | assumption | (intro t ht h; cases ht; done) | (intro t ht h; cases h; done) | (intro t ht; cases ht; done)), by simp; omega⟩
      intro h; cases h
    rintro m G S2 ⟨out, l, o6, o5, s6, s5, rfl, rfl, hsw, hre, hst, ha6, hn6, hr5, hs5, hn5, hne, hlen2⟩
    have hob2 := Ob.stays0 hob hst
    by_cases hc : 1 < l.length
    · obtain rfl := sz_pos hs5 (by omega)
      obtain ⟨e1, e2⟩ := swapL_step hc
      refine r_reg ?_
      apply i_mov
      · exact tS rfl
      apply i_lenM
      · exact rfl
      apply i_geT
      · exact rfl
      · exact rfl
      · omega
      refine i_nil ?_
      apply r_condT
      · exact rfl
      refine r_nop ?_
      refine r_block ?_
      refine r_reg ?_
      apply i_mov
      · exact tS rfl
      apply i_mov
      · exact tS rfl
      apply i_idxM 1
      · exact rfl
      · exact rfl
      · exact rfl
      · exact rfl
      · (refine Rd.rd ?_; assumption)
      · omega
      apply i_loadM
      · exact rfl
      · (refine Rd.rd ?_; assumption)
      · omega
      · exact fun _ => rfl
      (refine ⟨by omega, ?_⟩)
      apply i_mov
      · exact tS rfl
      apply i_idxM 0
      · exact rfl
      · exact rfl
      · exact rfl
      · exact rfl
      · (refine Rd.rd ?_; assumption)
      · omega
      apply i_loadM
      · exact rfl
      · (refine Rd.rd ?_; assumption)
      · omega
      · exact fun _ => rfl
      (refine ⟨by omega, ?_⟩)
      apply i_mk2B
      · exact rfl
      · exact rfl
      apply i_appX
      · exact rfl
      · exact rfl
      · assumption
      · exact Or.inl rfl
      · exact True.intro
      · (simp only [List.length_map, List.length_append, List.length_cons, List.length_nil, List.length_take, List.length_drop, List.length_replicate]; omega)
      apply i_mov
      · exact tS rfl
      refine i_nil ?_
      refine r_reg ?_
      apply i_mov
      · exact tS rfl
      apply i_sliceLo 2
      · exact rfl
      · exact Or.inl rfl
      · (refine Rd.rd ?_; (refine Rd.app ?_ (by (first | assumption | (intro t ht h; cases ht; done) | (intro t ht h; cases h; done) | (intro t ht; cases ht; done))); assumption))
      · exact rfl
      · exact rfl
      · omega
      apply i_mov
      · exact tS rfl
      refine i_nil ?_
      refine r_nop ?_
      refine r_nop ?_
      apply q_lp [0, 5, 6]
      · refine ⟨_, _, _, _, _, _, rfl, rfl, ?_, ?_, by ((refine Stays.app ?_ (by (first | assumption | (intro t ht; cases ht; done) | (intro t ht; cases ht; ((try simp only [next_fresh, next_kill, next_push, next_put, appS_next]); omega)))); assumption)), App.new, ?_, by ((refine Rd.sub ?_; refine Rd.app ?_ (by (first | assumption | (intro t ht h; cases ht; done) | (intro t ht h; cases h; done) | (intro t ht; cases ht; done))); assumption)), .inl rfl, ?_, ?_, ?_⟩
        · rw [hsw, e1, List.append_assoc]; rfl
        · rw [hre, e2]
        · have := hst.next; (intro t ht; cases ht; first | done | ((try simp only [next_fresh, next_kill, next_push, next_put, appS_next]); omega))
        · intro h; cases o5 <;> simp [subB] at h; exact absurd (hn5 rfl) (by intro h; rw [h] at hc; simp at hc)
        · intro t ht; cases ht
          intro h
          have := (Rd.sub (lo := some (RO.c (.int .i64 2))) hr5).2 _ h
          omega
        · simp; omega
      · simp; omega
    · obtain ⟨e1, e2⟩ := swapL_stop hc
      rw [hsw, e1, List.append_nil, hre, e2]
      have hn2 := hst.next
      refine r_reg ?_
      apply i_mov
      · exact tS rfl
      apply i_lenM
      · exact rfl
      apply i_geF
      · exact rfl
      · exact rfl
      · omega
      refine i_nil ?_
      apply r_condF
      · exact rfl
      refine r_exit ?_
      refine r_reg ?_
      apply i_mov
      · exact tP rfl
      apply i_mov
      · exact tS rfl
      apply i_app0M
      · exact rfl
      · exact rfl
      · assumption
      · (refine Rd.rd ?_; assumption)
      · omega
      apply i_nckP
      · exact rfl
      apply i_fldP
      · exact rfl
      apply i_st
      · exact rfl
      · exact tS rfl
      · exact rfl
      · (apply Ob.fresh; assumption)
      · omega
      refine i_nil ?_
      refine r_reg ?_
      apply i_mov
      · exact tS rfl
      apply i_mov
      · exact tS rfl
      refine i_nil ?_
      refine r_ret ?_
      apply q_ret1
      · exact tS rfl
      simp only [if_true]
      exact ⟨by ((refine Stays.put ?_ (by (first | exact Or.inl (List.mem_cons_self ..) | exact Or.inl (List.mem_cons_of_mem _ (List.mem_cons_self ..)) | exact Or.inr (by simp only [Ob.len_push, Ob.len_put, appS_objs, objs_fresh, objs_kill]; omega) | exact Or.inr (by omega))); refine Stays.fresh ?_; refine Stays.then0 ?_ (by assumption); exact Stays.refl _ _)), ⟨o6, s6, rfl, (ha6.fresh).put, hn6⟩, .own S2.next, _, ⟨1, by ((apply Ob.put'; apply Ob.fresh; assumption)), by ((apply gs_ne3; rotate_left; (· omega)); assumption), by exact gs_eq (by omega), .inl rfl, (by intro h; cases h), Rd.new.put⟩, OwnNew.ge hn2, (Off.refl _ _ _).set (by omega) (by omega)⟩

theorem refSwEnd (o j : Nat) (on : Bool) (kept : List UInt8) (ok : Own) (cs : List AV) (S : ASt) (hat : SwO S o j on kept ok cs) :
    ACalls Try.prog 51 [.ptr (some (o, j))] S fun v S' => Stays S S' [o] ∧ (∃ sk, v = .sl ok sk (u8s kept) ∧ (sk = 1 ∨ kept = []) ∧ (ok = .nil → kept = []) ∧ Rd S' ok) ∧ ∃ cs', SwO S' o j on [] .nil cs' ∧ Off j 2 cs cs' := by
  refine en_51 (by exact Nat.le_of_ble_eq_true rfl) ?_
  unfold rc_51
  obtain ⟨hlen, hlt⟩ := hat.len
  obtain ⟨sk, hob, g0, g1, hk1, hk2, hk3⟩ := id hat
  refine r_reg ?_
  apply i_mov
  · exact tS0 rfl
  refine i_nil ?_
  refine r_reg ?_
  apply i_mov
  · exact tP rfl
  apply i_nckP
  · exact rfl
  apply i_fldP
  · exact rfl
  apply i_load
  · exact rfl
  · assumption
  · assumption
  apply i_mov
  · exact tS rfl
  refine i_nil ?_
  refine r_reg ?_
  apply i_mov
  · exact tP rfl
  apply i_nckP
  · exact rfl
  apply i_fldP
  · exact rfl
  apply i_st
  · exact rfl
  · exact tS0 rfl
  · exact rfl
  · assumption
  · omega
  refine i_nil ?_
  refine r_reg ?_
  apply i_mov
  · exact tS rfl
  apply i_mov
  · exact tS rfl
  refine i_nil ?_
  refine r_ret ?_
  apply q_ret1
  · exact tS rfl
  exact ⟨by ((refine Stays.put ?_ (by (first | exact Or.inl (List.mem_cons_self ..) | exact Or.inl (List.mem_cons_of_mem _ (List.mem_cons_self ..)) | exact Or.inr (by simp only [Ob.len_push, Ob.len_put, appS_objs, objs_fresh, objs_kill]; omega) | exact Or.inr (by omega))); exact Stays.refl _ _)), ⟨sk, rfl, hk1, hk2, hk3.put⟩, _, ⟨0, by ((apply Ob.put'; assumption)), by ((apply gs_ne3; rotate_left; (· omega)); assumption), by exact gs_eq (by omega), .inr rfl, fun _ => rfl, Rd.nil⟩, (Off.refl _ _ _).set (by omega) (by omega)⟩
end Go.Proofs.Ythpomdoaiibnfaa.Abs
