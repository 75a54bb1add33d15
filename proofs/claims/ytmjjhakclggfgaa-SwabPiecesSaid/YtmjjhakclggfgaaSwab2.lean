/- The document's swab, and the laws' own functions: contracts. -/
import Derived.Test.YtmjjhakclggfgaaSwab1
namespace Go.Proofs.Ytmjjhakclggfgaa.Abs
open Go Go.Proofs
set_option linter.unusedVariables false
set_option linter.unusedSimpArgs false
attribute [local irreducible] wpI wpR ropK chk ASt.push ASt.put ASt.fresh ASt.kill appS

theorem refSwabPut (o : Nat) (on : Bool) (kept : List UInt8) (ob : Own) (sb : Nat) (b : List UInt8) (S : ASt) (hs : sb = 1 ∨ b = []) (hn : ob = .nil → b = []) (hr : Rd S ob) (hat : SwabAt S o on kept) (hb : kept.length + b.length ≤ 1000000) :
    ACalls Try.prog 11 [.ptr (some (o, 0)), .sl ob sb (u8s b)] S fun v S' => Stays S S' [o] ∧
      BA S S' v (if on then swapL (kept ++ b) else b) ∧ SwabAt S' o on (if on then restL (kept ++ b) else kept) := by
  refine en_11 (by exact Nat.le_of_ble_eq_true rfl) ?_
  unfold rc_11
  obtain ⟨_, hob, ok, sk, rfl, hk1, hk2, hk3⟩ := hat
  have hlt := Ob.lt hob
  cases on with
  | false =>
    refine r_reg ?_
    apply i_mov
    · exact tS0 rfl
    refine i_nil ?_
    refine r_reg ?_
    apply i_mov
    · exact tP rfl
    apply i_nckP
    · exact rfl
    apply i_fld0
    · exact rfl
    apply i_load
    · exact rfl
    · assumption
    · exact rfl
    apply i_notF
    · exact rfl
    refine i_nil ?_
    apply r_condT
    · exact rfl
    refine r_reg ?_
    apply i_mov
    · exact tS rfl
    apply i_app0M
    · exact rfl
    · exact rfl
    · assumption
    · (refine Rd.rd ?_; assumption)
    · omega
    apply i_mov
    · exact tS rfl
    refine i_nil ?_
    refine r_ret ?_
    refine q_kr ?_
    apply q_ret1
    · exact tS rfl
    exact ⟨by ((refine Stays.fresh ?_; exact Stays.refl _ _)), ⟨_, _, rfl, App.some Rd.new, by (intro t ht; cases ht; first | done | ((try simp only [next_fresh, next_kill, next_push, next_put, appS_next]); omega))⟩, _, Ob.fresh hob, _, _, rfl, hk1, hk2, hk3.fresh⟩
  | true =>
    refine r_reg ?_
    apply i_mov
    · exact tS0 rfl
    refine i_nil ?_
    refine r_reg ?_
    apply i_mov
    · exact tP rfl
    apply i_nckP
    · exact rfl
    apply i_fld0
    · exact rfl
    apply i_load
    · exact rfl
    · assumption
    · exact rfl
    apply i_notT
    · exact rfl
    refine i_nil ?_
    apply r_condF
    · exact rfl
    refine r_nop ?_
    refine r_reg ?_
    apply i_mov
    · exact tP rfl
    apply i_nckP
    · exact rfl
    apply i_fld0
    · exact rfl
    apply i_load
    · exact rfl
    · assumption
    · exact rfl
    apply i_app0M
    · exact rfl
    · exact rfl
    · assumption
    · (refine Rd.rd ?_; assumption)
    · omega
    apply i_mov
    · exact tS rfl
    apply i_appX
    · exact rfl
    · exact rfl
    · exact App.some (by exact Rd.new)
    · assumption
    · (refine Rd.rd ?_; (refine Rd.fresh ?_; assumption))
    · omega
    apply i_mov
    · exact tS rfl
    refine i_nil ?_
    refine r_reg ?_
    apply i_mov
    · exact tS0 rfl
    refine i_nil ?_
    refine r_block ?_
    refine r_loopP [0, 5, 6] (fun m G S' => ∃ (out l : List UInt8) (o6 o5 : Own) (s6 s5 : Nat), G = [(0, .ptr (some (o, 0))), (5, .sl o5 s5 (u8s l)), (6, .sl o6 s6 (u8s out))] ∧ m = l.length ∧ swapL (kept ++ b) = out ++ swapL l ∧ restL (kept ++ b) = restL l ∧
      Stays S S' [] ∧ App S' o6 1 s6 out.length ∧ (∀ t, o6 = .own t → S.next ≤ t) ∧ Rd S' o5 ∧ (s5 = 1 ∨ l = []) ∧ (o5 = .nil → l = []) ∧ (∀ t, o6 = .own t → o5.tok ≠ some t) ∧ out.length + l.length ≤ 1000000) ?_ ?_
    · refine ⟨_, [], kept ++ b, .nil, _, 0, 1, rfl, rfl, rfl, rfl, by ((refine Stays.app ?_ (by (first | assumption | (intro t ht; cases ht; done) | (intro t ht; cases ht; ((try simp only [next_fresh, next_kill, next_push, next_put, appS_next]); omega)))); refine Stays.fresh ?_; exact Stays.refl _ _)), App.none, by (intro t ht; cases ht; first | done | ((try simp only [next_fresh, next_kill, next_push, next_put, appS_next]); omega)), Rd.appN, .inl rfl, ?_, by (first | assumption | (intro t ht h; cases ht; done) | (intro t ht h; cases h; done) | (intro t ht; cases ht; done)), by simp; omega⟩
      intro h; cases h
    rintro m G S2 ⟨out, l, o6, o5, s6, s5, rfl, rfl, hsw, hre, hst, ha6, hn6, hr5, hs5, hn5, hne, hlen⟩
    have hob2 := Ob.stays0 hob hst
    by_cases hc : 1 < l.length
    · obtain rfl := sz_pos hs5 (by omega)
      obtain ⟨e1, e2⟩ := swapL_step hc
      refine r_reg ?_
      apply i_mov
      · exact tS rfl
      apply i_lenM
      · exact rfl
      apply i_geT
      · exact rfl
      · exact rfl
      · omega
      refine i_nil ?_
      apply r_condT
      · exact rfl
      refine r_nop ?_
      refine r_block ?_
      refine r_reg ?_
      apply i_mov
      · exact tS rfl
      apply i_mov
      · exact tS rfl
      apply i_idxM 1
      · exact rfl
      · exact rfl
      · exact rfl
      · exact rfl
      · (refine Rd.rd ?_; assumption)
      · omega
      apply i_loadM
      · exact rfl
      · (refine Rd.rd ?_; assumption)
      · omega
      · exact fun _ => rfl
      (refine ⟨by omega, ?_⟩)
      apply i_mov
      · exact tS rfl
      apply i_idxM 0
      · exact rfl
      · exact rfl
      · exact rfl
      · exact rfl
      · (refine Rd.rd ?_; assumption)
      · omega
      apply i_loadM
      · exact rfl
      · (refine Rd.rd ?_; assumption)
      · omega
      · exact fun _ => rfl
      (refine ⟨by omega, ?_⟩)
      apply i_mk2B
      · exact rfl
      · exact rfl
      apply i_appX
      · exact rfl
      · exact rfl
      · assumption
      · exact Or.inl rfl
      · exact True.intro
      · (simp only [List.length_map, List.length_append, List.length_cons, List.length_nil, List.length_take, List.length_drop, List.length_replicate]; omega)
      apply i_mov
      · exact tS rfl
      refine i_nil ?_
      refine r_reg ?_
      apply i_mov
      · exact tS rfl
      apply i_sliceLo 2
      · exact rfl
      · exact Or.inl rfl
      · (refine Rd.rd ?_; (refine Rd.app ?_ (by (first | assumption | (intro t ht h; cases ht; done) | (intro t ht h; cases h; done) | (intro t ht; cases ht; done))); assumption))
      · exact rfl
      · exact rfl
      · omega
      apply i_mov
      · exact tS rfl
      refine i_nil ?_
      refine r_nop ?_
      refine r_nop ?_
      apply q_lp [0, 5, 6]
      · refine ⟨_, _, _, _, _, _, rfl, rfl, ?_, ?_, by ((refine Stays.app ?_ (by (first | assumption | (intro t ht; cases ht; done) | (intro t ht; cases ht; ((try simp only [next_fresh, next_kill, next_push, next_put, appS_next]); omega)))); assumption)), App.new, ?_, by ((refine Rd.sub ?_; refine Rd.app ?_ (by (first | assumption | (intro t ht h; cases ht; done) | (intro t ht h; cases h; done) | (intro t ht; cases ht; done))); assumption)), .inl rfl, ?_, ?_, ?_⟩
        · rw [hsw, e1, List.append_assoc]; rfl
        · rw [hre, e2]
        · have := hst.next; (intro t ht; cases ht; first | done | ((try simp only [next_fresh, next_kill, next_push, next_put, appS_next]); omega))
        · intro h; cases o5 <;> simp [subB] at h; exact absurd (hn5 rfl) (by intro h; rw [h] at hc; simp at hc)
        · intro t ht; cases ht
          intro h
          have := (Rd.sub (lo := some (RO.c (.int .i64 2))) hr5).2 _ h
          omega
        · simp; omega
      · simp; omega
    · obtain ⟨e1, e2⟩ := swapL_stop hc
      rw [hsw, e1, List.append_nil, hre, e2]
      refine r_reg ?_
      apply i_mov
      · exact tS rfl
      apply i_lenM
      · exact rfl
      apply i_geF
      · exact rfl
      · exact rfl
      · omega
      refine i_nil ?_
      apply r_condF
      · exact rfl
      refine r_exit ?_
      refine r_reg ?_
      apply i_mov
      · exact tP rfl
      apply i_mov
      · exact tS rfl
      apply i_app0M
      · exact rfl
      · exact rfl
      · assumption
      · (refine Rd.rd ?_; assumption)
      · omega
      apply i_nckP
      · exact rfl
      apply i_fld0
      · exact rfl
      apply i_st
      · exact rfl
      · exact tS rfl
      · exact rfl
      · (apply Ob.fresh; assumption)
      · exact Nat.le_of_ble_eq_true rfl
      refine i_nil ?_
      refine r_reg ?_
      apply i_mov
      · exact tS rfl
      apply i_mov
      · exact tS rfl
      refine i_nil ?_
      refine r_ret ?_
      apply q_ret1
      · exact tS rfl
      simp only [if_true]
      exact ⟨by ((refine Stays.put ?_ (by (first | exact Or.inl (List.mem_cons_self ..) | exact Or.inl (List.mem_cons_of_mem _ (List.mem_cons_self ..)) | exact Or.inr (by simp only [Ob.len_push, Ob.len_put, appS_objs, objs_fresh, objs_kill]; omega) | exact Or.inr (by omega))); refine Stays.fresh ?_; refine Stays.then0 ?_ (by assumption); exact Stays.refl _ _)), ⟨o6, s6, rfl, (ha6.fresh).put, hn6⟩, _, Ob.put' (Ob.fresh hob2), _, _, rfl, .inl rfl, (by intro h; cases h), Rd.new.put⟩

theorem refSwabEnd (o : Nat) (on : Bool) (kept : List UInt8) (S : ASt) (hat : SwabAt S o on kept) :
    ACalls Try.prog 12 [.ptr (some (o, 0))] S fun v S' => Stays S S' [o] ∧ BS S' v kept ∧ SwabAt S' o on [] := by
  refine en_12 (by exact Nat.le_of_ble_eq_true rfl) ?_
  unfold rc_12
  obtain ⟨_, hob, ok, sk, rfl, hk1, hk2, hk3⟩ := hat
  have hlt := Ob.lt hob
  refine r_reg ?_
  apply i_mov
  · exact tS0 rfl
  refine i_nil ?_
  refine r_reg ?_
  apply i_mov
  · exact tP rfl
  apply i_nckP
  · exact rfl
  apply i_fld0
  · exact rfl
  apply i_load
  · exact rfl
  · assumption
  · exact rfl
  apply i_mov
  · exact tS rfl
  refine i_nil ?_
  refine r_reg ?_
  apply i_mov
  · exact tP rfl
  apply i_nckP
  · exact rfl
  apply i_fld0
  · exact rfl
  apply i_st
  · exact rfl
  · exact tS0 rfl
  · exact rfl
  · assumption
  · exact Nat.le_of_ble_eq_true rfl
  refine i_nil ?_
  refine r_reg ?_
  apply i_mov
  · exact tS rfl
  apply i_mov
  · exact tS rfl
  refine i_nil ?_
  refine r_ret ?_
  apply q_ret1
  · exact tS rfl
  exact ⟨by ((refine Stays.put ?_ (by (first | exact Or.inl (List.mem_cons_self ..) | exact Or.inl (List.mem_cons_of_mem _ (List.mem_cons_self ..)) | exact Or.inr (by simp only [Ob.len_push, Ob.len_put, appS_objs, objs_fresh, objs_kill]; omega) | exact Or.inr (by omega))); exact Stays.refl _ _)), ⟨ok, sk, rfl, hk1, hk2, hk3.put⟩, _, Ob.put hlt, _, _, rfl, .inr rfl, fun _ => rfl, Rd.nil⟩

theorem swabRuns (S : ASt) : ACalls Try.prog 3 [] S fun v S' => v = .bool true ∧ Stays S S' [] := by
  refine en_3 (by exact Nat.le_of_ble_eq_true rfl) ?_
  unfold rc_3
  refine r_reg ?_
  apply i_mov
  · exact tB rfl
  refine i_nil ?_
  refine r_reg ?_
  refine i_call (swabNew true S) rfl ?_
  rintro v S1 ⟨rfl, hst1, hlt, hat1⟩
  apply i_mov
  · exact tP rfl
  refine i_nil ?_
  refine r_reg ?_
  apply i_mov
  · exact tP rfl
  apply i_eqpS
  · exact rfl
  · exact rfl
  refine i_nil ?_
  apply r_condF
  · exact rfl
  refine r_nop ?_
  refine r_reg ?_
  apply i_mov
  · exact tP rfl
  refine i_mkR (xs := u8s [1, 2, 3]) rfl ?_
  skip
  refine i_call (swabPut _ true [] .ro 1 [1, 2, 3] _ (.inl rfl) (by intro h; cases h) Rd.ro hat1 (by simp)) rfl ?_
  rintro v S2 ⟨hst2, hv, hat2⟩
  obtain ⟨o2, s2, rfl, hs2, hn2, hr2⟩ := hv.bs
  apply i_mov
  · exact tP rfl
  apply i_mk1
  · exact tI rfl
  · exact rfl
  refine i_call (swabPut _ true _ .ro 1 [4] _ (.inl rfl) (by intro h; cases h) Rd.ro hat2 (by simp [restL])) rfl ?_
  rintro v S3 ⟨hst3, hv, hat3⟩
  obtain ⟨o3, s3, rfl, hs3, hn3, hr3⟩ := hv.bs
  apply i_mov
  · exact tP rfl
  refine i_call (swabEnd _ true _ _ hat3) rfl ?_
  rintro v S4 ⟨hst4, ⟨o4, s4, rfl, hs4, hn4, hr4⟩, hat4⟩
  apply i_mov
  · exact tS rfl
  apply i_mov
  · exact tS rfl
  apply i_mov
  · exact tS rfl
  refine i_nil ?_
  refine r_reg ?_
  apply i_mov
  · exact tS rfl
  apply i_toStr
  · exact rfl
  · assumption
  · (refine Rd.rd ?_; (refine Rd.stays ?_ (by assumption); refine Rd.stays ?_ (by assumption); assumption))
  apply i_seT
  · exact rfl
  · exact rfl
  · exact rfl
  apply i_mov
  · exact tB rfl
  apply i_gT
  · exact rfl
  apply i_mov
  · exact tS rfl
  apply i_gT
  · exact rfl
  apply i_toStr
  · exact rfl
  · assumption
  · (refine Rd.rd ?_; (refine Rd.stays ?_ (by assumption); assumption))
  apply i_gT
  · exact rfl
  apply i_seT
  · exact rfl
  · exact rfl
  · exact rfl
  apply i_pickT
  · exact rfl
  · exact tB rfl
  apply i_mov
  · exact tB rfl
  apply i_gT
  · exact rfl
  apply i_mov
  · exact tS rfl
  apply i_gT
  · exact rfl
  apply i_len0
  · exact rfl
  apply i_gT
  · exact rfl
  apply i_eqT
  · exact rfl
  · exact rfl
  · omega
  apply i_pickT
  · exact rfl
  · exact tB rfl
  apply i_mov
  · exact tB rfl
  refine i_nil ?_
  refine r_ret ?_
  apply q_ret1
  · exact tB rfl
  exact ⟨rfl, by ((refine Stays.then ?_ (by assumption) (by (first | (intro o ho; cases ho; done) | (intro o ho; exact Or.inl ho) | (intro o ho; simp only [List.mem_cons, List.not_mem_nil, or_false] at ho ⊢; omega))); refine Stays.then ?_ (by assumption) (by (first | (intro o ho; cases ho; done) | (intro o ho; exact Or.inl ho) | (intro o ho; simp only [List.mem_cons, List.not_mem_nil, or_false] at ho ⊢; omega))); refine Stays.then ?_ (by assumption) (by (first | (intro o ho; cases ho; done) | (intro o ho; exact Or.inl ho) | (intro o ho; simp only [List.mem_cons, List.not_mem_nil, or_false] at ho ⊢; omega))); assumption))⟩

/-! ### the laws' own functions -/
abbrev rov (l : List UInt8) : AV := .sl .ro 1 (u8s l)
theorem flat_take {ls : List (List UInt8)} {i : Nat} (h : i < ls.length) : (ls.take (i + 1)).flatten = (ls.take i).flatten ++ ls[i] := by
  rw [List.take_succ_eq_append_getElem h, List.flatten_append]; simp
theorem flat_le (ls : List (List UInt8)) (i : Nat) : ((ls.take i).flatten).length ≤ ls.flatten.length := by
  conv => rhs; rw [← List.take_append_drop i ls]
  rw [List.flatten_append, List.length_append]; omega
theorem flat_mem {ls : List (List UInt8)} {i : Nat} (h : i < ls.length) : (ls[i]).length ≤ ls.flatten.length := by
  have h1 := flat_take h
  have h2 := flat_le ls (i + 1)
  rw [h1, List.length_append] at h2; omega

theorem few (ls : List (List UInt8)) (S : ASt) :
    ACalls Try.prog 10 [.sl .ro 1 (ls.map rov)] S fun v S' => ∃ b, v = .bool b ∧ S' = S ∧ (b = true → ls.length ≤ 60 ∧ ls.flatten.length ≤ 3000) := by
  refine en_10 (by exact Nat.le_of_ble_eq_true rfl) ?_
  unfold rc_10
  refine r_reg ?_
  apply i_mov
  · exact tB rfl
  refine i_nil ?_
  refine r_reg ?_
  apply i_mov
  · exact tI rfl
  refine i_nil ?_
  refine r_reg ?_
  apply i_mov
  · exact tI rfl
  refine i_nil ?_
  refine r_block ?_
  refine r_loopP [0, 3, 4] (fun m G S' => ∃ i : Nat, G = [(0, .sl .ro 1 (ls.map rov)), (3, .int .i64 ((ls.take i).flatten.length : Nat)), (4, .int .i64 (i : Nat))] ∧ m = ls.length - i ∧ i ≤ ls.length ∧ i ≤ 100 ∧ (ls.take i).flatten.length ≤ 3000 * i ∧ S' = S) ?_ ?_
  · exact ⟨_, 0, rfl, rfl, Nat.zero_le _, Nat.zero_le _, by simp, rfl⟩
  rintro m G S1 ⟨i, rfl, rfl, hi, h100, hsum, rfl⟩
  by_cases hc : i < ls.length
  · by_cases h2 : i < 100
    · have hct := flat_take hc
      have hlen := congrArg List.length hct
      rw [List.length_append] at hlen
      by_cases h3 : (ls[i]).length ≤ 3000
      · refine r_reg ?_
        apply i_mov
        · exact tI rfl
        apply i_mov
        · exact tS rfl
        apply i_lenM
        · exact rfl
        apply i_ltT
        · exact rfl
        · exact rfl
        · omega
        apply i_mov
        · exact tB rfl
        apply i_gT
        · exact rfl
        apply i_mov
        · exact tI rfl
        apply i_gT
        · exact rfl
        apply i_ltT
        · exact rfl
        · exact rfl
        · omega
        apply i_pickT
        · exact rfl
        · exact tB rfl
        refine i_nil ?_
        apply r_condT
        · exact rfl
        refine r_nop ?_
        refine r_block ?_
        refine r_reg ?_
        apply i_mov
        · exact tS rfl
        apply i_mov
        · exact tI rfl
        apply i_idxM
        · exact rfl
        · exact rfl
        · exact rfl
        · exact rfl
        · exact True.intro
        · omega
        apply i_loadM
        · exact rfl
        · exact True.intro
        · omega
        · exact fun _ => rfl
        (refine ⟨by omega, ?_⟩)
        apply i_lenM
        · exact rfl
        apply i_gtF
        · exact rfl
        · exact rfl
        · omega
        refine i_nil ?_
        apply r_condF
        · exact rfl
        refine r_nop ?_
        refine r_reg ?_
        apply i_mov
        · exact tI rfl
        apply i_mov
        · exact tS rfl
        apply i_mov
        · exact tI rfl
        apply i_idxM
        · exact rfl
        · exact rfl
        · exact rfl
        · exact rfl
        · exact True.intro
        · omega
        apply i_loadM
        · exact rfl
        · exact True.intro
        · omega
        · exact fun _ => rfl
        (refine ⟨by omega, ?_⟩)
        apply i_lenM
        · exact rfl
        apply i_add
        · exact rfl
        · exact rfl
        · omega
        apply i_mov
        · exact tI rfl
        refine i_nil ?_
        refine r_nop ?_
        refine r_reg ?_
        apply i_mov
        · exact tI rfl
        apply i_add
        · exact rfl
        · exact rfl
        · omega
        apply i_mov
        · exact tI rfl
        refine i_nil ?_
        refine r_nop ?_
        apply q_l
        · exact ⟨i + 1, rfl, rfl, hc, h2, by omega, rfl⟩
        · omega
        · exact ⟨rfl, int_eq (by omega), rfl, trivial⟩
      · refine r_reg ?_
        apply i_mov
        · exact tI rfl
        apply i_mov
        · exact tS rfl
        apply i_lenM
        · exact rfl
        apply i_ltT
        · exact rfl
        · exact rfl
        · omega
        apply i_mov
        · exact tB rfl
        apply i_gT
        · exact rfl
        apply i_mov
        · exact tI rfl
        apply i_gT
        · exact rfl
        apply i_ltT
        · exact rfl
        · exact rfl
        · omega
        apply i_pickT
        · exact rfl
        · exact tB rfl
        refine i_nil ?_
        apply r_condT
        · exact rfl
        refine r_nop ?_
        refine r_block ?_
        refine r_reg ?_
        apply i_mov
        · exact tS rfl
        apply i_mov
        · exact tI rfl
        apply i_idxM
        · exact rfl
        · exact rfl
        · exact rfl
        · exact rfl
        · exact True.intro
        · omega
        apply i_loadM
        · exact rfl
        · exact True.intro
        · omega
        · exact fun _ => rfl
        (refine ⟨by omega, ?_⟩)
        apply i_lenM
        · exact rfl
        apply i_gtT
        · exact rfl
        · exact rfl
        · omega
        refine i_nil ?_
        apply r_condT
        · exact rfl
        refine r_reg ?_
        apply i_mov
        · exact tB rfl
        refine i_nil ?_
        refine r_ret ?_
        refine q_kr ?_
        refine q_br ?_
        refine q_lr ?_
        refine q_br ?_
        apply q_ret1
        · exact tB rfl
        exact ⟨false, rfl, rfl, by intro h; cases h⟩
    · refine r_reg ?_
      apply i_mov
      · exact tI rfl
      apply i_mov
      · exact tS rfl
      apply i_lenM
      · exact rfl
      apply i_ltT
      · exact rfl
      · exact rfl
      · omega
      apply i_mov
      · exact tB rfl
      apply i_gT
      · exact rfl
      apply i_mov
      · exact tI rfl
      apply i_gT
      · exact rfl
      apply i_ltF
      · exact rfl
      · exact rfl
      · omega
      apply i_pickT
      · exact rfl
      · exact tB rfl
      refine i_nil ?_
      apply r_condF
      · exact rfl
      refine r_exit ?_
      refine r_reg ?_
      apply i_mov
      · exact tS rfl
      apply i_lenM
      · exact rfl
      apply i_leF
      · exact rfl
      · exact rfl
      · omega
      apply i_mov
      · exact tB rfl
      apply i_gF
      · exact rfl
      · exact rfl
      apply i_gF
      · exact rfl
      · exact rfl
      apply i_pickF
      · exact rfl
      · exact tB rfl
      apply i_mov
      · exact tB rfl
      refine i_nil ?_
      refine r_ret ?_
      apply q_ret1
      · exact tB rfl
      exact ⟨false, rfl, rfl, by intro h; cases h⟩
  · have e : i = ls.length := by omega
    subst e
    rw [List.take_length]
    by_cases h60 : ls.length ≤ 60
    · by_cases h3 : ls.flatten.length ≤ 3000
      · refine r_reg ?_
        apply i_mov
        · exact tI rfl
        apply i_mov
        · exact tS rfl
        apply i_lenM
        · exact rfl
        apply i_ltF
        · exact rfl
        · exact rfl
        · omega
        apply i_mov
        · exact tB rfl
        apply i_gF
        · exact rfl
        · exact rfl
        apply i_gF
        · exact rfl
        · exact rfl
        apply i_pickF
        · exact rfl
        · exact tB rfl
        refine i_nil ?_
        apply r_condF
        · exact rfl
        refine r_exit ?_
        refine r_reg ?_
        apply i_mov
        · exact tS rfl
        apply i_lenM
        · exact rfl
        apply i_leT
        · exact rfl
        · exact rfl
        · omega
        apply i_mov
        · exact tB rfl
        apply i_gT
        · exact rfl
        apply i_mov
        · exact tI rfl
        apply i_gT
        · exact rfl
        apply i_leT
        · exact rfl
        · exact rfl
        · omega
        apply i_pickT
        · exact rfl
        · exact tB rfl
        apply i_mov
        · exact tB rfl
        refine i_nil ?_
        refine r_ret ?_
        apply q_ret1
        · exact tB rfl
        exact ⟨true, rfl, rfl, fun _ => ⟨h60, h3⟩⟩
      · refine r_reg ?_
        apply i_mov
        · exact tI rfl
        apply i_mov
        · exact tS rfl
        apply i_lenM
        · exact rfl
        apply i_ltF
        · exact rfl
        · exact rfl
        · omega
        apply i_mov
        · exact tB rfl
        apply i_gF
        · exact rfl
        · exact rfl
        apply i_gF
        · exact rfl
        · exact rfl
        apply i_pickF
        · exact rfl
        · exact tB rfl
        refine i_nil ?_
        apply r_condF
        · exact rfl
        refine r_exit ?_
        refine r_reg ?_
        apply i_mov
        · exact tS rfl
        apply i_lenM
        · exact rfl
        apply i_leT
        · exact rfl
        · exact rfl
        · omega
        apply i_mov
        · exact tB rfl
        apply i_gT
        · exact rfl
        apply i_mov
        · exact tI rfl
        apply i_gT
        · exact rfl
        apply i_leF
        · exact rfl
        · exact rfl
        · omega
        apply i_pickT
        · exact rfl
        · exact tB rfl
        apply i_mov
        · exact tB rfl
        refine i_nil ?_
        refine r_ret ?_
        apply q_ret1
        · exact tB rfl
        exact ⟨false, rfl, rfl, by intro h; cases h⟩
    · refine r_reg ?_
      apply i_mov
      · exact tI rfl
      apply i_mov
      · exact tS rfl
      apply i_lenM
      · exact rfl
      apply i_ltF
      · exact rfl
      · exact rfl
      · omega
      apply i_mov
      · exact tB rfl
      apply i_gF
      · exact rfl
      · exact rfl
      apply i_gF
      · exact rfl
      · exact rfl
      apply i_pickF
      · exact rfl
      · exact tB rfl
      refine i_nil ?_
      apply r_condF
      · exact rfl
      refine r_exit ?_
      refine r_reg ?_
      apply i_mov
      · exact tS rfl
      apply i_lenM
      · exact rfl
      apply i_leF
      · exact rfl
      · exact rfl
      · omega
      apply i_mov
      · exact tB rfl
      apply i_gF
      · exact rfl
      · exact rfl
      apply i_gF
      · exact rfl
      · exact rfl
      apply i_pickF
      · exact rfl
      · exact tB rfl
      apply i_mov
      · exact tB rfl
      refine i_nil ?_
      refine r_ret ?_
      apply q_ret1
      · exact tB rfl
      exact ⟨false, rfl, rfl, by intro h; cases h⟩

/-! ### all pieces through a swab -/
def swabFold (on : Bool) : List UInt8 → List (List UInt8) → List UInt8 × List UInt8
  | kept, [] => ([], kept)
  | kept, b :: r =>
    let p := if on then swapL (kept ++ b) else b
    let q := swabFold on (if on then restL (kept ++ b) else kept) r
    (p ++ q.1, q.2)
def swabAll (on : Bool) (ls : List (List UInt8)) : List UInt8 := (swabFold on [] ls).1 ++ (swabFold on [] ls).2
theorem swabFold_snoc (on : Bool) (b : List UInt8) : ∀ (ls : List (List UInt8)) (kept : List UInt8), swabFold on kept (ls ++ [b]) =
    ((swabFold on kept ls).1 ++ (if on then swapL ((swabFold on kept ls).2 ++ b) else b), if on then restL ((swabFold on kept ls).2 ++ b) else (swabFold on kept ls).2)
  | [], kept => by simp [swabFold]
  | a :: ls, kept => by simp [swabFold, swabFold_snoc on b ls]
theorem swap_len : ∀ l : List UInt8, (swapL l).length + (restL l).length = l.length
  | [] => rfl
  | [a] => rfl
  | a :: b :: r => by have := swap_len r; simp only [swapL, restL, List.length_cons]; omega
theorem rest_le (l : List UInt8) : (restL l).length ≤ 1 := by
  match l with
  | [] => simp [restL]
  | [a] => simp [restL]
  | a :: b :: r => exact rest_le r
theorem swabFold_len (on : Bool) : ∀ (ls : List (List UInt8)) (kept : List UInt8), (swabFold on kept ls).1.length + (swabFold on kept ls).2.length = kept.length + ls.flatten.length
  | [], kept => by simp [swabFold]
  | a :: ls, kept => by
    have := swabFold_len on ls (if on then restL (kept ++ a) else kept)
    have h2 := swap_len (kept ++ a)
    simp only [swabFold, List.length_append, List.flatten_cons] at *
    cases on <;> simp at * <;> omega

theorem whole (on : Bool) (o : Own) (sz : Nat) (vs : List BL) (S : ASt) (hr : Rd S o) (hx : ∀ x ∈ vs, x.ok S) (hn : vs.length ≤ 100000000) (hb : (cat vs).length ≤ 100000) :
    ACalls Try.prog 13 [.bool on, .sl o 1 (vs.map slv)] S fun v S' => v = .str (swabAll on (vs.map (·.l))) ∧ Stays S S' [] := by
  refine en_13 (by exact Nat.le_of_ble_eq_true rfl) ?_
  unfold rc_13
  refine r_reg ?_
  apply i_mov
  · exact tC rfl
  refine i_nil ?_
  refine r_reg ?_
  apply i_mov
  · exact tB rfl
  refine i_call (swabNew on S) rfl ?_
  rintro v S1 ⟨rfl, hst1, hlt, hat1⟩
  apply i_mov
  · exact tP rfl
  refine i_nil ?_
  refine r_reg ?_
  apply i_mov
  · exact tC rfl
  refine i_nil ?_
  refine r_reg ?_
  apply i_mov
  · exact tI rfl
  refine i_nil ?_
  refine r_block ?_
  refine r_loopP [1, 5, 6, 7] (fun m G S' => ∃ i : Nat, G = [(1, .sl o 1 (vs.map slv)), (5, .ptr (some (S.objs.length, 0))), (6, .str (swabFold on [] ((vs.take i).map (·.l))).1), (7, .int .i64 (i : Nat))] ∧ m = vs.length - i ∧ i ≤ vs.length ∧
     Stays S S' [] ∧ SwabAt S' S.objs.length on (swabFold on [] ((vs.take i).map (·.l))).2) ?_ ?_
  · exact ⟨_, 0, rfl, rfl, Nat.zero_le _, hst1, hat1⟩
  clear hst1 hat1 hlt
  rintro m G S2 ⟨i, rfl, rfl, hi, hst, hat⟩
  have hcl := cat_le vs i
  have hfl := swabFold_len on ((vs.take i).map (·.l)) []
  rw [show ((vs.take i).map (·.l)).flatten = cat (vs.take i) from (List.flatMap_def ..).symm, List.length_nil, Nat.zero_add] at hfl
  by_cases hc : i < vs.length
  · have hcl1 := cat_le vs (i + 1)
    have hct := congrArg List.length (cat_take hc)
    rw [List.length_append] at hct
    have hsn := swabFold_snoc on vs[i].l ((vs.take i).map (·.l)) []
    rw [show (vs.take i).map (·.l) ++ [vs[i].l] = (vs.take (i + 1)).map (·.l) by rw [List.take_succ_eq_append_getElem hc, List.map_append]; rfl] at hsn
    generalize swabFold on [] ((vs.take i).map (·.l)) = p at hat hfl hsn ⊢
    obtain ⟨hx1, hx2, hx3⟩ := hx vs[i] (List.getElem_mem hc)
    refine r_reg ?_
    apply i_mov
    · exact tI rfl
    apply i_mov
    · exact tS rfl
    apply i_lenM
    · exact rfl
    apply i_ltT
    · exact rfl
    · exact rfl
    · omega
    apply i_mov
    · exact tB rfl
    apply i_gT
    · exact rfl
    apply i_mov
    · exact tP rfl
    apply i_gT
    · exact rfl
    apply i_eqpS
    · exact rfl
    · exact rfl
    apply i_pickT
    · exact rfl
    · exact tB rfl
    refine i_nil ?_
    apply r_condT
    · exact rfl
    refine r_nop ?_
    refine r_block ?_
    refine r_reg ?_
    apply i_mov
    · exact tC rfl
    apply i_mov
    · exact tP rfl
    apply i_mov
    · exact tS rfl
    apply i_mov
    · exact tI rfl
    apply i_idxM
    · exact rfl
    · exact rfl
    · exact rfl
    · exact rfl
    · (refine Rd.rd ?_; exact Rd.stays (S := S) (by assumption) (by assumption))
    · omega
    apply i_loadM
    · exact rfl
    · (refine Rd.rd ?_; exact Rd.stays (S := S) (by assumption) (by assumption))
    · omega
    · exact fun _ => rfl
    (refine ⟨by omega, ?_⟩)
    refine i_call (swabPut _ on p.2 vs[i].o vs[i].sz vs[i].l _ hx1 hx2 (hx3.stays hst) hat (by omega)) rfl ?_
    rintro v S3 ⟨hst3, hv, hat3⟩
    have hvl : (if on = true then swapL (p.2 ++ vs[i].l) else vs[i].l).length ≤ p.2.length + vs[i].l.length := by
      have := swap_len (p.2 ++ vs[i].l)
      rw [List.length_append] at this
      cases on <;> simp <;> omega
    generalize hq : (if on = true then swapL (p.2 ++ vs[i].l) else vs[i].l) = q at hv hvl hsn
    obtain ⟨o3, s3, rfl, hs3, hn3, hr3⟩ := hv.bs
    apply i_toStr
    · exact rfl
    · assumption
    · (refine Rd.rd ?_; assumption)
    apply i_sadd
    · exact rfl
    · exact rfl
    · omega
    apply i_mov
    · exact tC rfl
    refine i_nil ?_
    refine r_nop ?_
    refine r_reg ?_
    apply i_mov
    · exact tI rfl
    apply i_add
    · exact rfl
    · exact rfl
    · omega
    apply i_mov
    · exact tI rfl
    refine i_nil ?_
    refine r_nop ?_
    apply q_lp [1, 5, 6, 7]
    · refine ⟨i + 1, ?_, rfl, hc, by ((refine Stays.then ?_ (by assumption) (by (first | (intro o ho; cases ho; done) | (intro o ho; exact Or.inl ho) | (intro o ho; simp only [List.mem_cons, List.not_mem_nil, or_false] at ho ⊢; omega))); assumption)), ?_⟩
      · rw [hsn]; rfl
      · rw [hsn]; exact hat3
    · omega
  · have e : i = vs.length := by omega
    subst e
    rw [List.take_length] at hat hfl ⊢
    unfold swabAll
    generalize swabFold on [] (vs.map (·.l)) = p at hat hfl ⊢
    refine r_reg ?_
    apply i_mov
    · exact tI rfl
    apply i_mov
    · exact tS rfl
    apply i_lenM
    · exact rfl
    apply i_ltF
    · exact rfl
    · exact rfl
    · omega
    apply i_mov
    · exact tB rfl
    apply i_gF
    · exact rfl
    · exact rfl
    apply i_gF
    · exact rfl
    · exact rfl
    apply i_pickF
    · exact rfl
    · exact tB rfl
    refine i_nil ?_
    apply r_condF
    · exact rfl
    refine r_exit ?_
    refine r_reg ?_
    apply i_mov
    · exact tP rfl
    apply i_eqpS
    · exact rfl
    · exact rfl
    refine i_nil ?_
    apply r_condT
    · exact rfl
    refine r_reg ?_
    apply i_mov
    · exact tC rfl
    apply i_mov
    · exact tP rfl
    refine i_call (swabEnd _ on _ _ hat) rfl ?_
    rintro v S3 ⟨hst3, ⟨o3, s3, rfl, hs3, hn3, hr3⟩, hat3⟩
    apply i_toStr
    · exact rfl
    · assumption
    · (refine Rd.rd ?_; assumption)
    apply i_sadd
    · exact rfl
    · exact rfl
    · omega
    apply i_mov
    · exact tC rfl
    refine i_nil ?_
    refine r_nop ?_
    refine r_reg ?_
    apply i_mov
    · exact tC rfl
    apply i_mov
    · exact tC rfl
    refine i_nil ?_
    refine r_ret ?_
    apply q_ret1
    · exact tC rfl
    exact ⟨rfl, by ((refine Stays.then ?_ (by assumption) (by (first | (intro o ho; cases ho; done) | (intro o ho; exact Or.inl ho) | (intro o ho; simp only [List.mem_cons, List.not_mem_nil, or_false] at ho ⊢; omega))); assumption))⟩
end Go.Proofs.Ytmjjhakclggfgaa.Abs
