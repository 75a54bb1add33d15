/- Package runs, and the document's: contracts of Runs; and of the laws' own 'same'. -/
import Derived.Test.YthgdooidleoicaaRuns1
namespace Go.Proofs.Ythgdooidleoicaa.Abs
open Go Go.Proofs
set_option linter.unusedVariables false
set_option linter.unusedSimpArgs false
attribute [local irreducible] wpI wpR ropK chk ASt.push ASt.put ASt.fresh ASt.kill appS

structure Rn where
  at_ : Nat
  len : Nat
  zero : Bool
  deriving DecidableEq
abbrev rnC (r : Rn) : List AV := [.int .i64 r.at_, .int .i64 r.len, .bool r.zero]
abbrev rnAV (r : Rn) : AV := .agg (rnC r)
def stepR (acc : List Rn) (i n : Nat) (z : Bool) : List Rn :=
  match acc.getLast? with
  | some r => if r.zero == z then acc.dropLast ++ [{ r with len := r.len + n }] else acc ++ [⟨i, n, z⟩]
  | none => acc ++ [⟨i, n, z⟩]
def runsFrom (bs : List UInt8) (u : Nat) : Nat → Nat → List Rn → List Rn
  | 0, _, acc => acc
  | f + 1, i, acc => if i < bs.length then runsFrom bs u f (i + min u (bs.length - i)) (stepR acc i (min u (bs.length - i)) (zeroL ((bs.take (i + min u (bs.length - i))).drop i))) else acc
def runsOf (bs : List UInt8) (u : Int) : List Rn := if u < 1 then [] else runsFrom bs u.toNat bs.length 0 []

theorem runsFrom_stop {bs : List UInt8} {u f i : Nat} {acc : List Rn} (h : ¬ i < bs.length) : runsFrom bs u f i acc = acc := by
  cases f with
  | zero => rfl
  | succ f => simp [runsFrom, h]
theorem stepR_nil (i n : Nat) (z : Bool) : stepR [] i n z = [⟨i, n, z⟩] := rfl
theorem stepR_same (acc : List Rn) (h : 0 < acc.length) (i n : Nat) (z : Bool) (hz : (acc[acc.length - 1]'(by omega)).zero = z) :
    stepR acc i n z = acc.set (acc.length - 1) { (acc[acc.length - 1]'(by omega)) with len := (acc[acc.length - 1]'(by omega)).len + n } := by
  obtain ⟨a, r, rfl⟩ : ∃ a r, acc = a ++ [r] := by
    rcases List.eq_nil_or_concat acc with rfl | ⟨a, r, rfl⟩
    · simp at h
    · exact ⟨a, r, by simp⟩
  simp at hz
  simp [stepR, hz]
theorem stepR_other (acc : List Rn) (h : 0 < acc.length) (i n : Nat) (z : Bool) (hz : ¬ (acc[acc.length - 1]'(by omega)).zero = z) : stepR acc i n z = acc ++ [⟨i, n, z⟩] := by
  obtain ⟨a, r, rfl⟩ : ∃ a r, acc = a ++ [r] := by
    rcases List.eq_nil_or_concat acc with rfl | ⟨a, r, rfl⟩
    · simp at h
    · exact ⟨a, r, by simp⟩
  simp at hz
  simp [stepR, hz]

theorem runs (o : Own) (sz : Nat) (bs : List UInt8) (u : Int) (S : ASt) (hs : sz = 1 ∨ bs = []) (hr : Rd S o) (hb : bs.length ≤ 1000000000) (hu1 : -9223372036854775808 ≤ u) (hu2 : u ≤ 9223372036854775807) :
    ACalls Try.prog 8 [.sl o sz (u8s bs), .int .i64 u] S fun v S' => Stays S S' [] ∧ ∃ o' sz', v = .sl o' sz' ((runsOf bs u).map rnAV) ∧ Rd S' o' ∧ (sz' = 3 ∨ runsOf bs u = []) := by
  refine en_8 (by exact Nat.le_of_ble_eq_true rfl) ?_
  unfold rc_8
  by_cases hu : u < 1
  · have e : runsOf bs u = [] := by simp [runsOf, hu]
    rw [e]
    refine r_reg ?_
    apply i_mov
    · exact tS0 rfl
    refine i_nil ?_
    refine r_reg ?_
    apply i_mov
    · exact tI rfl
    apply i_ltT
    · exact rfl
    · exact rfl
    · omega
    refine i_nil ?_
    apply r_condT
    · exact rfl
    refine r_reg ?_
    apply i_mov
    · exact tS0 rfl
    refine i_nil ?_
    refine r_ret ?_
    refine q_kr ?_
    apply q_ret1
    · exact tS0 rfl
    exact ⟨Stays.refl _ _, _, _, rfl, Rd.nil, .inr rfl⟩
  have e : runsOf bs u = runsFrom bs u.toNat bs.length 0 [] := by simp [runsOf, hu]
  refine r_reg ?_
  apply i_mov
  · exact tS0 rfl
  refine i_nil ?_
  refine r_reg ?_
  apply i_mov
  · exact tI rfl
  apply i_ltF
  · exact rfl
  · exact rfl
  · omega
  refine i_nil ?_
  apply r_condF
  · exact rfl
  refine r_nop ?_
  refine r_reg ?_
  apply i_mov
  · exact tS0 rfl
  refine i_nil ?_
  refine r_reg ?_
  apply i_mov
  · exact tI rfl
  refine i_nil ?_
  refine r_block ?_
  refine r_loopP [0, 1, 5, 6] (fun m G S' => ∃ (i f : Nat) (acc : List Rn) (o5 : Own) (s5 : Nat), G = [(0, .sl o sz (u8s bs)), (1, .int .i64 u), (5, .sl o5 s5 (acc.map rnAV)), (6, .int .i64 (i : Nat))] ∧ m = bs.length - i ∧
    i ≤ bs.length ∧ bs.length - i ≤ f ∧ acc.length ≤ i ∧ (∀ r ∈ acc, r.at_ + r.len ≤ i) ∧ runsFrom bs u.toNat f i acc = runsOf bs u ∧ Stays S S' [] ∧ App S' o5 3 s5 acc.length ∧ ∀ t, o5 = .own t → S.next ≤ t) ?_ ?_
  · exact ⟨_, 0, bs.length, [], _, _, rfl, rfl, Nat.zero_le _, by omega, Nat.le_refl _, (fun r h => by cases h), e.symm, Stays.refl _ _, App.none, by (intro t ht; cases ht; first | done | ((try simp only [next_fresh, next_kill, next_push, next_put, appS_next]); omega))⟩
  rintro m G S1 ⟨i, f, acc, o5, s5, rfl, rfl, hi, hf, hacc, hsum, hrun, hst, ha, hn⟩
  by_cases hc : i < bs.length
  · obtain ⟨f, rfl⟩ : ∃ f', f = f' + 1 := ⟨f - 1, by omega⟩
    obtain rfl : sz = 1 := by
      rcases hs with h | h
      · exact h
      · subst h; simp at hc
    have hrun' := hrun
    simp only [runsFrom, hc, if_true] at hrun'
    generalize hk : min u.toNat (bs.length - i) = n at hrun'
    have hn1 : (n : Int) = min u ((bs.length : Int) - i) := by omega
    generalize hz : zeroL ((bs.take (i + n)).drop i) = z at hrun'
    refine r_reg ?_
    apply i_mov
    · exact tI rfl
    apply i_mov
    · exact tS rfl
    apply i_lenM
    · exact rfl
    apply i_ltT
    · exact rfl
    · exact rfl
    · omega
    refine i_nil ?_
    apply r_condT
    · exact rfl
    refine r_nop ?_
    refine r_block ?_
    refine r_reg ?_
    apply i_mov
    · exact tI rfl
    apply i_mov
    · exact tS rfl
    apply i_lenM
    · exact rfl
    apply i_mov
    · exact tI rfl
    apply i_sub
    · exact rfl
    · exact rfl
    · omega
    apply i_min
    · exact rfl
    · exact rfl
    rw [← hn1]
    apply i_mov
    · exact tI rfl
    refine i_nil ?_
    refine r_reg ?_
    apply i_mov
    · exact tS rfl
    apply i_mov
    · exact tI rfl
    apply i_mov
    · exact tI rfl
    apply i_mov
    · exact tI rfl
    apply i_add
    · exact rfl
    · exact rfl
    · omega
    apply i_sliceLH
    · exact rfl
    · exact Or.inl rfl
    · (refine Rd.rd ?_; exact Rd.stays (S := S) (by assumption) (by assumption))
    · exact rfl
    · exact rfl
    · exact rfl
    · exact rfl
    · omega
    · omega
    apply i_mk1
    · exact tS rfl
    · exact rfl
    refine i_call (zero1 _ 1 _ S1 (.inl rfl) (Rd.sub (hr.stays hst)) (by simp; omega)) rfl ?_
    rintro v S2 ⟨rfl, rfl⟩
    rw [hz]
    have hfin : ∀ (acc2 : List Rn), acc2 = stepR acc i n z → acc2.length ≤ i + n ∧ (∀ r ∈ acc2, r.at_ + r.len ≤ i + n) := by
      rintro acc2 rfl
      have hnp : 0 < n := by omega
      by_cases h0 : 0 < acc.length
      · by_cases hzz : (acc[acc.length - 1]'(by omega)).zero = z
        · rw [stepR_same acc h0 i n z hzz]
          refine ⟨by rw [List.length_set]; omega, fun r hr => ?_⟩
          rcases List.mem_or_eq_of_mem_set hr with h | rfl
          · have := hsum r h; omega
          · have := hsum _ (List.getElem_mem (by omega : acc.length - 1 < acc.length))
            simp only; omega
        · rw [stepR_other acc h0 i n z hzz]
          refine ⟨by rw [List.length_append, List.length_singleton]; omega, fun r hr => ?_⟩
          rcases List.mem_append.1 hr with h | h
          · have := hsum r h; omega
          · rw [List.mem_singleton] at h; subst h; exact Nat.le_refl _
      · have e0 : acc = [] := List.length_eq_zero_iff.1 (by omega)
        subst e0
        rw [stepR_nil]
        refine ⟨by simp; omega, fun r hr => ?_⟩
        rw [List.mem_singleton] at hr; subst hr; exact Nat.le_refl _
    have hst' := hst.next
    by_cases h0 : 0 < acc.length
    · have hm : acc.length - 1 < acc.length := by omega
      rcases ha with ⟨_, h⟩ | ⟨t, rfl, hlv, hlt, rfl⟩
      · omega
      have hrd : Rd S2 (.own t) := ⟨hlv, fun u hu => by cases hu; exact hlt⟩
      have hnt := hn t rfl
      have hsm := hsum _ (List.getElem_mem hm)
      by_cases hzz : (acc[acc.length - 1]'hm).zero = z
      · have hstep := stepR_same acc h0 i n z hzz
        obtain ⟨f1, f2⟩ := hfin _ hstep.symm
        apply i_mov
        · exact tB rfl
        refine i_nil ?_
        refine r_reg ?_
        apply i_mov
        · exact tS rfl
        apply i_lenM
        · exact rfl
        apply i_sub
        · exact rfl
        · exact rfl
        · omega
        apply i_mov
        · exact tI rfl
        refine i_nil ?_
        refine r_reg ?_
        apply i_mov
        · exact tI rfl
        apply i_geT
        · exact rfl
        · exact rfl
        · omega
        apply i_mov
        · exact tB rfl
        apply i_gT
        · exact rfl
        apply i_mov
        · exact tS rfl
        apply i_gT
        · exact rfl
        apply i_mov
        · exact tI rfl
        apply i_gT
        · exact rfl
        refine i_idxM (acc.length - 1) rfl rfl (by omega) rfl (by assumption) hm ?_
        apply i_gT
        · exact rfl
        apply i_fldE0
        · exact rfl
        · assumption
        apply i_gT
        · exact rfl
        apply i_loadF
        · exact rfl
        · assumption
        · omega
        (refine ⟨by omega, ?_⟩)
        apply i_gT
        · exact rfl
        apply i_mov
        · exact tB rfl
        apply i_gT
        · exact rfl
        apply i_eqbT
        · exact rfl
        · exact rfl
        · assumption
        apply i_pickT
        · exact rfl
        · exact tB rfl
        refine i_nil ?_
        apply r_condT
        · exact rfl
        refine r_reg ?_
        apply i_mov
        · exact tS rfl
        apply i_mov
        · exact tI rfl
        refine i_idxM (acc.length - 1) rfl rfl (by omega) rfl (by assumption) hm ?_
        apply i_fldE0
        · exact rfl
        · assumption
        apply i_loadF
        · exact rfl
        · assumption
        · omega
        (refine ⟨by omega, ?_⟩)
        apply i_mov
        · exact tI rfl
        apply i_add
        · exact rfl
        · exact rfl
        · omega
        refine i_idxM (acc.length - 1) rfl rfl (by omega) rfl (by assumption) hm ?_
        apply i_fldE0
        · exact rfl
        · assumption
        refine i_stEM (z := { (acc[acc.length - 1]'hm) with len := (acc[acc.length - 1]'hm).len + n }) rfl (tI rfl) rfl hlv rfl (by decide) hm ?_ ?_
        · rw [map_getD hm]; rfl
        refine i_nil ?_
        refine r_nop ?_
        refine r_reg ?_
        apply i_mov
        · exact tI rfl
        apply i_mov
        · exact tI rfl
        apply i_add
        · exact rfl
        · exact rfl
        · omega
        apply i_mov
        · exact tI rfl
        refine i_nil ?_
        refine r_nop ?_
        refine r_nop ?_
        apply q_lp [0, 1, 5, 6]
        · exact ⟨i + n, f, _, _, _, rfl, rfl, by omega, by omega, f1, f2, by rw [← hstep]; exact hrun', by (refine Stays.fresh ?_; refine Stays.kill ?_ (by ((try simp only [next_fresh, next_kill, next_push, next_put, appS_next]); omega)); assumption), App.some (by exact Rd.newK), by (intro t ht; cases ht; first | done | ((try simp only [next_fresh, next_kill, next_push, next_put, appS_next]); omega))⟩
        · omega
      · have hstep := stepR_other acc h0 i n z hzz
        obtain ⟨f1, f2⟩ := hfin _ hstep.symm
        apply i_mov
        · exact tB rfl
        refine i_nil ?_
        refine r_reg ?_
        apply i_mov
        · exact tS rfl
        apply i_lenM
        · exact rfl
        apply i_sub
        · exact rfl
        · exact rfl
        · omega
        apply i_mov
        · exact tI rfl
        refine i_nil ?_
        refine r_reg ?_
        apply i_mov
        · exact tI rfl
        apply i_geT
        · exact rfl
        · exact rfl
        · omega
        apply i_mov
        · exact tB rfl
        apply i_gT
        · exact rfl
        apply i_mov
        · exact tS rfl
        apply i_gT
        · exact rfl
        apply i_mov
        · exact tI rfl
        apply i_gT
        · exact rfl
        refine i_idxM (acc.length - 1) rfl rfl (by omega) rfl (by assumption) hm ?_
        apply i_gT
        · exact rfl
        apply i_fldE0
        · exact rfl
        · assumption
        apply i_gT
        · exact rfl
        apply i_loadF
        · exact rfl
        · assumption
        · omega
        (refine ⟨by omega, ?_⟩)
        apply i_gT
        · exact rfl
        apply i_mov
        · exact tB rfl
        apply i_gT
        · exact rfl
        apply i_eqbF
        · exact rfl
        · exact rfl
        · assumption
        apply i_pickT
        · exact rfl
        · exact tB rfl
        refine i_nil ?_
        apply r_condF
        · exact rfl
        refine r_reg ?_
        apply i_mov
        · exact tS rfl
        apply i_mov
        · exact tI rfl
        apply i_mov
        · exact tI rfl
        apply i_mov
        · exact tB rfl
        refine i_build (cs := rnC ⟨i, n, z⟩) rfl ?_
        refine i_mkR (xs := List.map rnAV [⟨i, n, z⟩]) rfl ?_
        apply i_appX
        · exact rfl
        · exact rfl
        · exact App.some (by assumption)
        · exact Or.inl rfl
        · exact True.intro
        · (simp only [List.length_map, List.length_append, List.length_cons, List.length_nil, List.length_take, List.length_drop, List.length_replicate]; omega)
        apply i_mov
        · exact tS rfl
        refine i_nil ?_
        refine r_nop ?_
        refine r_reg ?_
        apply i_mov
        · exact tI rfl
        apply i_mov
        · exact tI rfl
        apply i_add
        · exact rfl
        · exact rfl
        · omega
        apply i_mov
        · exact tI rfl
        refine i_nil ?_
        refine r_nop ?_
        refine r_nop ?_
        apply q_lp [0, 1, 5, 6]
        · exact ⟨i + n, f, _, _, _, rfl, rfl, by omega, by omega, f1, f2, by rw [← hstep]; exact hrun', by (refine Stays.app ?_ (by (first | assumption | (intro t ht; cases ht; done) | (intro t ht; cases ht; ((try simp only [next_fresh, next_kill, next_push, next_put, appS_next]); omega)))); assumption), App.new, by (intro t ht; cases ht; first | done | ((try simp only [next_fresh, next_kill, next_push, next_put, appS_next]); omega))⟩
        · omega
    · have e0 : acc = [] := List.length_eq_zero_iff.1 (by omega)
      subst e0
      rcases ha with ⟨rfl, _⟩ | ⟨t, rfl, hlv, hlt, rfl⟩
      · have hstep := stepR_nil i n z
        obtain ⟨f1, f2⟩ := hfin _ hstep.symm
        apply i_mov
        · exact tB rfl
        refine i_nil ?_
        refine r_reg ?_
        apply i_mov
        · exact tS rfl
        apply i_len0
        · exact rfl
        apply i_sub
        · exact rfl
        · exact rfl
        · omega
        apply i_mov
        · exact tI rfl
        refine i_nil ?_
        refine r_reg ?_
        apply i_mov
        · exact tI rfl
        apply i_geF
        · exact rfl
        · exact rfl
        · omega
        apply i_mov
        · exact tB rfl
        apply i_gF
        · exact rfl
        · exact rfl
        apply i_gF
        · exact rfl
        · exact rfl
        apply i_gF
        · exact rfl
        · exact rfl
        apply i_gF
        · exact rfl
        · exact rfl
        apply i_gF
        · exact rfl
        · exact rfl
        apply i_gF
        · exact rfl
        · exact rfl
        apply i_gF
        · exact rfl
        · exact rfl
        apply i_pickF
        · exact rfl
        · exact tB rfl
        refine i_nil ?_
        apply r_condF
        · exact rfl
        refine r_reg ?_
        apply i_mov
        · exact tS rfl
        apply i_mov
        · exact tI rfl
        apply i_mov
        · exact tI rfl
        apply i_mov
        · exact tB rfl
        refine i_build (cs := rnC ⟨i, n, z⟩) rfl ?_
        refine i_mkR (xs := List.map rnAV [⟨i, n, z⟩]) rfl ?_
        apply i_app0M
        · exact rfl
        · exact rfl
        · exact Or.inl rfl
        · exact True.intro
        · omega
        apply i_mov
        · exact tS rfl
        refine i_nil ?_
        refine r_nop ?_
        refine r_reg ?_
        apply i_mov
        · exact tI rfl
        apply i_mov
        · exact tI rfl
        apply i_add
        · exact rfl
        · exact rfl
        · omega
        apply i_mov
        · exact tI rfl
        refine i_nil ?_
        refine r_nop ?_
        refine r_nop ?_
        apply q_lp [0, 1, 5, 6]
        · exact ⟨i + n, f, [⟨i, n, z⟩], _, _, rfl, rfl, by omega, by omega, f1, f2, by rw [← hstep]; exact hrun', by (refine Stays.fresh ?_; assumption), App.some (by exact Rd.new), by (intro t ht; cases ht; first | done | ((try simp only [next_fresh, next_kill, next_push, next_put, appS_next]); omega))⟩
        · omega
      · have hstep := stepR_nil i n z
        obtain ⟨f1, f2⟩ := hfin _ hstep.symm
        have hrd : Rd S2 (.own t) := ⟨hlv, fun u hu => by cases hu; exact hlt⟩
        apply i_mov
        · exact tB rfl
        refine i_nil ?_
        refine r_reg ?_
        apply i_mov
        · exact tS rfl
        apply i_len0
        · exact rfl
        apply i_sub
        · exact rfl
        · exact rfl
        · omega
        apply i_mov
        · exact tI rfl
        refine i_nil ?_
        refine r_reg ?_
        apply i_mov
        · exact tI rfl
        apply i_geF
        · exact rfl
        · exact rfl
        · omega
        apply i_mov
        · exact tB rfl
        apply i_gF
        · exact rfl
        · exact rfl
        apply i_gF
        · exact rfl
        · exact rfl
        apply i_gF
        · exact rfl
        · exact rfl
        apply i_gF
        · exact rfl
        · exact rfl
        apply i_gF
        · exact rfl
        · exact rfl
        apply i_gF
        · exact rfl
        · exact rfl
        apply i_gF
        · exact rfl
        · exact rfl
        apply i_pickF
        · exact rfl
        · exact tB rfl
        refine i_nil ?_
        apply r_condF
        · exact rfl
        refine r_reg ?_
        apply i_mov
        · exact tS rfl
        apply i_mov
        · exact tI rfl
        apply i_mov
        · exact tI rfl
        apply i_mov
        · exact tB rfl
        refine i_build (cs := rnC ⟨i, n, z⟩) rfl ?_
        refine i_mkR (xs := List.map rnAV [⟨i, n, z⟩]) rfl ?_
        apply i_appX
        · exact rfl
        · exact rfl
        · exact App.some (by assumption)
        · exact Or.inl rfl
        · exact True.intro
        · omega
        apply i_mov
        · exact tS rfl
        refine i_nil ?_
        refine r_nop ?_
        refine r_reg ?_
        apply i_mov
        · exact tI rfl
        apply i_mov
        · exact tI rfl
        apply i_add
        · exact rfl
        · exact rfl
        · omega
        apply i_mov
        · exact tI rfl
        refine i_nil ?_
        refine r_nop ?_
        refine r_nop ?_
        apply q_lp [0, 1, 5, 6]
        · exact ⟨i + n, f, [⟨i, n, z⟩], _, _, rfl, rfl, by omega, by omega, f1, f2, by rw [← hstep]; exact hrun', by (refine Stays.app ?_ (by (first | assumption | (intro t ht; cases ht; done) | (intro t ht; cases ht; ((try simp only [next_fresh, next_kill, next_push, next_put, appS_next]); omega)))); assumption), App.new, by (intro t ht; cases ht; first | done | ((try simp only [next_fresh, next_kill, next_push, next_put, appS_next]); omega))⟩
        · omega
  · rw [runsFrom_stop hc] at hrun
    subst hrun
    refine r_reg ?_
    apply i_mov
    · exact tI rfl
    apply i_mov
    · exact tS rfl
    apply i_lenM
    · exact rfl
    apply i_ltF
    · exact rfl
    · exact rfl
    · omega
    refine i_nil ?_
    apply r_condF
    · exact rfl
    refine r_exit ?_
    refine r_reg ?_
    apply i_mov
    · exact tS rfl
    apply i_mov
    · exact tS rfl
    refine i_nil ?_
    refine r_ret ?_
    apply q_ret1
    · exact tS rfl
    refine ⟨hst, _, _, rfl, ha.rd, ?_⟩
    rcases ha with ⟨_, h⟩ | ⟨t, _, _, _, h⟩
    · exact .inr (List.length_eq_zero_iff.1 h)
    · exact .inl h

theorem refRuns (o : Own) (sz : Nat) (bs : List UInt8) (u : Int) (S : ASt) (hs : sz = 1 ∨ bs = []) (hr : Rd S o) (hb : bs.length ≤ 1000000000) (hu1 : -9223372036854775808 ≤ u) (hu2 : u ≤ 9223372036854775807) :
    ACalls Try.prog 13 [.sl o sz (u8s bs), .int .i64 u] S fun v S' => Stays S S' [] ∧ ∃ o' sz', v = .sl o' sz' ((runsOf bs u).map rnAV) ∧ Rd S' o' ∧ (sz' = 3 ∨ runsOf bs u = []) := by
  refine en_13 (by exact Nat.le_of_ble_eq_true rfl) ?_
  unfold rc_13
  by_cases hu : u < 1
  · have e : runsOf bs u = [] := by simp [runsOf, hu]
    rw [e]
    refine r_reg ?_
    apply i_mov
    · exact tS0 rfl
    refine i_nil ?_
    refine r_reg ?_
    apply i_mov
    · exact tS0 rfl
    refine i_nil ?_
    refine r_reg ?_
    apply i_mov
    · exact tI rfl
    apply i_ltT
    · exact rfl
    · exact rfl
    · omega
    refine i_nil ?_
    apply r_condT
    · exact rfl
    refine r_reg ?_
    apply i_mov
    · exact tS0 rfl
    apply i_mov
    · exact tS0 rfl
    refine i_nil ?_
    refine r_ret ?_
    refine q_kr ?_
    apply q_ret1
    · exact tS0 rfl
    exact ⟨Stays.refl _ _, _, _, rfl, Rd.nil, .inr rfl⟩
  have e : runsOf bs u = runsFrom bs u.toNat bs.length 0 [] := by simp [runsOf, hu]
  refine r_reg ?_
  apply i_mov
  · exact tS0 rfl
  refine i_nil ?_
  refine r_reg ?_
  apply i_mov
  · exact tS0 rfl
  refine i_nil ?_
  refine r_reg ?_
  apply i_mov
  · exact tI rfl
  apply i_ltF
  · exact rfl
  · exact rfl
  · omega
  refine i_nil ?_
  apply r_condF
  · exact rfl
  refine r_nop ?_
  refine r_reg ?_
  apply i_mov
  · exact tI rfl
  refine i_nil ?_
  refine r_block ?_
  refine r_loopP [0, 1, 5, 6] (fun m G S' => ∃ (i f : Nat) (acc : List Rn) (o5 : Own) (s5 : Nat), G = [(0, .sl o sz (u8s bs)), (1, .int .i64 u), (5, .sl o5 s5 (acc.map rnAV)), (6, .int .i64 (i : Nat))] ∧ m = bs.length - i ∧
    i ≤ bs.length ∧ bs.length - i ≤ f ∧ acc.length ≤ i ∧ (∀ r ∈ acc, r.at_ + r.len ≤ i) ∧ runsFrom bs u.toNat f i acc = runsOf bs u ∧ Stays S S' [] ∧ App S' o5 3 s5 acc.length ∧ ∀ t, o5 = .own t → S.next ≤ t) ?_ ?_
  · exact ⟨_, 0, bs.length, [], _, _, rfl, rfl, Nat.zero_le _, by omega, Nat.le_refl _, (fun r h => by cases h), e.symm, Stays.refl _ _, App.none, by (intro t ht; cases ht; first | done | ((try simp only [next_fresh, next_kill, next_push, next_put, appS_next]); omega))⟩
  rintro m G S1 ⟨i, f, acc, o5, s5, rfl, rfl, hi, hf, hacc, hsum, hrun, hst, ha, hn⟩
  by_cases hc : i < bs.length
  · obtain ⟨f, rfl⟩ : ∃ f', f = f' + 1 := ⟨f - 1, by omega⟩
    obtain rfl : sz = 1 := by
      rcases hs with h | h
      · exact h
      · subst h; simp at hc
    have hrun' := hrun
    simp only [runsFrom, hc, if_true] at hrun'
    generalize hk : min u.toNat (bs.length - i) = n at hrun'
    have hn1 : (n : Int) = min u ((bs.length : Int) - i) := by omega
    generalize hz : zeroL ((bs.take (i + n)).drop i) = z at hrun'
    refine r_reg ?_
    apply i_mov
    · exact tI rfl
    apply i_mov
    · exact tS rfl
    apply i_lenM
    · exact rfl
    apply i_ltT
    · exact rfl
    · exact rfl
    · omega
    refine i_nil ?_
    apply r_condT
    · exact rfl
    refine r_nop ?_
    refine r_block ?_
    refine r_reg ?_
    apply i_mov
    · exact tI rfl
    apply i_mov
    · exact tS rfl
    apply i_lenM
    · exact rfl
    apply i_mov
    · exact tI rfl
    apply i_sub
    · exact rfl
    · exact rfl
    · omega
    apply i_min
    · exact rfl
    · exact rfl
    rw [← hn1]
    apply i_mov
    · exact tI rfl
    refine i_nil ?_
    refine r_reg ?_
    apply i_mov
    · exact tS rfl
    apply i_mov
    · exact tI rfl
    apply i_mov
    · exact tI rfl
    apply i_mov
    · exact tI rfl
    apply i_add
    · exact rfl
    · exact rfl
    · omega
    apply i_sliceLH
    · exact rfl
    · exact Or.inl rfl
    · (refine Rd.rd ?_; exact Rd.stays (S := S) (by assumption) (by assumption))
    · exact rfl
    · exact rfl
    · exact rfl
    · exact rfl
    · omega
    · omega
    refine i_call (refZero _ 1 _ S1 (.inl rfl) (Rd.sub (hr.stays hst)) (by simp; omega)) rfl ?_
    rintro v S2 ⟨rfl, rfl⟩
    rw [hz]
    have hfin : ∀ (acc2 : List Rn), acc2 = stepR acc i n z → acc2.length ≤ i + n ∧ (∀ r ∈ acc2, r.at_ + r.len ≤ i + n) := by
      rintro acc2 rfl
      have hnp : 0 < n := by omega
      by_cases h0 : 0 < acc.length
      · by_cases hzz : (acc[acc.length - 1]'(by omega)).zero = z
        · rw [stepR_same acc h0 i n z hzz]
          refine ⟨by rw [List.length_set]; omega, fun r hr => ?_⟩
          rcases List.mem_or_eq_of_mem_set hr with h | rfl
          · have := hsum r h; omega
          · have := hsum _ (List.getElem_mem (by omega : acc.length - 1 < acc.length))
            simp only; omega
        · rw [stepR_other acc h0 i n z hzz]
          refine ⟨by rw [List.length_append, List.length_singleton]; omega, fun r hr => ?_⟩
          rcases List.mem_append.1 hr with h | h
          · have := hsum r h; omega
          · rw [List.mem_singleton] at h; subst h; exact Nat.le_refl _
      · have e0 : acc = [] := List.length_eq_zero_iff.1 (by omega)
        subst e0
        rw [stepR_nil]
        refine ⟨by simp; omega, fun r hr => ?_⟩
        rw [List.mem_singleton] at hr; subst hr; exact Nat.le_refl _
    have hst' := hst.next
    by_cases h0 : 0 < acc.length
    · have hm : acc.length - 1 < acc.length := by omega
      rcases ha with ⟨_, h⟩ | ⟨t, rfl, hlv, hlt, rfl⟩
      · omega
      have hrd : Rd S2 (.own t) := ⟨hlv, fun u hu => by cases hu; exact hlt⟩
      have hnt := hn t rfl
      have hsm := hsum _ (List.getElem_mem hm)
      by_cases hzz : (acc[acc.length - 1]'hm).zero = z
      · have hstep := stepR_same acc h0 i n z hzz
        obtain ⟨f1, f2⟩ := hfin _ hstep.symm
        apply i_mov
        · exact tB rfl
        refine i_nil ?_
        refine r_reg ?_
        apply i_mov
        · exact tS rfl
        apply i_lenM
        · exact rfl
        apply i_gtT
        · exact rfl
        · exact rfl
        · omega
        apply i_mov
        · exact tB rfl
        apply i_gT
        · exact rfl
        apply i_mov
        · exact tS rfl
        apply i_gT
        · exact rfl
        apply i_mov
        · exact tS rfl
        apply i_gT
        · exact rfl
        apply i_lenM
        · exact rfl
        apply i_gT
        · exact rfl
        apply i_sub
        · exact rfl
        · exact rfl
        · omega
        apply i_gT
        · exact rfl
        refine i_idxM (acc.length - 1) rfl rfl (by omega) rfl (by assumption) hm ?_
        apply i_gT
        · exact rfl
        apply i_fldE0
        · exact rfl
        · assumption
        apply i_gT
        · exact rfl
        apply i_loadF
        · exact rfl
        · assumption
        · omega
        (refine ⟨by omega, ?_⟩)
        apply i_gT
        · exact rfl
        apply i_mov
        · exact tB rfl
        apply i_gT
        · exact rfl
        apply i_eqbT
        · exact rfl
        · exact rfl
        · assumption
        apply i_pickT
        · exact rfl
        · exact tB rfl
        refine i_nil ?_
        apply r_condT
        · exact rfl
        refine r_reg ?_
        apply i_mov
        · exact tS rfl
        apply i_mov
        · exact tS rfl
        apply i_lenM
        · exact rfl
        apply i_sub
        · exact rfl
        · exact rfl
        · omega
        refine i_idxM (acc.length - 1) rfl rfl (by omega) rfl (by assumption) hm ?_
        apply i_fldE0
        · exact rfl
        · assumption
        apply i_loadF
        · exact rfl
        · assumption
        · omega
        (refine ⟨by omega, ?_⟩)
        apply i_mov
        · exact tI rfl
        apply i_add
        · exact rfl
        · exact rfl
        · omega
        refine i_idxM (acc.length - 1) rfl rfl (by omega) rfl (by assumption) hm ?_
        apply i_fldE0
        · exact rfl
        · assumption
        refine i_stEM (z := { (acc[acc.length - 1]'hm) with len := (acc[acc.length - 1]'hm).len + n }) rfl (tI rfl) rfl hlv rfl (by decide) hm ?_ ?_
        · rw [map_getD hm]; rfl
        refine i_nil ?_
        refine r_nop ?_
        refine r_reg ?_
        apply i_mov
        · exact tI rfl
        apply i_mov
        · exact tI rfl
        apply i_add
        · exact rfl
        · exact rfl
        · omega
        apply i_mov
        · exact tI rfl
        refine i_nil ?_
        refine r_nop ?_
        refine r_nop ?_
        apply q_lp [0, 1, 5, 6]
        · exact ⟨i + n, f, _, _, _, rfl, rfl, by omega, by omega, f1, f2, by rw [← hstep]; exact hrun', by (refine Stays.fresh ?_; refine Stays.kill ?_ (by ((try simp only [next_fresh, next_kill, next_push, next_put, appS_next]); omega)); assumption), App.some (by exact Rd.newK), by (intro t ht; cases ht; first | done | ((try simp only [next_fresh, next_kill, next_push, next_put, appS_next]); omega))⟩
        · omega
      · have hstep := stepR_other acc h0 i n z hzz
        obtain ⟨f1, f2⟩ := hfin _ hstep.symm
        apply i_mov
        · exact tB rfl
        refine i_nil ?_
        refine r_reg ?_
        apply i_mov
        · exact tS rfl
        apply i_lenM
        · exact rfl
        apply i_gtT
        · exact rfl
        · exact rfl
        · omega
        apply i_mov
        · exact tB rfl
        apply i_gT
        · exact rfl
        apply i_mov
        · exact tS rfl
        apply i_gT
        · exact rfl
        apply i_mov
        · exact tS rfl
        apply i_gT
        · exact rfl
        apply i_lenM
        · exact rfl
        apply i_gT
        · exact rfl
        apply i_sub
        · exact rfl
        · exact rfl
        · omega
        apply i_gT
        · exact rfl
        refine i_idxM (acc.length - 1) rfl rfl (by omega) rfl (by assumption) hm ?_
        apply i_gT
        · exact rfl
        apply i_fldE0
        · exact rfl
        · assumption
        apply i_gT
        · exact rfl
        apply i_loadF
        · exact rfl
        · assumption
        · omega
        (refine ⟨by omega, ?_⟩)
        apply i_gT
        · exact rfl
        apply i_mov
        · exact tB rfl
        apply i_gT
        · exact rfl
        apply i_eqbF
        · exact rfl
        · exact rfl
        · assumption
        apply i_pickT
        · exact rfl
        · exact tB rfl
        refine i_nil ?_
        apply r_condF
        · exact rfl
        refine r_reg ?_
        apply i_mov
        · exact tS rfl
        apply i_mov
        · exact tI rfl
        apply i_mov
        · exact tI rfl
        apply i_mov
        · exact tB rfl
        refine i_build (cs := rnC ⟨i, n, z⟩) rfl ?_
        refine i_mkR (xs := List.map rnAV [⟨i, n, z⟩]) rfl ?_
        apply i_appX
        · exact rfl
        · exact rfl
        · exact App.some (by assumption)
        · exact Or.inl rfl
        · exact True.intro
        · (simp only [List.length_map, List.length_append, List.length_cons, List.length_nil, List.length_take, List.length_drop, List.length_replicate]; omega)
        apply i_mov
        · exact tS rfl
        refine i_nil ?_
        refine r_nop ?_
        refine r_reg ?_
        apply i_mov
        · exact tI rfl
        apply i_mov
        · exact tI rfl
        apply i_add
        · exact rfl
        · exact rfl
        · omega
        apply i_mov
        · exact tI rfl
        refine i_nil ?_
        refine r_nop ?_
        refine r_nop ?_
        apply q_lp [0, 1, 5, 6]
        · exact ⟨i + n, f, _, _, _, rfl, rfl, by omega, by omega, f1, f2, by rw [← hstep]; exact hrun', by (refine Stays.app ?_ (by (first | assumption | (intro t ht; cases ht; done) | (intro t ht; cases ht; ((try simp only [next_fresh, next_kill, next_push, next_put, appS_next]); omega)))); assumption), App.new, by (intro t ht; cases ht; first | done | ((try simp only [next_fresh, next_kill, next_push, next_put, appS_next]); omega))⟩
        · omega
    · have e0 : acc = [] := List.length_eq_zero_iff.1 (by omega)
      subst e0
      rcases ha with ⟨rfl, _⟩ | ⟨t, rfl, hlv, hlt, rfl⟩
      · have hstep := stepR_nil i n z
        obtain ⟨f1, f2⟩ := hfin _ hstep.symm
        apply i_mov
        · exact tB rfl
        refine i_nil ?_
        refine r_reg ?_
        apply i_mov
        · exact tS rfl
        apply i_len0
        · exact rfl
        apply i_gtF
        · exact rfl
        · exact rfl
        · omega
        apply i_mov
        · exact tB rfl
        apply i_gF
        · exact rfl
        · exact rfl
        apply i_gF
        · exact rfl
        · exact rfl
        apply i_gF
        · exact rfl
        · exact rfl
        apply i_gF
        · exact rfl
        · exact rfl
        apply i_gF
        · exact rfl
        · exact rfl
        apply i_gF
        · exact rfl
        · exact rfl
        apply i_gF
        · exact rfl
        · exact rfl
        apply i_gF
        · exact rfl
        · exact rfl
        apply i_gF
        · exact rfl
        · exact rfl
        apply i_pickF
        · exact rfl
        · exact tB rfl
        refine i_nil ?_
        apply r_condF
        · exact rfl
        refine r_reg ?_
        apply i_mov
        · exact tS rfl
        apply i_mov
        · exact tI rfl
        apply i_mov
        · exact tI rfl
        apply i_mov
        · exact tB rfl
        refine i_build (cs := rnC ⟨i, n, z⟩) rfl ?_
        refine i_mkR (xs := List.map rnAV [⟨i, n, z⟩]) rfl ?_
        apply i_app0M
        · exact rfl
        · exact rfl
        · exact Or.inl rfl
        · exact True.intro
        · omega
        apply i_mov
        · exact tS rfl
        refine i_nil ?_
        refine r_nop ?_
        refine r_reg ?_
        apply i_mov
        · exact tI rfl
        apply i_mov
        · exact tI rfl
        apply i_add
        · exact rfl
        · exact rfl
        · omega
        apply i_mov
        · exact tI rfl
        refine i_nil ?_
        refine r_nop ?_
        refine r_nop ?_
        apply q_lp [0, 1, 5, 6]
        · exact ⟨i + n, f, [⟨i, n, z⟩], _, _, rfl, rfl, by omega, by omega, f1, f2, by rw [← hstep]; exact hrun', by (refine Stays.fresh ?_; assumption), App.some (by exact Rd.new), by (intro t ht; cases ht; first | done | ((try simp only [next_fresh, next_kill, next_push, next_put, appS_next]); omega))⟩
        · omega
      · have hstep := stepR_nil i n z
        obtain ⟨f1, f2⟩ := hfin _ hstep.symm
        have hrd : Rd S2 (.own t) := ⟨hlv, fun u hu => by cases hu; exact hlt⟩
        apply i_mov
        · exact tB rfl
        refine i_nil ?_
        refine r_reg ?_
        apply i_mov
        · exact tS rfl
        apply i_len0
        · exact rfl
        apply i_gtF
        · exact rfl
        · exact rfl
        · omega
        apply i_mov
        · exact tB rfl
        apply i_gF
        · exact rfl
        · exact rfl
        apply i_gF
        · exact rfl
        · exact rfl
        apply i_gF
        · exact rfl
        · exact rfl
        apply i_gF
        · exact rfl
        · exact rfl
        apply i_gF
        · exact rfl
        · exact rfl
        apply i_gF
        · exact rfl
        · exact rfl
        apply i_gF
        · exact rfl
        · exact rfl
        apply i_gF
        · exact rfl
        · exact rfl
        apply i_gF
        · exact rfl
        · exact rfl
        apply i_pickF
        · exact rfl
        · exact tB rfl
        refine i_nil ?_
        apply r_condF
        · exact rfl
        refine r_reg ?_
        apply i_mov
        · exact tS rfl
        apply i_mov
        · exact tI rfl
        apply i_mov
        · exact tI rfl
        apply i_mov
        · exact tB rfl
        refine i_build (cs := rnC ⟨i, n, z⟩) rfl ?_
        refine i_mkR (xs := List.map rnAV [⟨i, n, z⟩]) rfl ?_
        apply i_appX
        · exact rfl
        · exact rfl
        · exact App.some (by assumption)
        · exact Or.inl rfl
        · exact True.intro
        · omega
        apply i_mov
        · exact tS rfl
        refine i_nil ?_
        refine r_nop ?_
        refine r_reg ?_
        apply i_mov
        · exact tI rfl
        apply i_mov
        · exact tI rfl
        apply i_add
        · exact rfl
        · exact rfl
        · omega
        apply i_mov
        · exact tI rfl
        refine i_nil ?_
        refine r_nop ?_
        refine r_nop ?_
        apply q_lp [0, 1, 5, 6]
        · exact ⟨i + n, f, [⟨i, n, z⟩], _, _, rfl, rfl, by omega, by omega, f1, f2, by rw [← hstep]; exact hrun', by (refine Stays.app ?_ (by (first | assumption | (intro t ht; cases ht; done) | (intro t ht; cases ht; ((try simp only [next_fresh, next_kill, next_push, next_put, appS_next]); omega)))); assumption), App.new, by (intro t ht; cases ht; first | done | ((try simp only [next_fresh, next_kill, next_push, next_put, appS_next]); omega))⟩
        · omega
  · rw [runsFrom_stop hc] at hrun
    subst hrun
    refine r_reg ?_
    apply i_mov
    · exact tI rfl
    apply i_mov
    · exact tS rfl
    apply i_lenM
    · exact rfl
    apply i_ltF
    · exact rfl
    · exact rfl
    · omega
    refine i_nil ?_
    apply r_condF
    · exact rfl
    refine r_exit ?_
    refine r_reg ?_
    apply i_mov
    · exact tS rfl
    apply i_mov
    · exact tS rfl
    refine i_nil ?_
    refine r_ret ?_
    apply q_ret1
    · exact tS rfl
    refine ⟨hst, _, _, rfl, ha.rd, ?_⟩
    rcases ha with ⟨_, h⟩ | ⟨t, _, _, _, h⟩
    · exact .inr (List.length_eq_zero_iff.1 h)
    · exact .inl h

end Go.Proofs.Ythgdooidleoicaa.Abs
