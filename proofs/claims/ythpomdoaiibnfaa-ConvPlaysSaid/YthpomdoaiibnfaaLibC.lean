/- Functions of the library: Grow, Concat: contracts. -/
import Derived.Test.YthpomdoaiibnfaaLib0
namespace Go.Proofs.Ythpomdoaiibnfaa.Abs
open Go Go.Proofs
set_option linter.unusedVariables false
set_option linter.unusedSimpArgs false
attribute [local irreducible] wpI wpR ropK chk ASt.push ASt.put ASt.fresh ASt.kill appS

theorem grow (n : Nat) (hn : n ≤ 100000000) (S : ASt) : ACalls Try.prog 67 [.sl .nil 0 (u8s []), .int .i64 n] S fun v S' => Stays S S' [] ∧ BA S S' v [] := by
  refine en_67 (by exact Nat.le_of_ble_eq_true rfl) ?_
  unfold rc_67
  by_cases h : n = 0
  · refine r_reg ?_
    apply i_mov
    · exact tS0 rfl
    refine i_nil ?_
    refine r_reg ?_
    apply i_mov
    · exact tI rfl
    apply i_ltF
    · exact rfl
    · exact rfl
    · omega
    refine i_nil ?_
    apply r_condF
    · exact rfl
    refine r_nop ?_
    refine r_reg ?_
    apply i_mov
    · exact tI rfl
    apply i_mov
    · exact tS0 rfl
    apply i_cap
    · exact rfl
    apply i_mov
    · exact tS0 rfl
    apply i_len0
    · exact rfl
    apply i_sub
    · exact rfl
    · exact rfl
    · omega
    apply i_sub
    · exact rfl
    · exact rfl
    · omega
    apply i_mov
    · exact tI rfl
    refine i_nil ?_
    refine r_reg ?_
    apply i_mov
    · exact tI rfl
    apply i_gtF
    · exact rfl
    · exact rfl
    · omega
    refine i_nil ?_
    apply r_condF
    · exact rfl
    refine r_nop ?_
    refine r_reg ?_
    apply i_mov
    · exact tS0 rfl
    apply i_mov
    · exact tS0 rfl
    refine i_nil ?_
    refine r_ret ?_
    apply q_ret1
    · exact tS0 rfl
    exact ⟨Stays.refl _ _, .nil, 0, rfl, App.none, by intro t h; cases h⟩
  · refine r_reg ?_
    apply i_mov
    · exact tS0 rfl
    refine i_nil ?_
    refine r_reg ?_
    apply i_mov
    · exact tI rfl
    apply i_ltF
    · exact rfl
    · exact rfl
    · omega
    refine i_nil ?_
    apply r_condF
    · exact rfl
    refine r_nop ?_
    refine r_reg ?_
    apply i_mov
    · exact tI rfl
    apply i_mov
    · exact tS0 rfl
    apply i_cap
    · exact rfl
    apply i_mov
    · exact tS0 rfl
    apply i_len0
    · exact rfl
    apply i_sub
    · exact rfl
    · exact rfl
    · omega
    apply i_sub
    · exact rfl
    · exact rfl
    · omega
    apply i_mov
    · exact tI rfl
    refine i_nil ?_
    refine r_reg ?_
    apply i_mov
    · exact tI rfl
    apply i_gtT
    · exact rfl
    · exact rfl
    · omega
    refine i_nil ?_
    apply r_condT
    · exact rfl
    refine r_reg ?_
    apply i_mov
    · exact tS0 rfl
    apply i_mov
    · exact tS0 rfl
    apply i_cap
    · exact rfl
    apply i_sliceHi 0
    · exact rfl
    · exact Or.inr rfl
    · exact True.intro
    · exact rfl
    · exact rfl
    · omega
    apply i_mov
    · exact tI rfl
    refine i_appN n rfl rfl (by omega) rfl (by omega) (by omega) ?_
    rw [show List.replicate n (AV.int .u8 0) = u8s (List.replicate n 0) from by simp]
    apply i_mov
    · exact tS0 rfl
    apply i_len0
    · exact rfl
    apply i_sliceHi 0
    · exact rfl
    · exact Or.inl rfl
    · (refine Rd.rd ?_; exact Rd.new)
    · exact rfl
    · exact rfl
    · omega
    apply i_mov
    · exact tS rfl
    refine i_nil ?_
    refine r_nop ?_
    refine r_reg ?_
    apply i_mov
    · exact tS rfl
    apply i_mov
    · exact tS rfl
    refine i_nil ?_
    refine r_ret ?_
    apply q_ret1
    · exact tS rfl
    exact ⟨by ((refine Stays.fresh ?_; exact Stays.refl _ _)), _, 1, rfl, App.some Rd.new, by (intro t ht; cases ht; first | done | ((try simp only [next_fresh, next_kill, next_push, next_put, appS_next]); omega))⟩

/-- A list of byte slices. -/
structure BL where
  o : Own
  sz : Nat
  l : List UInt8
abbrev slv (x : BL) : AV := .sl x.o x.sz (u8s x.l)
def BL.ok (S : ASt) (x : BL) : Prop := (x.sz = 1 ∨ x.l = []) ∧ (x.o = .nil → x.l = []) ∧ Rd S x.o
def cat (xs : List BL) : List UInt8 := xs.flatMap (·.l)
theorem cat_take {xs : List BL} {i : Nat} (h : i < xs.length) : cat (xs.take (i + 1)) = cat (xs.take i) ++ xs[i].l := by
  rw [List.take_succ_eq_append_getElem h]; unfold cat; rw [List.flatMap_append]; simp
theorem cat_le (xs : List BL) (i : Nat) : (cat (xs.take i)).length ≤ (cat xs).length := by
  conv => rhs; rw [← List.take_append_drop i xs]
  unfold cat; rw [List.flatMap_append, List.length_append]; omega

theorem concat (o : Own) (xs : List BL) (S : ASt) (hr : Rd S o) (hx : ∀ x ∈ xs, x.ok S) (hn : xs.length ≤ 100000000) (hb : (cat xs).length ≤ 100000000) :
    ACalls Try.prog 56 [.sl o 1 (xs.map slv)] S fun v S' => Stays S S' [] ∧ BA S S' v (cat xs) := by
  refine en_56 (by exact Nat.le_of_ble_eq_true rfl) ?_
  unfold rc_56
  refine r_reg ?_
  apply i_mov
  · exact tS0 rfl
  refine i_nil ?_
  refine r_reg ?_
  apply i_mov
  · exact tI rfl
  refine i_nil ?_
  refine r_reg ?_
  apply i_mov
  · exact tS rfl
  apply i_lenM
  · exact rfl
  apply i_mov
  · exact tI rfl
  refine i_nil ?_
  refine r_block ?_
  refine r_loop (fun m G S' => ∃ i : Nat, G = [(0, .sl o 1 (xs.map slv)), (3, .int .i64 ((cat (xs.take i)).length : Nat)), (9, .sl o 1 (xs.map slv)), (10, .int .i64 (xs.length : Nat)), (11, .int .i64 (i : Nat))] ∧ m = xs.length - i ∧ i ≤ xs.length ∧ S' = S) ?_ ?_
  · refine ⟨_, _, ?_, 0, rfl, rfl, Nat.zero_le _, rfl⟩
    exact ⟨rfl, rfl, rfl, rfl, rfl, trivial⟩
  rintro m G S1 ⟨i, rfl, rfl, hi, rfl⟩
  have hle := cat_le xs i
  by_cases hc : i < xs.length
  · have hle1 := cat_le xs (i + 1)
    have hct := cat_take hc
    have hlen := congrArg List.length hct
    simp only [List.length_append] at hlen
    clear hct
    refine r_reg ?_
    apply i_ltT
    · exact rfl
    · exact rfl
    · omega
    refine i_nil ?_
    apply r_condT
    · exact rfl
    refine r_nop ?_
    refine r_block ?_
    refine r_reg ?_
    apply i_idxM
    · exact rfl
    · exact rfl
    · exact rfl
    · exact rfl
    · (refine Rd.rd ?_; assumption)
    · omega
    apply i_loadM
    · exact rfl
    · (refine Rd.rd ?_; assumption)
    · omega
    · exact fun _ => rfl
    (refine ⟨by omega, ?_⟩)
    apply i_mov
    · exact tS rfl
    refine i_nil ?_
    refine r_reg ?_
    apply i_mov
    · exact tI rfl
    apply i_mov
    · exact tS rfl
    apply i_lenM
    · exact rfl
    apply i_add
    · exact rfl
    · exact rfl
    · omega
    apply i_mov
    · exact tI rfl
    refine i_nil ?_
    refine r_reg ?_
    apply i_mov
    · exact tI rfl
    apply i_ltF
    · exact rfl
    · exact rfl
    · omega
    refine i_nil ?_
    apply r_condF
    · exact rfl
    refine r_nop ?_
    refine r_nop ?_
    refine r_reg ?_
    apply i_add
    · exact rfl
    · exact rfl
    · omega
    apply i_mov
    · exact tI rfl
    refine i_nil ?_
    refine r_nop ?_
    apply q_l
    · exact ⟨i + 1, rfl, rfl, hc, rfl⟩
    · omega
    · exact ⟨rfl, int_eq (by omega), rfl, rfl, rfl, trivial⟩
  have e : i = xs.length := by omega
  subst e
  rw [List.take_length]
  refine r_reg ?_
  apply i_ltF
  · exact rfl
  · exact rfl
  · omega
  refine i_nil ?_
  apply r_condF
  · exact rfl
  refine r_exit ?_
  refine r_reg ?_
  apply i_mov
  · exact tI rfl
  refine i_call (grow _ hb _) rfl ?_
  rintro v S2 ⟨hst, o6, s6, rfl, ha6, hn6⟩
  apply i_mov
  · exact tS rfl
  refine i_nil ?_
  refine r_reg ?_
  apply i_mov
  · exact tS rfl
  apply i_lenM
  · exact rfl
  apply i_mov
  · exact tI rfl
  refine i_nil ?_
  refine r_block ?_
  refine r_loop (fun m G S' => ∃ (i : Nat) (o6 : Own) (s6 : Nat), G = [(6, .sl o6 s6 (u8s (cat (xs.take i)))), (25, .sl o 1 (xs.map slv)), (26, .int .i64 (xs.length : Nat)), (27, .int .i64 (i : Nat))] ∧ m = xs.length - i ∧ i ≤ xs.length ∧
    Stays S1 S' [] ∧ App S' o6 1 s6 (cat (xs.take i)).length ∧ ∀ t, o6 = .own t → S1.next ≤ t) ?_ ?_
  · refine ⟨_, _, ?_, 0, o6, s6, rfl, rfl, Nat.zero_le _, hst, ha6, hn6⟩
    exact ⟨rfl, rfl, rfl, rfl, trivial⟩
  clear hst ha6 hn6
  rintro m G S3 ⟨i, o6, s6, rfl, rfl, hi, hst, ha6, hn6⟩
  have hle := cat_le xs i
  by_cases hc : i < xs.length
  · have hle1 := cat_le xs (i + 1)
    have hct := cat_take hc
    have hlen := congrArg List.length hct
    simp only [List.length_append] at hlen
    obtain ⟨hx1, hx2, hx3⟩ := hx xs[i] (List.getElem_mem hc)
    have hx4 := hx3.stays hst
    have hne : ∀ t, o6 = .own t → xs[i].o.tok ≠ some t := by
      intro t ht h2
      have h3 := hn6 t ht
      have h4 := hx3.2 t h2
      omega
    refine r_reg ?_
    apply i_ltT
    · exact rfl
    · exact rfl
    · omega
    refine i_nil ?_
    apply r_condT
    · exact rfl
    refine r_nop ?_
    refine r_block ?_
    refine r_reg ?_
    apply i_idxM
    · exact rfl
    · exact rfl
    · exact rfl
    · exact rfl
    · (refine Rd.rd ?_; (refine Rd.stays ?_ (by assumption); assumption))
    · omega
    apply i_loadM
    · exact rfl
    · (refine Rd.rd ?_; (refine Rd.stays ?_ (by assumption); assumption))
    · omega
    · exact fun _ => rfl
    (refine ⟨by omega, ?_⟩)
    apply i_mov
    · exact tS rfl
    refine i_nil ?_
    refine r_reg ?_
    apply i_mov
    · exact tS rfl
    apply i_mov
    · exact tS rfl
    apply i_appX
    · exact rfl
    · exact rfl
    · assumption
    · assumption
    · (refine Rd.rd ?_; assumption)
    · omega
    apply i_mov
    · exact tS rfl
    refine i_nil ?_
    refine r_nop ?_
    refine r_reg ?_
    apply i_add
    · exact rfl
    · exact rfl
    · omega
    apply i_mov
    · exact tI rfl
    refine i_nil ?_
    refine r_nop ?_
    apply q_l
    · refine ⟨i + 1, _, _, rfl, rfl, hc, by ((refine Stays.app ?_ (by (first | assumption | (intro t ht; cases ht; done) | (intro t ht; cases ht; ((try simp only [next_fresh, next_kill, next_push, next_put, appS_next]); omega)))); assumption)), App.new, ?_⟩
      have := hst.next
      (intro t ht; cases ht; first | done | ((try simp only [next_fresh, next_kill, next_push, next_put, appS_next]); omega))
    · omega
    · exact ⟨by rw [hct]; rfl, rfl, rfl, rfl, trivial⟩
  · have e : i = xs.length := by omega
    subst e
    rw [List.take_length] at ha6 ⊢
    refine r_reg ?_
    apply i_ltF
    · exact rfl
    · exact rfl
    · omega
    refine i_nil ?_
    apply r_condF
    · exact rfl
    refine r_exit ?_
    refine r_reg ?_
    apply i_mov
    · exact tS rfl
    apply i_mov
    · exact tS rfl
    refine i_nil ?_
    refine r_ret ?_
    apply q_ret1
    · exact tS rfl
    exact ⟨hst, _, _, rfl, ha6, hn6⟩

end Go.Proofs.Ythpomdoaiibnfaa.Abs
