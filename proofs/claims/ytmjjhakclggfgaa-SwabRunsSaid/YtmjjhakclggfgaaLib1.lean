/- Functions of the library, and package swab, and the document's: contracts. -/
import Derived.Test.YtmjjhakclggfgaaCode1
import Derived.Test.YtmjjhakclggfgaaVc6
namespace Go.Proofs.Ytmjjhakclggfgaa.Abs
open Go Go.Proofs
set_option linter.unusedVariables false
set_option linter.unusedSimpArgs false
attribute [local irreducible] wpI wpR ropK chk ASt.push ASt.put ASt.fresh ASt.kill appS

/-- A byte slice that can be read. -/
def BS (S : ASt) (v : AV) (l : List UInt8) : Prop := ∃ o sz, v = .sl o sz (u8s l) ∧ (sz = 1 ∨ l = []) ∧ (o = .nil → l = []) ∧ Rd S o
/-- A byte slice that is new, and more can be put behind. -/
def BA (S S' : ASt) (v : AV) (l : List UInt8) : Prop := ∃ o sz, v = .sl o sz (u8s l) ∧ App S' o 1 sz l.length ∧ ∀ t, o = .own t → S.next ≤ t
theorem App.nil {S : ASt} {o : Own} {sz sz1 n : Nat} (h : App S o sz sz1 n) : o = .nil → n = 0 := by
  rcases h with ⟨_, h⟩ | ⟨t, rfl, _⟩
  · exact fun _ => h
  · intro h; cases h
theorem BA.bs {S S' : ASt} {v : AV} {l : List UInt8} (h : BA S S' v l) : BS S' v l := by
  obtain ⟨o, sz, rfl, ha, hn⟩ := h
  exact ⟨o, sz, rfl, ha.sz.imp id (fun h => List.length_eq_zero_iff.1 h), fun h => List.length_eq_zero_iff.1 (ha.nil h), ha.rd⟩
theorem BS.stays {S S' : ASt} {os : List Nat} {v : AV} {l : List UInt8} (h : BS S v l) (hs : Stays S S' os) : BS S' v l := by
  obtain ⟨o, sz, h1, h2, h3, h4⟩ := h
  exact ⟨o, sz, h1, h2, h3, h4.stays hs⟩

theorem clone (o : Own) (sz : Nat) (bs : List UInt8) (S : ASt) (hs : sz = 1 ∨ bs = []) (hn : o = .nil → bs = []) (hr : Rd S o) (hb : bs.length ≤ 100000000) :
    ACalls Try.prog 14 [.sl o sz (u8s bs)] S fun v S' => Stays S S' [] ∧ BA S S' v bs := by
  refine en_14 (by exact Nat.le_of_ble_eq_true rfl) ?_
  unfold rc_14
  refine r_reg ?_
  apply i_mov
  · exact tS0 rfl
  refine i_nil ?_
  refine r_reg ?_
  apply i_mov
  · exact tS rfl
  refine i_eqn rfl (fun h => by rw [hn h]; rfl) (by (refine Rd.rd ?_; assumption)) (fun he => ?_) ?_
  · have hbe : bs = [] := by simpa using he
    subst hbe
    refine i_nil ?_
    apply r_condT
    · exact rfl
    refine r_reg ?_
    apply i_mov
    · exact tS0 rfl
    refine i_nil ?_
    refine r_ret ?_
    refine q_kr ?_
    apply q_ret1
    · exact tS0 rfl
    exact ⟨Stays.refl _ _, .nil, 0, rfl, App.none, by intro t h; cases h⟩
  · refine i_nil ?_
    apply r_condF
    · exact rfl
    refine r_nop ?_
    refine r_reg ?_
    refine i_mk0BO ?_
    apply i_mov
    · exact tS rfl
    apply i_appX
    · exact rfl
    · exact rfl
    · exact App.some (by exact Rd.new)
    · assumption
    · (refine Rd.rd ?_; (refine Rd.fresh ?_; assumption))
    · (simp only [List.length_map, List.length_append, List.length_cons, List.length_nil, List.length_take, List.length_drop, List.length_replicate]; omega)
    apply i_mov
    · exact tS rfl
    refine i_nil ?_
    refine r_ret ?_
    apply q_ret1
    · exact tS rfl
    refine ⟨by ((refine Stays.app ?_ (by (first | assumption | (intro t ht; cases ht; done) | (intro t ht; cases ht; ((try simp only [next_fresh, next_kill, next_push, next_put, appS_next]); omega)))); refine Stays.fresh ?_; exact Stays.refl _ _)), _, 1, rfl, App.new, ?_⟩
    (intro t ht; cases ht; first | done | ((try simp only [next_fresh, next_kill, next_push, next_put, appS_next]); omega))

theorem grow (n : Nat) (hn : n ≤ 100000000) (S : ASt) : ACalls Try.prog 16 [.sl .nil 0 (u8s []), .int .i64 n] S fun v S' => Stays S S' [] ∧ BA S S' v [] := by
  refine en_16 (by exact Nat.le_of_ble_eq_true rfl) ?_
  unfold rc_16
  by_cases h : n = 0
  · refine r_reg ?_
    apply i_mov
    · exact tS0 rfl
    refine i_nil ?_
    refine r_reg ?_
    apply i_mov
    · exact tI rfl
    apply i_ltF
    · exact rfl
    · exact rfl
    · omega
    refine i_nil ?_
    apply r_condF
    · exact rfl
    refine r_nop ?_
    refine r_reg ?_
    apply i_mov
    · exact tI rfl
    apply i_mov
    · exact tS0 rfl
    apply i_cap
    · exact rfl
    apply i_mov
    · exact tS0 rfl
    apply i_len0
    · exact rfl
    apply i_sub
    · exact rfl
    · exact rfl
    · omega
    apply i_sub
    · exact rfl
    · exact rfl
    · omega
    apply i_mov
    · exact tI rfl
    refine i_nil ?_
    refine r_reg ?_
    apply i_mov
    · exact tI rfl
    apply i_gtF
    · exact rfl
    · exact rfl
    · omega
    refine i_nil ?_
    apply r_condF
    · exact rfl
    refine r_nop ?_
    refine r_reg ?_
    apply i_mov
    · exact tS0 rfl
    apply i_mov
    · exact tS0 rfl
    refine i_nil ?_
    refine r_ret ?_
    apply q_ret1
    · exact tS0 rfl
    exact ⟨Stays.refl _ _, .nil, 0, rfl, App.none, by intro t h; cases h⟩
  · refine r_reg ?_
    apply i_mov
    · exact tS0 rfl
    refine i_nil ?_
    refine r_reg ?_
    apply i_mov
    · exact tI rfl
    apply i_ltF
    · exact rfl
    · exact rfl
    · omega
    refine i_nil ?_
    apply r_condF
    · exact rfl
    refine r_nop ?_
    refine r_reg ?_
    apply i_mov
    · exact tI rfl
    apply i_mov
    · exact tS0 rfl
    apply i_cap
    · exact rfl
    apply i_mov
    · exact tS0 rfl
    apply i_len0
    · exact rfl
    apply i_sub
    · exact rfl
    · exact rfl
    · omega
    apply i_sub
    · exact rfl
    · exact rfl
    · omega
    apply i_mov
    · exact tI rfl
    refine i_nil ?_
    refine r_reg ?_
    apply i_mov
    · exact tI rfl
    apply i_gtT
    · exact rfl
    · exact rfl
    · omega
    refine i_nil ?_
    apply r_condT
    · exact rfl
    refine r_reg ?_
    apply i_mov
    · exact tS0 rfl
    apply i_mov
    · exact tS0 rfl
    apply i_cap
    · exact rfl
    apply i_sliceHi 0
    · exact rfl
    · exact Or.inr rfl
    · exact True.intro
    · exact rfl
    · exact rfl
    · omega
    apply i_mov
    · exact tI rfl
    refine i_appN n rfl rfl (by omega) rfl (by omega) (by omega) ?_
    rw [show List.replicate n (AV.int .u8 0) = u8s (List.replicate n 0) from by simp]
    apply i_mov
    · exact tS0 rfl
    apply i_len0
    · exact rfl
    apply i_sliceHi 0
    · exact rfl
    · exact Or.inl rfl
    · (refine Rd.rd ?_; exact Rd.new)
    · exact rfl
    · exact rfl
    · omega
    apply i_mov
    · exact tS rfl
    refine i_nil ?_
    refine r_nop ?_
    refine r_reg ?_
    apply i_mov
    · exact tS rfl
    apply i_mov
    · exact tS rfl
    refine i_nil ?_
    refine r_ret ?_
    apply q_ret1
    · exact tS rfl
    exact ⟨by ((refine Stays.fresh ?_; exact Stays.refl _ _)), _, 1, rfl, App.some Rd.new, by (intro t ht; cases ht; first | done | ((try simp only [next_fresh, next_kill, next_push, next_put, appS_next]); omega))⟩

/-- A list of byte slices. -/
structure BL where
  o : Own
  sz : Nat
  l : List UInt8
abbrev slv (x : BL) : AV := .sl x.o x.sz (u8s x.l)
def BL.ok (S : ASt) (x : BL) : Prop := (x.sz = 1 ∨ x.l = []) ∧ (x.o = .nil → x.l = []) ∧ Rd S x.o
def cat (xs : List BL) : List UInt8 := xs.flatMap (·.l)
theorem cat_take {xs : List BL} {i : Nat} (h : i < xs.length) : cat (xs.take (i + 1)) = cat (xs.take i) ++ xs[i].l := by
  rw [List.take_succ_eq_append_getElem h]; unfold cat; rw [List.flatMap_append]; simp
theorem cat_le (xs : List BL) (i : Nat) : (cat (xs.take i)).length ≤ (cat xs).length := by
  conv => rhs; rw [← List.take_append_drop i xs]
  unfold cat; rw [List.flatMap_append, List.length_append]; omega

theorem concat (o : Own) (xs : List BL) (S : ASt) (hr : Rd S o) (hx : ∀ x ∈ xs, x.ok S) (hn : xs.length ≤ 100000000) (hb : (cat xs).length ≤ 100000000) :
    ACalls Try.prog 15 [.sl o 1 (xs.map slv)] S fun v S' => Stays S S' [] ∧ BA S S' v (cat xs) := by
  refine en_15 (by exact Nat.le_of_ble_eq_true rfl) ?_
  unfold rc_15
  refine r_reg ?_
  apply i_mov
  · exact tS0 rfl
  refine i_nil ?_
  refine r_reg ?_
  apply i_mov
  · exact tI rfl
  refine i_nil ?_
  refine r_reg ?_
  apply i_mov
  · exact tS rfl
  apply i_lenM
  · exact rfl
  apply i_mov
  · exact tI rfl
  refine i_nil ?_
  refine r_block ?_
  refine r_loop (fun m G S' => ∃ i : Nat, G = [(0, .sl o 1 (xs.map slv)), (3, .int .i64 ((cat (xs.take i)).length : Nat)), (9, .sl o 1 (xs.map slv)), (10, .int .i64 (xs.length : Nat)), (11, .int .i64 (i : Nat))] ∧ m = xs.length - i ∧ i ≤ xs.length ∧ S' = S) ?_ ?_
  · refine ⟨_, _, ?_, 0, rfl, rfl, Nat.zero_le _, rfl⟩
    exact ⟨rfl, rfl, rfl, rfl, rfl, trivial⟩
  rintro m G S1 ⟨i, rfl, rfl, hi, rfl⟩
  have hle := cat_le xs i
  by_cases hc : i < xs.length
  · have hle1 := cat_le xs (i + 1)
    have hct := cat_take hc
    have hlen := congrArg List.length hct
    simp only [List.length_append] at hlen
    clear hct
    refine r_reg ?_
    apply i_ltT
    · exact rfl
    · exact rfl
    · omega
    refine i_nil ?_
    apply r_condT
    · exact rfl
    refine r_nop ?_
    refine r_block ?_
    refine r_reg ?_
    apply i_idxM
    · exact rfl
    · exact rfl
    · exact rfl
    · exact rfl
    · (refine Rd.rd ?_; assumption)
    · omega
    apply i_loadM
    · exact rfl
    · (refine Rd.rd ?_; assumption)
    · omega
    · exact fun _ => rfl
    (refine ⟨by omega, ?_⟩)
    apply i_mov
    · exact tS rfl
    refine i_nil ?_
    refine r_reg ?_
    apply i_mov
    · exact tI rfl
    apply i_mov
    · exact tS rfl
    apply i_lenM
    · exact rfl
    apply i_add
    · exact rfl
    · exact rfl
    · omega
    apply i_mov
    · exact tI rfl
    refine i_nil ?_
    refine r_reg ?_
    apply i_mov
    · exact tI rfl
    apply i_ltF
    · exact rfl
    · exact rfl
    · omega
    refine i_nil ?_
    apply r_condF
    · exact rfl
    refine r_nop ?_
    refine r_nop ?_
    refine r_reg ?_
    apply i_add
    · exact rfl
    · exact rfl
    · omega
    apply i_mov
    · exact tI rfl
    refine i_nil ?_
    refine r_nop ?_
    apply q_l
    · exact ⟨i + 1, rfl, rfl, hc, rfl⟩
    · omega
    · exact ⟨rfl, int_eq (by omega), rfl, rfl, rfl, trivial⟩
  have e : i = xs.length := by omega
  subst e
  rw [List.take_length]
  refine r_reg ?_
  apply i_ltF
  · exact rfl
  · exact rfl
  · omega
  refine i_nil ?_
  apply r_condF
  · exact rfl
  refine r_exit ?_
  refine r_reg ?_
  apply i_mov
  · exact tI rfl
  refine i_call (grow _ hb _) rfl ?_
  rintro v S2 ⟨hst, o6, s6, rfl, ha6, hn6⟩
  apply i_mov
  · exact tS rfl
  refine i_nil ?_
  refine r_reg ?_
  apply i_mov
  · exact tS rfl
  apply i_lenM
  · exact rfl
  apply i_mov
  · exact tI rfl
  refine i_nil ?_
  refine r_block ?_
  refine r_loop (fun m G S' => ∃ (i : Nat) (o6 : Own) (s6 : Nat), G = [(6, .sl o6 s6 (u8s (cat (xs.take i)))), (25, .sl o 1 (xs.map slv)), (26, .int .i64 (xs.length : Nat)), (27, .int .i64 (i : Nat))] ∧ m = xs.length - i ∧ i ≤ xs.length ∧
    Stays S1 S' [] ∧ App S' o6 1 s6 (cat (xs.take i)).length ∧ ∀ t, o6 = .own t → S1.next ≤ t) ?_ ?_
  · refine ⟨_, _, ?_, 0, o6, s6, rfl, rfl, Nat.zero_le _, hst, ha6, hn6⟩
    exact ⟨rfl, rfl, rfl, rfl, trivial⟩
  clear hst ha6 hn6
  rintro m G S3 ⟨i, o6, s6, rfl, rfl, hi, hst, ha6, hn6⟩
  have hle := cat_le xs i
  by_cases hc : i < xs.length
  · have hle1 := cat_le xs (i + 1)
    have hct := cat_take hc
    have hlen := congrArg List.length hct
    simp only [List.length_append] at hlen
    obtain ⟨hx1, hx2, hx3⟩ := hx xs[i] (List.getElem_mem hc)
    have hx4 := hx3.stays hst
    have hne : ∀ t, o6 = .own t → xs[i].o.tok ≠ some t := by
      intro t ht h2
      have h3 := hn6 t ht
      have h4 := hx3.2 t h2
      omega
    refine r_reg ?_
    apply i_ltT
    · exact rfl
    · exact rfl
    · omega
    refine i_nil ?_
    apply r_condT
    · exact rfl
    refine r_nop ?_
    refine r_block ?_
    refine r_reg ?_
    apply i_idxM
    · exact rfl
    · exact rfl
    · exact rfl
    · exact rfl
    · (refine Rd.rd ?_; (refine Rd.stays ?_ (by assumption); assumption))
    · omega
    apply i_loadM
    · exact rfl
    · (refine Rd.rd ?_; (refine Rd.stays ?_ (by assumption); assumption))
    · omega
    · exact fun _ => rfl
    (refine ⟨by omega, ?_⟩)
    apply i_mov
    · exact tS rfl
    refine i_nil ?_
    refine r_reg ?_
    apply i_mov
    · exact tS rfl
    apply i_mov
    · exact tS rfl
    apply i_appX
    · exact rfl
    · exact rfl
    · assumption
    · assumption
    · (refine Rd.rd ?_; assumption)
    · omega
    apply i_mov
    · exact tS rfl
    refine i_nil ?_
    refine r_nop ?_
    refine r_reg ?_
    apply i_add
    · exact rfl
    · exact rfl
    · omega
    apply i_mov
    · exact tI rfl
    refine i_nil ?_
    refine r_nop ?_
    apply q_l
    · refine ⟨i + 1, _, _, rfl, rfl, hc, by ((refine Stays.app ?_ (by (first | assumption | (intro t ht; cases ht; done) | (intro t ht; cases ht; ((try simp only [next_fresh, next_kill, next_push, next_put, appS_next]); omega)))); assumption)), App.new, ?_⟩
      have := hst.next
      (intro t ht; cases ht; first | done | ((try simp only [next_fresh, next_kill, next_push, next_put, appS_next]); omega))
    · omega
    · exact ⟨by rw [hct]; rfl, rfl, rfl, rfl, trivial⟩
  · have e : i = xs.length := by omega
    subst e
    rw [List.take_length] at ha6 ⊢
    refine r_reg ?_
    apply i_ltF
    · exact rfl
    · exact rfl
    · omega
    refine i_nil ?_
    apply r_condF
    · exact rfl
    refine r_exit ?_
    refine r_reg ?_
    apply i_mov
    · exact tS rfl
    apply i_mov
    · exact tS rfl
    refine i_nil ?_
    refine r_ret ?_
    apply q_ret1
    · exact tS rfl
    exact ⟨hst, _, _, rfl, ha6, hn6⟩

/-! ### pairs turned about -/
def swapL : List UInt8 → List UInt8
  | a :: b :: r => b :: a :: swapL r
  | _ => []
def restL : List UInt8 → List UInt8
  | _ :: _ :: r => restL r
  | l => l
end Go.Proofs.Ytmjjhakclggfgaa.Abs
