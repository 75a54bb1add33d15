/- The laws of swab: that each answers true. -/
import Derived.Test.YtmjjhakclggfgaaSwab2
namespace Go.Proofs.Ytmjjhakclggfgaa.Abs
open Go Go.Proofs
set_option linter.unusedVariables false
set_option linter.unusedSimpArgs false
attribute [local irreducible] wpI wpR ropK chk ASt.push ASt.put ASt.fresh ASt.kill appS

theorem swap_app : ∀ (x b : List UInt8), swapL (x ++ b) = swapL x ++ swapL (restL x ++ b) ∧ restL (x ++ b) = restL (restL x ++ b)
  | [], b => by simp [swapL, restL]
  | [a], b => by simp [swapL, restL]
  | a :: c :: r, b => by
    obtain ⟨h1, h2⟩ := swap_app r b
    simp only [List.cons_append, swapL, restL, h1, h2, and_self]
theorem swap_short {x : List UInt8} (h : x.length ≤ 1) : swapL x = [] ∧ restL x = x := by
  match x, h with
  | [], _ => exact ⟨rfl, rfl⟩
  | [a], _ => exact ⟨rfl, rfl⟩
  | a :: c :: r, h => simp at h
theorem fold_on : ∀ (ls : List (List UInt8)) (kept : List UInt8), kept.length ≤ 1 → swabFold true kept ls = (swapL (kept ++ ls.flatten), restL (kept ++ ls.flatten))
  | [], kept, h => by
    obtain ⟨h1, h2⟩ := swap_short h
    simp [swabFold, h1, h2]
  | b :: r, kept, h => by
    have := fold_on r (restL (kept ++ b)) (rest_le _)
    obtain ⟨h1, h2⟩ := swap_app (kept ++ b) r.flatten
    simp only [swabFold, if_true, this, List.flatten_cons, ← List.append_assoc, h1, h2]
theorem fold_off : ∀ (ls : List (List UInt8)) (kept : List UInt8), swabFold false kept ls = (ls.flatten, kept)
  | [], kept => rfl
  | b :: r, kept => by simp [swabFold, fold_off r kept]
theorem all_flat (on : Bool) (ls : List (List UInt8)) : swabAll on ls = swabAll on [ls.flatten] ∧ (swabAll on ls).length = ls.flatten.length ∧ (on = false → swabAll on ls = ls.flatten) := by
  cases on with
  | true =>
    unfold swabAll
    rw [fold_on ls [] (by simp), fold_on [ls.flatten] [] (by simp)]
    simp only [List.nil_append, List.flatten_singleton, List.length_append, true_and]
    exact ⟨swap_len _, by intro h; cases h⟩
  | false =>
    unfold swabAll
    rw [fold_off, fold_off]
    simp

/-- Pieces as slices that are read. -/
def bls (ls : List (List UInt8)) : List BL := ls.map fun l => ⟨.ro, 1, l⟩
theorem bls_slv (ls : List (List UInt8)) : (bls ls).map slv = ls.map rov := by simp [bls]
theorem bls_l (ls : List (List UInt8)) : (bls ls).map (·.l) = ls := by
  simp only [bls, List.map_map]
  exact List.map_id _
theorem bls_cat (ls : List (List UInt8)) : cat (bls ls) = ls.flatten := by simp [bls, cat, List.flatMap_map, List.flatMap_id']
theorem bls_ok (ls : List (List UInt8)) (S : ASt) : ∀ x ∈ bls ls, x.ok S := by
  intro x hx
  simp only [bls, List.mem_map] at hx
  obtain ⟨l, _, rfl⟩ := hx
  exact ⟨.inl rfl, (by intro h; cases h), Rd.ro⟩
theorem wholeR (on : Bool) (ls : List (List UInt8)) (S : ASt) (hn : ls.length ≤ 100000000) (hb : ls.flatten.length ≤ 100000) :
    ACalls Try.prog 13 [.bool on, .sl .ro 1 (ls.map rov)] S fun v S' => v = .str (swabAll on ls) ∧ Stays S S' [] := by
  have := whole on .ro 1 (bls ls) S Rd.ro (bls_ok ls S) (by simpa [bls] using hn) (by rw [bls_cat]; exact hb)
  rwa [bls_slv, bls_l] at this

theorem swabPieces (on : Bool) (ls : List (List UInt8)) (S : ASt) :
    ACalls Try.prog 5 [.bool on, .sl .ro 1 (ls.map rov)] S fun v S' => v = .bool true := by
  refine en_5 (by exact Nat.le_of_ble_eq_true rfl) ?_
  unfold rc_5
  refine r_reg ?_
  apply i_mov
  · exact tB rfl
  refine i_nil ?_
  refine r_reg ?_
  apply i_mov
  · exact tS rfl
  refine i_call (few ls _) rfl ?_
  rintro v S1 ⟨b, rfl, rfl, hb⟩
  cases b with
  | false =>
    apply i_notF
    · exact rfl
    refine i_nil ?_
    apply r_condT
    · exact rfl
    refine r_reg ?_
    refine i_call (swabRuns _) rfl ?_
    rintro v S2 ⟨rfl, hst⟩
    apply i_mov
    · exact tB rfl
    refine i_nil ?_
    refine r_ret ?_
    refine q_kr ?_
    apply q_ret1
    · exact tB rfl
    rfl
  | true =>
    obtain ⟨h60, h3000⟩ := hb rfl
    clear hb
    apply i_notT
    · exact rfl
    refine i_nil ?_
    apply r_condF
    · exact rfl
    refine r_nop ?_
    refine r_reg ?_
    apply i_mov
    · exact tS0 rfl
    refine i_nil ?_
    refine r_reg ?_
    apply i_mov
    · exact tI rfl
    refine i_nil ?_
    refine r_block ?_
    refine r_loopP [0, 1, 5, 6] (fun m G S' => ∃ (i : Nat) (o : Own) (sz : Nat), G = [(0, .bool on), (1, .sl .ro 1 (ls.map rov)), (5, .sl o sz (u8s (ls.take i).flatten)), (6, .int .i64 (i : Nat))] ∧ m = ls.length - i ∧ i ≤ ls.length ∧
      App S' o 1 sz (ls.take i).flatten.length) ?_ ?_
    · exact ⟨_, 0, _, _, rfl, rfl, Nat.zero_le _, App.none⟩
    rintro m G S2 ⟨i, o, sz, rfl, rfl, hi, ha⟩
    have hfl := flat_le ls i
    by_cases hc : i < ls.length
    · have hct := flat_take hc
      have hm := flat_mem hc
      refine r_reg ?_
      apply i_mov
      · exact tI rfl
      apply i_mov
      · exact tS rfl
      apply i_lenM
      · exact rfl
      apply i_ltT
      · exact rfl
      · exact rfl
      · omega
      refine i_nil ?_
      apply r_condT
      · exact rfl
      refine r_nop ?_
      refine r_block ?_
      refine r_reg ?_
      apply i_mov
      · exact tS rfl
      apply i_mov
      · exact tS rfl
      apply i_mov
      · exact tI rfl
      apply i_idxM
      · exact rfl
      · exact rfl
      · exact rfl
      · exact rfl
      · exact True.intro
      · omega
      apply i_loadM
      · exact rfl
      · exact True.intro
      · omega
      · exact fun _ => rfl
      (refine ⟨by omega, ?_⟩)
      apply i_appX
      · exact rfl
      · exact rfl
      · assumption
      · exact Or.inl rfl
      · exact True.intro
      · omega
      apply i_mov
      · exact tS rfl
      refine i_nil ?_
      refine r_nop ?_
      refine r_reg ?_
      apply i_mov
      · exact tI rfl
      apply i_add
      · exact rfl
      · exact rfl
      · omega
      apply i_mov
      · exact tI rfl
      refine i_nil ?_
      refine r_nop ?_
      apply q_l
      · exact ⟨i + 1, _, _, rfl, rfl, hc, App.new⟩
      · omega
      · exact ⟨rfl, rfl, by rw [hct]; rfl, rfl, trivial⟩
    · have e : i = ls.length := by omega
      subst e
      rw [List.take_length] at ha ⊢
      obtain ⟨e1, e2, e3⟩ := all_flat on ls
      have hr := ha.rd
      have hs : sz = 1 ∨ ls.flatten = [] := ha.sz.imp id (fun h => List.length_eq_zero_iff.1 h)
      refine r_reg ?_
      apply i_mov
      · exact tI rfl
      apply i_mov
      · exact tS rfl
      apply i_lenM
      · exact rfl
      apply i_ltF
      · exact rfl
      · exact rfl
      · omega
      refine i_nil ?_
      apply r_condF
      · exact rfl
      refine r_exit ?_
      refine r_reg ?_
      apply i_mov
      · exact tB rfl
      apply i_mov
      · exact tS rfl
      refine i_call (wholeR on ls _ (by omega) (by omega)) rfl ?_
      rintro v S3 ⟨rfl, hst3⟩
      apply i_mov
      · exact tB rfl
      apply i_mov
      · exact tS rfl
      apply i_mk1
      · exact tS rfl
      · exact rfl
      refine i_call (whole on .ro 1 [⟨o, sz, ls.flatten⟩] _ Rd.ro ?_ (by simp) (by simp only [cat, List.flatMap_cons, List.flatMap_nil, List.append_nil]; omega)) rfl ?_
      · intro x hx
        simp only [List.mem_singleton] at hx; subst hx
        exact ⟨hs, fun h => List.length_eq_zero_iff.1 (ha.nil h), hr.stays hst3⟩
      rintro v S4 ⟨rfl, hst4⟩
      simp only [List.map_cons, List.map_nil, ← e1]
      have hr4 := (hr.stays hst3).stays hst4
      cases on with
      | true =>
        apply i_mov
        · exact tC rfl
        apply i_mov
        · exact tC rfl
        refine i_nil ?_
        refine r_reg ?_
        apply i_mov
        · exact tC rfl
        apply i_mov
        · exact tC rfl
        apply i_seT
        · exact rfl
        · exact rfl
        · exact rfl
        apply i_mov
        · exact tB rfl
        apply i_gT
        · exact rfl
        apply i_mov
        · exact tC rfl
        apply i_gT
        · exact rfl
        apply i_lenS
        · exact rfl
        apply i_gT
        · exact rfl
        apply i_mov
        · exact tS rfl
        apply i_gT
        · exact rfl
        apply i_lenM
        · exact rfl
        apply i_gT
        · exact rfl
        apply i_eqT
        · exact rfl
        · exact rfl
        · omega
        apply i_pickT
        · exact rfl
        · exact tB rfl
        apply i_mov
        · exact tB rfl
        apply i_gT
        · exact rfl
        apply i_mov
        · exact tB rfl
        apply i_gT
        · exact rfl
        apply i_mov
        · exact tB rfl
        apply i_gF
        · exact rfl
        · exact rfl
        apply i_gF
        · exact rfl
        · exact rfl
        apply i_gF
        · exact rfl
        · exact rfl
        apply i_gF
        · exact rfl
        · exact rfl
        apply i_gT
        · exact rfl
        apply i_pickT
        · exact rfl
        · exact tB rfl
        apply i_pickT
        · exact rfl
        · exact tB rfl
        apply i_mov
        · exact tB rfl
        apply i_gT
        · exact rfl
        refine i_call (swabRuns _) rfl ?_
        rintro v S5 ⟨rfl, hst5⟩
        apply i_pickT
        · exact rfl
        · exact tB rfl
        apply i_mov
        · exact tB rfl
        refine i_nil ?_
        refine r_ret ?_
        apply q_ret1
        · exact tB rfl
        rfl
      | false =>
        have e4 := e3 rfl
        apply i_mov
        · exact tC rfl
        apply i_mov
        · exact tC rfl
        refine i_nil ?_
        refine r_reg ?_
        apply i_mov
        · exact tC rfl
        apply i_mov
        · exact tC rfl
        apply i_seT
        · exact rfl
        · exact rfl
        · exact rfl
        apply i_mov
        · exact tB rfl
        apply i_gT
        · exact rfl
        apply i_mov
        · exact tC rfl
        apply i_gT
        · exact rfl
        apply i_lenS
        · exact rfl
        apply i_gT
        · exact rfl
        apply i_mov
        · exact tS rfl
        apply i_gT
        · exact rfl
        apply i_lenM
        · exact rfl
        apply i_gT
        · exact rfl
        apply i_eqT
        · exact rfl
        · exact rfl
        · omega
        apply i_pickT
        · exact rfl
        · exact tB rfl
        apply i_mov
        · exact tB rfl
        apply i_gT
        · exact rfl
        apply i_mov
        · exact tB rfl
        apply i_gT
        · exact rfl
        apply i_mov
        · exact tB rfl
        apply i_gT
        · exact rfl
        apply i_mov
        · exact tC rfl
        apply i_gT
        · exact rfl
        apply i_mov
        · exact tS rfl
        apply i_gT
        · exact rfl
        apply i_toStr
        · exact rfl
        · assumption
        · (refine Rd.rd ?_; assumption)
        apply i_gT
        · exact rfl
        apply i_seT
        · exact rfl
        · exact rfl
        · assumption
        apply i_gT
        · exact rfl
        apply i_pickF
        · exact rfl
        · exact tB rfl
        apply i_pickT
        · exact rfl
        · exact tB rfl
        apply i_mov
        · exact tB rfl
        apply i_gT
        · exact rfl
        refine i_call (swabRuns _) rfl ?_
        rintro v S5 ⟨rfl, hst5⟩
        apply i_pickT
        · exact rfl
        · exact tB rfl
        apply i_mov
        · exact tB rfl
        refine i_nil ?_
        refine r_ret ?_
        apply q_ret1
        · exact tB rfl
        rfl

/-! ### turned about twice -/
def turn : List UInt8 → List UInt8
  | a :: c :: r => c :: a :: turn r
  | l => l
theorem turn_eq : ∀ b : List UInt8, swabAll true [b] = turn b := by
  intro b
  unfold swabAll
  rw [fold_on [b] [] (by simp)]
  simp only [List.nil_append, List.flatten_singleton]
  exact go b
where
  go : ∀ b : List UInt8, swapL b ++ restL b = turn b
    | [] => rfl
    | [a] => rfl
    | a :: c :: r => by simp [swapL, restL, turn, go r]
theorem turn_turn : ∀ b : List UInt8, turn (turn b) = b
  | [] => rfl
  | [a] => rfl
  | a :: c :: r => by simp [turn, turn_turn r]
theorem turn_len : ∀ b : List UInt8, (turn b).length = b.length
  | [] => rfl
  | [a] => rfl
  | a :: c :: r => by simp [turn, turn_len r]
theorem turn_get : ∀ (b : List UInt8) (i : Nat), i < b.length → (turn b)[if i % 2 = 0 then (if i + 1 < b.length then i + 1 else i) else i - 1]? = b[i]?
  | [a], 0, _ => rfl
  | [a], i + 1, h => by simp at h
  | a :: c :: r, 0, _ => by simp [turn]
  | a :: c :: r, 1, _ => by simp [turn]
  | a :: c :: r, i + 2, h => by
    have ih := turn_get r i (by simpa using h)
    have e : (if (i + 2) % 2 = 0 then (if i + 2 + 1 < (a :: c :: r).length then i + 2 + 1 else i + 2) else i + 2 - 1) = (if i % 2 = 0 then (if i + 1 < r.length then i + 1 else i) else i - 1) + 2 := by
      simp only [List.length_cons]
      rcases Nat.mod_two_eq_zero_or_one i with h1 | h1
      · rw [if_pos (by omega : (i + 2) % 2 = 0), if_pos h1]
        by_cases h2 : i + 1 < r.length
        · rw [if_pos h2, if_pos (by omega)]
        · rw [if_neg h2, if_neg (by omega)]
      · rw [if_neg (by omega : ¬ (i + 2) % 2 = 0), if_neg (by omega : ¬ i % 2 = 0)]; omega
    rw [e]
    simpa [turn] using ih
theorem xor_one (n : Nat) : n ^^^ 1 = if n % 2 = 0 then n + 1 else n - 1 := by
  have h1 : (n ^^^ 1) / 2 = n / 2 := by rw [Nat.xor_div_two]; simp
  have h2 : (n ^^^ 1) % 2 = (n % 2) ^^^ 1 := by
    have := Nat.xor_mod_two_pow (a := n) (b := 1) (n := 1)
    simpa using this
  rcases Nat.mod_two_eq_zero_or_one n with h | h
  · rw [h] at h2; rw [if_pos h]
    have h3 : (0 ^^^ 1 : Nat) = 1 := rfl
    omega
  · rw [h] at h2; rw [if_neg (by omega)]
    have h3 : (1 ^^^ 1 : Nat) = 0 := rfl
    omega

theorem swabTwice (b : List UInt8) (S : ASt) :
    ACalls Try.prog 6 [.sl .ro 1 (u8s b)] S fun v S' => v = .bool true := by
  refine en_6 (by exact Nat.le_of_ble_eq_true rfl) ?_
  unfold rc_6
  by_cases h3 : b.length ≤ 3000
  · have hlen := turn_len b
    have htt := turn_turn b
    refine r_reg ?_
    apply i_mov
    · exact tB rfl
    refine i_nil ?_
    refine r_reg ?_
    apply i_mov
    · exact tS rfl
    apply i_lenM
    · exact rfl
    apply i_gtF
    · exact rfl
    · exact rfl
    · omega
    refine i_nil ?_
    apply r_condF
    · exact rfl
    refine r_nop ?_
    refine r_reg ?_
    apply i_mov
    · exact tS rfl
    apply i_mk1
    · exact tS rfl
    · exact rfl
    refine i_call (wholeR true [b] _ (by simp) (by simp; omega)) rfl ?_
    rintro v S1 ⟨rfl, hst1⟩
    rw [turn_eq]
    apply i_mov
    · exact tC rfl
    refine i_nil ?_
    refine r_reg ?_
    apply i_mov
    · exact tC rfl
    apply i_lenS
    · exact rfl
    apply i_mov
    · exact tS rfl
    apply i_lenM
    · exact rfl
    apply i_neF
    · exact rfl
    · exact rfl
    · omega
    apply i_mov
    · exact tB rfl
    apply i_gT
    · exact rfl
    apply i_mov
    · exact tC rfl
    apply i_gT
    · exact rfl
    apply i_toSl
    · exact rfl
    apply i_gT
    · exact rfl
    apply i_mk1
    · exact tS rfl
    · exact rfl
    apply i_gT
    · exact rfl
    apply i_mov
    · exact tS rfl
    apply i_gT
    · exact rfl
    apply i_toStr
    · exact rfl
    · exact Or.inl rfl
    · exact True.intro
    apply i_gT
    · exact rfl
    refine i_call (wholeR true [turn b] _ (by simp) (by simp; omega)) rfl ?_
    rintro v S2 ⟨rfl, hst2⟩
    rw [turn_eq, htt]
    apply i_gT
    · exact rfl
    apply c_re
    · (apply c_toStr; (· exact rfl); (· exact Or.inl rfl); (· exact True.intro); (· exact rfl))
    apply i_gT
    · exact rfl
    apply i_snF
    · exact rfl
    · exact rfl
    · exact rfl
    apply i_pickF
    · exact rfl
    · exact tB rfl
    refine i_nil ?_
    apply r_condF
    · exact rfl
    refine r_nop ?_
    refine r_reg ?_
    apply i_mov
    · exact tI rfl
    refine i_nil ?_
    refine r_block ?_
    refine r_loopP [0, 3, 4] (fun m G S' => ∃ (i : Nat), G = [(0, .sl .ro 1 (u8s b)), (3, .str (turn b)), (4, .int .i64 (i : Nat))] ∧ m = b.length - i ∧ i ≤ b.length) ?_ ?_
    · exact ⟨_, 0, rfl, rfl, Nat.zero_le _⟩
    rintro m G S3 ⟨i, rfl, rfl, hi⟩
    by_cases hc : i < b.length
    · have hx := xor_one i
      have hg := turn_get b i hc
      refine r_reg ?_
      apply i_mov
      · exact tI rfl
      apply i_mov
      · exact tS rfl
      apply i_lenM
      · exact rfl
      apply i_ltT
      · exact rfl
      · exact rfl
      · omega
      refine i_nil ?_
      apply r_condT
      · exact rfl
      refine r_nop ?_
      refine r_block ?_
      refine r_reg ?_
      apply i_mov
      · exact tI rfl
      apply i_xor1
      · exact rfl
      · exact rfl
      · omega
      by_cases hk : i ^^^ 1 < b.length
      · have e : (if i % 2 = 0 then (if i + 1 < b.length then i + 1 else i) else i - 1) = i ^^^ 1 := by
          rw [hx]; split
          · rename_i h; rw [if_pos h] at hx; rw [if_pos (by omega)]
          · rfl
        rw [e] at hg
        generalize i ^^^ 1 = k at hg hk hx ⊢
        have hkl : k < (turn b).length := by omega
        rw [List.getElem?_eq_getElem hkl, List.getElem?_eq_getElem hc] at hg
        simp only [Option.some.injEq] at hg
        have hz : (((turn b)[k]).toNat : Int) = (b[i].toNat : Int) := by rw [hg]
        clear hx e
        apply i_mov
        · exact tI rfl
        refine i_nil ?_
        refine r_reg ?_
        apply i_mov
        · exact tI rfl
        apply i_mov
        · exact tS rfl
        apply i_lenM
        · exact rfl
        apply i_geF
        · exact rfl
        · exact rfl
        · omega
        refine i_nil ?_
        apply r_condF
        · exact rfl
        refine r_nop ?_
        refine r_reg ?_
        apply i_mov
        · exact tC rfl
        apply i_mov
        · exact tI rfl
        apply i_ixS
        · exact rfl
        · exact rfl
        · exact rfl
        (refine ⟨by omega, ?_⟩)
        apply i_mov
        · exact tS rfl
        apply i_mov
        · exact tI rfl
        apply i_idxM
        · exact rfl
        · exact rfl
        · exact rfl
        · exact rfl
        · exact True.intro
        · omega
        apply i_loadM
        · exact rfl
        · exact True.intro
        · omega
        · exact fun _ => rfl
        (refine ⟨by omega, ?_⟩)
        apply i_neF
        · exact rfl
        · exact rfl
        · omega
        refine i_nil ?_
        apply r_condF
        · exact rfl
        refine r_nop ?_
        refine r_nop ?_
        refine r_reg ?_
        apply i_mov
        · exact tI rfl
        apply i_add
        · exact rfl
        · exact rfl
        · omega
        apply i_mov
        · exact tI rfl
        refine i_nil ?_
        refine r_nop ?_
        apply q_lp [0, 3, 4]
        · exact ⟨i + 1, rfl, rfl, hc⟩
        · omega
      · have e : (if i % 2 = 0 then (if i + 1 < b.length then i + 1 else i) else i - 1) = i := by
          rw [hx] at hk
          split at hk
          · rename_i h; rw [if_pos h, if_neg (by omega)]
          · omega
        rw [e] at hg
        generalize i ^^^ 1 = k at hk hx ⊢
        have hkl : i < (turn b).length := by omega
        rw [List.getElem?_eq_getElem hkl, List.getElem?_eq_getElem hc] at hg
        simp only [Option.some.injEq] at hg
        have hz : (((turn b)[i]).toNat : Int) = (b[i].toNat : Int) := by rw [hg]
        clear hx e
        apply i_mov
        · exact tI rfl
        refine i_nil ?_
        refine r_reg ?_
        apply i_mov
        · exact tI rfl
        apply i_mov
        · exact tS rfl
        apply i_lenM
        · exact rfl
        apply i_geT
        · exact rfl
        · exact rfl
        · omega
        refine i_nil ?_
        apply r_condT
        · exact rfl
        refine r_reg ?_
        apply i_mov
        · exact tI rfl
        apply i_mov
        · exact tI rfl
        refine i_nil ?_
        refine r_nop ?_
        refine r_reg ?_
        apply i_mov
        · exact tC rfl
        apply i_mov
        · exact tI rfl
        apply i_ixS
        · exact rfl
        · exact rfl
        · exact rfl
        (refine ⟨by omega, ?_⟩)
        apply i_mov
        · exact tS rfl
        apply i_mov
        · exact tI rfl
        apply i_idxM
        · exact rfl
        · exact rfl
        · exact rfl
        · exact rfl
        · exact True.intro
        · omega
        apply i_loadM
        · exact rfl
        · exact True.intro
        · omega
        · exact fun _ => rfl
        (refine ⟨by omega, ?_⟩)
        apply i_neF
        · exact rfl
        · exact rfl
        · omega
        refine i_nil ?_
        apply r_condF
        · exact rfl
        refine r_nop ?_
        refine r_nop ?_
        refine r_reg ?_
        apply i_mov
        · exact tI rfl
        apply i_add
        · exact rfl
        · exact rfl
        · omega
        apply i_mov
        · exact tI rfl
        refine i_nil ?_
        refine r_nop ?_
        apply q_lp [0, 3, 4]
        · exact ⟨i + 1, rfl, rfl, hc⟩
        · omega
    · refine r_reg ?_
      apply i_mov
      · exact tI rfl
      apply i_mov
      · exact tS rfl
      apply i_lenM
      · exact rfl
      apply i_ltF
      · exact rfl
      · exact rfl
      · omega
      refine i_nil ?_
      apply r_condF
      · exact rfl
      refine r_exit ?_
      refine r_reg ?_
      refine i_call (swabRuns _) rfl ?_
      rintro v S5 ⟨rfl, hst5⟩
      apply i_mov
      · exact tB rfl
      refine i_nil ?_
      refine r_ret ?_
      apply q_ret1
      · exact tB rfl
      rfl
  · refine r_reg ?_
    apply i_mov
    · exact tB rfl
    refine i_nil ?_
    refine r_reg ?_
    apply i_mov
    · exact tS rfl
    apply i_lenM
    · exact rfl
    apply i_gtT
    · exact rfl
    · exact rfl
    · omega
    refine i_nil ?_
    apply r_condT
    · exact rfl
    refine r_reg ?_
    refine i_call (swabRuns _) rfl ?_
    rintro v S5 ⟨rfl, hst5⟩
    apply i_mov
    · exact tB rfl
    refine i_nil ?_
    refine r_ret ?_
    refine q_kr ?_
    apply q_ret1
    · exact tB rfl
    rfl
end Go.Proofs.Ytmjjhakclggfgaa.Abs
