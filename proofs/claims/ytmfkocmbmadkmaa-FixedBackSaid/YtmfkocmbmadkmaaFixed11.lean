/- The law FixedBack: that it answers true. -/
import Derived.Test.YtmfkocmbmadkmaaFixed10
import Derived.Test.YtmfkocmbmadkmaaFx2
namespace Go.Proofs.Ytmfkocmbmadkmaa.Abs
open Go Go.Proofs
set_option linter.unusedVariables false
set_option linter.unusedSimpArgs false
attribute [local irreducible] wpI wpR ropK chk ASt.push ASt.put ASt.fresh ASt.kill appS

theorem tmod_nat (a b : Nat) : ((a : Int)).tmod (b : Int) = ((a % b : Nat) : Int) := rfl
theorem last_ne {t : List UInt8} (hp : 0 < t.length) (h : ¬ (t[t.length - 1]'(by omega)) = 32) : ¬ ((t[t.length - 1]'(by omega)).toNat : Int) = 32 := u8_neN rfl h

theorem fixedBack (cbs : UInt8) (ls : List (List UInt8)) (S : ASt) :
    ACalls Try.prog 7 [u8 cbs, .sl .ro 1 (ls.map .str)] S fun v S' => v = .bool true := by
  refine en_7 (by exact Nat.le_of_ble_eq_true rfl) ?_
  unfold rc_7
  obtain ⟨n, hn⟩ : ∃ n, cbs.toNat % 60 + 1 = n := ⟨_, rfl⟩
  have hn1 : 1 ≤ n := by omega
  have hn60 : n ≤ 60 := by omega
  have hh : heldC (n : Int) = n := heldC_nat hn1 (by omega)
  refine r_reg ?_
  apply i_mov
  · exact tB rfl
  refine i_nil ?_
  refine r_reg ?_
  apply i_mov
  · exact tI rfl
  refine i_rem rfl rfl (by omega) (tmod_nat cbs.toNat 60) ?_
  refine i_toInt rfl (wrap_i64 (by omega) (by omega)) ?_
  apply i_add
  · exact rfl
  · exact rfl
  · omega
  apply i_mov
  · exact tI rfl
  refine i_nil ?_
  refine r_reg ?_
  apply i_mov
  · exact tS rfl
  apply i_lenM
  · exact rfl
  rw [show ((cbs.toNat % 60 : Nat) : Int) + 1 = ((n : Nat) : Int) by omega]
  by_cases h20 : ls.length ≤ 20
  · apply i_gtF
    · exact rfl
    · exact rfl
    · omega
    refine i_nil ?_
    apply r_condF
    · exact rfl
    refine r_nop ?_
    refine r_reg ?_
    apply i_mov
    · exact tC rfl
    refine i_nil ?_
    refine r_reg ?_
    apply i_mov
    · exact tI rfl
    refine i_nil ?_
    refine r_block ?_
    refine r_loopP [1, 5, 6, 7] (fun m G S' => ∃ i : Nat, G = [(1, .sl .ro 1 (ls.map .str)), (5, .int .i64 (n : Nat)), (6, .str (linesL ((ls.map (·.take n)).take i))), (7, .int .i64 (i : Nat))] ∧ m = ls.length - i ∧ i ≤ ls.length ∧
      (∀ t ∈ (ls.map (·.take n)).take i, (∀ x ∈ t, x ≠ 10) ∧ ∀ hp : 0 < t.length, ¬ t[t.length - 1] = 32)) ?_ ?_
    · exact ⟨_, 0, rfl, rfl, Nat.zero_le _, by simp⟩
    rintro m G S2 ⟨i, rfl, rfl, hi, hgood⟩
    obtain ⟨ts, hts⟩ : ∃ ts, ls.map (·.take n) = ts := ⟨_, rfl⟩
    have htl : ts.length = ls.length := by rw [← hts, List.length_map]
    have hlen : ∀ t ∈ ts, t.length ≤ n := by
      intro t ht
      rw [← hts] at ht
      obtain ⟨l, _, rfl⟩ := List.mem_map.1 ht
      rw [List.length_take]; omega
    rw [hts] at hgood ⊢
    have hll : (linesL (ts.take i)).length ≤ (n + 1) * (ts.take i).length := linesL_len fun t ht => hlen t (List.mem_of_mem_take ht)
    have hmul : (n + 1) * (ts.take i).length ≤ 61 * 20 := Nat.mul_le_mul (by omega) (by rw [List.length_take]; omega)
    by_cases hc : i < ls.length
    · refine r_reg ?_
      apply i_mov
      · exact tI rfl
      apply i_mov
      · exact tS rfl
      apply i_lenM
      · exact rfl
      apply i_ltT
      · exact rfl
      · exact rfl
      · omega
      refine i_nil ?_
      apply r_condT
      · exact rfl
      refine r_nop ?_
      refine r_block ?_
      refine r_reg ?_
      apply i_mov
      · exact tS rfl
      apply i_mov
      · exact tI rfl
      apply i_idxM
      · exact rfl
      · exact rfl
      · exact rfl
      · exact rfl
      · exact True.intro
      · omega
      apply i_loadM
      · exact rfl
      · exact True.intro
      · omega
      · exact fun _ => rfl
      (refine ⟨by omega, ?_⟩)
      apply i_mov
      · exact tS rfl
      apply i_mov
      · exact tI rfl
      apply i_idxM
      · exact rfl
      · exact rfl
      · exact rfl
      · exact rfl
      · exact True.intro
      · omega
      apply i_loadM
      · exact rfl
      · exact True.intro
      · omega
      · exact fun _ => rfl
      (refine ⟨by omega, ?_⟩)
      apply i_lenS
      · exact rfl
      apply i_mov
      · exact tI rfl
      apply i_min
      · exact rfl
      · exact rfl
      rw [show min ((ls[i].length : Nat) : Int) (n : Nat) = ((min ls[i].length n : Nat) : Int) by omega]
      refine i_sliceS 0 (min ls[i].length n) rfl rfl rfl (by omega) (by omega) ?_
      have hti : (ls[i].take (min ls[i].length n)).drop 0 = ts[i]'(by omega) := by
        subst hts
        rw [List.drop_zero, List.getElem_map]
        rcases Nat.le_total ls[i].length n with h | h
        · rw [Nat.min_eq_left h, List.take_length, List.take_of_length_le h]
        · rw [Nat.min_eq_right h]
      rw [hti]
      have htn := hlen _ (List.getElem_mem (by omega : i < ts.length))
      have hlt2 := linesL_take (ts := ts) (i := i) (by omega)
      have hmem : ∀ P : List UInt8 → Prop, (∀ u ∈ ts.take i, P u) → P (ts[i]'(by omega)) → ∀ u ∈ ts.take (i + 1), P u := by
        intro P h1 h2 u hu
        rw [List.take_succ_eq_append_getElem (by omega)] at hu
        rcases List.mem_append.1 hu with hu | hu
        · exact h1 u hu
        · rw [List.mem_singleton.1 hu]; exact h2
      generalize ts[i]'(by omega) = t at htn hlt2 hmem ⊢
      apply i_mov
      · exact tC rfl
      refine i_nil ?_
      refine r_reg ?_
      apply i_mov
      · exact tI rfl
      refine i_nil ?_
      refine r_block ?_
      refine r_loopP [1, 5, 6, 7, 8, 9] (fun m G S' => ∃ k : Nat, G = [(1, .sl .ro 1 (ls.map .str)), (5, .int .i64 (n : Nat)), (6, .str (linesL (ts.take i))), (7, .int .i64 (i : Nat)), (8, .str t), (9, .int .i64 (k : Nat))] ∧ m = t.length - k ∧ k ≤ t.length ∧ (∀ x ∈ t.take k, x ≠ 10) ∧ S' = S2) ?_ ?_
      · exact ⟨_, 0, rfl, rfl, Nat.zero_le _, by simp, rfl⟩
      rintro m G S3 ⟨k, rfl, rfl, hk, hno, rfl⟩
      by_cases hk2 : k < t.length
      · by_cases hx : t[k] = 10
        · have hxn := u8_eqN (n := 10) rfl hx
          refine r_reg ?_
          apply i_mov
          · exact tI rfl
          apply i_mov
          · exact tC rfl
          apply i_lenS
          · exact rfl
          apply i_ltT
          · exact rfl
          · exact rfl
          · omega
          refine i_nil ?_
          apply r_condT
          · exact rfl
          refine r_nop ?_
          refine r_block ?_
          refine r_reg ?_
          apply i_mov
          · exact tC rfl
          apply i_mov
          · exact tI rfl
          apply i_ixS
          · exact rfl
          · exact rfl
          · exact rfl
          (refine ⟨by omega, ?_⟩)
          apply i_eqT
          · exact rfl
          · exact rfl
          · omega
          refine i_nil ?_
          apply r_condT
          · exact rfl
          refine r_reg ?_
          refine i_call (fixedRuns _) rfl ?_
          rintro v S7 ⟨rfl, hst7⟩
          apply i_mov
          · exact tB rfl
          refine i_nil ?_
          refine r_ret ?_
          refine q_kr ?_
          refine q_br ?_
          refine q_lr ?_
          refine q_br ?_
          refine q_br ?_
          refine q_lr ?_
          refine q_br ?_
          apply q_ret1
          · exact tB rfl
          rfl
        · have hxn := u8_neN (n := 10) rfl hx
          refine r_reg ?_
          apply i_mov
          · exact tI rfl
          apply i_mov
          · exact tC rfl
          apply i_lenS
          · exact rfl
          apply i_ltT
          · exact rfl
          · exact rfl
          · omega
          refine i_nil ?_
          apply r_condT
          · exact rfl
          refine r_nop ?_
          refine r_block ?_
          refine r_reg ?_
          apply i_mov
          · exact tC rfl
          apply i_mov
          · exact tI rfl
          apply i_ixS
          · exact rfl
          · exact rfl
          · exact rfl
          (refine ⟨by omega, ?_⟩)
          apply i_eqF
          · exact rfl
          · exact rfl
          · omega
          refine i_nil ?_
          apply r_condF
          · exact rfl
          refine r_nop ?_
          refine r_nop ?_
          refine r_reg ?_
          apply i_mov
          · exact tI rfl
          apply i_add
          · exact rfl
          · exact rfl
          · omega
          apply i_mov
          · exact tI rfl
          refine i_nil ?_
          refine r_nop ?_
          apply q_lp [1, 5, 6, 7, 8, 9]
          · refine ⟨k + 1, rfl, rfl, hk2, ?_, rfl⟩
            intro x hx2
            rw [List.take_succ_eq_append_getElem hk2] at hx2
            rcases List.mem_append.1 hx2 with hx2 | hx2
            · exact hno x hx2
            · rw [List.mem_singleton.1 hx2]; exact hx
          · omega
      · have e : k = t.length := by omega
        subst e
        rw [List.take_length] at hno
        by_cases ht0 : t = []
        · refine r_reg ?_
          apply i_mov
          · exact tI rfl
          apply i_mov
          · exact tC rfl
          apply i_lenS
          · exact rfl
          apply i_ltF
          · exact rfl
          · exact rfl
          · omega
          refine i_nil ?_
          apply r_condF
          · exact rfl
          refine r_exit ?_
          refine r_reg ?_
          apply i_mov
          · exact tC rfl
          apply i_snF
          · exact rfl
          · exact rfl
          · assumption
          apply i_mov
          · exact tB rfl
          apply i_gF
          · exact rfl
          · exact rfl
          apply i_gF
          · exact rfl
          · exact rfl
          apply i_gF
          · exact rfl
          · exact rfl
          apply i_gF
          · exact rfl
          · exact rfl
          apply i_gF
          · exact rfl
          · exact rfl
          apply i_gF
          · exact rfl
          · exact rfl
          apply i_pickF
          · exact rfl
          · exact tB rfl
          refine i_nil ?_
          apply r_condF
          · exact rfl
          refine r_nop ?_
          refine r_reg ?_
          apply i_mov
          · exact tC rfl
          apply i_mov
          · exact tC rfl
          apply i_sadd
          · exact rfl
          · exact rfl
          · omega
          apply i_sadd
          · exact rfl
          · exact rfl
          · (simp only [List.length_map, List.length_append, List.length_cons, List.length_nil, List.length_take, List.length_drop, List.length_replicate]; omega)
          apply i_mov
          · exact tC rfl
          refine i_nil ?_
          refine r_nop ?_
          refine r_reg ?_
          apply i_mov
          · exact tI rfl
          apply i_add
          · exact rfl
          · exact rfl
          · omega
          apply i_mov
          · exact tI rfl
          refine i_nil ?_
          refine r_nop ?_
          apply q_lp [1, 5, 6, 7]
          · refine ⟨i + 1, by rw [hlt2, ← List.append_assoc]; rfl, rfl, hc, hmem _ hgood ⟨hno, ?_⟩⟩
            intro hp; rw [ht0] at hp; simp at hp
          · omega
        · have htp : 0 < t.length := List.length_pos_iff.2 ht0
          by_cases hx : t[t.length - 1]'(by omega) = 32
          · have hxn := u8_eqN (n := 32) rfl hx
            refine r_reg ?_
            apply i_mov
            · exact tI rfl
            apply i_mov
            · exact tC rfl
            apply i_lenS
            · exact rfl
            apply i_ltF
            · exact rfl
            · exact rfl
            · omega
            refine i_nil ?_
            apply r_condF
            · exact rfl
            refine r_exit ?_
            refine r_reg ?_
            apply i_mov
            · exact tC rfl
            apply i_snT
            · exact rfl
            · exact rfl
            · assumption
            apply i_mov
            · exact tB rfl
            apply i_gT
            · exact rfl
            apply i_mov
            · exact tC rfl
            apply i_gT
            · exact rfl
            apply i_mov
            · exact tC rfl
            apply i_gT
            · exact rfl
            apply i_lenS
            · exact rfl
            apply i_gT
            · exact rfl
            apply i_sub
            · exact rfl
            · exact rfl
            · omega
            apply i_gT
            · exact rfl
            refine i_ixS (t.length - 1) rfl rfl (by omega) ⟨by omega, ?_⟩
            apply i_gT
            · exact rfl
            apply i_eqT
            · exact rfl
            · exact rfl
            · omega
            apply i_pickT
            · exact rfl
            · exact tB rfl
            refine i_nil ?_
            apply r_condT
            · exact rfl
            refine r_reg ?_
            refine i_call (fixedRuns _) rfl ?_
            rintro v S7 ⟨rfl, hst7⟩
            apply i_mov
            · exact tB rfl
            refine i_nil ?_
            refine r_ret ?_
            refine q_kr ?_
            refine q_br ?_
            refine q_lr ?_
            refine q_br ?_
            apply q_ret1
            · exact tB rfl
            rfl
          · have hxn := u8_neN (n := 32) rfl hx
            refine r_reg ?_
            apply i_mov
            · exact tI rfl
            apply i_mov
            · exact tC rfl
            apply i_lenS
            · exact rfl
            apply i_ltF
            · exact rfl
            · exact rfl
            · omega
            refine i_nil ?_
            apply r_condF
            · exact rfl
            refine r_exit ?_
            refine r_reg ?_
            apply i_mov
            · exact tC rfl
            apply i_snT
            · exact rfl
            · exact rfl
            · assumption
            apply i_mov
            · exact tB rfl
            apply i_gT
            · exact rfl
            apply i_mov
            · exact tC rfl
            apply i_gT
            · exact rfl
            apply i_mov
            · exact tC rfl
            apply i_gT
            · exact rfl
            apply i_lenS
            · exact rfl
            apply i_gT
            · exact rfl
            apply i_sub
            · exact rfl
            · exact rfl
            · omega
            apply i_gT
            · exact rfl
            refine i_ixS (t.length - 1) rfl rfl (by omega) ⟨by omega, ?_⟩
            apply i_gT
            · exact rfl
            apply i_eqF
            · exact rfl
            · exact rfl
            · omega
            apply i_pickT
            · exact rfl
            · exact tB rfl
            refine i_nil ?_
            apply r_condF
            · exact rfl
            refine r_nop ?_
            refine r_reg ?_
            apply i_mov
            · exact tC rfl
            apply i_mov
            · exact tC rfl
            apply i_sadd
            · exact rfl
            · exact rfl
            · omega
            apply i_sadd
            · exact rfl
            · exact rfl
            · (simp only [List.length_map, List.length_append, List.length_cons, List.length_nil, List.length_take, List.length_drop, List.length_replicate]; omega)
            apply i_mov
            · exact tC rfl
            refine i_nil ?_
            refine r_nop ?_
            refine r_reg ?_
            apply i_mov
            · exact tI rfl
            apply i_add
            · exact rfl
            · exact rfl
            · omega
            apply i_mov
            · exact tI rfl
            refine i_nil ?_
            refine r_nop ?_
            apply q_lp [1, 5, 6, 7]
            · exact ⟨i + 1, by rw [hlt2, ← List.append_assoc]; rfl, rfl, hc, hmem _ hgood ⟨hno, fun _ => hx⟩⟩
            · omega
    · have e : i = ls.length := by omega
      subst e
      have hta : ts.take ls.length = ts := List.take_of_length_le (by omega)
      rw [hta] at hgood hll hmul ⊢
      have hpk := packAll_lines n ts (fun t ht => (hgood t ht).1)
      rw [overs_zero hlen] at hpk
      have hun := unpackAll_recs hn1 (ts := ts) (fun t ht => ⟨hlen t ht, (hgood t ht).2⟩)
      have hrl := recsL_len n ts
      have hnl : n * ls.length ≤ 60 * 20 := Nat.mul_le_mul hn60 h20
      rw [htl] at hrl
      have hnz : (n : Int) * (ls.length : Int) = ((n * ls.length : Nat) : Int) := (Int.natCast_mul _ _).symm
      refine r_reg ?_
      apply i_mov
      · exact tI rfl
      apply i_mov
      · exact tS rfl
      apply i_lenM
      · exact rfl
      apply i_ltF
      · exact rfl
      · exact rfl
      · omega
      refine i_nil ?_
      apply r_condF
      · exact rfl
      refine r_exit ?_
      refine r_reg ?_
      apply i_mov
      · exact tI rfl
      apply i_mov
      · exact tC rfl
      apply i_toSl
      · exact rfl
      apply i_mk1
      · exact tS rfl
      · exact rfl
      refine i_call (pack1 (n : Nat) .ro 1 (linesL ts) _ (.inl rfl) (by intro h; cases h) Rd.ro (by omega)) rfl ?_
      rw [hh, hpk]; dsimp only
      rintro v S3 ⟨rfl, hst3⟩
      apply i_mov
      · exact tT rfl
      apply i_ext
      · exact rfl
      · exact rfl
      apply i_ext
      · exact rfl
      · exact rfl
      apply i_mov
      · exact tC rfl
      apply i_mov
      · exact tI rfl
      refine i_nil ?_
      refine r_reg ?_
      apply i_mov
      · exact tC rfl
      apply i_lenS
      · exact rfl
      apply i_mov
      · exact tI rfl
      apply i_mov
      · exact tS rfl
      apply i_lenM
      · exact rfl
      refine i_mul rfl rfl (by rw [hnz]; omega) ?_
      rw [hnz]
      apply i_eqT
      · exact rfl
      · exact rfl
      · omega
      apply i_mov
      · exact tB rfl
      apply i_gT
      · exact rfl
      apply i_mov
      · exact tI rfl
      apply i_gT
      · exact rfl
      apply i_eqT
      · exact rfl
      · exact rfl
      · omega
      apply i_pickT
      · exact rfl
      · exact tB rfl
      apply i_mov
      · exact tB rfl
      apply i_gT
      · exact rfl
      apply i_mov
      · exact tI rfl
      apply i_gT
      · exact rfl
      apply i_mov
      · exact tC rfl
      apply i_gT
      · exact rfl
      apply i_toSl
      · exact rfl
      apply i_gT
      · exact rfl
      apply i_mk1
      · exact tS rfl
      · exact rfl
      apply i_gT
      · exact rfl
      refine i_call (unpack1 (n : Nat) .ro 1 (recsL n ts) _ (.inl rfl) (by intro h; cases h) Rd.ro (by omega)) rfl ?_
      rw [hh, hun]; dsimp only
      rintro v S4 ⟨rfl, hst4⟩
      apply i_gT
      · exact rfl
      apply i_mov
      · exact tC rfl
      apply i_gT
      · exact rfl
      apply i_seT
      · exact rfl
      · exact rfl
      · exact rfl
      apply i_pickT
      · exact rfl
      · exact tB rfl
      apply i_mov
      · exact tB rfl
      apply i_gT
      · exact rfl
      refine i_call (fixedRuns _) rfl ?_
      rintro v S7 ⟨rfl, hst7⟩
      apply i_pickT
      · exact rfl
      · exact tB rfl
      apply i_mov
      · exact tB rfl
      refine i_nil ?_
      refine r_ret ?_
      apply q_ret1
      · exact tB rfl
      rfl
  · apply i_gtT
    · exact rfl
    · exact rfl
    · omega
    refine i_nil ?_
    apply r_condT
    · exact rfl
    refine r_reg ?_
    refine i_call (fixedRuns _) rfl ?_
    rintro v S7 ⟨rfl, hst7⟩
    apply i_mov
    · exact tB rfl
    refine i_nil ?_
    refine r_ret ?_
    refine q_kr ?_
    apply q_ret1
    · exact tB rfl
    rfl
end Go.Proofs.Ytmfkocmbmadkmaa.Abs
