/- The law FixedLong: that it answers true. -/
import Derived.Test.YtmfkocmbmadkmaaFixed11
namespace Go.Proofs.Ytmfkocmbmadkmaa.Abs
open Go Go.Proofs
set_option linter.unusedVariables false
set_option linter.unusedSimpArgs false
attribute [local irreducible] wpI wpR ropK chk ASt.push ASt.put ASt.fresh ASt.kill appS

theorem rep_snoc {α : Type} {a b : Nat} (x : α) (h : b = a + 1) : List.replicate b x = List.replicate a x ++ [x] := by subst h; exact List.replicate_succ'
theorem fixedLong (cbs : UInt8) (lens : List UInt8) (c : UInt8) (S : ASt) :
    ACalls Try.prog 8 [u8 cbs, .sl .ro 1 (u8s lens), u8 c] S fun v S' => v = .bool true := by
  refine en_8 (by exact Nat.le_of_ble_eq_true rfl) ?_
  unfold rc_8
  obtain ⟨n, hn⟩ : ∃ n, cbs.toNat % 40 + 1 = n := ⟨_, rfl⟩
  have hn1 : 1 ≤ n := by omega
  have hn60 : n ≤ 40 := by omega
  have hh : heldC (n : Int) = n := heldC_nat hn1 (by omega)
  refine r_reg ?_
  apply i_mov
  · exact tB rfl
  refine i_nil ?_
  refine r_reg ?_
  apply i_mov
  · exact tI rfl
  refine i_rem rfl rfl (by omega) (tmod_nat cbs.toNat 40) ?_
  refine i_toInt rfl (wrap_i64 (by omega) (by omega)) ?_
  apply i_add
  · exact rfl
  · exact rfl
  · omega
  apply i_mov
  · exact tI rfl
  refine i_nil ?_
  refine r_reg ?_
  apply i_mov
  · exact tS rfl
  apply i_lenM
  · exact rfl
  rw [show ((cbs.toNat % 40 : Nat) : Int) + 1 = ((n : Nat) : Int) by omega]
  by_cases h20 : lens.length ≤ 20
  · by_cases hx : c = 10
    · have hxn := u8_eqN (n := 10) rfl hx
      apply i_gtF
      · exact rfl
      · exact rfl
      · omega
      apply i_mov
      · exact tB rfl
      apply i_gT
      · exact rfl
      apply i_mov
      · exact tI rfl
      apply i_gT
      · exact rfl
      apply i_eqT
      · exact rfl
      · exact rfl
      · omega
      apply i_pickF
      · exact rfl
      · exact tB rfl
      refine i_nil ?_
      apply r_condT
      · exact rfl
      refine r_reg ?_
      refine i_call (fixedRuns _) rfl ?_
      rintro v S7 ⟨rfl, hst7⟩
      apply i_mov
      · exact tB rfl
      refine i_nil ?_
      refine r_ret ?_
      refine q_kr ?_
      apply q_ret1
      · exact tB rfl
      rfl
    · have hxn := u8_neN (n := 10) rfl hx
      obtain ⟨ts, hts⟩ : ∃ ts, lens.map (fun x => List.replicate (x.toNat % 100) c) = ts := ⟨_, rfl⟩
      have htl : ts.length = lens.length := by rw [← hts, List.length_map]
      have hgood : ∀ t ∈ ts, (∀ x ∈ t, x ≠ 10) ∧ t.length ≤ 99 := by
        intro t ht
        rw [← hts] at ht
        obtain ⟨x, _, rfl⟩ := List.mem_map.1 ht
        refine ⟨fun y hy => by rw [List.eq_of_mem_replicate hy]; exact hx, ?_⟩
        rw [List.length_replicate]; omega
      apply i_gtF
      · exact rfl
      · exact rfl
      · omega
      apply i_mov
      · exact tB rfl
      apply i_gT
      · exact rfl
      apply i_mov
      · exact tI rfl
      apply i_gT
      · exact rfl
      apply i_eqF
      · exact rfl
      · exact rfl
      · omega
      apply i_pickF
      · exact rfl
      · exact tB rfl
      refine i_nil ?_
      apply r_condF
      · exact rfl
      refine r_nop ?_
      refine r_reg ?_
      apply i_mov
      · exact tC rfl
      apply i_mov
      · exact tI rfl
      apply i_mov
      · exact tC rfl
      refine i_nil ?_
      refine r_reg ?_
      apply i_mov
      · exact tI rfl
      refine i_nil ?_
      refine r_block ?_
      refine r_loopP [1, 2, 7, 8, 9, 10, 11] (fun m G S' => ∃ i : Nat, G = [(1, .sl .ro 1 (u8s lens)), (2, u8 c), (7, .int .i64 (n : Nat)), (8, .str (linesL (ts.take i))), (9, .int .i64 (overs n (ts.take i) : Nat)), (10, .str (recsL n (ts.take i))), (11, .int .i64 (i : Nat))] ∧ m = lens.length - i ∧ i ≤ lens.length) ?_ ?_
      · exact ⟨_, 0, rfl, rfl, Nat.zero_le _⟩
      rintro m G S2 ⟨i, rfl, rfl, hi⟩
      have hll : (linesL (ts.take i)).length ≤ (99 + 1) * (ts.take i).length := linesL_len fun t ht => (hgood t (List.mem_of_mem_take ht)).2
      have hrl := recsL_len n (ts.take i)
      have hti : (ts.take i).length = i := by rw [List.length_take]; omega
      rw [hti] at hll hrl
      have hmul : n * i ≤ 40 * 20 := Nat.mul_le_mul hn60 (by omega)
      have hov : overs n (ts.take i) ≤ i := by
        have : ∀ us : List (List UInt8), overs n us ≤ us.length := by
          intro us
          induction us with
          | nil => simp [overs]
          | cons u us ih =>
            have h1 : overs n (u :: us) = over n u + overs n us := by simp [overs]
            have h2 : over n u ≤ 1 := by unfold over; split <;> omega
            rw [h1, List.length_cons]; omega
        have := this (ts.take i)
        omega
      by_cases hc : i < lens.length
      · refine r_reg ?_
        apply i_mov
        · exact tI rfl
        apply i_mov
        · exact tS rfl
        apply i_lenM
        · exact rfl
        apply i_ltT
        · exact rfl
        · exact rfl
        · omega
        refine i_nil ?_
        apply r_condT
        · exact rfl
        refine r_nop ?_
        refine r_block ?_
        refine r_reg ?_
        apply i_mov
        · exact tS rfl
        apply i_mov
        · exact tI rfl
        apply i_idxM
        · exact rfl
        · exact rfl
        · exact rfl
        · exact rfl
        · exact True.intro
        · omega
        apply i_loadM
        · exact rfl
        · exact True.intro
        · omega
        · exact fun _ => rfl
        (refine ⟨by omega, ?_⟩)
        refine i_rem rfl rfl (by omega) (tmod_nat lens[i].toNat 100) ?_
        refine i_toInt rfl (wrap_i64 (by omega) (by omega)) ?_
        have hts1 : ts[i]'(by omega) = List.replicate (lens[i].toNat % 100) c := by subst hts; rw [List.getElem_map]
        have hl1 := linesL_take (ts := ts) (i := i) (by omega)
        have hl2 := recsL_take (n := n) (ts := ts) (i := i) (by omega)
        have hl3 := overs_take (n := n) (ts := ts) (i := i) (by omega)
        rw [hts1] at hl1 hl2 hl3
        obtain ⟨k, hk⟩ : ∃ k, lens[i].toNat % 100 = k := ⟨_, rfl⟩
        have hk99 : k ≤ 99 := by omega
        rw [hk] at hl1 hl2 hl3 ⊢
        apply i_mov
        · exact tI rfl
        refine i_nil ?_
        refine r_reg ?_
        apply i_mov
        · exact tI rfl
        refine i_nil ?_
        refine r_block ?_
        refine r_loopP [1, 2, 7, 8, 9, 10, 11, 12, 13] (fun m G S' => ∃ j : Nat, G = [(1, .sl .ro 1 (u8s lens)), (2, u8 c), (7, .int .i64 (n : Nat)), (8, .str (linesL (ts.take i) ++ List.replicate (min j k) c)), (9, .int .i64 (overs n (ts.take i) : Nat)),
          (10, .str (recsL n (ts.take i) ++ (List.replicate (min j (min k n)) c ++ List.replicate (min j n - k) 32))), (11, .int .i64 (i : Nat)), (12, .int .i64 (k : Nat)), (13, .int .i64 (j : Nat))] ∧ m = max k n - j ∧ j ≤ max k n ∧ S' = S2) ?_ ?_
        · have z1 : linesL (ts.take i) ++ List.replicate (min 0 k) c = linesL (ts.take i) := by simp
          have z2 : recsL n (ts.take i) ++ (List.replicate (min 0 (min k n)) c ++ List.replicate (min 0 n - k) 32) = recsL n (ts.take i) := by simp
          exact ⟨_, 0, by rw [z1, z2]; rfl, rfl, Nat.zero_le _, rfl⟩
        rintro m G S3 ⟨j, rfl, rfl, hj, rfl⟩
        have hs1 : (linesL (ts.take i) ++ List.replicate (min j k) c).length ≤ 3000 := by rw [List.length_append, List.length_replicate]; omega
        have hs2 : (recsL n (ts.take i) ++ (List.replicate (min j (min k n)) c ++ List.replicate (min j n - k) 32)).length ≤ 3000 := by simp only [List.length_append, List.length_replicate]; omega
        by_cases hjm : j < max k n
        · by_cases hjk : j < k
          · have e1 : linesL (ts.take i) ++ List.replicate (min (j + 1) k) c = (linesL (ts.take i) ++ List.replicate (min j k) c) ++ [c] := by
              rw [rep_snoc (a := min j k) c (by omega), List.append_assoc]
            by_cases hjn : j < n
            · have e2 : recsL n (ts.take i) ++ (List.replicate (min (j + 1) (min k n)) c ++ List.replicate (min (j + 1) n - k) 32) = (recsL n (ts.take i) ++ (List.replicate (min j (min k n)) c ++ List.replicate (min j n - k) 32)) ++ [c] := by
                rw [rep_snoc (a := min j (min k n)) c (by omega), show min (j + 1) n - k = 0 by omega, show min j n - k = 0 by omega]
                simp
              refine r_reg ?_
              apply i_mov
              · exact tI rfl
              apply i_mov
              · exact tI rfl
              apply i_mov
              · exact tI rfl
              apply i_max
              · exact rfl
              · exact rfl
              apply i_ltT
              · exact rfl
              · exact rfl
              · omega
              refine i_nil ?_
              apply r_condT
              · exact rfl
              refine r_nop ?_
              refine r_block ?_
              refine r_reg ?_
              apply i_mov
              · exact tI rfl
              apply i_mov
              · exact tI rfl
              apply i_ltT
              · exact rfl
              · exact rfl
              · omega
              refine i_nil ?_
              apply r_condT
              · exact rfl
              refine r_reg ?_
              apply i_mov
              · exact tC rfl
              apply i_mov
              · exact tI rfl
              apply i_mk1B
              · exact rfl
              apply i_toStr
              · exact rfl
              · exact Or.inl rfl
              · exact True.intro
              apply i_sadd
              · exact rfl
              · exact rfl
              · (simp only [List.length_map, List.length_append, List.length_cons, List.length_nil, List.length_take, List.length_drop, List.length_replicate]; omega)
              apply i_mov
              · exact tC rfl
              refine i_nil ?_
              refine r_nop ?_
              refine r_reg ?_
              apply i_mov
              · exact tI rfl
              apply i_mov
              · exact tI rfl
              apply i_ltT
              · exact rfl
              · exact rfl
              · omega
              apply i_mov
              · exact tB rfl
              apply i_gT
              · exact rfl
              apply i_mov
              · exact tI rfl
              apply i_gT
              · exact rfl
              apply i_mov
              · exact tI rfl
              apply i_gT
              · exact rfl
              apply i_ltT
              · exact rfl
              · exact rfl
              · omega
              apply i_pickT
              · exact rfl
              · exact tB rfl
              refine i_nil ?_
              apply r_condT
              · exact rfl
              refine r_reg ?_
              apply i_mov
              · exact tC rfl
              apply i_mov
              · exact tI rfl
              apply i_mk1B
              · exact rfl
              apply i_toStr
              · exact rfl
              · exact Or.inl rfl
              · exact True.intro
              apply i_sadd
              · exact rfl
              · exact rfl
              · (simp only [List.length_map, List.length_append, List.length_cons, List.length_nil, List.length_take, List.length_drop, List.length_replicate]; omega)
              apply i_mov
              · exact tC rfl
              refine i_nil ?_
              refine r_nop ?_
              refine r_nop ?_
              refine r_reg ?_
              apply i_mov
              · exact tI rfl
              apply i_add
              · exact rfl
              · exact rfl
              · omega
              apply i_mov
              · exact tI rfl
              refine i_nil ?_
              refine r_nop ?_
              apply q_lp [1, 2, 7, 8, 9, 10, 11, 12, 13]
              · exact ⟨j + 1, by rw [e1, e2]; rfl, rfl, by omega, rfl⟩
              · omega
            · have e2 : recsL n (ts.take i) ++ (List.replicate (min (j + 1) (min k n)) c ++ List.replicate (min (j + 1) n - k) 32) = recsL n (ts.take i) ++ (List.replicate (min j (min k n)) c ++ List.replicate (min j n - k) 32) := by
                rw [show min (j + 1) (min k n) = min j (min k n) by omega, show min (j + 1) n - k = min j n - k by omega]
              refine r_reg ?_
              apply i_mov
              · exact tI rfl
              apply i_mov
              · exact tI rfl
              apply i_mov
              · exact tI rfl
              apply i_max
              · exact rfl
              · exact rfl
              apply i_ltT
              · exact rfl
              · exact rfl
              · omega
              refine i_nil ?_
              apply r_condT
              · exact rfl
              refine r_nop ?_
              refine r_block ?_
              refine r_reg ?_
              apply i_mov
              · exact tI rfl
              apply i_mov
              · exact tI rfl
              apply i_ltT
              · exact rfl
              · exact rfl
              · omega
              refine i_nil ?_
              apply r_condT
              · exact rfl
              refine r_reg ?_
              apply i_mov
              · exact tC rfl
              apply i_mov
              · exact tI rfl
              apply i_mk1B
              · exact rfl
              apply i_toStr
              · exact rfl
              · exact Or.inl rfl
              · exact True.intro
              apply i_sadd
              · exact rfl
              · exact rfl
              · (simp only [List.length_map, List.length_append, List.length_cons, List.length_nil, List.length_take, List.length_drop, List.length_replicate]; omega)
              apply i_mov
              · exact tC rfl
              refine i_nil ?_
              refine r_nop ?_
              refine r_reg ?_
              apply i_mov
              · exact tI rfl
              apply i_mov
              · exact tI rfl
              apply i_ltF
              · exact rfl
              · exact rfl
              · omega
              apply i_mov
              · exact tB rfl
              apply i_gF
              · exact rfl
              · exact rfl
              apply i_gF
              · exact rfl
              · exact rfl
              apply i_gF
              · exact rfl
              · exact rfl
              apply i_pickF
              · exact rfl
              · exact tB rfl
              refine i_nil ?_
              apply r_condF
              · exact rfl
              refine r_reg ?_
              apply i_mov
              · exact tI rfl
              apply i_mov
              · exact tI rfl
              apply i_ltF
              · exact rfl
              · exact rfl
              · omega
              refine i_nil ?_
              apply r_condF
              · exact rfl
              refine r_nop ?_
              refine r_nop ?_
              refine r_nop ?_
              refine r_reg ?_
              apply i_mov
              · exact tI rfl
              apply i_add
              · exact rfl
              · exact rfl
              · omega
              apply i_mov
              · exact tI rfl
              refine i_nil ?_
              refine r_nop ?_
              apply q_lp [1, 2, 7, 8, 9, 10, 11, 12, 13]
              · exact ⟨j + 1, by rw [e1, e2]; rfl, rfl, by omega, rfl⟩
              · omega
          · have hjn : j < n := by omega
            have e1 : linesL (ts.take i) ++ List.replicate (min (j + 1) k) c = linesL (ts.take i) ++ List.replicate (min j k) c := by
              rw [show min (j + 1) k = min j k by omega]
            have e2 : recsL n (ts.take i) ++ (List.replicate (min (j + 1) (min k n)) c ++ List.replicate (min (j + 1) n - k) 32) = (recsL n (ts.take i) ++ (List.replicate (min j (min k n)) c ++ List.replicate (min j n - k) 32)) ++ [32] := by
              rw [show min (j + 1) (min k n) = min j (min k n) by omega, rep_snoc (a := min j n - k) (32 : UInt8) (by omega)]
              simp
            refine r_reg ?_
            apply i_mov
            · exact tI rfl
            apply i_mov
            · exact tI rfl
            apply i_mov
            · exact tI rfl
            apply i_max
            · exact rfl
            · exact rfl
            apply i_ltT
            · exact rfl
            · exact rfl
            · omega
            refine i_nil ?_
            apply r_condT
            · exact rfl
            refine r_nop ?_
            refine r_block ?_
            refine r_reg ?_
            apply i_mov
            · exact tI rfl
            apply i_mov
            · exact tI rfl
            apply i_ltF
            · exact rfl
            · exact rfl
            · omega
            refine i_nil ?_
            apply r_condF
            · exact rfl
            refine r_nop ?_
            refine r_reg ?_
            apply i_mov
            · exact tI rfl
            apply i_mov
            · exact tI rfl
            apply i_ltT
            · exact rfl
            · exact rfl
            · omega
            apply i_mov
            · exact tB rfl
            apply i_gT
            · exact rfl
            apply i_mov
            · exact tI rfl
            apply i_gT
            · exact rfl
            apply i_mov
            · exact tI rfl
            apply i_gT
            · exact rfl
            apply i_ltF
            · exact rfl
            · exact rfl
            · omega
            apply i_pickT
            · exact rfl
            · exact tB rfl
            refine i_nil ?_
            apply r_condF
            · exact rfl
            refine r_reg ?_
            apply i_mov
            · exact tI rfl
            apply i_mov
            · exact tI rfl
            apply i_ltT
            · exact rfl
            · exact rfl
            · omega
            refine i_nil ?_
            apply r_condT
            · exact rfl
            refine r_reg ?_
            apply i_mov
            · exact tC rfl
            apply i_sadd
            · exact rfl
            · exact rfl
            · (simp only [List.length_map, List.length_append, List.length_cons, List.length_nil, List.length_take, List.length_drop, List.length_replicate]; omega)
            apply i_mov
            · exact tC rfl
            refine i_nil ?_
            refine r_nop ?_
            refine r_nop ?_
            refine r_nop ?_
            refine r_reg ?_
            apply i_mov
            · exact tI rfl
            apply i_add
            · exact rfl
            · exact rfl
            · omega
            apply i_mov
            · exact tI rfl
            refine i_nil ?_
            refine r_nop ?_
            apply q_lp [1, 2, 7, 8, 9, 10, 11, 12, 13]
            · exact ⟨j + 1, by rw [e1, e2]; rfl, rfl, by omega, rfl⟩
            · omega
        · have e : j = max k n := by omega
          subst e
          have e1 : (linesL (ts.take i) ++ List.replicate (min (max k n) k) c) ++ [10] = linesL (ts.take (i + 1)) := by
            rw [hl1, show min (max k n) k = k by omega, List.append_assoc]
          have e2 : recsL n (ts.take i) ++ (List.replicate (min (max k n) (min k n)) c ++ List.replicate (min (max k n) n - k) 32) = recsL n (ts.take (i + 1)) := by
            rw [hl2, recP, List.take_replicate, List.length_replicate, show min (max k n) (min k n) = min n k by omega, show min (max k n) n = n by omega]
          by_cases hkn : n < k
          · have e3 : overs n (ts.take (i + 1)) = overs n (ts.take i) + 1 := by rw [hl3, over, List.length_replicate, if_pos hkn]
            refine r_reg ?_
            apply i_mov
            · exact tI rfl
            apply i_mov
            · exact tI rfl
            apply i_mov
            · exact tI rfl
            apply i_max
            · exact rfl
            · exact rfl
            apply i_ltF
            · exact rfl
            · exact rfl
            · omega
            refine i_nil ?_
            apply r_condF
            · exact rfl
            refine r_exit ?_
            refine r_reg ?_
            apply i_mov
            · exact tI rfl
            apply i_mov
            · exact tI rfl
            apply i_gtT
            · exact rfl
            · exact rfl
            · omega
            refine i_nil ?_
            apply r_condT
            · exact rfl
            refine r_reg ?_
            apply i_mov
            · exact tI rfl
            apply i_add
            · exact rfl
            · exact rfl
            · omega
            apply i_mov
            · exact tI rfl
            refine i_nil ?_
            refine r_nop ?_
            refine r_reg ?_
            apply i_mov
            · exact tC rfl
            apply i_sadd
            · exact rfl
            · exact rfl
            · (simp only [List.length_map, List.length_append, List.length_cons, List.length_nil, List.length_take, List.length_drop, List.length_replicate]; omega)
            apply i_mov
            · exact tC rfl
            refine i_nil ?_
            refine r_nop ?_
            refine r_reg ?_
            apply i_mov
            · exact tI rfl
            apply i_add
            · exact rfl
            · exact rfl
            · omega
            apply i_mov
            · exact tI rfl
            refine i_nil ?_
            refine r_nop ?_
            apply q_lp [1, 2, 7, 8, 9, 10, 11]
            · exact ⟨i + 1, by rw [← e1, ← e2, e3]; rfl, rfl, hc⟩
            · omega
          · have e3 : overs n (ts.take (i + 1)) = overs n (ts.take i) := by rw [hl3, over, List.length_replicate, if_neg hkn, Nat.add_zero]
            refine r_reg ?_
            apply i_mov
            · exact tI rfl
            apply i_mov
            · exact tI rfl
            apply i_mov
            · exact tI rfl
            apply i_max
            · exact rfl
            · exact rfl
            apply i_ltF
            · exact rfl
            · exact rfl
            · omega
            refine i_nil ?_
            apply r_condF
            · exact rfl
            refine r_exit ?_
            refine r_reg ?_
            apply i_mov
            · exact tI rfl
            apply i_mov
            · exact tI rfl
            apply i_gtF
            · exact rfl
            · exact rfl
            · omega
            refine i_nil ?_
            apply r_condF
            · exact rfl
            refine r_nop ?_
            refine r_reg ?_
            apply i_mov
            · exact tC rfl
            apply i_sadd
            · exact rfl
            · exact rfl
            · (simp only [List.length_map, List.length_append, List.length_cons, List.length_nil, List.length_take, List.length_drop, List.length_replicate]; omega)
            apply i_mov
            · exact tC rfl
            refine i_nil ?_
            refine r_nop ?_
            refine r_reg ?_
            apply i_mov
            · exact tI rfl
            apply i_add
            · exact rfl
            · exact rfl
            · omega
            apply i_mov
            · exact tI rfl
            refine i_nil ?_
            refine r_nop ?_
            apply q_lp [1, 2, 7, 8, 9, 10, 11]
            · exact ⟨i + 1, by rw [← e1, ← e2, e3]; rfl, rfl, hc⟩
            · omega
      · have e : i = lens.length := by omega
        subst e
        have hta : ts.take lens.length = ts := List.take_of_length_le (by omega)
        rw [hta] at hll hrl hov ⊢
        have hpk := packAll_lines n ts (fun t ht => (hgood t ht).1)
        refine r_reg ?_
        apply i_mov
        · exact tI rfl
        apply i_mov
        · exact tS rfl
        apply i_lenM
        · exact rfl
        apply i_ltF
        · exact rfl
        · exact rfl
        · omega
        refine i_nil ?_
        apply r_condF
        · exact rfl
        refine r_exit ?_
        refine r_reg ?_
        apply i_mov
        · exact tI rfl
        apply i_mov
        · exact tC rfl
        apply i_toSl
        · exact rfl
        apply i_mk1
        · exact tS rfl
        · exact rfl
        refine i_call (pack1 (n : Nat) .ro 1 (linesL ts) _ (.inl rfl) (by intro h; cases h) Rd.ro (by omega)) rfl ?_
        rw [hh, hpk]; dsimp only
        rintro v S3 ⟨rfl, hst3⟩
        apply i_mov
        · exact tT rfl
        apply i_ext
        · exact rfl
        · exact rfl
        apply i_ext
        · exact rfl
        · exact rfl
        apply i_mov
        · exact tC rfl
        apply i_mov
        · exact tI rfl
        refine i_nil ?_
        refine r_reg ?_
        apply i_mov
        · exact tC rfl
        apply i_mov
        · exact tC rfl
        apply i_seT
        · exact rfl
        · exact rfl
        · exact rfl
        apply i_mov
        · exact tB rfl
        apply i_gT
        · exact rfl
        apply i_mov
        · exact tI rfl
        apply i_gT
        · exact rfl
        apply i_mov
        · exact tI rfl
        apply i_gT
        · exact rfl
        apply i_eqT
        · exact rfl
        · exact rfl
        · omega
        apply i_pickT
        · exact rfl
        · exact tB rfl
        apply i_mov
        · exact tB rfl
        apply i_gT
        · exact rfl
        refine i_call (fixedRuns _) rfl ?_
        rintro v S7 ⟨rfl, hst7⟩
        apply i_pickT
        · exact rfl
        · exact tB rfl
        apply i_mov
        · exact tB rfl
        refine i_nil ?_
        refine r_ret ?_
        apply q_ret1
        · exact tB rfl
        rfl
  · apply i_gtT
    · exact rfl
    · exact rfl
    · omega
    apply i_mov
    · exact tB rfl
    apply i_gF
    · exact rfl
    · exact rfl
    apply i_gF
    · exact rfl
    · exact rfl
    apply i_pickT
    · exact rfl
    · exact tB rfl
    refine i_nil ?_
    apply r_condT
    · exact rfl
    refine r_reg ?_
    refine i_call (fixedRuns _) rfl ?_
    rintro v S7 ⟨rfl, hst7⟩
    apply i_mov
    · exact tB rfl
    refine i_nil ?_
    refine r_ret ?_
    refine q_kr ?_
    apply q_ret1
    · exact tB rfl
    rfl
end Go.Proofs.Ytmfkocmbmadkmaa.Abs
