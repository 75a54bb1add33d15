/- The law ConvCodes: that it answers true. -/
import Derived.Test.YthpomdoaiibnfaaCv11
namespace Go.Proofs.Ythpomdoaiibnfaa.Abs
open Go Go.Proofs
set_option linter.unusedVariables false

theorem dropWhile_twice (p : UInt8 → Bool) : ∀ l : List UInt8, (l.dropWhile p).dropWhile p = l.dropWhile p
  | [] => rfl
  | a :: l => by
    by_cases h : p a
    · rw [List.dropWhile_cons_of_pos h]; exact dropWhile_twice p l
    · rw [List.dropWhile_cons_of_neg h, List.dropWhile_cons_of_neg h]
theorem strip_strip (x : List UInt8) : strip (strip x) = strip x := by
  unfold strip
  rw [List.reverse_reverse, dropWhile_twice]
theorem lineU_rec2 {n : Nat} {t : List UInt8} (hl : t.length ≤ n) (h : strip t = t) : lineU (recP n t) = t ++ [10] := by
  rw [lineU, recP, strip_rep, List.take_of_length_le hl, h]
theorem unpackAll_recs2 {n : Nat} (hn : 0 < n) {ts : List (List UInt8)} (h : ∀ t ∈ ts, t.length ≤ n ∧ strip t = t) : unpackAll n (recsL n ts) = ⟨linesL ts, []⟩ := by
  rw [unpackAll, un_recs n hn ts []]
  have e : ts.flatMap (fun t => lineU (recP n t)) = linesL ts := by
    unfold linesL
    induction ts with
    | nil => rfl
    | cons t ts ih =>
      rw [List.flatMap_cons, List.flatMap_cons, ih (fun u hu => h u (List.mem_cons_of_mem _ hu)), lineU_rec2 (h t (List.mem_cons_self ..)).1 (h t (List.mem_cons_self ..)).2]
  rw [List.nil_append, e]
  rfl
theorem back_all : ((List.range 256).all fun i => Nat.beq (asciiL.getD (ebcdicL.getD i 0).toNat 0).toNat i) = true := by kernel_rfl
theorem back_map (x : List UInt8) : mapL asciiL (mapL ebcdicL x) = x := by
  unfold mapL
  rw [List.map_map]
  conv => rhs; rw [← List.map_id x]
  apply List.map_congr_left
  intro b _
  have h := Nat.eq_of_beq_eq_true (List.all_eq_true.1 back_all b.toNat (List.mem_range.2 b.toNat_lt))
  exact UInt8.toNat.inj h
set_option linter.unusedSimpArgs false
attribute [local irreducible] wpI wpR ropK chk ASt.push ASt.put ASt.fresh ASt.kill appS

theorem convCodes (cbs : UInt8) (ls : List (List UInt8)) (S : ASt) :
    ACalls Try.prog 7 [u8 cbs, .sl .ro 1 (ls.map .str)] S fun v S' => v = .bool true := by
  refine en_7 (by exact Nat.le_of_ble_eq_true rfl) ?_
  unfold rc_7
  obtain ⟨n, hn⟩ : ∃ n, cbs.toNat % 40 + 1 = n := ⟨_, rfl⟩
  have hn1 : 1 ≤ n := by omega
  have hn60 : n ≤ 40 := by omega
  have hn4 : n ≤ 4096 := by omega
  refine r_reg ?_
  apply i_mov
  · exact tB rfl
  refine i_nil ?_
  refine r_reg ?_
  apply i_mov
  · exact tI rfl
  refine i_rem rfl rfl (by omega) (tmod_nat cbs.toNat 40) ?_
  refine i_toInt rfl (wrap_i64 (by omega) (by omega)) ?_
  apply i_add
  · exact rfl
  · exact rfl
  · omega
  apply i_mov
  · exact tI rfl
  refine i_nil ?_
  refine r_reg ?_
  apply i_mov
  · exact tS rfl
  apply i_lenM
  · exact rfl
  rw [show ((cbs.toNat % 40 : Nat) : Int) + 1 = ((n : Nat) : Int) by omega]
  by_cases h20 : ls.length ≤ 12
  · obtain ⟨ts, hts⟩ : ∃ ts, ls.map (fun l => strip (l.take n)) = ts := ⟨_, rfl⟩
    have htl : ts.length = ls.length := by rw [← hts, List.length_map]
    have hlen : ∀ t ∈ ts, t.length ≤ n ∧ strip t = t := by
      intro t ht
      rw [← hts] at ht
      obtain ⟨l, _, rfl⟩ := List.mem_map.1 ht
      refine ⟨?_, strip_strip _⟩
      have := strip_len (l.take n)
      rw [List.length_take] at this; omega
    apply i_gtF
    · exact rfl
    · exact rfl
    · omega
    refine i_nil ?_
    apply r_condF
    · exact rfl
    refine r_nop ?_
    refine r_reg ?_
    apply i_mov
    · exact tC rfl
    refine i_nil ?_
    refine r_reg ?_
    apply i_mov
    · exact tI rfl
    refine i_nil ?_
    refine r_block ?_
    refine r_loopP [1, 5, 6, 7] (fun m G S' => ∃ i : Nat, G = [(1, .sl .ro 1 (ls.map .str)), (5, .int .i64 (n : Nat)), (6, .str (linesL (ts.take i))), (7, .int .i64 (i : Nat))] ∧ m = ls.length - i ∧ i ≤ ls.length ∧
      (∀ t ∈ ts.take i, ∀ x ∈ t, x ≠ 10)) ?_ ?_
    · exact ⟨_, 0, rfl, rfl, Nat.zero_le _, by simp⟩
    rintro m G S2 ⟨i, rfl, rfl, hi, hgood⟩
    have hll : (linesL (ts.take i)).length ≤ (n + 1) * (ts.take i).length := linesL_len fun t ht => (hlen t (List.mem_of_mem_take ht)).1
    have hmul : (n + 1) * (ts.take i).length ≤ 41 * 12 := Nat.mul_le_mul (by omega) (by rw [List.length_take]; omega)
    by_cases hc : i < ls.length
    · refine r_reg ?_
      apply i_mov
      · exact tI rfl
      apply i_mov
      · exact tS rfl
      apply i_lenM
      · exact rfl
      apply i_ltT
      · exact rfl
      · exact rfl
      · omega
      refine i_nil ?_
      apply r_condT
      · exact rfl
      refine r_nop ?_
      refine r_block ?_
      refine r_reg ?_
      apply i_mov
      · exact tS rfl
      apply i_mov
      · exact tI rfl
      apply i_idxM
      · exact rfl
      · exact rfl
      · exact rfl
      · exact rfl
      · exact True.intro
      · omega
      apply i_loadM
      · exact rfl
      · exact True.intro
      · omega
      · exact fun _ => rfl
      (refine ⟨by omega, ?_⟩)
      apply i_mov
      · exact tS rfl
      apply i_mov
      · exact tI rfl
      apply i_idxM
      · exact rfl
      · exact rfl
      · exact rfl
      · exact rfl
      · exact True.intro
      · omega
      apply i_loadM
      · exact rfl
      · exact True.intro
      · omega
      · exact fun _ => rfl
      (refine ⟨by omega, ?_⟩)
      apply i_lenS
      · exact rfl
      apply i_mov
      · exact tI rfl
      apply i_min
      · exact rfl
      · exact rfl
      rw [show min ((ls[i].length : Nat) : Int) (n : Nat) = ((min ls[i].length n : Nat) : Int) by omega]
      refine i_sliceS 0 (min ls[i].length n) rfl rfl rfl (by omega) (by omega) ?_
      have hti : (ls[i].take (min ls[i].length n)).drop 0 = ls[i].take n := by
        rw [List.drop_zero]
        rcases Nat.le_total ls[i].length n with h | h
        · rw [Nat.min_eq_left h, List.take_length, List.take_of_length_le h]
        · rw [Nat.min_eq_right h]
      rw [hti]
      have hts1 : ts[i]'(by omega) = strip (ls[i].take n) := by subst hts; rw [List.getElem_map]
      have hlt2 := linesL_take (ts := ts) (i := i) (by omega)
      have hmem : ∀ P : List UInt8 → Prop, (∀ u ∈ ts.take i, P u) → P (ts[i]'(by omega)) → ∀ u ∈ ts.take (i + 1), P u := by
        intro P h1 h2 u hu
        rw [List.take_succ_eq_append_getElem (by omega)] at hu
        rcases List.mem_append.1 hu with hu | hu
        · exact h1 u hu
        · rw [List.mem_singleton.1 hu]; exact h2
      have htn : (ls[i].take n).length ≤ n := by rw [List.length_take]; omega
      rw [hts1] at hlt2 hmem
      generalize ls[i].take n = t at htn hlt2 hmem ⊢
      apply i_mov
      · exact tC rfl
      refine i_nil ?_
      refine r_reg ?_
      apply i_mov
      · exact tI rfl
      refine i_nil ?_
      refine r_block ?_
      refine r_loopP [1, 5, 6, 7, 8, 9] (fun m G S' => ∃ k : Nat, G = [(1, .sl .ro 1 (ls.map .str)), (5, .int .i64 (n : Nat)), (6, .str (linesL (ts.take i))), (7, .int .i64 (i : Nat)), (8, .str t), (9, .int .i64 (k : Nat))] ∧ m = t.length - k ∧ k ≤ t.length ∧ (∀ x ∈ t.take k, x ≠ 10) ∧ S' = S2) ?_ ?_
      · exact ⟨_, 0, rfl, rfl, Nat.zero_le _, by simp, rfl⟩
      rintro m G S3 ⟨k, rfl, rfl, hk, hno, rfl⟩
      by_cases hk2 : k < t.length
      · by_cases hx : t[k] = 10
        · have hxn := u8_eqN (n := 10) rfl hx
          refine r_reg ?_
          apply i_mov
          · exact tI rfl
          apply i_mov
          · exact tC rfl
          apply i_lenS
          · exact rfl
          apply i_ltT
          · exact rfl
          · exact rfl
          · omega
          refine i_nil ?_
          apply r_condT
          · exact rfl
          refine r_nop ?_
          refine r_block ?_
          refine r_reg ?_
          apply i_mov
          · exact tC rfl
          apply i_mov
          · exact tI rfl
          apply i_ixS
          · exact rfl
          · exact rfl
          · exact rfl
          (refine ⟨by omega, ?_⟩)
          apply i_eqT
          · exact rfl
          · exact rfl
          · omega
          refine i_nil ?_
          apply r_condT
          · exact rfl
          refine r_reg ?_
          refine i_call (convRuns _) rfl ?_
          rintro v S7 ⟨rfl, hst7⟩
          apply i_mov
          · exact tB rfl
          refine i_nil ?_
          refine r_ret ?_
          refine q_kr ?_
          refine q_br ?_
          refine q_lr ?_
          refine q_br ?_
          refine q_br ?_
          refine q_lr ?_
          refine q_br ?_
          apply q_ret1
          · exact tB rfl
          rfl
        · have hxn := u8_neN (n := 10) rfl hx
          refine r_reg ?_
          apply i_mov
          · exact tI rfl
          apply i_mov
          · exact tC rfl
          apply i_lenS
          · exact rfl
          apply i_ltT
          · exact rfl
          · exact rfl
          · omega
          refine i_nil ?_
          apply r_condT
          · exact rfl
          refine r_nop ?_
          refine r_block ?_
          refine r_reg ?_
          apply i_mov
          · exact tC rfl
          apply i_mov
          · exact tI rfl
          apply i_ixS
          · exact rfl
          · exact rfl
          · exact rfl
          (refine ⟨by omega, ?_⟩)
          apply i_eqF
          · exact rfl
          · exact rfl
          · omega
          refine i_nil ?_
          apply r_condF
          · exact rfl
          refine r_nop ?_
          refine r_nop ?_
          refine r_reg ?_
          apply i_mov
          · exact tI rfl
          apply i_add
          · exact rfl
          · exact rfl
          · omega
          apply i_mov
          · exact tI rfl
          refine i_nil ?_
          refine r_nop ?_
          apply q_lp [1, 5, 6, 7, 8, 9]
          · refine ⟨k + 1, rfl, rfl, hk2, ?_, rfl⟩
            intro x hx2
            rw [List.take_succ_eq_append_getElem hk2] at hx2
            rcases List.mem_append.1 hx2 with hx2 | hx2
            · exact hno x hx2
            · rw [List.mem_singleton.1 hx2]; exact hx
          · omega
      · have e : k = t.length := by omega
        subst e
        rw [List.take_length] at hno
        refine r_reg ?_
        apply i_mov
        · exact tI rfl
        apply i_mov
        · exact tC rfl
        apply i_lenS
        · exact rfl
        apply i_ltF
        · exact rfl
        · exact rfl
        · omega
        refine i_nil ?_
        apply r_condF
        · exact rfl
        refine r_exit ?_
        refine r_block ?_
        refine r_loopP [1, 5, 6, 7, 8] (fun m G S' => ∃ q : Nat, G = [(1, .sl .ro 1 (ls.map .str)), (5, .int .i64 (n : Nat)), (6, .str (linesL (ts.take i))), (7, .int .i64 (i : Nat)), (8, .str (t.take q))] ∧ m = q ∧ q ≤ t.length ∧ strip (t.take q) = strip t ∧ S' = S3) ?_ ?_
        · exact ⟨_, t.length, by rw [List.take_length]; rfl, rfl, Nat.le_refl _, by rw [List.take_length], rfl⟩
        rintro m G S4 ⟨q, rfl, rfl, hq, hstr, rfl⟩
        have hqn : ∀ x ∈ t.take m, x ≠ 10 := fun x hx => hno x (List.mem_of_mem_take hx)
        have hql : (t.take m).length = m := by rw [List.length_take]; omega
        rcases Nat.eq_zero_or_pos m with hm | hm
        · have ht0 : t.take m = [] := by rw [hm]; rfl
          have hse : strip t = t.take m := by rw [← hstr, ht0]; rfl
          refine r_reg ?_
          apply i_mov
          · exact tC rfl
          apply i_snF
          · exact rfl
          · exact rfl
          · assumption
          apply i_mov
          · exact tB rfl
          apply i_gF
          · exact rfl
          · exact rfl
          apply i_gF
          · exact rfl
          · exact rfl
          apply i_gF
          · exact rfl
          · exact rfl
          apply i_gF
          · exact rfl
          · exact rfl
          apply i_gF
          · exact rfl
          · exact rfl
          apply i_gF
          · exact rfl
          · exact rfl
          apply i_pickF
          · exact rfl
          · exact tB rfl
          refine i_nil ?_
          apply r_condF
          · exact rfl
          refine r_exit ?_
          refine r_reg ?_
          apply i_mov
          · exact tC rfl
          apply i_mov
          · exact tC rfl
          apply i_sadd
          · exact rfl
          · exact rfl
          · omega
          apply i_sadd
          · exact rfl
          · exact rfl
          · (simp only [List.length_map, List.length_append, List.length_cons, List.length_nil, List.length_take, List.length_drop, List.length_replicate]; omega)
          apply i_mov
          · exact tC rfl
          refine i_nil ?_
          refine r_nop ?_
          refine r_reg ?_
          apply i_mov
          · exact tI rfl
          apply i_add
          · exact rfl
          · exact rfl
          · omega
          apply i_mov
          · exact tI rfl
          refine i_nil ?_
          refine r_nop ?_
          apply q_lp [1, 5, 6, 7]
          · exact ⟨i + 1, by rw [hlt2, ← List.append_assoc, hse]; rfl, rfl, hc, hmem _ hgood (by rw [hse]; exact hqn)⟩
          · omega
        · obtain ⟨k, rfl⟩ : ∃ k, m = k + 1 := ⟨m - 1, by omega⟩
          have ht0 : ¬ t.take (k + 1) = [] := fun h => by rw [h] at hql; simp at hql
          have hke : (t.take (k + 1))[k]'(by omega) = t[k]'(by omega) := List.getElem_take ..
          by_cases hx : t[k]'(by omega) = 32
          · have hxn : ((t.take (k + 1))[k]'(by omega)).toNat = (32 : Int) := by rw [hke]; exact u8_eqN rfl hx
            refine r_reg ?_
            apply i_mov
            · exact tC rfl
            apply i_snT
            · exact rfl
            · exact rfl
            · assumption
            apply i_mov
            · exact tB rfl
            apply i_gT
            · exact rfl
            apply i_mov
            · exact tC rfl
            apply i_gT
            · exact rfl
            apply i_mov
            · exact tC rfl
            apply i_gT
            · exact rfl
            apply i_lenS
            · exact rfl
            apply i_gT
            · exact rfl
            apply i_sub
            · exact rfl
            · exact rfl
            · omega
            apply i_gT
            · exact rfl
            refine i_ixS k rfl rfl (by omega) ⟨by omega, ?_⟩
            apply i_gT
            · exact rfl
            apply i_eqT
            · exact rfl
            · exact rfl
            · omega
            apply i_pickT
            · exact rfl
            · exact tB rfl
            refine i_nil ?_
            apply r_condT
            · exact rfl
            refine r_nop ?_
            refine r_block ?_
            refine r_reg ?_
            apply i_mov
            · exact tC rfl
            apply i_mov
            · exact tC rfl
            apply i_lenS
            · exact rfl
            apply i_sub
            · exact rfl
            · exact rfl
            · omega
            rw [show ((t.take (k + 1)).length : Int) - 1 = ((k : Nat) : Int) by omega]
            refine i_sliceS 0 k rfl rfl rfl (by omega) (by omega) ?_
            rw [show ((t.take (k + 1)).take k).drop 0 = t.take k by rw [List.drop_zero, List.take_take, Nat.min_eq_left (by omega)]]
            apply i_mov
            · exact tC rfl
            refine i_nil ?_
            refine r_nop ?_
            refine r_nop ?_
            apply q_lp [1, 5, 6, 7, 8]
            · exact ⟨k, rfl, rfl, by omega, by rw [← hstr]; exact (strip_step t (by omega) hx).symm, rfl⟩
            · omega
          · have hxn : ¬ ((t.take (k + 1))[k]'(by omega)).toNat = (32 : Int) := by rw [hke]; exact u8_neN rfl hx
            have hse : strip t = t.take (k + 1) := by rw [← hstr, strip_stop t (by omega) hx]
            refine r_reg ?_
            apply i_mov
            · exact tC rfl
            apply i_snT
            · exact rfl
            · exact rfl
            · assumption
            apply i_mov
            · exact tB rfl
            apply i_gT
            · exact rfl
            apply i_mov
            · exact tC rfl
            apply i_gT
            · exact rfl
            apply i_mov
            · exact tC rfl
            apply i_gT
            · exact rfl
            apply i_lenS
            · exact rfl
            apply i_gT
            · exact rfl
            apply i_sub
            · exact rfl
            · exact rfl
            · omega
            apply i_gT
            · exact rfl
            refine i_ixS k rfl rfl (by omega) ⟨by omega, ?_⟩
            apply i_gT
            · exact rfl
            apply i_eqF
            · exact rfl
            · exact rfl
            · omega
            apply i_pickT
            · exact rfl
            · exact tB rfl
            refine i_nil ?_
            apply r_condF
            · exact rfl
            refine r_exit ?_
            refine r_reg ?_
            apply i_mov
            · exact tC rfl
            apply i_mov
            · exact tC rfl
            apply i_sadd
            · exact rfl
            · exact rfl
            · omega
            apply i_sadd
            · exact rfl
            · exact rfl
            · (simp only [List.length_map, List.length_append, List.length_cons, List.length_nil, List.length_take, List.length_drop, List.length_replicate]; omega)
            apply i_mov
            · exact tC rfl
            refine i_nil ?_
            refine r_nop ?_
            refine r_reg ?_
            apply i_mov
            · exact tI rfl
            apply i_add
            · exact rfl
            · exact rfl
            · omega
            apply i_mov
            · exact tI rfl
            refine i_nil ?_
            refine r_nop ?_
            apply q_lp [1, 5, 6, 7]
            · exact ⟨i + 1, by rw [hlt2, ← List.append_assoc, hse]; rfl, rfl, hc, hmem _ hgood (by rw [hse]; exact hqn)⟩
            · omega
    · have e : i = ls.length := by omega
      subst e
      have hta : ts.take ls.length = ts := List.take_of_length_le (by omega)
      rw [hta] at hgood hll hmul ⊢
      have hpk := congrArg PkS.out (packAll_lines n ts hgood)
      have hun := congrArg UnS.out (unpackAll_recs2 hn1 (ts := ts) hlen)
      have hrl := recsL_len n ts
      have hnl : n * ls.length ≤ 40 * 12 := Nat.mul_le_mul hn60 h20
      rw [htl] at hrl
      dsimp only at hpk hun
      have hnz : (n : Int) * (ls.length : Int) = ((n * ls.length : Nat) : Int) := (Int.natCast_mul _ _).symm
      have hel := mapL_len ebcdicL (recsL n ts)
      refine r_reg ?_
      apply i_mov
      · exact tI rfl
      apply i_mov
      · exact tS rfl
      apply i_lenM
      · exact rfl
      apply i_ltF
      · exact rfl
      · exact rfl
      · omega
      refine i_nil ?_
      apply r_condF
      · exact rfl
      refine r_exit ?_
      refine r_reg ?_
      apply i_mov
      · exact tI rfl
      refine i_build (cs := (cEb n).cells) rfl ?_
      apply i_mov
      · exact tC rfl
      apply i_toSl
      · exact rfl
      apply i_mk1
      · exact tS rfl
      · exact rfl
      refine i_call (cAll1 (cEb n) .ro 1 (linesL ts) _ (by rw [eb_ok hn1 hn4]; show n ≤ 500; omega) (.inl rfl) (by intro h; cases h) Rd.ro (by omega)) rfl ?_
      rw [eb_ok hn1 hn4, all_eb, hpk]
      rintro v S3 ⟨hst3, hv⟩
      obtain ⟨oa, sa, rfl, hsa, hna, hra⟩ := hv.bs
      apply i_mov
      · exact tS rfl
      refine i_nil ?_
      refine r_reg ?_
      apply i_mov
      · exact tI rfl
      refine i_build (cs := (cAs n).cells) rfl ?_
      apply i_mov
      · exact tS rfl
      apply i_mk1
      · exact tS rfl
      · exact rfl
      refine i_call (cAll1 (cAs n) oa sa (mapL ebcdicL (recsL n ts)) _ (by rw [as_ok hn1 hn4]; show n ≤ 500; omega) hsa hna hra (by omega)) rfl ?_
      rw [as_ok hn1 hn4, all_as, back_map, hun]
      rintro v S4 ⟨hst4, hv⟩
      obtain ⟨ob, sb, rfl, hsb, hnb, hrb⟩ := hv.bs
      replace hra := hra.stays hst4
      apply i_mov
      · exact tS rfl
      refine i_nil ?_
      refine r_reg ?_
      apply i_mov
      · exact tI rfl
      refine i_build (cs := (cBl n).cells) rfl ?_
      apply i_mov
      · exact tC rfl
      apply i_toSl
      · exact rfl
      apply i_mk1
      · exact tS rfl
      · exact rfl
      refine i_call (cAll1 (cBl n) .ro 1 (linesL ts) _ (by rw [bl_ok hn1 hn4]; show n ≤ 500; omega) (.inl rfl) (by intro h; cases h) Rd.ro (by omega)) rfl ?_
      rw [bl_ok hn1 hn4, all_bl, hpk]
      rintro v S5 ⟨hst5, hv⟩
      obtain ⟨oc, sc, rfl, hsc, hnc, hrc⟩ := hv.bs
      replace hra := hra.stays hst5
      replace hrb := hrb.stays hst5
      apply i_mov
      · exact tS rfl
      refine i_nil ?_
      refine r_reg ?_
      apply i_mov
      · exact tS rfl
      apply i_lenM
      · exact rfl
      apply i_mov
      · exact tI rfl
      apply i_mov
      · exact tS rfl
      apply i_lenM
      · exact rfl
      refine i_mul rfl rfl (by rw [hnz]; omega) ?_
      rw [hnz]
      apply i_eqT
      · exact rfl
      · exact rfl
      · omega
      apply i_mov
      · exact tB rfl
      apply i_gT
      · exact rfl
      apply i_mov
      · exact tS rfl
      apply i_gT
      · exact rfl
      apply i_toStr
      · exact rfl
      · assumption
      · (refine Rd.rd ?_; assumption)
      apply i_gT
      · exact rfl
      apply i_mov
      · exact tC rfl
      apply i_gT
      · exact rfl
      apply i_seT
      · exact rfl
      · exact rfl
      · exact rfl
      apply i_pickT
      · exact rfl
      · exact tB rfl
      apply i_mov
      · exact tB rfl
      apply i_gT
      · exact rfl
      apply i_mov
      · exact tS rfl
      apply i_gT
      · exact rfl
      apply i_toStr
      · exact rfl
      · assumption
      · (refine Rd.rd ?_; assumption)
      apply i_gT
      · exact rfl
      apply i_mov
      · exact tS rfl
      apply i_gT
      · exact rfl
      refine i_call (tEbcdic _) rfl ?_
      rintro v S6 ⟨rfl, rfl⟩
      apply i_gT
      · exact rfl
      apply c_re
      · (apply c_toStr; (· exact rfl); (· assumption); (· (refine Rd.rd ?_; assumption)); (· exact rfl))
      apply i_gT
      · exact rfl
      refine i_call (tabMap ebcdicL oc sc (recsL n ts) _ ebcdicL_len hsc hrc (by omega)) rfl ?_
      rintro v S7 ⟨hst7, hv⟩
      obtain ⟨od, sd, rfl, hsd, hnd, hrd⟩ := hv.bs
      replace hra := hra.stays hst7
      replace hrb := hrb.stays hst7
      replace hrc := hrc.stays hst7
      apply i_gT
      · exact rfl
      apply c_re
      · (apply c_toStr; (· exact rfl); (· assumption); (· (refine Rd.rd ?_; assumption)); (· exact rfl))
      apply i_gT
      · exact rfl
      apply i_toStr
      · exact rfl
      · assumption
      · (refine Rd.rd ?_; assumption)
      apply i_gT
      · exact rfl
      apply i_seT
      · exact rfl
      · exact rfl
      · exact rfl
      apply i_pickT
      · exact rfl
      · exact tB rfl
      apply i_mov
      · exact tB rfl
      apply i_gT
      · exact rfl
      apply i_mov
      · exact tI rfl
      apply i_gT
      · exact rfl
      refine i_build (cs := (cIb n).cells) rfl ?_
      apply i_gT
      · exact rfl
      apply i_mov
      · exact tC rfl
      apply i_gT
      · exact rfl
      apply i_toSl
      · exact rfl
      apply i_gT
      · exact rfl
      apply i_mk1
      · exact tS rfl
      · exact rfl
      apply i_gT
      · exact rfl
      apply i_mov
      · exact tS rfl
      apply i_gT
      · exact rfl
      refine i_call (cAll1 (cIb n) .ro 1 (linesL ts) _ (by rw [ib_ok hn1 hn4]; show n ≤ 500; omega) (.inl rfl) (by intro h; cases h) Rd.ro (by omega)) rfl ?_
      rw [ib_ok hn1 hn4, all_ib, hpk]
      rintro v S8 ⟨hst8, hv⟩
      obtain ⟨oe, se, rfl, hse, hne, hre⟩ := hv.bs
      replace hrc := hrc.stays hst8
      apply i_gT
      · exact rfl
      apply i_toStr
      · exact rfl
      · assumption
      · (refine Rd.rd ?_; assumption)
      apply i_gT
      · exact rfl
      refine i_call (tIbm _) rfl ?_
      rintro v S9 ⟨rfl, rfl⟩
      apply i_gT
      · exact rfl
      apply c_re
      · (apply c_toStr; (· exact rfl); (· assumption); (· (refine Rd.rd ?_; assumption)); (· exact rfl))
      apply i_gT
      · exact rfl
      refine i_call (tabMap ibmL oc sc (recsL n ts) _ ibmL_len hsc hrc (by omega)) rfl ?_
      rintro v S10 ⟨hst10, hv⟩
      obtain ⟨og, sg, rfl, hsg, hng, hrg⟩ := hv.bs
      replace hre := hre.stays hst10
      apply i_gT
      · exact rfl
      apply c_re
      · (apply c_toStr; (· exact rfl); (· assumption); (· (refine Rd.rd ?_; assumption)); (· exact rfl))
      apply i_gT
      · exact rfl
      apply i_toStr
      · exact rfl
      · assumption
      · (refine Rd.rd ?_; assumption)
      apply i_gT
      · exact rfl
      apply i_seT
      · exact rfl
      · exact rfl
      · exact rfl
      apply i_pickT
      · exact rfl
      · exact tB rfl
      apply i_mov
      · exact tB rfl
      apply i_gT
      · exact rfl
      refine i_call (convRuns _) rfl ?_
      rintro v S11 ⟨rfl, hst11⟩
      apply i_pickT
      · exact rfl
      · exact tB rfl
      apply i_mov
      · exact tB rfl
      refine i_nil ?_
      refine r_ret ?_
      apply q_ret1
      · exact tB rfl
      rfl
  · apply i_gtT
    · exact rfl
    · exact rfl
    · omega
    refine i_nil ?_
    apply r_condT
    · exact rfl
    refine r_reg ?_
    refine i_call (convRuns _) rfl ?_
    rintro v S7 ⟨rfl, hst7⟩
    apply i_mov
    · exact tB rfl
    refine i_nil ?_
    refine r_ret ?_
    refine q_kr ?_
    apply q_ret1
    · exact tB rfl
    rfl
end Go.Proofs.Ythpomdoaiibnfaa.Abs
