/- The law RunsZero: that it answers true. -/
import Derived.Test.YthgdooidleoicaaRuns3
namespace Go.Proofs.Ythgdooidleoicaa.Abs
open Go Go.Proofs
set_option linter.unusedVariables false
set_option linter.unusedSimpArgs false
attribute [local irreducible] wpI wpR ropK chk ASt.push ASt.put ASt.fresh ASt.kill appS

theorem lawRuns (S : ASt) : ACalls Try.prog 3 [] S fun v S' => v = .bool true := (runsRuns S).mono fun _ _ h => h.1

abbrev rov (l : List UInt8) : AV := .sl .ro 1 (u8s l)
theorem flat_take {ls : List (List UInt8)} {i : Nat} (h : i < ls.length) : (ls.take (i + 1)).flatten = (ls.take i).flatten ++ ls[i] := by
  rw [List.take_succ_eq_append_getElem h, List.flatten_append]; simp
def bls (ls : List (List UInt8)) : List BL := ls.map fun l => ⟨.ro, 1, l⟩
theorem bls_slv (ls : List (List UInt8)) : (bls ls).map slv = ls.map rov := by simp [bls]
theorem zeroL_app (a b : List UInt8) : zeroL (a ++ b) = (zeroL a && zeroL b) := by simp [zeroL]
theorem zeroL_all (ls : List (List UInt8)) : (ls.all fun l => zeroL l) = zeroL ls.flatten := by
  induction ls with
  | nil => rfl
  | cons a ls ih => rw [List.all_cons, List.flatten_cons, zeroL_app, ih]
theorem zeroR (ls : List (List UInt8)) (S : ASt) (hl : ∀ l ∈ ls, l.length ≤ 2000) (hn : ls.length ≤ 50) :
    ACalls Try.prog 9 [.sl .ro 1 (ls.map rov)] S fun v S' => v = .bool (zeroL ls.flatten) ∧ S' = S := by
  have := zero .ro 1 (bls ls) S (.inl rfl) Rd.ro (fun x hx => by
    simp only [bls, List.mem_map] at hx
    obtain ⟨l, hl', rfl⟩ := hx
    exact ⟨.inl rfl, Rd.ro, by have := hl l hl'; simp only; omega⟩) (by simp [bls]; omega)
  rw [bls_slv] at this
  refine this.mono fun v S' hv => ?_
  rw [show ((bls ls).all fun x => zeroL x.l) = zeroL ls.flatten by rw [← zeroL_all]; simp [bls, List.all_map, Function.comp_def]] at hv
  exact hv

theorem runsZero (ls : List (List UInt8)) (S : ASt) : ACalls Try.prog 5 [.sl .ro 1 (ls.map rov)] S fun v S' => v = .bool true := by
  refine en_5 (by exact Nat.le_of_ble_eq_true rfl) ?_
  unfold rc_5
  by_cases h50 : ls.length ≤ 50
  · refine r_reg ?_
    apply i_mov
    · exact tB rfl
    refine i_nil ?_
    refine r_reg ?_
    apply i_mov
    · exact tS rfl
    apply i_lenM
    · exact rfl
    apply i_gtF
    · exact rfl
    · exact rfl
    · omega
    refine i_nil ?_
    apply r_condF
    · exact rfl
    refine r_nop ?_
    refine r_reg ?_
    apply i_mov
    · exact tS0 rfl
    refine i_nil ?_
    refine r_reg ?_
    apply i_mov
    · exact tB rfl
    refine i_nil ?_
    refine r_reg ?_
    apply i_mov
    · exact tI rfl
    refine i_nil ?_
    refine r_block ?_
    refine r_loopP [0, 3, 4, 5] (fun m G S' => ∃ (i : Nat) (o : Own) (sz : Nat), G = [(0, .sl .ro 1 (ls.map rov)), (3, .sl o sz (u8s (ls.take i).flatten)), (4, .bool (zeroL (ls.take i).flatten)), (5, .int .i64 (i : Nat))] ∧ m = ls.length - i ∧ i ≤ ls.length ∧
      (∀ l ∈ ls.take i, l.length ≤ 2000) ∧ (ls.take i).flatten.length ≤ 2000 * i ∧ App S' o 1 sz (ls.take i).flatten.length) ?_ ?_
    · exact ⟨_, 0, _, _, rfl, rfl, Nat.zero_le _, by simp, by simp, App.none⟩
    rintro m G S1 ⟨i, o, sz, rfl, rfl, hi, hall, hsum, ha⟩
    by_cases hc : i < ls.length
    · have hct := flat_take hc
      have hlen := congrArg List.length hct
      rw [List.length_append] at hlen
      by_cases h2000 : (ls[i]).length ≤ 2000
      · refine r_reg ?_
        apply i_mov
        · exact tI rfl
        apply i_mov
        · exact tS rfl
        apply i_lenM
        · exact rfl
        apply i_ltT
        · exact rfl
        · exact rfl
        · omega
        refine i_nil ?_
        apply r_condT
        · exact rfl
        refine r_nop ?_
        refine r_block ?_
        refine r_reg ?_
        apply i_mov
        · exact tS rfl
        apply i_mov
        · exact tI rfl
        apply i_idxM
        · exact rfl
        · exact rfl
        · exact rfl
        · exact rfl
        · exact True.intro
        · omega
        apply i_loadM
        · exact rfl
        · exact True.intro
        · omega
        · exact fun _ => rfl
        (refine ⟨by omega, ?_⟩)
        apply i_lenM
        · exact rfl
        apply i_gtF
        · exact rfl
        · exact rfl
        · omega
        refine i_nil ?_
        apply r_condF
        · exact rfl
        refine r_nop ?_
        refine r_reg ?_
        apply i_mov
        · exact tS rfl
        apply i_mov
        · exact tS rfl
        apply i_mov
        · exact tI rfl
        apply i_idxM
        · exact rfl
        · exact rfl
        · exact rfl
        · exact rfl
        · exact True.intro
        · omega
        apply i_loadM
        · exact rfl
        · exact True.intro
        · omega
        · exact fun _ => rfl
        (refine ⟨by omega, ?_⟩)
        apply i_appX
        · exact rfl
        · exact rfl
        · assumption
        · exact Or.inl rfl
        · exact True.intro
        · omega
        apply i_mov
        · exact tS rfl
        refine i_nil ?_
        refine r_reg ?_
        apply i_mov
        · exact tI rfl
        refine i_nil ?_
        refine r_block ?_
        refine r_loopP [0, 3, 4, 5, 6] (fun m G S' => ∃ (k : Nat), G = [(0, .sl .ro 1 (ls.map rov)), (3, .sl (.own S1.next) 1 (u8s (ls.take (i + 1)).flatten)), (4, .bool (zeroL ((ls.take i).flatten ++ (ls[i]).take k))), (5, .int .i64 (i : Nat)), (6, .int .i64 (k : Nat))] ∧
          m = (ls[i]).length - k ∧ k ≤ (ls[i]).length ∧ S' = appS S1 o) ?_ ?_
        · exact ⟨_, 0, by rw [hct, List.take_zero, List.append_nil]; rfl, rfl, Nat.zero_le _, rfl⟩
        rintro m G S2 ⟨k, rfl, rfl, hk, rfl⟩
        by_cases hkc : k < (ls[i]).length
        · have htk : (ls[i]).take (k + 1) = (ls[i]).take k ++ [ls[i][k]] := List.take_succ_eq_append_getElem hkc
          cases he : zeroL ((ls.take i).flatten ++ (ls[i]).take k) with
          | true =>
            by_cases hz : ls[i][k] = 0
            · have hz' := u8_zero hz
              have he2 : zeroL ((ls.take i).flatten ++ (ls[i]).take (k + 1)) = true := by rw [htk, ← List.append_assoc, zeroL_app, he, hz]; rfl
              refine r_reg ?_
              apply i_mov
              · exact tI rfl
              apply i_mov
              · exact tS rfl
              apply i_mov
              · exact tI rfl
              apply i_idxM
              · exact rfl
              · exact rfl
              · exact rfl
              · exact rfl
              · exact True.intro
              · omega
              apply i_loadM
              · exact rfl
              · exact True.intro
              · omega
              · exact fun _ => rfl
              (refine ⟨by omega, ?_⟩)
              apply i_lenM
              · exact rfl
              apply i_ltT
              · exact rfl
              · exact rfl
              · omega
              refine i_nil ?_
              apply r_condT
              · exact rfl
              refine r_nop ?_
              refine r_block ?_
              refine r_reg ?_
              apply i_mov
              · exact tB rfl
              apply i_mov
              · exact tB rfl
              apply i_gT
              · exact rfl
              apply i_mov
              · exact tS rfl
              apply i_gT
              · exact rfl
              apply i_mov
              · exact tI rfl
              apply i_gT
              · exact rfl
              apply i_idxM
              · exact rfl
              · exact rfl
              · exact rfl
              · exact rfl
              · exact True.intro
              · omega
              apply i_gT
              · exact rfl
              apply i_loadM
              · exact rfl
              · exact True.intro
              · omega
              · exact fun _ => rfl
              (refine ⟨by omega, ?_⟩)
              apply i_gT
              · exact rfl
              apply i_mov
              · exact tI rfl
              apply i_gT
              · exact rfl
              apply i_idxM
              · exact rfl
              · exact rfl
              · exact rfl
              · exact rfl
              · exact True.intro
              · omega
              apply i_gT
              · exact rfl
              apply i_loadM
              · exact rfl
              · exact True.intro
              · omega
              · exact fun _ => rfl
              (refine ⟨by omega, ?_⟩)
              apply i_gT
              · exact rfl
              apply i_eqT
              · exact rfl
              · exact rfl
              · omega
              apply i_pickT
              · exact rfl
              · exact tB rfl
              apply i_mov
              · exact tB rfl
              refine i_nil ?_
              refine r_nop ?_
              refine r_reg ?_
              apply i_mov
              · exact tI rfl
              apply i_add
              · exact rfl
              · exact rfl
              · omega
              apply i_mov
              · exact tI rfl
              refine i_nil ?_
              refine r_nop ?_
              apply q_lp [0, 3, 4, 5, 6]
              · exact ⟨k + 1, by rw [he2]; rfl, rfl, hkc, rfl⟩
              · omega
            · have hz' := u8_nz hz
              have he2 : zeroL ((ls.take i).flatten ++ (ls[i]).take (k + 1)) = false := by rw [htk, ← List.append_assoc, zeroL_app, he]; simp [zeroL, hz]
              refine r_reg ?_
              apply i_mov
              · exact tI rfl
              apply i_mov
              · exact tS rfl
              apply i_mov
              · exact tI rfl
              apply i_idxM
              · exact rfl
              · exact rfl
              · exact rfl
              · exact rfl
              · exact True.intro
              · omega
              apply i_loadM
              · exact rfl
              · exact True.intro
              · omega
              · exact fun _ => rfl
              (refine ⟨by omega, ?_⟩)
              apply i_lenM
              · exact rfl
              apply i_ltT
              · exact rfl
              · exact rfl
              · omega
              refine i_nil ?_
              apply r_condT
              · exact rfl
              refine r_nop ?_
              refine r_block ?_
              refine r_reg ?_
              apply i_mov
              · exact tB rfl
              apply i_mov
              · exact tB rfl
              apply i_gT
              · exact rfl
              apply i_mov
              · exact tS rfl
              apply i_gT
              · exact rfl
              apply i_mov
              · exact tI rfl
              apply i_gT
              · exact rfl
              apply i_idxM
              · exact rfl
              · exact rfl
              · exact rfl
              · exact rfl
              · exact True.intro
              · omega
              apply i_gT
              · exact rfl
              apply i_loadM
              · exact rfl
              · exact True.intro
              · omega
              · exact fun _ => rfl
              (refine ⟨by omega, ?_⟩)
              apply i_gT
              · exact rfl
              apply i_mov
              · exact tI rfl
              apply i_gT
              · exact rfl
              apply i_idxM
              · exact rfl
              · exact rfl
              · exact rfl
              · exact rfl
              · exact True.intro
              · omega
              apply i_gT
              · exact rfl
              apply i_loadM
              · exact rfl
              · exact True.intro
              · omega
              · exact fun _ => rfl
              (refine ⟨by omega, ?_⟩)
              apply i_gT
              · exact rfl
              apply i_eqF
              · exact rfl
              · exact rfl
              · omega
              apply i_pickT
              · exact rfl
              · exact tB rfl
              apply i_mov
              · exact tB rfl
              refine i_nil ?_
              refine r_nop ?_
              refine r_reg ?_
              apply i_mov
              · exact tI rfl
              apply i_add
              · exact rfl
              · exact rfl
              · omega
              apply i_mov
              · exact tI rfl
              refine i_nil ?_
              refine r_nop ?_
              apply q_lp [0, 3, 4, 5, 6]
              · exact ⟨k + 1, by rw [he2]; rfl, rfl, hkc, rfl⟩
              · omega
          | false =>
            have he2 : zeroL ((ls.take i).flatten ++ (ls[i]).take (k + 1)) = false := by rw [htk, ← List.append_assoc, zeroL_app, he]; rfl
            refine r_reg ?_
            apply i_mov
            · exact tI rfl
            apply i_mov
            · exact tS rfl
            apply i_mov
            · exact tI rfl
            apply i_idxM
            · exact rfl
            · exact rfl
            · exact rfl
            · exact rfl
            · exact True.intro
            · omega
            apply i_loadM
            · exact rfl
            · exact True.intro
            · omega
            · exact fun _ => rfl
            (refine ⟨by omega, ?_⟩)
            apply i_lenM
            · exact rfl
            apply i_ltT
            · exact rfl
            · exact rfl
            · omega
            refine i_nil ?_
            apply r_condT
            · exact rfl
            refine r_nop ?_
            refine r_block ?_
            refine r_reg ?_
            apply i_mov
            · exact tB rfl
            apply i_mov
            · exact tB rfl
            apply i_gF
            · exact rfl
            · exact rfl
            apply i_gF
            · exact rfl
            · exact rfl
            apply i_gF
            · exact rfl
            · exact rfl
            apply i_gF
            · exact rfl
            · exact rfl
            apply i_gF
            · exact rfl
            · exact rfl
            apply i_gF
            · exact rfl
            · exact rfl
            apply i_gF
            · exact rfl
            · exact rfl
            apply i_gF
            · exact rfl
            · exact rfl
            apply i_pickF
            · exact rfl
            · exact tB rfl
            apply i_mov
            · exact tB rfl
            refine i_nil ?_
            refine r_nop ?_
            refine r_reg ?_
            apply i_mov
            · exact tI rfl
            apply i_add
            · exact rfl
            · exact rfl
            · omega
            apply i_mov
            · exact tI rfl
            refine i_nil ?_
            refine r_nop ?_
            apply q_lp [0, 3, 4, 5, 6]
            · exact ⟨k + 1, by rw [he2]; rfl, rfl, hkc, rfl⟩
            · omega
        · have e : k = (ls[i]).length := by omega
          subst e
          rw [List.take_length, ← hct]
          refine r_reg ?_
          apply i_mov
          · exact tI rfl
          apply i_mov
          · exact tS rfl
          apply i_mov
          · exact tI rfl
          apply i_idxM
          · exact rfl
          · exact rfl
          · exact rfl
          · exact rfl
          · exact True.intro
          · omega
          apply i_loadM
          · exact rfl
          · exact True.intro
          · omega
          · exact fun _ => rfl
          (refine ⟨by omega, ?_⟩)
          apply i_lenM
          · exact rfl
          apply i_ltF
          · exact rfl
          · exact rfl
          · omega
          refine i_nil ?_
          apply r_condF
          · exact rfl
          refine r_exit ?_
          refine r_nop ?_
          refine r_reg ?_
          apply i_mov
          · exact tI rfl
          apply i_add
          · exact rfl
          · exact rfl
          · omega
          apply i_mov
          · exact tI rfl
          refine i_nil ?_
          refine r_nop ?_
          apply q_lp [0, 3, 4, 5]
          · refine ⟨i + 1, _, _, rfl, rfl, hc, ?_, by omega, App.new⟩
            intro l hl
            rw [List.take_succ_eq_append_getElem hc, List.mem_append, List.mem_singleton] at hl
            rcases hl with hl | rfl
            · exact hall l hl
            · exact h2000
          · omega
      · refine r_reg ?_
        apply i_mov
        · exact tI rfl
        apply i_mov
        · exact tS rfl
        apply i_lenM
        · exact rfl
        apply i_ltT
        · exact rfl
        · exact rfl
        · omega
        refine i_nil ?_
        apply r_condT
        · exact rfl
        refine r_nop ?_
        refine r_block ?_
        refine r_reg ?_
        apply i_mov
        · exact tS rfl
        apply i_mov
        · exact tI rfl
        apply i_idxM
        · exact rfl
        · exact rfl
        · exact rfl
        · exact rfl
        · exact True.intro
        · omega
        apply i_loadM
        · exact rfl
        · exact True.intro
        · omega
        · exact fun _ => rfl
        (refine ⟨by omega, ?_⟩)
        apply i_lenM
        · exact rfl
        apply i_gtT
        · exact rfl
        · exact rfl
        · omega
        refine i_nil ?_
        apply r_condT
        · exact rfl
        refine r_reg ?_
        refine i_call (runsRuns _) rfl ?_
        rintro v S4 ⟨rfl, hst4⟩
        apply i_mov
        · exact tB rfl
        refine i_nil ?_
        refine r_ret ?_
        refine q_kr ?_
        refine q_br ?_
        refine q_lr ?_
        refine q_br ?_
        apply q_ret1
        · exact tB rfl
        rfl
    · have e : i = ls.length := by omega
      subst e
      rw [List.take_length] at ha hall hsum ⊢
      have hr := ha.rd
      have hs : sz = 1 ∨ ls.flatten = [] := ha.sz.imp id (fun h => List.length_eq_zero_iff.1 h)
      have hf1 := leadN_full ls.flatten
      have hf2 := trailN_full ls.flatten
      have hl1 := leadN_le ls.flatten
      have hl2 := trailN_le ls.flatten
      have hz1 : ACalls Try.prog 9 [.sl .ro 1 [.sl o sz (u8s ls.flatten)]] S1 fun v S' => v = .bool (zeroL ls.flatten) ∧ S' = S1 := zero1 o sz ls.flatten _ hs hr (by omega)
      have hz2 := lead o sz ls.flatten S1 hs hr (by omega)
      have hz3 := trail o sz ls.flatten S1 hs hr (by omega)
      cases hz : zeroL ls.flatten with
      | true =>
        have hf1' := hf1.2 hz
        have hf2' := hf2.2 hz
        rw [hz] at hz1
        refine r_reg ?_
        apply i_mov
        · exact tI rfl
        apply i_mov
        · exact tS rfl
        apply i_lenM
        · exact rfl
        apply i_ltF
        · exact rfl
        · exact rfl
        · omega
        refine i_nil ?_
        apply r_condF
        · exact rfl
        refine r_exit ?_
        refine r_reg ?_
        apply i_mov
        · exact tS rfl
        refine i_call (zeroR ls _ hall h50) rfl ?_
        rintro v S2 ⟨rfl, rfl⟩
        rw [hz]
        apply i_mov
        · exact tB rfl
        apply i_eqbT
        · exact rfl
        · exact rfl
        · exact rfl
        apply i_mov
        · exact tB rfl
        apply i_gT
        · exact rfl
        apply i_mov
        · exact tS rfl
        apply i_gT
        · exact rfl
        apply i_mk1
        · exact tS rfl
        · exact rfl
        apply i_gT
        · exact rfl
        refine i_call hz1 rfl ?_
        rintro v S3 ⟨rfl, rfl⟩
        apply i_gT
        · exact rfl
        apply i_mov
        · exact tB rfl
        apply i_gT
        · exact rfl
        apply i_eqbT
        · exact rfl
        · exact rfl
        · exact rfl
        apply i_pickT
        · exact rfl
        · exact tB rfl
        apply i_mov
        · exact tB rfl
        apply i_gT
        · exact rfl
        apply i_mov
        · exact tS rfl
        apply i_gT
        · exact rfl
        refine i_call hz2 rfl ?_
        rintro v S3 ⟨rfl, rfl⟩
        apply i_gT
        · exact rfl
        apply i_mov
        · exact tS rfl
        apply i_gT
        · exact rfl
        apply i_lenM
        · exact rfl
        apply i_gT
        · exact rfl
        apply i_eqT
        · exact rfl
        · exact rfl
        · omega
        apply i_gT
        · exact rfl
        apply i_mov
        · exact tB rfl
        apply i_gT
        · exact rfl
        apply i_eqbT
        · exact rfl
        · exact rfl
        · exact rfl
        apply i_pickT
        · exact rfl
        · exact tB rfl
        apply i_mov
        · exact tB rfl
        apply i_gT
        · exact rfl
        apply i_mov
        · exact tS rfl
        apply i_gT
        · exact rfl
        refine i_call hz3 rfl ?_
        rintro v S3 ⟨rfl, rfl⟩
        apply i_gT
        · exact rfl
        apply i_mov
        · exact tS rfl
        apply i_gT
        · exact rfl
        apply i_lenM
        · exact rfl
        apply i_gT
        · exact rfl
        apply i_eqT
        · exact rfl
        · exact rfl
        · omega
        apply i_gT
        · exact rfl
        apply i_mov
        · exact tB rfl
        apply i_gT
        · exact rfl
        apply i_eqbT
        · exact rfl
        · exact rfl
        · exact rfl
        apply i_pickT
        · exact rfl
        · exact tB rfl
        apply i_mov
        · exact tB rfl
        apply i_gT
        · exact rfl
        refine i_call (runsRuns _) rfl ?_
        rintro v S4 ⟨rfl, hst4⟩
        apply i_pickT
        · exact rfl
        · exact tB rfl
        apply i_mov
        · exact tB rfl
        refine i_nil ?_
        refine r_ret ?_
        apply q_ret1
        · exact tB rfl
        rfl
      | false =>
        have hf1' : ¬ leadN ls.flatten = ls.flatten.length := fun h => by rw [hf1.1 h] at hz; cases hz
        have hf2' : ¬ trailN ls.flatten = ls.flatten.length := fun h => by rw [hf2.1 h] at hz; cases hz
        rw [hz] at hz1
        refine r_reg ?_
        apply i_mov
        · exact tI rfl
        apply i_mov
        · exact tS rfl
        apply i_lenM
        · exact rfl
        apply i_ltF
        · exact rfl
        · exact rfl
        · omega
        refine i_nil ?_
        apply r_condF
        · exact rfl
        refine r_exit ?_
        refine r_reg ?_
        apply i_mov
        · exact tS rfl
        refine i_call (zeroR ls _ hall h50) rfl ?_
        rintro v S2 ⟨rfl, rfl⟩
        rw [hz]
        apply i_mov
        · exact tB rfl
        apply i_eqbT
        · exact rfl
        · exact rfl
        · exact rfl
        apply i_mov
        · exact tB rfl
        apply i_gT
        · exact rfl
        apply i_mov
        · exact tS rfl
        apply i_gT
        · exact rfl
        apply i_mk1
        · exact tS rfl
        · exact rfl
        apply i_gT
        · exact rfl
        refine i_call hz1 rfl ?_
        rintro v S3 ⟨rfl, rfl⟩
        apply i_gT
        · exact rfl
        apply i_mov
        · exact tB rfl
        apply i_gT
        · exact rfl
        apply i_eqbT
        · exact rfl
        · exact rfl
        · exact rfl
        apply i_pickT
        · exact rfl
        · exact tB rfl
        apply i_mov
        · exact tB rfl
        apply i_gT
        · exact rfl
        apply i_mov
        · exact tS rfl
        apply i_gT
        · exact rfl
        refine i_call hz2 rfl ?_
        rintro v S3 ⟨rfl, rfl⟩
        apply i_gT
        · exact rfl
        apply i_mov
        · exact tS rfl
        apply i_gT
        · exact rfl
        apply i_lenM
        · exact rfl
        apply i_gT
        · exact rfl
        apply i_eqF
        · exact rfl
        · exact rfl
        · omega
        apply i_gT
        · exact rfl
        apply i_mov
        · exact tB rfl
        apply i_gT
        · exact rfl
        apply i_eqbT
        · exact rfl
        · exact rfl
        · exact rfl
        apply i_pickT
        · exact rfl
        · exact tB rfl
        apply i_mov
        · exact tB rfl
        apply i_gT
        · exact rfl
        apply i_mov
        · exact tS rfl
        apply i_gT
        · exact rfl
        refine i_call hz3 rfl ?_
        rintro v S3 ⟨rfl, rfl⟩
        apply i_gT
        · exact rfl
        apply i_mov
        · exact tS rfl
        apply i_gT
        · exact rfl
        apply i_lenM
        · exact rfl
        apply i_gT
        · exact rfl
        apply i_eqF
        · exact rfl
        · exact rfl
        · omega
        apply i_gT
        · exact rfl
        apply i_mov
        · exact tB rfl
        apply i_gT
        · exact rfl
        apply i_eqbT
        · exact rfl
        · exact rfl
        · exact rfl
        apply i_pickT
        · exact rfl
        · exact tB rfl
        apply i_mov
        · exact tB rfl
        apply i_gT
        · exact rfl
        refine i_call (runsRuns _) rfl ?_
        rintro v S4 ⟨rfl, hst4⟩
        apply i_pickT
        · exact rfl
        · exact tB rfl
        apply i_mov
        · exact tB rfl
        refine i_nil ?_
        refine r_ret ?_
        apply q_ret1
        · exact tB rfl
        rfl
  · refine r_reg ?_
    apply i_mov
    · exact tB rfl
    refine i_nil ?_
    refine r_reg ?_
    apply i_mov
    · exact tS rfl
    apply i_lenM
    · exact rfl
    apply i_gtT
    · exact rfl
    · exact rfl
    · omega
    refine i_nil ?_
    apply r_condT
    · exact rfl
    refine r_reg ?_
    refine i_call (runsRuns _) rfl ?_
    rintro v S4 ⟨rfl, hst4⟩
    apply i_mov
    · exact tB rfl
    refine i_nil ?_
    refine r_ret ?_
    refine q_kr ?_
    apply q_ret1
    · exact tB rfl
    rfl
end Go.Proofs.Ythgdooidleoicaa.Abs
