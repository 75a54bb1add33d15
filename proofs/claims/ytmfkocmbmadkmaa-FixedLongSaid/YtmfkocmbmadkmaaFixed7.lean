/- Few, pack, unpack: contracts. -/
import Derived.Test.YtmfkocmbmadkmaaFixed6
import Derived.Test.YtmfkocmbmadkmaaPcs
namespace Go.Proofs.Ytmfkocmbmadkmaa.Abs
open Go Go.Proofs
set_option linter.unusedVariables false
set_option linter.unusedSimpArgs false
attribute [local irreducible] wpI wpR ropK chk ASt.push ASt.put ASt.fresh ASt.kill appS

theorem few (cbs : Int) (ls : List (List UInt8)) (S : ASt) :
    ACalls Try.prog 17 [.int .i64 cbs, .sl .ro 1 (ls.map rov)] S fun v S' => ∃ b, v = .bool b ∧ S' = S ∧ (b = true → ls.length ≤ 30 ∧ ls.flatten.length ≤ 400) := by
  refine en_17 (by exact Nat.le_of_ble_eq_true rfl) ?_
  unfold rc_17
  refine r_reg ?_
  apply i_mov
  · exact tB rfl
  refine i_nil ?_
  refine r_reg ?_
  apply i_mov
  · exact tI rfl
  refine i_nil ?_
  refine r_reg ?_
  apply i_mov
  · exact tI rfl
  refine i_nil ?_
  refine r_block ?_
  refine r_loopP [0, 1, 5, 6] (fun m G S' => ∃ i : Nat, G = [(0, .int .i64 cbs), (1, .sl .ro 1 (ls.map rov)), (5, .int .i64 ((ls.take i).flatten.length : Nat)), (6, .int .i64 (i : Nat))] ∧ m = ls.length - i ∧ i ≤ ls.length ∧ i ≤ 60 ∧ (ls.take i).flatten.length ≤ 400 * i ∧ S' = S) ?_ ?_
  · exact ⟨_, 0, rfl, rfl, Nat.zero_le _, Nat.zero_le _, by simp, rfl⟩
  rintro m G S1 ⟨i, rfl, rfl, hi, h100, hsum, rfl⟩
  by_cases hc : i < ls.length
  · by_cases h2 : i < 60
    · have hct := flat_take hc
      have hlen := congrArg List.length hct
      rw [List.length_append] at hlen
      by_cases h3 : (ls[i]).length ≤ 400
      · refine r_reg ?_
        apply i_mov
        · exact tI rfl
        apply i_mov
        · exact tS rfl
        apply i_lenM
        · exact rfl
        apply i_ltT
        · exact rfl
        · exact rfl
        · omega
        apply i_mov
        · exact tB rfl
        apply i_gT
        · exact rfl
        apply i_mov
        · exact tI rfl
        apply i_gT
        · exact rfl
        apply i_ltT
        · exact rfl
        · exact rfl
        · omega
        apply i_pickT
        · exact rfl
        · exact tB rfl
        refine i_nil ?_
        apply r_condT
        · exact rfl
        refine r_nop ?_
        refine r_block ?_
        refine r_reg ?_
        apply i_mov
        · exact tS rfl
        apply i_mov
        · exact tI rfl
        apply i_idxM
        · exact rfl
        · exact rfl
        · exact rfl
        · exact rfl
        · exact True.intro
        · omega
        apply i_loadM
        · exact rfl
        · exact True.intro
        · omega
        · exact fun _ => rfl
        (refine ⟨by omega, ?_⟩)
        apply i_lenM
        · exact rfl
        apply i_gtF
        · exact rfl
        · exact rfl
        · omega
        refine i_nil ?_
        apply r_condF
        · exact rfl
        refine r_nop ?_
        refine r_reg ?_
        apply i_mov
        · exact tI rfl
        apply i_mov
        · exact tS rfl
        apply i_mov
        · exact tI rfl
        apply i_idxM
        · exact rfl
        · exact rfl
        · exact rfl
        · exact rfl
        · exact True.intro
        · omega
        apply i_loadM
        · exact rfl
        · exact True.intro
        · omega
        · exact fun _ => rfl
        (refine ⟨by omega, ?_⟩)
        apply i_lenM
        · exact rfl
        apply i_add
        · exact rfl
        · exact rfl
        · omega
        apply i_mov
        · exact tI rfl
        refine i_nil ?_
        refine r_nop ?_
        refine r_reg ?_
        apply i_mov
        · exact tI rfl
        apply i_add
        · exact rfl
        · exact rfl
        · omega
        apply i_mov
        · exact tI rfl
        refine i_nil ?_
        refine r_nop ?_
        apply q_l
        · exact ⟨i + 1, rfl, rfl, hc, h2, by omega, rfl⟩
        · omega
        · exact ⟨rfl, rfl, int_eq (by omega), rfl, trivial⟩
      · refine r_reg ?_
        apply i_mov
        · exact tI rfl
        apply i_mov
        · exact tS rfl
        apply i_lenM
        · exact rfl
        apply i_ltT
        · exact rfl
        · exact rfl
        · omega
        apply i_mov
        · exact tB rfl
        apply i_gT
        · exact rfl
        apply i_mov
        · exact tI rfl
        apply i_gT
        · exact rfl
        apply i_ltT
        · exact rfl
        · exact rfl
        · omega
        apply i_pickT
        · exact rfl
        · exact tB rfl
        refine i_nil ?_
        apply r_condT
        · exact rfl
        refine r_nop ?_
        refine r_block ?_
        refine r_reg ?_
        apply i_mov
        · exact tS rfl
        apply i_mov
        · exact tI rfl
        apply i_idxM
        · exact rfl
        · exact rfl
        · exact rfl
        · exact rfl
        · exact True.intro
        · omega
        apply i_loadM
        · exact rfl
        · exact True.intro
        · omega
        · exact fun _ => rfl
        (refine ⟨by omega, ?_⟩)
        apply i_lenM
        · exact rfl
        apply i_gtT
        · exact rfl
        · exact rfl
        · omega
        refine i_nil ?_
        apply r_condT
        · exact rfl
        refine r_reg ?_
        apply i_mov
        · exact tB rfl
        refine i_nil ?_
        refine r_ret ?_
        refine q_kr ?_
        refine q_br ?_
        refine q_lr ?_
        refine q_br ?_
        apply q_ret1
        · exact tB rfl
        exact ⟨false, rfl, rfl, by intro h; cases h⟩
    · refine r_reg ?_
      apply i_mov
      · exact tI rfl
      apply i_mov
      · exact tS rfl
      apply i_lenM
      · exact rfl
      apply i_ltT
      · exact rfl
      · exact rfl
      · omega
      apply i_mov
      · exact tB rfl
      apply i_gT
      · exact rfl
      apply i_mov
      · exact tI rfl
      apply i_gT
      · exact rfl
      apply i_ltF
      · exact rfl
      · exact rfl
      · omega
      apply i_pickT
      · exact rfl
      · exact tB rfl
      refine i_nil ?_
      apply r_condF
      · exact rfl
      refine r_exit ?_
      refine r_reg ?_
      apply i_mov
      · exact tS rfl
      apply i_lenM
      · exact rfl
      apply i_leF
      · exact rfl
      · exact rfl
      · omega
      apply i_mov
      · exact tB rfl
      apply i_gF
      · exact rfl
      · exact rfl
      apply i_gF
      · exact rfl
      · exact rfl
      apply i_pickF
      · exact rfl
      · exact tB rfl
      apply i_mov
      · exact tB rfl
      apply i_gF
      · exact rfl
      · exact rfl
      apply i_gF
      · exact rfl
      · exact rfl
      apply i_gF
      · exact rfl
      · exact rfl
      apply i_gU
      · exact rfl
      apply i_gU
      · exact rfl
      apply i_gF
      · exact rfl
      · exact rfl
      apply i_pickF
      · exact rfl
      · exact tB rfl
      apply i_mov
      · exact tB rfl
      refine i_nil ?_
      refine r_ret ?_
      apply q_ret1
      · exact tB rfl
      exact ⟨false, rfl, rfl, by intro h; cases h⟩
  · have e : i = ls.length := by omega
    subst e
    rw [List.take_length]
    by_cases h60 : ls.length ≤ 30
    · by_cases h3 : ls.flatten.length ≤ 400
      · by_cases h4 : cbs ≤ 600
        · refine r_reg ?_
          apply i_mov
          · exact tI rfl
          apply i_mov
          · exact tS rfl
          apply i_lenM
          · exact rfl
          apply i_ltF
          · exact rfl
          · exact rfl
          · omega
          apply i_mov
          · exact tB rfl
          apply i_gF
          · exact rfl
          · exact rfl
          apply i_gF
          · exact rfl
          · exact rfl
          apply i_pickF
          · exact rfl
          · exact tB rfl
          refine i_nil ?_
          apply r_condF
          · exact rfl
          refine r_exit ?_
          refine r_reg ?_
          apply i_mov
          · exact tS rfl
          apply i_lenM
          · exact rfl
          apply i_leT
          · exact rfl
          · exact rfl
          · omega
          apply i_mov
          · exact tB rfl
          apply i_gT
          · exact rfl
          apply i_mov
          · exact tI rfl
          apply i_gT
          · exact rfl
          apply i_leT
          · exact rfl
          · exact rfl
          · omega
          apply i_pickT
          · exact rfl
          · exact tB rfl
          apply i_mov
          · exact tB rfl
          apply i_gT
          · exact rfl
          apply i_mov
          · exact tI rfl
          apply i_gT
          · exact rfl
          apply i_leT
          · exact rfl
          · exact rfl
          · omega
          apply i_gT
          · exact rfl
          apply i_mov
          · exact tB rfl
          apply i_gF
          · exact rfl
          · exact rfl
          apply i_gF
          · exact rfl
          · exact rfl
          apply i_gT
          · exact rfl
          apply i_pickT
          · exact rfl
          · exact tB rfl
          apply i_pickT
          · exact rfl
          · exact tB rfl
          apply i_mov
          · exact tB rfl
          refine i_nil ?_
          refine r_ret ?_
          apply q_ret1
          · exact tB rfl
          exact ⟨true, rfl, rfl, fun _ => ⟨h60, h3⟩⟩
        · by_cases h5 : ls.flatten.length ≤ 40
          · refine r_reg ?_
            apply i_mov
            · exact tI rfl
            apply i_mov
            · exact tS rfl
            apply i_lenM
            · exact rfl
            apply i_ltF
            · exact rfl
            · exact rfl
            · omega
            apply i_mov
            · exact tB rfl
            apply i_gF
            · exact rfl
            · exact rfl
            apply i_gF
            · exact rfl
            · exact rfl
            apply i_pickF
            · exact rfl
            · exact tB rfl
            refine i_nil ?_
            apply r_condF
            · exact rfl
            refine r_exit ?_
            refine r_reg ?_
            apply i_mov
            · exact tS rfl
            apply i_lenM
            · exact rfl
            apply i_leT
            · exact rfl
            · exact rfl
            · omega
            apply i_mov
            · exact tB rfl
            apply i_gT
            · exact rfl
            apply i_mov
            · exact tI rfl
            apply i_gT
            · exact rfl
            apply i_leT
            · exact rfl
            · exact rfl
            · omega
            apply i_pickT
            · exact rfl
            · exact tB rfl
            apply i_mov
            · exact tB rfl
            apply i_gT
            · exact rfl
            apply i_mov
            · exact tI rfl
            apply i_gT
            · exact rfl
            apply i_leF
            · exact rfl
            · exact rfl
            · omega
            apply i_gT
            · exact rfl
            apply i_mov
            · exact tB rfl
            apply i_gT
            · exact rfl
            apply i_mov
            · exact tI rfl
            apply i_gT
            · exact rfl
            apply i_leT
            · exact rfl
            · exact rfl
            · omega
            apply i_gT
            · exact rfl
            apply i_pickF
            · exact rfl
            · exact tB rfl
            apply i_pickT
            · exact rfl
            · exact tB rfl
            apply i_mov
            · exact tB rfl
            refine i_nil ?_
            refine r_ret ?_
            apply q_ret1
            · exact tB rfl
            exact ⟨true, rfl, rfl, fun _ => ⟨h60, h3⟩⟩
          · refine r_reg ?_
            apply i_mov
            · exact tI rfl
            apply i_mov
            · exact tS rfl
            apply i_lenM
            · exact rfl
            apply i_ltF
            · exact rfl
            · exact rfl
            · omega
            apply i_mov
            · exact tB rfl
            apply i_gF
            · exact rfl
            · exact rfl
            apply i_gF
            · exact rfl
            · exact rfl
            apply i_pickF
            · exact rfl
            · exact tB rfl
            refine i_nil ?_
            apply r_condF
            · exact rfl
            refine r_exit ?_
            refine r_reg ?_
            apply i_mov
            · exact tS rfl
            apply i_lenM
            · exact rfl
            apply i_leT
            · exact rfl
            · exact rfl
            · omega
            apply i_mov
            · exact tB rfl
            apply i_gT
            · exact rfl
            apply i_mov
            · exact tI rfl
            apply i_gT
            · exact rfl
            apply i_leT
            · exact rfl
            · exact rfl
            · omega
            apply i_pickT
            · exact rfl
            · exact tB rfl
            apply i_mov
            · exact tB rfl
            apply i_gT
            · exact rfl
            apply i_mov
            · exact tI rfl
            apply i_gT
            · exact rfl
            apply i_leF
            · exact rfl
            · exact rfl
            · omega
            apply i_gT
            · exact rfl
            apply i_mov
            · exact tB rfl
            apply i_gT
            · exact rfl
            apply i_mov
            · exact tI rfl
            apply i_gT
            · exact rfl
            apply i_leF
            · exact rfl
            · exact rfl
            · omega
            apply i_gT
            · exact rfl
            apply i_pickF
            · exact rfl
            · exact tB rfl
            apply i_pickT
            · exact rfl
            · exact tB rfl
            apply i_mov
            · exact tB rfl
            refine i_nil ?_
            refine r_ret ?_
            apply q_ret1
            · exact tB rfl
            exact ⟨false, rfl, rfl, by intro h; cases h⟩
      · refine r_reg ?_
        apply i_mov
        · exact tI rfl
        apply i_mov
        · exact tS rfl
        apply i_lenM
        · exact rfl
        apply i_ltF
        · exact rfl
        · exact rfl
        · omega
        apply i_mov
        · exact tB rfl
        apply i_gF
        · exact rfl
        · exact rfl
        apply i_gF
        · exact rfl
        · exact rfl
        apply i_pickF
        · exact rfl
        · exact tB rfl
        refine i_nil ?_
        apply r_condF
        · exact rfl
        refine r_exit ?_
        refine r_reg ?_
        apply i_mov
        · exact tS rfl
        apply i_lenM
        · exact rfl
        apply i_leT
        · exact rfl
        · exact rfl
        · omega
        apply i_mov
        · exact tB rfl
        apply i_gT
        · exact rfl
        apply i_mov
        · exact tI rfl
        apply i_gT
        · exact rfl
        apply i_leF
        · exact rfl
        · exact rfl
        · omega
        apply i_pickT
        · exact rfl
        · exact tB rfl
        apply i_mov
        · exact tB rfl
        apply i_gF
        · exact rfl
        · exact rfl
        apply i_gF
        · exact rfl
        · exact rfl
        apply i_gF
        · exact rfl
        · exact rfl
        apply i_gU
        · exact rfl
        apply i_gU
        · exact rfl
        apply i_gF
        · exact rfl
        · exact rfl
        apply i_pickF
        · exact rfl
        · exact tB rfl
        apply i_mov
        · exact tB rfl
        refine i_nil ?_
        refine r_ret ?_
        apply q_ret1
        · exact tB rfl
        exact ⟨false, rfl, rfl, by intro h; cases h⟩
    · refine r_reg ?_
      apply i_mov
      · exact tI rfl
      apply i_mov
      · exact tS rfl
      apply i_lenM
      · exact rfl
      apply i_ltF
      · exact rfl
      · exact rfl
      · omega
      apply i_mov
      · exact tB rfl
      apply i_gF
      · exact rfl
      · exact rfl
      apply i_gF
      · exact rfl
      · exact rfl
      apply i_pickF
      · exact rfl
      · exact tB rfl
      refine i_nil ?_
      apply r_condF
      · exact rfl
      refine r_exit ?_
      refine r_reg ?_
      apply i_mov
      · exact tS rfl
      apply i_lenM
      · exact rfl
      apply i_leF
      · exact rfl
      · exact rfl
      · omega
      apply i_mov
      · exact tB rfl
      apply i_gF
      · exact rfl
      · exact rfl
      apply i_gF
      · exact rfl
      · exact rfl
      apply i_pickF
      · exact rfl
      · exact tB rfl
      apply i_mov
      · exact tB rfl
      apply i_gF
      · exact rfl
      · exact rfl
      apply i_gF
      · exact rfl
      · exact rfl
      apply i_gF
      · exact rfl
      · exact rfl
      apply i_gU
      · exact rfl
      apply i_gU
      · exact rfl
      apply i_gF
      · exact rfl
      · exact rfl
      apply i_pickF
      · exact rfl
      · exact tB rfl
      apply i_mov
      · exact tB rfl
      refine i_nil ?_
      refine r_ret ?_
      apply q_ret1
      · exact tB rfl
      exact ⟨false, rfl, rfl, by intro h; cases h⟩

theorem packS (cbs : Int) (o : Own) (vs : List BL) (S : ASt) (hr : Rd S o) (hx : ∀ x ∈ vs, x.ok S) (hn : vs.length ≤ 100000000) (hb : (cat vs).length ≤ 10000) :
    ACalls Try.prog 24 [.int .i64 cbs, .sl o 1 (vs.map slv)] S fun v S' => v = .tuple [.str (packAll (heldC cbs) (cat vs)).out, .int .i64 ((packAll (heldC cbs) (cat vs)).cut : Nat)] ∧ Stays S S' [] := by
  refine en_24 (by exact Nat.le_of_ble_eq_true rfl) ?_
  unfold rc_24
  have hc := (heldC_ok cbs).2.2
  refine r_reg ?_
  apply i_mov
  · exact tC rfl
  apply i_mov
  · exact tI rfl
  refine i_nil ?_
  refine r_reg ?_
  apply i_mov
  · exact tI rfl
  refine i_call (newPacker cbs S) rfl ?_
  rintro v S1 ⟨o1, rfl, ho1, hst1, hat1⟩
  generalize heldC cbs = c at hc hat1 ⊢
  apply i_mov
  · exact tP rfl
  refine i_nil ?_
  refine r_reg ?_
  apply i_mov
  · exact tC rfl
  refine i_nil ?_
  refine r_reg ?_
  apply i_mov
  · exact tI rfl
  refine i_nil ?_
  refine r_block ?_
  refine r_loopP [1, 6, 7, 8] (fun m G S' => ∃ (i : Nat) (p : PkS) (ob : Own), G = [(1, .sl o 1 (vs.map slv)), (6, .ptr (some (o1, 0))), (7, .str p.out), (8, .int .i64 (i : Nat))] ∧ m = vs.length - i ∧ i ≤ vs.length ∧ p = pk c ⟨[], [], 0⟩ (cat (vs.take i)) ∧
     StayX S S' [] Own.nil.ts ∧ RecAt S' o1 c p.line ob [.int .i64 (p.cut : Nat)] ∧ OwnNew S .nil ob) ?_ ?_
  · exact ⟨_, 0, ⟨[], [], 0⟩, .nil, rfl, rfl, Nat.zero_le _, rfl, StayX.of hst1, hat1, OwnNew.refl⟩
  clear hst1 hat1
  rintro m G S2 ⟨i, p, ob, rfl, rfl, hi, hp, hst, hat, hnew⟩
  have hcl := cat_le vs i
  have hpl := pk_len c (cat (vs.take i)) ⟨[], [], 0⟩
  rw [← hp] at hpl
  simp only [List.length_nil] at hpl
  have hmul : c * (cat (vs.take i)).length ≤ 4096 * 10000 := Nat.mul_le_mul hc (by omega)
  by_cases h : i < vs.length
  · have hcl1 := cat_le vs (i + 1)
    have hct := cat_take h
    have hctl := congrArg List.length hct
    rw [List.length_append] at hctl
    obtain ⟨hx1, hx2, hx3⟩ := hx vs[i] (List.getElem_mem h)
    have hx4 := hx3.stayo hst Apart.nilR
    have hstep : pk c ⟨[], [], 0⟩ (cat (vs.take (i + 1))) = (pkOut c p.line p.cut vs[i].l).ahead p.out := by rw [hct, pk_app, ← hp, pk_out]
    have hol := pk_len c vs[i].l ⟨[], p.line, p.cut⟩
    simp only [List.length_nil] at hol
    have hmul2 : c * vs[i].l.length ≤ 4096 * 10000 := Nat.mul_le_mul hc (by omega)
    have ro2 := hr.stayo hst Apart.nilR
    refine r_reg ?_
    apply i_mov
    · exact tI rfl
    apply i_mov
    · exact tS rfl
    apply i_lenM
    · exact rfl
    apply i_ltT
    · exact rfl
    · exact rfl
    · omega
    apply i_mov
    · exact tB rfl
    apply i_gT
    · exact rfl
    apply i_mov
    · exact tP rfl
    apply i_gT
    · exact rfl
    apply i_eqpS
    · exact rfl
    · exact rfl
    apply i_pickT
    · exact rfl
    · exact tB rfl
    refine i_nil ?_
    apply r_condT
    · exact rfl
    refine r_nop ?_
    refine r_block ?_
    refine r_reg ?_
    apply i_mov
    · exact tC rfl
    apply i_mov
    · exact tP rfl
    apply i_mov
    · exact tS rfl
    apply i_mov
    · exact tI rfl
    apply i_idxM
    · exact rfl
    · exact rfl
    · exact rfl
    · exact rfl
    · (refine Rd.rd ?_; assumption)
    · omega
    apply i_loadM
    · exact rfl
    · (refine Rd.rd ?_; assumption)
    · omega
    · exact fun _ => rfl
    (refine ⟨by omega, ?_⟩)
    refine i_call (packPut o1 c p.line ob p.cut vs[i].o vs[i].sz vs[i].l _ hx1 hx4 (Apart.new Apart.nilR hx3 hnew) hat hc (by omega) (by omega) (by omega)) rfl ?_
    rintro v S3 ⟨hst3, ov, sv, ob3, rfl, hav, hnv, hat3, hnew3, hap3⟩
    have hs3 : sv = 1 ∨ (pkOut c p.line p.cut vs[i].l).out = [] := hav.sz.imp id (fun h => List.length_eq_zero_iff.1 h)
    have hrv := hav.rd
    change (pkOut c p.line p.cut vs[i].l).out.length ≤ _ ∧ _ at hol
    apply i_toStr
    · exact rfl
    · assumption
    · (refine Rd.rd ?_; assumption)
    apply i_sadd
    · exact rfl
    · exact rfl
    · omega
    apply i_mov
    · exact tC rfl
    refine i_nil ?_
    refine r_nop ?_
    refine r_reg ?_
    apply i_mov
    · exact tI rfl
    apply i_add
    · exact rfl
    · exact rfl
    · omega
    apply i_mov
    · exact tI rfl
    refine i_nil ?_
    refine r_nop ?_
    apply q_lp [1, 6, 7, 8]
    · exact ⟨i + 1, (pkOut c p.line p.cut vs[i].l).ahead p.out, ob3, rfl, rfl, h, hstep.symm, by ((refine StayX.then ?_ (by assumption) (by (first | (intro o ho; cases ho; done) | (intro o ho; exact Or.inl ho) | (intro o ho; simp only [List.mem_cons, List.not_mem_nil, or_false] at ho ⊢; omega))) (by (first | (intro t ht; exact Or.inl ht) | (intro t ht; exact new_ts (by assumption) t ht) | (intro t ht; cases ht; done))); assumption)), hat3, hnew.trans hst.next hnew3⟩
    · omega
  · have e : i = vs.length := by omega
    subst e
    rw [List.take_length] at hp hmul hpl
    have hend : packAll c (cat vs) = (pkE c p.line p.cut).ahead p.out := by rw [packAll, ← hp, pkE_out]
    have hel := pkE_len c p.line p.cut
    refine r_reg ?_
    apply i_mov
    · exact tI rfl
    apply i_mov
    · exact tS rfl
    apply i_lenM
    · exact rfl
    apply i_ltF
    · exact rfl
    · exact rfl
    · omega
    apply i_mov
    · exact tB rfl
    apply i_gF
    · exact rfl
    · exact rfl
    apply i_gF
    · exact rfl
    · exact rfl
    apply i_pickF
    · exact rfl
    · exact tB rfl
    refine i_nil ?_
    apply r_condF
    · exact rfl
    refine r_exit ?_
    refine r_reg ?_
    apply i_mov
    · exact tP rfl
    apply i_eqpS
    · exact rfl
    · exact rfl
    refine i_nil ?_
    apply r_condF
    · exact rfl
    refine r_nop ?_
    refine r_reg ?_
    apply i_mov
    · exact tC rfl
    apply i_mov
    · exact tP rfl
    refine i_call (packEnd o1 c p.line ob p.cut _ hat hc (by omega) (by omega)) rfl ?_
    rintro v S3 ⟨hst3, ⟨ov, sv, rfl, hav, hnv⟩, ob3, hat3, hob3, hap3⟩
    have hs3 : sv = 1 ∨ (pkE c p.line p.cut).out = [] := hav.sz.imp id (fun h => List.length_eq_zero_iff.1 h)
    have hrv := hav.rd
    apply i_toStr
    · exact rfl
    · assumption
    · (refine Rd.rd ?_; assumption)
    apply i_sadd
    · exact rfl
    · exact rfl
    · omega
    apply i_mov
    · exact tC rfl
    refine i_nil ?_
    refine r_reg ?_
    apply i_mov
    · exact tC rfl
    apply i_mov
    · exact tP rfl
    refine i_call (packCut _ _ _ _ _ _ hat3) rfl ?_
    rintro v S4 ⟨rfl, rfl⟩
    apply i_mov
    · exact tC rfl
    apply i_mov
    · exact tI rfl
    refine i_nil ?_
    refine r_ret ?_
    apply q_ret2
    · exact tC rfl
    · exact tI rfl
    rw [hend]
    exact ⟨rfl, StayX.stays (by ((refine StayX.thenS ?_ (by assumption) (by (first | (intro o ho; cases ho; done) | (intro o ho; exact Or.inl ho) | (intro o ho; simp only [List.mem_cons, List.not_mem_nil, or_false] at ho ⊢; omega))); assumption)))⟩

theorem unpackS (cbs : Int) (o : Own) (vs : List BL) (S : ASt) (hr : Rd S o) (hx : ∀ x ∈ vs, x.ok S) (hn : vs.length ≤ 100000000) (hb : (cat vs).length ≤ 10000) :
    ACalls Try.prog 25 [.int .i64 cbs, .sl o 1 (vs.map slv)] S fun v S' => v = .str (unpackAll (heldC cbs) (cat vs)).out ∧ Stays S S' [] := by
  refine en_25 (by exact Nat.le_of_ble_eq_true rfl) ?_
  unfold rc_25
  obtain ⟨_, hc0, hc⟩ := heldC_ok cbs
  refine r_reg ?_
  apply i_mov
  · exact tC rfl
  refine i_nil ?_
  refine r_reg ?_
  apply i_mov
  · exact tI rfl
  refine i_call (newUnpacker cbs S) rfl ?_
  rintro v S1 ⟨o1, rfl, ho1, hst1, hat1⟩
  generalize heldC cbs = c at hc0 hc hat1 ⊢
  apply i_mov
  · exact tP rfl
  refine i_nil ?_
  refine r_reg ?_
  apply i_mov
  · exact tC rfl
  refine i_nil ?_
  refine r_reg ?_
  apply i_mov
  · exact tI rfl
  refine i_nil ?_
  refine r_block ?_
  refine r_loopP [1, 5, 6, 7] (fun m G S' => ∃ (i : Nat) (p : UnS) (ob : Own), G = [(1, .sl o 1 (vs.map slv)), (5, .ptr (some (o1, 0))), (6, .str p.out), (7, .int .i64 (i : Nat))] ∧ m = vs.length - i ∧ i ≤ vs.length ∧ p = un c ⟨[], []⟩ (cat (vs.take i)) ∧
     StayX S S' [] Own.nil.ts ∧ RecAt S' o1 c p.b ob [] ∧ OwnNew S .nil ob) ?_ ?_
  · exact ⟨_, 0, ⟨[], []⟩, .nil, rfl, rfl, Nat.zero_le _, rfl, StayX.of hst1, hat1, OwnNew.refl⟩
  clear hst1 hat1
  rintro m G S2 ⟨i, p, ob, rfl, rfl, hi, hp, hst, hat, hnew⟩
  have hcl := cat_le vs i
  have hpl := un_len c (cat (vs.take i)) ⟨[], []⟩
  have hpb := un_b c hc0 (cat (vs.take i)) ⟨[], []⟩ hc0
  rw [← hp] at hpl hpb
  simp only [List.length_nil] at hpl
  by_cases h : i < vs.length
  · have hcl1 := cat_le vs (i + 1)
    have hct := cat_take h
    have hctl := congrArg List.length hct
    rw [List.length_append] at hctl
    obtain ⟨hx1, hx2, hx3⟩ := hx vs[i] (List.getElem_mem h)
    have hx4 := hx3.stayo hst Apart.nilR
    have hstep : un c ⟨[], []⟩ (cat (vs.take (i + 1))) = (unOut c p.b vs[i].l).ahead p.out := by rw [hct, un_app, ← hp, un_out]
    have hol := un_len c vs[i].l ⟨[], p.b⟩
    simp only [List.length_nil] at hol
    have ro2 := hr.stayo hst Apart.nilR
    refine r_reg ?_
    apply i_mov
    · exact tI rfl
    apply i_mov
    · exact tS rfl
    apply i_lenM
    · exact rfl
    apply i_ltT
    · exact rfl
    · exact rfl
    · omega
    apply i_mov
    · exact tB rfl
    apply i_gT
    · exact rfl
    apply i_mov
    · exact tP rfl
    apply i_gT
    · exact rfl
    apply i_eqpS
    · exact rfl
    · exact rfl
    apply i_pickT
    · exact rfl
    · exact tB rfl
    refine i_nil ?_
    apply r_condT
    · exact rfl
    refine r_nop ?_
    refine r_block ?_
    refine r_reg ?_
    apply i_mov
    · exact tC rfl
    apply i_mov
    · exact tP rfl
    apply i_mov
    · exact tS rfl
    apply i_mov
    · exact tI rfl
    apply i_idxM
    · exact rfl
    · exact rfl
    · exact rfl
    · exact rfl
    · (refine Rd.rd ?_; assumption)
    · omega
    apply i_loadM
    · exact rfl
    · (refine Rd.rd ?_; assumption)
    · omega
    · exact fun _ => rfl
    (refine ⟨by omega, ?_⟩)
    refine i_call (unPut o1 c p.b ob vs[i].o vs[i].sz vs[i].l _ hx1 hx4 (Apart.new Apart.nilR hx3 hnew) hat hc0 hc (by omega) (by omega)) rfl ?_
    rintro v S3 ⟨hst3, ov, sv, ob3, rfl, hav, hnv, hat3, hnew3, hap3⟩
    have hs3 : sv = 1 ∨ (unOut c p.b vs[i].l).out = [] := hav.sz.imp id (fun h => List.length_eq_zero_iff.1 h)
    have hrv := hav.rd
    change (unOut c p.b vs[i].l).out.length + (unOut c p.b vs[i].l).b.length ≤ _ at hol
    apply i_toStr
    · exact rfl
    · assumption
    · (refine Rd.rd ?_; assumption)
    apply i_sadd
    · exact rfl
    · exact rfl
    · omega
    apply i_mov
    · exact tC rfl
    refine i_nil ?_
    refine r_nop ?_
    refine r_reg ?_
    apply i_mov
    · exact tI rfl
    apply i_add
    · exact rfl
    · exact rfl
    · omega
    apply i_mov
    · exact tI rfl
    refine i_nil ?_
    refine r_nop ?_
    apply q_lp [1, 5, 6, 7]
    · exact ⟨i + 1, (unOut c p.b vs[i].l).ahead p.out, ob3, rfl, rfl, h, hstep.symm, by ((refine StayX.then ?_ (by assumption) (by (first | (intro o ho; cases ho; done) | (intro o ho; exact Or.inl ho) | (intro o ho; simp only [List.mem_cons, List.not_mem_nil, or_false] at ho ⊢; omega))) (by (first | (intro t ht; exact Or.inl ht) | (intro t ht; exact new_ts (by assumption) t ht) | (intro t ht; cases ht; done))); assumption)), hat3, hnew.trans hst.next hnew3⟩
    · omega
  · have e : i = vs.length := by omega
    subst e
    rw [List.take_length] at hp
    have hend : unpackAll c (cat vs) = (unE p.b).ahead p.out := by rw [unpackAll, ← hp, unE_out]
    have hel : (unE p.b).out.length ≤ p.b.length + 1 := by
      unfold unE unEnd
      split
      · simp
      · simpa using lineU_len p.b
    refine r_reg ?_
    apply i_mov
    · exact tI rfl
    apply i_mov
    · exact tS rfl
    apply i_lenM
    · exact rfl
    apply i_ltF
    · exact rfl
    · exact rfl
    · omega
    apply i_mov
    · exact tB rfl
    apply i_gF
    · exact rfl
    · exact rfl
    apply i_gF
    · exact rfl
    · exact rfl
    apply i_pickF
    · exact rfl
    · exact tB rfl
    refine i_nil ?_
    apply r_condF
    · exact rfl
    refine r_exit ?_
    refine r_reg ?_
    apply i_mov
    · exact tP rfl
    apply i_eqpS
    · exact rfl
    · exact rfl
    refine i_nil ?_
    apply r_condT
    · exact rfl
    refine r_reg ?_
    apply i_mov
    · exact tC rfl
    apply i_mov
    · exact tP rfl
    refine i_call (unEnd_c o1 c p.b ob _ hat hc (by omega)) rfl ?_
    rintro v S3 ⟨hst3, ⟨ov, sv, rfl, hav, hnv⟩, ob3, hat3, hob3, hap3⟩
    have hs3 : sv = 1 ∨ (unE p.b).out = [] := hav.sz.imp id (fun h => List.length_eq_zero_iff.1 h)
    have hrv := hav.rd
    apply i_toStr
    · exact rfl
    · assumption
    · (refine Rd.rd ?_; assumption)
    apply i_sadd
    · exact rfl
    · exact rfl
    · omega
    apply i_mov
    · exact tC rfl
    refine i_nil ?_
    refine r_nop ?_
    refine r_reg ?_
    apply i_mov
    · exact tC rfl
    apply i_mov
    · exact tC rfl
    refine i_nil ?_
    refine r_ret ?_
    apply q_ret1
    · exact tC rfl
    rw [hend]
    exact ⟨rfl, StayX.stays (by ((refine StayX.then ?_ (by assumption) (by (first | (intro o ho; cases ho; done) | (intro o ho; exact Or.inl ho) | (intro o ho; simp only [List.mem_cons, List.not_mem_nil, or_false] at ho ⊢; omega))) (by (first | (intro t ht; exact Or.inl ht) | (intro t ht; exact new_ts (by assumption) t ht) | (intro t ht; cases ht; done))); assumption)))⟩
end Go.Proofs.Ytmfkocmbmadkmaa.Abs
