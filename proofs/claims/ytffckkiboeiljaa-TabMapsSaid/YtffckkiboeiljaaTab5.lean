/- The law TabMaps: that it answers true. -/
import Derived.Test.YtffckkiboeiljaaTab1
import Derived.Test.YtffckkiboeiljaaTabK5
namespace Go.Proofs.Ytffckkiboeiljaa.Abs
open Go Go.Proofs
set_option linter.unusedVariables false
set_option linter.unusedSimpArgs false
attribute [local irreducible] wpI wpR ropK chk ASt.push ASt.put ASt.fresh ASt.kill appS

theorem foldl_map_len (ts : List (List UInt8)) : ∀ b : List UInt8, (ts.foldl (fun x t => mapL t x) b).length = b.length := by
  induction ts with
  | nil => intro b; rfl
  | cons t ts ih => intro b; rw [List.foldl_cons, ih, mapL_len]
theorem foldl_step {ts : List (List UInt8)} {i : Nat} (h : i < ts.length) (b : List UInt8) : (ts.take (i + 1)).foldl (fun x t => mapL t x) b = mapL ts[i] ((ts.take i).foldl (fun x t => mapL t x) b) := by
  rw [List.take_succ_eq_append_getElem h, List.foldl_append]; rfl

theorem c_loadT {F : Fr} {S : ASt} {d j n : Nat} {a : RO} {o : Own} {ts : List (List UInt8)} (ha : ro F a = .eptr o n (ts.map tabv) j 0) (hr : rdA S o) (hl : ∀ t ∈ ts, t.length = n) (h : ∃ hj : j < ts.length, look F d = tabv ts[j]) : chk (.loadN n a) F S (some d) := by
  obtain ⟨hj, hd⟩ := h
  unfold chk
  refine ⟨tabv ts[j], S, ?_, hd.symm⟩
  have ht := hl _ (List.getElem_mem hj)
  simp only [ropE, ha, loadNE]
  rw [if_pos ⟨by omega, rdB_iff.2 hr⟩, map_getD hj]
  simp [st1, AV.cells, ← ht]
  exact List.take_of_length_le (by simp)
theorem tabMaps (ts : List (List UInt8)) (ht : ∀ t ∈ ts, t.length = 256) (b : List UInt8) (S : ASt) :
    ACalls Try.prog 4 [.sl .ro 256 (ts.map tabv), .sl .ro 1 (u8s b)] S fun v S' => v = .bool true := by
  refine en_4 (by exact Nat.le_of_ble_eq_true rfl) ?_
  unfold rc_4
  by_cases hl : ts.length ≤ 6
  · by_cases hb : b.length ≤ 1000
    · refine r_reg ?_
      apply i_mov
      · exact tB rfl
      refine i_nil ?_
      refine r_reg ?_
      apply i_mov
      · exact tS rfl
      apply i_lenM
      · exact rfl
      apply i_gtF
      · exact rfl
      · exact rfl
      · omega
      apply i_mov
      · exact tB rfl
      apply i_gT
      · exact rfl
      apply i_mov
      · exact tS rfl
      apply i_gT
      · exact rfl
      apply i_lenM
      · exact rfl
      apply i_gT
      · exact rfl
      apply i_gtF
      · exact rfl
      · exact rfl
      · omega
      apply i_pickF
      · exact rfl
      · exact tB rfl
      refine i_nil ?_
      apply r_condF
      · exact rfl
      refine r_nop ?_
      refine r_reg ?_
      apply i_mov
      · exact tS rfl
      apply i_app0M
      · exact rfl
      · exact rfl
      · exact Or.inl rfl
      · exact True.intro
      · omega
      apply i_mov
      · exact tS rfl
      refine i_nil ?_
      refine r_reg ?_
      apply i_mov
      · exact tI rfl
      refine i_nil ?_
      refine r_block ?_
      refine r_loopP [0, 1, 5, 6] (fun m G S' => ∃ (i : Nat) (o5 : Own) (s5 : Nat) (x : List UInt8), G = [(0, .sl .ro 256 (ts.map tabv)), (1, .sl .ro 1 (u8s b)), (5, .sl o5 s5 (u8s x)), (6, .int .i64 (i : Nat))] ∧ m = ts.length - i ∧ i ≤ ts.length ∧
        x = (ts.take i).foldl (fun x t => mapL t x) b ∧ (s5 = 1 ∨ x = []) ∧ (o5 = .nil → x = []) ∧ Rd S' o5) ?_ ?_
      · exact ⟨_, 0, _, _, b, rfl, rfl, Nat.zero_le _, rfl, .inl rfl, (by intro h; cases h), by (exact Rd.new)⟩
      rintro m G S2 ⟨i, o5, s5, x, rfl, rfl, hi, hx, hs5, hn5, hr5⟩
      have hxl : x.length ≤ 1000 := by rw [hx, foldl_map_len]; exact hb
      by_cases hc : i < ts.length
      · have hti := ht _ (List.getElem_mem hc)
        refine r_reg ?_
        apply i_mov
        · exact tI rfl
        apply i_mov
        · exact tS rfl
        apply i_lenM
        · exact rfl
        apply i_ltT
        · exact rfl
        · exact rfl
        · omega
        refine i_nil ?_
        apply r_condT
        · exact rfl
        refine r_nop ?_
        refine r_block ?_
        refine r_reg ?_
        apply i_mov
        · exact tS rfl
        apply i_mov
        · exact tI rfl
        apply i_idxM
        · exact rfl
        · exact rfl
        · exact rfl
        · exact rfl
        · exact True.intro
        · omega
        refine i_loadT rfl (by exact True.intro) ht ⟨hc, ?_⟩
        apply i_mov
        · exact tS rfl
        apply i_mov
        · exact tS rfl
        apply i_mov
        · exact tI rfl
        apply i_idxM
        · exact rfl
        · exact rfl
        · exact rfl
        · exact rfl
        · exact True.intro
        · omega
        refine i_loadT rfl (by exact True.intro) ht ⟨hc, ?_⟩
        apply i_mov
        · exact tS rfl
        refine i_call (tabMap ts[i] o5 s5 x _ hti hs5 hr5 (by omega)) rfl ?_
        rintro v S3 ⟨hst3, hv⟩
        obtain ⟨o3, s3, rfl, hs3, hn3, hr3⟩ := hv.bs
        have hr5' := hr5.stays hst3
        refine c_re (c_loadT rfl (by exact True.intro) ht ⟨hc, rfl⟩) ?_
        apply c_re
        · (apply c_idxM; (· exact rfl); (· exact rfl); (· exact rfl); (· exact rfl); (· exact True.intro); (· omega); (· exact rfl))
        apply i_toStr
        · exact rfl
        · assumption
        · (refine Rd.rd ?_; assumption)
        refine i_call (refMap ts[i] o5 s5 x _ hti hs5 hr5' (by omega)) rfl ?_
        rintro v S4 ⟨hst4, hv⟩
        obtain ⟨o4, s4, rfl, hs4, hn4, hr4⟩ := hv.bs
        have hr5'' := hr5'.stays hst4
        have hr3' := hr3.stays hst4
        apply c_re
        · (apply c_toStr; (· exact rfl); (· assumption); (· (refine Rd.rd ?_; assumption)); (· exact rfl))
        apply i_toStr
        · exact rfl
        · assumption
        · (refine Rd.rd ?_; assumption)
        apply i_snF
        · exact rfl
        · exact rfl
        · exact rfl
        refine i_nil ?_
        apply r_condF
        · exact rfl
        refine r_nop ?_
        refine r_reg ?_
        apply i_mov
        · exact tS rfl
        apply i_mov
        · exact tI rfl
        apply i_idxM
        · exact rfl
        · exact rfl
        · exact rfl
        · exact rfl
        · exact True.intro
        · omega
        refine i_loadT rfl (by exact True.intro) ht ⟨hc, ?_⟩
        apply i_mov
        · exact tS rfl
        refine i_call (refMap ts[i] o5 s5 x _ hti hs5 hr5'' (by omega)) rfl ?_
        rintro v S5 ⟨hst5, hv⟩
        obtain ⟨o6, s6, rfl, hs6, hn6, hr6⟩ := hv.bs
        apply i_mov
        · exact tS rfl
        refine i_nil ?_
        refine r_nop ?_
        refine r_reg ?_
        apply i_mov
        · exact tI rfl
        apply i_add
        · exact rfl
        · exact rfl
        · omega
        apply i_mov
        · exact tI rfl
        refine i_nil ?_
        refine r_nop ?_
        apply q_lp [0, 1, 5, 6]
        · exact ⟨i + 1, _, _, _, rfl, rfl, hc, by rw [foldl_step hc, ← hx], hs6, hn6, hr6⟩
        · omega
      · have e : i = ts.length := by omega
        subst e
        rw [List.take_length] at hx
        refine r_reg ?_
        apply i_mov
        · exact tI rfl
        apply i_mov
        · exact tS rfl
        apply i_lenM
        · exact rfl
        apply i_ltF
        · exact rfl
        · exact rfl
        · omega
        refine i_nil ?_
        apply r_condF
        · exact rfl
        refine r_exit ?_
        refine r_reg ?_
        apply i_mov
        · exact tS rfl
        apply i_mov
        · exact tS rfl
        apply i_mov
        · exact tS rfl
        apply i_toStr
        · exact rfl
        · assumption
        · (refine Rd.rd ?_; assumption)
        refine i_call (tabThen ts _ ht (by omega) .ro 256 Rd.ro (.inl rfl)) rfl ?_
        rintro v S3 ⟨hst3, rfl⟩
        have hr5' := hr5.stays hst3
        apply c_re
        · (apply c_toStr; (· exact rfl); (· assumption); (· (refine Rd.rd ?_; assumption)); (· exact rfl))
        refine i_call (tabMap (thenL ts) .ro 1 b _ (thenL_len ts) (.inl rfl) Rd.ro (by omega)) rfl ?_
        rintro v S4 ⟨hst4, hv⟩
        obtain ⟨o4, s4, rfl, hs4, hn4, hr4⟩ := hv.bs
        rw [thenL_map, ← hx] at hs4 hn4 ⊢
        have hr5'' := hr5'.stays hst4
        apply c_re
        · (apply c_toStr; (· exact rfl); (· assumption); (· (refine Rd.rd ?_; assumption)); (· exact rfl))
        apply i_toStr
        · exact rfl
        · assumption
        · (refine Rd.rd ?_; assumption)
        apply i_seT
        · exact rfl
        · exact rfl
        · exact rfl
        apply i_mov
        · exact tB rfl
        apply i_gT
        · exact rfl
        refine i_call (tabRuns _) rfl ?_
        rintro v S5 ⟨rfl, rfl⟩
        apply i_pickT
        · exact rfl
        · exact tB rfl
        apply i_mov
        · exact tB rfl
        refine i_nil ?_
        refine r_ret ?_
        apply q_ret1
        · exact tB rfl
        rfl
    · refine r_reg ?_
      apply i_mov
      · exact tB rfl
      refine i_nil ?_
      refine r_reg ?_
      apply i_mov
      · exact tS rfl
      apply i_lenM
      · exact rfl
      apply i_gtF
      · exact rfl
      · exact rfl
      · omega
      apply i_mov
      · exact tB rfl
      apply i_gT
      · exact rfl
      apply i_mov
      · exact tS rfl
      apply i_gT
      · exact rfl
      apply i_lenM
      · exact rfl
      apply i_gT
      · exact rfl
      apply i_gtT
      · exact rfl
      · exact rfl
      · omega
      apply i_pickF
      · exact rfl
      · exact tB rfl
      refine i_nil ?_
      apply r_condT
      · exact rfl
      refine r_reg ?_
      refine i_call (tabRuns _) rfl ?_
      rintro v S5 ⟨rfl, rfl⟩
      apply i_mov
      · exact tB rfl
      refine i_nil ?_
      refine r_ret ?_
      refine q_kr ?_
      apply q_ret1
      · exact tB rfl
      rfl
  · refine r_reg ?_
    apply i_mov
    · exact tB rfl
    refine i_nil ?_
    refine r_reg ?_
    apply i_mov
    · exact tS rfl
    apply i_lenM
    · exact rfl
    apply i_gtT
    · exact rfl
    · exact rfl
    · omega
    apply i_mov
    · exact tB rfl
    apply i_gF
    · exact rfl
    · exact rfl
    apply i_gF
    · exact rfl
    · exact rfl
    apply i_gF
    · exact rfl
    · exact rfl
    apply i_pickT
    · exact rfl
    · exact tB rfl
    refine i_nil ?_
    apply r_condT
    · exact rfl
    refine r_reg ?_
    refine i_call (tabRuns _) rfl ?_
    rintro v S5 ⟨rfl, rfl⟩
    apply i_mov
    · exact tB rfl
    refine i_nil ?_
    refine r_ret ?_
    refine q_kr ?_
    apply q_ret1
    · exact tB rfl
    rfl
theorem tabMapsR (ts : List (List UInt8)) (h : (∀ a ∈ ts, a.length = 256 ∧ ∀ x ∈ a, True) ∧ ts.length ≤ 9223372036854775807) (b : List UInt8) (S : ASt) :
    ACalls Try.prog 4 [.sl .ro 256 (ts.map tabv), .sl .ro 1 (u8s b)] S fun v S' => v = .bool true := tabMaps ts (fun t ht => (h.1 t ht).1) b S
end Go.Proofs.Ytffckkiboeiljaa.Abs
