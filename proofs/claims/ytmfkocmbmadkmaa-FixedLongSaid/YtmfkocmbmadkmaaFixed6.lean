/- The laws' own functions of chapter 7: contracts. -/
import Derived.Test.YtmfkocmbmadkmaaFixed5
namespace Go.Proofs.Ytmfkocmbmadkmaa.Abs
open Go Go.Proofs
set_option linter.unusedVariables false
set_option linter.unusedSimpArgs false
attribute [local irreducible] wpI wpR ropK chk ASt.push ASt.put ASt.fresh ASt.kill appS

theorem fixedRuns (S : ASt) : ACalls Try.prog 3 [] S fun v S' => v = .bool true ∧ Stays S S' [] := by
  refine en_3 (by exact Nat.le_of_ble_eq_true rfl) ?_
  unfold rc_3
  dsimp only
  have eh : heldC 3 = 3 := by decide
  have hl1 : ([99] : List UInt8).length = 1 := rfl
  have hl0 : ([] : List UInt8).length = 0 := rfl
  have e1 : pkOut 3 [] 0 [97, 98, 10, 99, 100, 101, 102, 10] = ⟨[97, 98, 32, 99, 100, 101], [], 1⟩ := by kernel_rfl
  have e2 : unOut 3 [] [97, 98, 32, 99] = ⟨[97, 98, 10], [99]⟩ := by kernel_rfl
  have e3 : unE [99] = ⟨[99, 10], []⟩ := by kernel_rfl
  refine r_reg ?_
  apply i_mov
  · exact tB rfl
  refine i_nil ?_
  refine r_reg ?_
  refine i_call (newPacker 3 S) rfl ?_
  rw [eh]
  rintro v S1 ⟨o1, rfl, ho1, hst1, hat1⟩
  have hlt1 : o1 < S1.objs.length := by obtain ⟨sb, h, _⟩ := id hat1; exact Ob.lt h
  refine i_call (newUnpacker 3 S1) rfl ?_
  rw [eh]
  rintro v S2 ⟨o2, rfl, ho2, hst2, hat2⟩
  replace hat1 := hat1.stays hst2 (by simp)
  replace hst2 := hst1.then0 hst2
  apply i_mov
  · exact tP rfl
  apply i_mov
  · exact tP rfl
  refine i_nil ?_
  refine r_reg ?_
  apply i_mov
  · exact tP rfl
  apply i_eqpS
  · exact rfl
  · exact rfl
  apply i_mov
  · exact tB rfl
  apply i_gT
  · exact rfl
  apply i_mov
  · exact tP rfl
  apply i_gT
  · exact rfl
  apply i_eqpS
  · exact rfl
  · exact rfl
  apply i_pickF
  · exact rfl
  · exact tB rfl
  refine i_nil ?_
  apply r_condF
  · exact rfl
  refine r_nop ?_
  refine r_reg ?_
  apply i_mov
  · exact tP rfl
  refine i_mkO (xs := u8s [97, 98, 10, 99, 100, 101, 102, 10]) rfl ?_
  refine i_frz rfl live_new ?_
  refine i_call (packPut o1 3 [] .nil 0 (.sub S2.fresh.next) 1 [97, 98, 10, 99, 100, 101, 102, 10] _ (.inl rfl) Rd.frz Apart.nilR (hat1.stays (Stays.refl S2 []).frz (by simp)) (by omega) (by simp) (by simp) (by omega)) rfl ?_
  rw [e1]; dsimp only
  rintro v S3 ⟨hst3, oa, sa, ob1, rfl, haa, hna, hat1', hnew1, hap1⟩
  replace hat2 := (hat2.stays (Stays.refl S2 []).frz (by simp)).stays (hst3.stays) (by simp; omega)
  have hst3 : Stays S S3 [] := (hst2.frz).then (hst3.stays) (by simp; omega)
  have hra := haa.rd
  obtain rfl : sa = 1 := haa.sz.resolve_right (by simp)
  apply i_mov
  · exact tS rfl
  refine i_nil ?_
  refine r_reg ?_
  apply i_mov
  · exact tP rfl
  refine i_mkO (xs := u8s [97, 98, 32, 99]) rfl ?_
  refine i_frz rfl live_new ?_
  refine i_call (unPut o2 3 [] .nil (.sub S3.fresh.next) 1 [97, 98, 32, 99] _ (.inl rfl) Rd.frz Apart.nilR (hat2.stays (Stays.refl S3 []).frz (by simp)) (by omega) (by omega) (by simp) (by simp)) rfl ?_
  rw [e2]; dsimp only
  rintro v S4 ⟨hst4, oc, sc, ob2, rfl, hac, hnc, hat2', hnew2, hap2⟩
  have hat1b := hat1'.rd.stays (Stays.refl S3 []).frz
  have hra0 := hra.stays (Stays.refl S3 []).frz
  replace hat1' := (hat1'.stays (Stays.refl S3 []).frz (by simp)).stays (hst4.stays) (by simp; omega)
  replace hra := (hra.stays (Stays.refl S3 []).frz).stays hst4.stays
  have hapa2 : Apart oa ob2 := Apart.new Apart.nilR hra0 hnew2
  have hst4 : Stays S S4 [] := (hst3.frz).then (hst4.stays) (by simp; omega)
  have hrc := hac.rd
  obtain rfl : sc = 1 := hac.sz.resolve_right (by simp)
  apply i_mov
  · exact tS rfl
  refine i_nil ?_
  refine r_reg ?_
  apply i_mov
  · exact tP rfl
  apply i_nckP
  · exact rfl
  apply i_fld0
  · exact rfl
  refine i_call (recHeld _ _ _ _ _ _ hat2') rfl ?_
  rintro v S5 ⟨rfl, rfl⟩
  apply i_mov
  · exact tI rfl
  refine i_nil ?_
  refine r_reg ?_
  apply i_mov
  · exact tP rfl
  refine i_call (unEnd_c o2 3 [99] ob2 _ hat2' (by omega) (by simp)) rfl ?_
  rw [e3]; dsimp only
  rintro v S6 ⟨hst6, ⟨oe, se, rfl, hae, hne⟩, ob3, hat3, _, _⟩
  have ha1r := hat1'.rd
  have hap21 : Apart ob1 ob2 := Apart.new Apart.nilR (hat1b) hnew2
  replace hat1' := hat1'.stayx hst6 (by simp; omega) hap21
  replace hra := hra.stayo hst6 hapa2
  replace hrc := hrc.stayo hst6 hap2
  have hre := hae.rd
  obtain rfl : se = 1 := hae.sz.resolve_right (by simp)
  have hst6 : Stays S S6 [] := ⟨by have := hst4.objs; have := hst6.objs; omega, by
    intro o ho _
    exact (hst6.obj o (by have := hst4.objs; omega) (by simp; omega)).trans (hst4.obj o ho (by simp)), Nat.le_trans hst4.next hst6.next, fun t ht hl => hst6.live t (Nat.lt_of_lt_of_le ht hst4.next) (by
      intro hm
      rcases hnew2 with rfl | hnew2
      · simp [Own.ts] at hm
      · have h8 := hnew2 t (Own.ts_mem.1 hm)
        have h9 := hst3.next
        simp only [next_fresh, next_kill] at h8 h9
        omega) (hst4.live t ht hl)⟩
  apply i_mov
  · exact tS rfl
  refine i_nil ?_
  refine r_reg ?_
  apply i_mov
  · exact tS rfl
  apply i_toStr
  · exact rfl
  · exact Or.inl rfl
  · (refine Rd.rd ?_; assumption)
  apply i_seT
  · exact rfl
  · exact rfl
  · exact rfl
  apply i_mov
  · exact tB rfl
  apply i_gT
  · exact rfl
  apply i_mov
  · exact tP rfl
  apply i_gT
  · exact rfl
  refine i_call (packCut _ _ _ _ _ _ hat1') rfl ?_
  rintro v S7 ⟨rfl, rfl⟩
  apply i_gT
  · exact rfl
  apply i_eqT
  · exact rfl
  · exact rfl
  · omega
  apply i_pickT
  · exact rfl
  · exact tB rfl
  apply i_mov
  · exact tB rfl
  apply i_gT
  · exact rfl
  apply i_mov
  · exact tS rfl
  apply i_gT
  · exact rfl
  apply i_toStr
  · exact rfl
  · exact Or.inl rfl
  · (refine Rd.rd ?_; assumption)
  apply i_gT
  · exact rfl
  apply i_seT
  · exact rfl
  · exact rfl
  · exact rfl
  apply i_pickT
  · exact rfl
  · exact tB rfl
  apply i_mov
  · exact tB rfl
  apply i_gT
  · exact rfl
  apply i_mov
  · exact tI rfl
  apply i_gT
  · exact rfl
  apply i_eqT
  · exact rfl
  · exact rfl
  · omega
  apply i_pickT
  · exact rfl
  · exact tB rfl
  apply i_mov
  · exact tB rfl
  apply i_gT
  · exact rfl
  apply i_mov
  · exact tS rfl
  apply i_gT
  · exact rfl
  apply i_toStr
  · exact rfl
  · exact Or.inl rfl
  · (refine Rd.rd ?_; assumption)
  apply i_gT
  · exact rfl
  apply i_seT
  · exact rfl
  · exact rfl
  · exact rfl
  apply i_pickT
  · exact rfl
  · exact tB rfl
  apply i_mov
  · exact tB rfl
  apply i_gT
  · exact rfl
  apply i_mov
  · exact tP rfl
  apply i_gT
  · exact rfl
  apply i_nckP
  · exact rfl
  apply i_gT
  · exact rfl
  apply i_fld0
  · exact rfl
  apply i_gT
  · exact rfl
  refine i_call (recHeld _ _ _ _ _ _ hat3) rfl ?_
  rintro v S7 ⟨rfl, rfl⟩
  apply i_gT
  · exact rfl
  apply i_eqT
  · exact rfl
  · exact rfl
  · omega
  apply i_pickT
  · exact rfl
  · exact tB rfl
  apply i_mov
  · exact tB rfl
  apply i_gT
  · exact rfl
  apply i_mov
  · exact tP rfl
  apply i_gT
  · exact rfl
  apply i_nckP
  · exact rfl
  apply i_gT
  · exact rfl
  apply i_fld0
  · exact rfl
  apply i_gT
  · exact rfl
  refine i_call (recCbs _ _ _ _ _ _ hat1') rfl ?_
  rintro v S7 ⟨rfl, rfl⟩
  apply i_gT
  · exact rfl
  apply i_eqT
  · exact rfl
  · exact rfl
  · omega
  apply i_pickT
  · exact rfl
  · exact tB rfl
  apply i_mov
  · exact tB rfl
  refine i_nil ?_
  refine r_ret ?_
  apply q_ret1
  · exact tB rfl
  exact ⟨rfl, hst6⟩
end Go.Proofs.Ytmfkocmbmadkmaa.Abs
