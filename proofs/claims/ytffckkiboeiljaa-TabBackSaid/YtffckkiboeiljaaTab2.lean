/- The laws TabBack and TabOnce: that they answer true. -/
import Derived.Test.YtffckkiboeiljaaTab1
import Derived.Test.YtffckkiboeiljaaTabK5
namespace Go.Proofs.Ytffckkiboeiljaa.Abs
open Go Go.Proofs
set_option linter.unusedVariables false
set_option linter.unusedSimpArgs false
attribute [local irreducible] wpI wpR ropK chk ASt.push ASt.put ASt.fresh ASt.kill appS

theorem there_id : thenL [ebcdicL, asciiL] = idL := by kernel_rfl
theorem back_id : thenL [asciiL, ebcdicL] = idL := by kernel_rfl
def injB (t : List UInt8) : Bool := (List.range 256).all fun i => (List.range 256).all fun j => !(t.getD i 0 == t.getD j 0) || i == j
theorem ebcdic_len : ebcdicL.length = 256 := by kernel_rfl
theorem ibm_len : ibmL.length = 256 := by kernel_rfl
theorem ascii_len : asciiL.length = 256 := by kernel_rfl
theorem sorts_u8 (l : List UInt8) (n : Nat) (h : l.length = n) : List.replicate n 6 = (u8s l).map AV.sort := by
  subst h
  induction l with
  | nil => rfl
  | cons b l ih => rw [List.length_cons, List.replicate_succ, ih]; rfl
theorem eqL_self (l : List UInt8) : eqL (u8s l) (u8s l) = true := by
  induction l with
  | nil => rfl
  | cons b l ih => simp [u8s, eqL, AV.eq1] at ih ⊢; exact ih

theorem two_len {a b : List UInt8} (ha : a.length = 256) (hb : b.length = 256) : ∀ t ∈ [a, b], t.length = 256 := by
  intro t h
  simp only [List.mem_cons, List.not_mem_nil, or_false] at h
  rcases h with rfl | rfl <;> assumption
theorem tab_box {t : List UInt8} (h : t.length = 256) : ((tabv t).box && (tabv t).cells.length == 256) = true := by simp [AV.box, AV.cells, h]

theorem tabBack (b : List UInt8) (S : ASt) : ACalls Try.prog 7 [.sl .ro 1 (u8s b)] S fun v S' => v = .bool true := by
  refine en_7 (by exact Nat.le_of_ble_eq_true rfl) ?_
  unfold rc_7
  have hz0 : (List.replicate 256 (AV.int .u8 0)).length = 256 := List.length_replicate
  generalize hz : List.replicate 256 (AV.int .u8 0) = z0 at hz0 ⊢
  have he := ebcdic_len
  have ha := ascii_len
  have hi : (u8s idL).length = 256 := by rw [List.length_map, idL_len]
  by_cases hl : b.length ≤ 1000
  · refine r_reg ?_
    apply i_mov
    · exact tB rfl
    refine i_nil ?_
    refine r_reg ?_
    apply i_mov
    · exact tS rfl
    apply i_lenM
    · exact rfl
    apply i_gtF
    · exact rfl
    · exact rfl
    · omega
    refine i_nil ?_
    apply r_condF
    · exact rfl
    refine r_nop ?_
    refine r_reg ?_
    refine i_call (tEbcdic _) rfl ?_
    rintro v S1 ⟨rfl, rfl⟩
    skip
    refine i_call (tAscii _) rfl ?_
    rintro v S1 ⟨rfl, rfl⟩
    refine i_mk2 rfl rfl (tab_box he) (tab_box ha) ?_
    refine i_call (tabThen [ebcdicL, asciiL] _ (two_len he ha) (by simp) .ro 256 Rd.ro (.inl rfl)) rfl ?_
    rintro v S1 ⟨hst1, rfl⟩
    rw [there_id]
    refine i_alloc ?_
    apply i_stN
    · exact rfl
    · exact rfl
    · exact Ob.new
    · with_reducible assumption
    · with_reducible assumption
    · exact rfl
    refine i_nil ?_
    refine r_reg ?_
    refine i_call (tAscii _) rfl ?_
    rintro v S2 ⟨rfl, rfl⟩
    skip
    refine i_call (tEbcdic _) rfl ?_
    rintro v S2 ⟨rfl, rfl⟩
    refine i_mk2 rfl rfl (tab_box ha) (tab_box he) ?_
    refine i_call (tabThen [asciiL, ebcdicL] _ (two_len ha he) (by simp) .ro 256 Rd.ro (.inl rfl)) rfl ?_
    rintro v S2 ⟨hst2, rfl⟩
    rw [back_id]
    have hob : S2.objs[S1.objs.length]? = some (u8s idL) := Ob.stays0 (Ob.put (by simp only [Ob.len_push]; omega)) hst2
    have hlt := Ob.lt hob
    refine i_alloc ?_
    apply i_stN
    · exact rfl
    · exact rfl
    · exact Ob.new
    · with_reducible assumption
    · with_reducible assumption
    · exact rfl
    refine i_nil ?_
    refine r_reg ?_
    apply i_loadN
    · exact rfl
    · ((apply Ob.putNe' (by omega)); apply Ob.push; assumption)
    · with_reducible assumption
    apply i_mov
    · exact tS rfl
    apply i_mov
    · exact tS rfl
    apply i_toStr
    · exact rfl
    · exact Or.inl rfl
    · exact True.intro
    refine i_call (tabMap idL .ro 1 b _ idL_len (.inl rfl) Rd.ro (by omega)) rfl ?_
    rintro v S3 ⟨hst3, hv⟩
    obtain ⟨o3, s3, rfl, hs3, hn3, hr3⟩ := hv.bs
    rw [mapL_id] at hs3 hn3 ⊢
    have hob1 : S3.objs[S1.objs.length]? = some (u8s idL) := Ob.stays0 (by (apply Ob.putNe' (by omega)); (apply Ob.push); exact hob) hst3
    have hob2 : S3.objs[S2.objs.length]? = some (u8s idL) := Ob.stays0 (Ob.put (by simp only [Ob.len_push]; omega)) hst3
    apply c_re
    · (apply c_toStr; (· exact rfl); (· exact Or.inl rfl); (· exact True.intro); (· exact rfl))
    apply i_toStr
    · exact rfl
    · assumption
    · (refine Rd.rd ?_; assumption)
    apply i_seT
    · exact rfl
    · exact rfl
    · exact rfl
    apply i_mov
    · exact tB rfl
    apply i_gT
    · exact rfl
    apply i_loadN
    · exact rfl
    · assumption
    · with_reducible assumption
    apply i_gT
    · exact rfl
    apply i_mov
    · exact tS rfl
    apply i_gT
    · exact rfl
    apply i_mov
    · exact tS rfl
    apply i_gT
    · exact rfl
    apply i_toStr
    · exact rfl
    · exact Or.inl rfl
    · exact True.intro
    apply i_gT
    · exact rfl
    refine i_call (tabMap idL .ro 1 b _ idL_len (.inl rfl) Rd.ro (by omega)) rfl ?_
    rintro v S4 ⟨hst4, hv⟩
    obtain ⟨o4, s4, rfl, hs4, hn4, hr4⟩ := hv.bs
    rw [mapL_id] at hs4 hn4 ⊢
    have hob3 := Ob.stays0 hob1 hst4
    have hob4 := Ob.stays0 hob2 hst4
    apply i_gT
    · exact rfl
    apply c_re
    · (apply c_toStr; (· exact rfl); (· exact Or.inl rfl); (· exact True.intro); (· exact rfl))
    apply i_gT
    · exact rfl
    apply i_toStr
    · exact rfl
    · assumption
    · (refine Rd.rd ?_; assumption)
    apply i_gT
    · exact rfl
    apply i_seT
    · exact rfl
    · exact rfl
    · exact rfl
    apply i_pickT
    · exact rfl
    · exact tB rfl
    apply i_mov
    · exact tB rfl
    apply i_gT
    · exact rfl
    apply i_loadN
    · exact rfl
    · assumption
    · with_reducible assumption
    apply i_gT
    · exact rfl
    apply i_loadN
    · exact rfl
    · assumption
    · with_reducible assumption
    apply i_gT
    · exact rfl
    refine i_eqa (b := true) rfl rfl (sorts_u8 idL 256 idL_len) (Eq.refl _) (by rw [Bool.false_xor]; exact eqL_self idL) ?_
    apply i_pickT
    · exact rfl
    · exact tB rfl
    apply i_mov
    · exact tB rfl
    apply i_gT
    · exact rfl
    refine i_call (tabRuns _) rfl ?_
    rintro v S5 ⟨rfl, rfl⟩
    apply i_pickT
    · exact rfl
    · exact tB rfl
    apply i_mov
    · exact tB rfl
    refine i_nil ?_
    refine r_ret ?_
    apply q_ret1
    · exact tB rfl
    rfl
  · refine r_reg ?_
    apply i_mov
    · exact tB rfl
    refine i_nil ?_
    refine r_reg ?_
    apply i_mov
    · exact tS rfl
    apply i_lenM
    · exact rfl
    apply i_gtT
    · exact rfl
    · exact rfl
    · omega
    refine i_nil ?_
    apply r_condT
    · exact rfl
    refine r_reg ?_
    refine i_call (tabRuns _) rfl ?_
    rintro v S1 ⟨rfl, rfl⟩
    apply i_mov
    · exact tB rfl
    refine i_nil ?_
    refine r_ret ?_
    refine q_kr ?_
    apply q_ret1
    · exact tB rfl
    rfl
end Go.Proofs.Ytffckkiboeiljaa.Abs
