/- The law ConvOrder: that it answers true. -/
import Derived.Test.YthpomdoaiibnfaaCv10
import Derived.Test.YthpomdoaiibnfaaFixed3
namespace Go.Proofs.Ythpomdoaiibnfaa.Abs
open Go Go.Proofs
set_option linter.unusedVariables false

/-- The conversions that the law names, of records of n bytes. -/
def cSw : CV := ⟨true, false, false, false, false, false, false, false, 0⟩
def cSLB (n : Nat) : CV := ⟨true, true, false, true, false, false, false, false, n⟩
def cLB (n : Nat) : CV := ⟨false, true, false, true, false, false, false, false, n⟩
def cUE (n : Nat) : CV := ⟨false, false, false, false, true, false, true, false, n⟩
def cEb (n : Nat) : CV := ⟨false, false, false, false, false, false, true, false, n⟩
def cAU (n : Nat) : CV := ⟨false, false, false, false, true, true, false, false, n⟩
def cUn (n : Nat) : CV := ⟨false, false, true, false, false, false, false, false, n⟩
def cBl (n : Nat) : CV := ⟨false, true, false, false, false, false, false, false, n⟩
def cAs (n : Nat) : CV := ⟨false, false, false, false, false, true, false, false, n⟩
def cIb (n : Nat) : CV := ⟨false, false, false, false, false, false, false, true, n⟩
theorem sw_ok : cSw.norm = cSw := norm_some (by decide)
theorem may_n1 {c : CV} {n : Nat} (h1 : 1 ≤ n) (h2 : n ≤ 4096) (hc : c.cbs = (n : Int)) (h : (!(two [c.ascii, c.ebcdic, c.ibm]) && !(two [c.lcase, c.ucase]) && !(two [c.blocks, c.unblocks])) = true) : c.may = true := by
  have hl : c.least ≤ 1 := by unfold CV.least; split <;> omega
  simp only [CV.may, h, hc, Bool.true_and, Bool.and_eq_true, decide_eq_true_eq]
  omega
section
variable {n : Nat} (h1 : 1 ≤ n) (h2 : n ≤ 4096)
include h1 h2
theorem slb_ok : (cSLB n).norm = cSLB n := norm_some (may_n1 h1 h2 rfl rfl)
theorem lb_ok : (cLB n).norm = cLB n := norm_some (may_n1 h1 h2 rfl rfl)
theorem ue_ok : (cUE n).norm = cUE n := norm_some (may_n1 h1 h2 rfl rfl)
theorem eb_ok : (cEb n).norm = cEb n := norm_some (may_n1 h1 h2 rfl rfl)
theorem au_ok : (cAU n).norm = cAU n := norm_some (may_n1 h1 h2 rfl rfl)
theorem un_ok : (cUn n).norm = cUn n := norm_some (may_n1 h1 h2 rfl rfl)
theorem bl_ok : (cBl n).norm = cBl n := norm_some (may_n1 h1 h2 rfl rfl)
theorem as_ok : (cAs n).norm = cAs n := norm_some (may_n1 h1 h2 rfl rfl)
theorem ib_ok : (cIb n).norm = cIb n := norm_some (may_n1 h1 h2 rfl rfl)
end
theorem turn_off (F : List UInt8) : turnF false F = F := by show (F ++ [] : List UInt8) = F; simp
theorem turn_len (on : Bool) (F : List UInt8) : (turnF on F).length = F.length := by
  unfold turnF
  rw [List.length_append, swF_len]
theorem all_sw (F : List UInt8) : cvAll cSw F = turnF true F := rfl
theorem all_slb (n : Nat) (F : List UInt8) : cvAll (cSLB n) F = (packAll n (mapL lowerL (turnF true F))).out := rfl
theorem all_lb (n : Nat) (F : List UInt8) : cvAll (cLB n) F = (packAll n (mapL lowerL F)).out := by
  show (packAll n (mapL lowerL (turnF false F))).out = _
  rw [turn_off]
theorem all_ue (n : Nat) (F : List UInt8) : cvAll (cUE n) F = mapL ebcdicL (packAll n (mapL upperL F)).out := by
  show mapL ebcdicL (packAll n (mapL upperL (turnF false F))).out = _
  rw [turn_off]
theorem all_eb (n : Nat) (F : List UInt8) : cvAll (cEb n) F = mapL ebcdicL (packAll n F).out := by
  show mapL ebcdicL (packAll n (turnF false F)).out = _
  rw [turn_off]
theorem all_ib (n : Nat) (F : List UInt8) : cvAll (cIb n) F = mapL ibmL (packAll n F).out := by
  show mapL ibmL (packAll n (turnF false F)).out = _
  rw [turn_off]
theorem all_bl (n : Nat) (F : List UInt8) : cvAll (cBl n) F = (packAll n F).out := by
  show (packAll n (turnF false F)).out = _
  rw [turn_off]
theorem all_au (n : Nat) (F : List UInt8) : cvAll (cAU n) F = (unpackAll n (mapL upperL (mapL asciiL F))).out := by
  show (unpackAll n (mapL upperL (mapL asciiL (turnF false F)))).out = _
  rw [turn_off]
theorem all_as (n : Nat) (F : List UInt8) : cvAll (cAs n) F = (unpackAll n (mapL asciiL F)).out := by
  show (unpackAll n (mapL asciiL (turnF false F))).out = _
  rw [turn_off]
theorem all_un (n : Nat) (F : List UInt8) : cvAll (cUn n) F = (unpackAll n F).out := by
  show (unpackAll n (turnF false F)).out = _
  rw [turn_off]
theorem tmod_nat (a b : Nat) : ((a : Int)).tmod (b : Int) = ((a % b : Nat) : Int) := rfl
set_option linter.unusedSimpArgs false
attribute [local irreducible] wpI wpR ropK chk ASt.push ASt.put ASt.fresh ASt.kill appS

theorem convOrder (b : List UInt8) (cbs : UInt8) (S : ASt) :
    ACalls Try.prog 8 [.sl .ro 1 (u8s b), u8 cbs] S fun v S' => v = .bool true := by
  refine en_8 (by exact Nat.le_of_ble_eq_true rfl) ?_
  unfold rc_8
  by_cases hl : b.length ≤ 200
  · obtain ⟨n, hn⟩ : ∃ n, cbs.toNat % 20 + 1 = n := ⟨_, rfl⟩
    have h1 : 1 ≤ n := by omega
    have h2 : n ≤ 4096 := by omega
    have hlt := turn_len true b
    refine r_reg ?_
    apply i_mov
    · exact tB rfl
    refine i_nil ?_
    refine r_reg ?_
    apply i_mov
    · exact tS rfl
    apply i_lenM
    · exact rfl
    apply i_gtF
    · exact rfl
    · exact rfl
    · omega
    refine i_nil ?_
    apply r_condF
    · exact rfl
    refine r_nop ?_
    refine r_reg ?_
    apply i_mov
    · exact tI rfl
    refine i_rem rfl rfl (by omega) (tmod_nat cbs.toNat 20) ?_
    refine i_toInt rfl (wrap_i64 (by omega) (by omega)) ?_
    apply i_add
    · exact rfl
    · exact rfl
    · omega
    apply i_mov
    · exact tI rfl
    refine i_nil ?_
    refine r_reg ?_
    rw [show ((cbs.toNat % 20 : Nat) : Int) + 1 = ((n : Nat) : Int) by omega]
    refine i_build (cs := cSw.cells) rfl ?_
    apply i_mov
    · exact tS rfl
    apply i_mk1
    · exact tS rfl
    · exact rfl
    refine i_call (cAll1 cSw .ro 1 b _ (by rw [sw_ok]; decide) (.inl rfl) (by intro h; cases h) Rd.ro (by omega)) rfl ?_
    rw [sw_ok, all_sw]
    rintro v S1 ⟨hst1, hv⟩
    obtain ⟨ox, sx, rfl, hsx, hnx, hrx⟩ := hv.bs
    apply i_mov
    · exact tS rfl
    refine i_nil ?_
    refine r_reg ?_
    apply i_mov
    · exact tI rfl
    refine i_build (cs := (cSLB n).cells) rfl ?_
    apply i_mov
    · exact tS rfl
    apply i_mk1
    · exact tS rfl
    · exact rfl
    refine i_call (cAll1 (cSLB n) .ro 1 b _ (by rw [slb_ok h1 h2]; show n ≤ 500; omega) (.inl rfl) (by intro h; cases h) Rd.ro (by omega)) rfl ?_
    rw [slb_ok h1 h2, all_slb]
    rintro v S2 ⟨hst2, hv⟩
    obtain ⟨oy, sy, rfl, hsy, hny, hry⟩ := hv.bs
    replace hrx := hrx.stays hst2
    apply i_mov
    · exact tS rfl
    refine i_nil ?_
    refine r_reg ?_
    apply i_mov
    · exact tI rfl
    refine i_build (cs := (cLB n).cells) rfl ?_
    apply i_mov
    · exact tS rfl
    apply i_mk1
    · exact tS rfl
    · exact rfl
    refine i_call (cAll1 (cLB n) ox sx (turnF true b) _ (by rw [lb_ok h1 h2]; show n ≤ 500; omega) hsx hnx hrx (by omega)) rfl ?_
    rw [lb_ok h1 h2, all_lb]
    rintro v S3 ⟨hst3, hv⟩
    obtain ⟨oz, sz, rfl, hsz, hnz, hrz⟩ := hv.bs
    replace hry := hry.stays hst3
    apply i_mov
    · exact tS rfl
    refine i_nil ?_
    refine r_reg ?_
    apply i_mov
    · exact tI rfl
    refine i_build (cs := (cUE n).cells) rfl ?_
    apply i_mov
    · exact tS rfl
    apply i_mk1
    · exact tS rfl
    · exact rfl
    refine i_call (cAll1 (cUE n) .ro 1 b _ (by rw [ue_ok h1 h2]; show n ≤ 500; omega) (.inl rfl) (by intro h; cases h) Rd.ro (by omega)) rfl ?_
    rw [ue_ok h1 h2, all_ue]
    rintro v S4 ⟨hst4, hv⟩
    obtain ⟨ou, su, rfl, hsu, hnu, hru⟩ := hv.bs
    replace hry := hry.stays hst4
    replace hrz := hrz.stays hst4
    apply i_mov
    · exact tS rfl
    refine i_nil ?_
    refine r_reg ?_
    apply i_mov
    · exact tI rfl
    refine i_build (cs := (cEb n).cells) rfl ?_
    skip
    refine i_call (tUpper _) rfl ?_
    rintro v S5 ⟨rfl, rfl⟩
    refine i_mov rfl ?_
    refine i_call (tabMap upperL .ro 1 b _ upperL_len (.inl rfl) Rd.ro (by omega)) rfl ?_
    rintro v S6 ⟨hst6, hv⟩
    have hml := mapL_len upperL b
    obtain ⟨oe, se, rfl, hse, hne, hre⟩ := hv.bs
    replace hry := hry.stays hst6
    replace hrz := hrz.stays hst6
    replace hru := hru.stays hst6
    apply i_mk1
    · exact tS rfl
    · exact rfl
    refine i_call (cAll1 (cEb n) oe se (mapL upperL b) _ (by rw [eb_ok h1 h2]; show n ≤ 500; omega) hse hne hre (by omega)) rfl ?_
    rw [eb_ok h1 h2, all_eb]
    rintro v S7 ⟨hst7, hv⟩
    obtain ⟨ow, sw, rfl, hsw, hnw, hrw⟩ := hv.bs
    replace hry := hry.stays hst7
    replace hrz := hrz.stays hst7
    replace hru := hru.stays hst7
    apply i_mov
    · exact tS rfl
    refine i_nil ?_
    refine r_reg ?_
    apply i_mov
    · exact tI rfl
    refine i_build (cs := (cAU n).cells) rfl ?_
    apply i_mov
    · exact tS rfl
    apply i_mk1
    · exact tS rfl
    · exact rfl
    refine i_call (cAll1 (cAU n) .ro 1 b _ (by rw [au_ok h1 h2]; show n ≤ 500; omega) (.inl rfl) (by intro h; cases h) Rd.ro (by omega)) rfl ?_
    rw [au_ok h1 h2, all_au]
    rintro v S8 ⟨hst8, hv⟩
    obtain ⟨op, sp, rfl, hsp, hnp, hrp⟩ := hv.bs
    replace hry := hry.stays hst8
    replace hrz := hrz.stays hst8
    replace hru := hru.stays hst8
    replace hrw := hrw.stays hst8
    apply i_mov
    · exact tS rfl
    refine i_nil ?_
    refine r_reg ?_
    apply i_mov
    · exact tI rfl
    refine i_build (cs := (cUn n).cells) rfl ?_
    refine i_call (tAscii _) rfl ?_
    rintro v S9 ⟨rfl, rfl⟩
    refine i_call (tUpper _) rfl ?_
    rintro v S9 ⟨rfl, rfl⟩
    have hAl := asciiL_len
    have hUl := upperL_len
    refine i_mk2 (v := tabv asciiL) (w := tabv upperL) rfl rfl (by simp [AV.box, AV.cells, hAl]) (by simp [AV.box, AV.cells, hUl]) ?_
    refine i_call (tabThen [asciiL, upperL] _ (by intro u hu; simp only [List.mem_cons, List.not_mem_nil, or_false] at hu; rcases hu with rfl | rfl; exact hAl; exact hUl) (by simp) .ro 256 Rd.ro (.inl rfl)) rfl ?_
    rintro v S10 ⟨hst10, rfl⟩
    have hTm := then2 asciiL upperL b
    have hTl := thenL_len [asciiL, upperL]
    have hml2 := mapL_len (thenL [asciiL, upperL]) b
    generalize thenL [asciiL, upperL] = T at hTm hTl hml2 ⊢
    replace hry := hry.stays hst10
    replace hrz := hrz.stays hst10
    replace hru := hru.stays hst10
    replace hrw := hrw.stays hst10
    replace hrp := hrp.stays hst10
    apply i_mov
    · exact tS rfl
    refine i_call (tabMap T .ro 1 b _ hTl (.inl rfl) Rd.ro (by omega)) rfl ?_
    rintro v S11 ⟨hst11, hv⟩
    obtain ⟨oq, sq, rfl, hsq, hnq, hrq⟩ := hv.bs
    replace hry := hry.stays hst11
    replace hrz := hrz.stays hst11
    replace hru := hru.stays hst11
    replace hrw := hrw.stays hst11
    replace hrp := hrp.stays hst11
    apply i_mk1
    · exact tS rfl
    · exact rfl
    refine i_call (cAll1 (cUn n) oq sq (mapL T b) _ (by rw [un_ok h1 h2]; show n ≤ 500; omega) hsq hnq hrq (by omega)) rfl ?_
    rw [un_ok h1 h2, all_un, hTm]
    rintro v S12 ⟨hst12, hv⟩
    obtain ⟨oq2, sq2, rfl, hsq2, hnq2, hrq2⟩ := hv.bs
    replace hry := hry.stays hst12
    replace hrz := hrz.stays hst12
    replace hru := hru.stays hst12
    replace hrw := hrw.stays hst12
    replace hrp := hrp.stays hst12
    apply i_mov
    · exact tS rfl
    refine i_nil ?_
    refine r_reg ?_
    apply i_mov
    · exact tS rfl
    apply i_toStr
    · exact rfl
    · assumption
    · (refine Rd.rd ?_; assumption)
    apply i_mov
    · exact tS rfl
    apply i_toStr
    · exact rfl
    · assumption
    · (refine Rd.rd ?_; assumption)
    apply i_seT
    · exact rfl
    · exact rfl
    · exact rfl
    apply i_mov
    · exact tB rfl
    apply i_gT
    · exact rfl
    apply i_mov
    · exact tS rfl
    apply i_gT
    · exact rfl
    apply i_toStr
    · exact rfl
    · assumption
    · (refine Rd.rd ?_; assumption)
    apply i_gT
    · exact rfl
    apply i_mov
    · exact tS rfl
    apply i_gT
    · exact rfl
    apply i_toStr
    · exact rfl
    · assumption
    · (refine Rd.rd ?_; assumption)
    apply i_gT
    · exact rfl
    apply i_seT
    · exact rfl
    · exact rfl
    · exact rfl
    apply i_pickT
    · exact rfl
    · exact tB rfl
    apply i_mov
    · exact tB rfl
    apply i_gT
    · exact rfl
    apply i_mov
    · exact tS rfl
    apply i_gT
    · exact rfl
    apply i_toStr
    · exact rfl
    · assumption
    · (refine Rd.rd ?_; assumption)
    apply i_gT
    · exact rfl
    apply i_mov
    · exact tS rfl
    apply i_gT
    · exact rfl
    apply i_toStr
    · exact rfl
    · assumption
    · (refine Rd.rd ?_; assumption)
    apply i_gT
    · exact rfl
    apply i_seT
    · exact rfl
    · exact rfl
    · exact rfl
    apply i_pickT
    · exact rfl
    · exact tB rfl
    apply i_mov
    · exact tB rfl
    apply i_gT
    · exact rfl
    refine i_call (convRuns _) rfl ?_
    rintro v S13 ⟨rfl, hst13⟩
    apply i_pickT
    · exact rfl
    · exact tB rfl
    apply i_mov
    · exact tB rfl
    refine i_nil ?_
    refine r_ret ?_
    apply q_ret1
    · exact tB rfl
    rfl
  · refine r_reg ?_
    apply i_mov
    · exact tB rfl
    refine i_nil ?_
    refine r_reg ?_
    apply i_mov
    · exact tS rfl
    apply i_lenM
    · exact rfl
    apply i_gtT
    · exact rfl
    · exact rfl
    · omega
    refine i_nil ?_
    apply r_condT
    · exact rfl
    refine r_reg ?_
    refine i_call (convRuns _) rfl ?_
    rintro v S7 ⟨rfl, hst7⟩
    apply i_mov
    · exact tB rfl
    refine i_nil ?_
    refine r_ret ?_
    refine q_kr ?_
    apply q_ret1
    · exact tB rfl
    rfl
end Go.Proofs.Ythpomdoaiibnfaa.Abs
