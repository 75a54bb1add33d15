/- New: contract. -/
import Derived.Test.YthpomdoaiibnfaaCv5
import Derived.Test.YthpomdoaiibnfaaCv3
import Derived.Test.YthpomdoaiibnfaaTabK4
namespace Go.Proofs.Ythpomdoaiibnfaa.Abs
open Go Go.Proofs
set_option linter.unusedVariables false

theorem i_notB {P : Program} {F : Fr} {S : ASt} {r : List RI} {K : Fr → ASt → Prop} {d : Nat} {x : RO} {b : Bool} (hx : ro F x = .bool b) (k : wpI P r K ((d, .bool (!b)) :: F) S) : wpI P (⟨false, none, .not x, some d⟩ :: r) K F S :=
  ⟨.bool (!b), S, by simp only [ropE, hx], k⟩
theorem lowerL_len : lowerL.length = 256 := by kernel_rfl
theorem upperL_len : upperL.length = 256 := by kernel_rfl
theorem ebcdicL_len : ebcdicL.length = 256 := by kernel_rfl
theorem ibmL_len : ibmL.length = 256 := by kernel_rfl
theorem asciiL_len : asciiL.length = 256 := by kernel_rfl

/-- A conversion that is being made. -/
def NewAt (S0 S' : ASt) (C : CV) (A B : List UInt8) (o osw oc : Nat) (csw : List AV) (st pk : AV) : Prop :=
  S'.objs[o]? = some (cvc (.ptr (some (osw, 0))) (u8s A) (u8s B) st pk) ∧ A.length = 256 ∧ B.length = 256 ∧ S'.objs[oc]? = some C.cells ∧ SwO S' osw 0 C.swab [] .nil csw ∧ Stays S0 S' [] ∧
    S0.objs.length ≤ o ∧ S0.objs.length ≤ osw ∧ S0.objs.length ≤ oc ∧ o ≠ osw ∧ oc ≠ o
section
variable {S0 S' S'' : ASt} {C : CV} {A B A2 B2 : List UInt8} {o osw oc : Nat} {csw : List AV} {st pk st2 pk2 : AV}
theorem NewAt.stays (h : NewAt S0 S' C A B o osw oc csw st pk) (hs : Stays S' S'' []) : NewAt S0 S'' C A B o osw oc csw st pk := by
  obtain ⟨h1, h2, h3, h4, h5, h6, h7⟩ := h
  exact ⟨Ob.stays0 h1 hs, h2, h3, Ob.stays0 h4 hs, h5.stays hs (by simp), h6.then0 hs, h7⟩
theorem SwO.put {S : ASt} {o2 j : Nat} {on : Bool} {kept : List UInt8} {ok : Own} {cs cs2 : List AV} (h : SwO S o2 j on kept ok cs) (hne : o ≠ o2) : SwO (S.put o cs2) o2 j on kept ok cs := by
  obtain ⟨sk, h1, h2, h3, h4, h5, h6⟩ := h
  exact ⟨sk, Ob.putNe h1 hne, h2, h3, h4, h5, h6.put⟩
theorem NewAt.put (h : NewAt S0 S' C A B o osw oc csw st pk) (hA : A2.length = 256) (hB : B2.length = 256) {cs : List AV} (he : cs = cvc (.ptr (some (osw, 0))) (u8s A2) (u8s B2) st2 pk2) : NewAt S0 (S'.put o cs) C A2 B2 o osw oc csw st2 pk2 := by
  obtain ⟨h1, h2, h3, h4, h5, h6, h7, h8, h9, h10, h11⟩ := h
  subst he
  exact ⟨Ob.put' h1, hA, hB, Ob.putNe h4 (fun e => h11 e.symm), h5.put h10, h6.put (.inr h7), h7, h8, h9, h10, h11⟩
end
def CV.f1 (c : CV) (b : List UInt8) : List UInt8 := if c.ascii then mapL asciiL b else b
theorem u8l {A : List UInt8} (h : A.length = 256) : (u8s A).length = 256 := by rw [List.length_map]; exact h
theorem RecAt.putNe {S : ASt} {o o2 c : Nat} {line : List UInt8} {ob : Own} {rest cs : List AV} (h : RecAt S o2 c line ob rest) (hne : o ≠ o2) : RecAt (S.put o cs) o2 c line ob rest := by
  obtain ⟨sb, h1, h2⟩ := h
  exact ⟨sb, Ob.putNe h1 hne, h2.put⟩
theorem StAt.put {S : ASt} {m : Md} {o osw op n : Nat} {line : List UInt8} {cut : Nat} {ob : Own} {st pk : AV} {cs : List AV} (h : StAt S m o osw op n line cut ob st pk) : StAt (S.put o cs) m o osw op n line cut ob st pk := by
  cases m
  · exact h
  · obtain ⟨h1, h2, h3, h4, h5⟩ := h
    exact ⟨h1, h2, h3.putNe h4, h4, h5⟩
  · obtain ⟨h1, h2, h3, h4, h5⟩ := h
    exact ⟨h1, h2, h3.putNe h4, h4, h5⟩
theorem then2 (A B b : List UInt8) : mapL (thenL [A, B]) b = mapL B (mapL A b) := by rw [thenL_map]; rfl
theorem held_n {C : CV} (h : C.may = true) (hp : (C.blocks || C.unblocks) = true) : heldC C.cbs = C.n := by
  have h1 := may_n h
  have h2 := may_pos h hp
  have h3 := heldC_nat (n := C.n) (by omega) h1.2
  rw [h1.1] at h3
  exact h3
theorem may_ucase {C : CV} (h : C.may = true) (hl : C.lcase = true) : C.ucase = false := by
  simp only [CV.may, Bool.and_eq_true, Bool.not_eq_true'] at h
  have h2 := h.1.1.1.2
  cases hu : C.ucase
  · rfl
  · rw [hl, hu] at h2; exact absurd h2 (by decide)
theorem may_ibm {C : CV} (h : C.may = true) (hl : C.ebcdic = true) : C.ibm = false := by
  simp only [CV.may, Bool.and_eq_true, Bool.not_eq_true'] at h
  have h2 := h.1.1.1.1
  cases hu : C.ibm
  · rfl
  · rw [hl, hu] at h2
    cases ha : C.ascii <;> rw [ha] at h2 <;> exact absurd h2 (by decide)
theorem md_pck {C : CV} (h : C.blocks = true) : C.md = .pck := by simp [CV.md, h]
theorem md_unp {C : CV} (h : C.blocks = false) (h2 : C.unblocks = true) : C.md = .unp := by simp [CV.md, h, h2]
theorem md_thr {C : CV} (h : C.blocks = false) (h2 : C.unblocks = false) : C.md = .thr := by simp [CV.md, h, h2]
set_option linter.unusedSimpArgs false
attribute [local irreducible] wpI wpR ropK chk ASt.push ASt.put ASt.fresh ASt.kill appS

set_option maxHeartbeats 2000000 in
theorem cNew (c : CV) (S : ASt) : ACalls Try.prog 16 [.agg c.cells] S fun v S' => ∃ o osw op A B, v = .ptr (some (o, 0)) ∧ (∀ p ∈ o :: osw :: opL c.norm.md op, S.objs.length ≤ p) ∧ Stays S S' [] ∧ ConvAt S' c.norm A B o osw op ⟨[], [], 0⟩ .nil .nil := by
  refine en_16 (by exact Nat.le_of_ble_eq_true rfl) ?_
  unfold rc_16
  refine r_reg ?_
  apply i_boxA
  · exact rfl
  apply i_mov
  · exact tP rfl
  refine i_nil ?_
  refine r_reg ?_
  apply i_loadN
  · exact rfl
  · exact Ob.new
  · exact rfl
  refine i_call (cMay c _) rfl ?_
  rintro v S1 ⟨rfl, hst1⟩
  have ho1 : S1.objs[S.objs.length]? = some c.cells := Ob.stays0 Ob.new hst1
  have hst01 : Stays S S1 [] := by (refine Stays.then0 ?_ (by assumption); refine Stays.push ?_; exact Stays.refl _ _)
  have hlt1 := Ob.lt ho1
  refine i_notB rfl ?_
  refine i_nil ?_
  refine r_join (fun G S' => G = [(1, .ptr (some (S.objs.length, 0)))] ∧ S'.objs[S.objs.length]? = some c.norm.cells ∧ Stays S S' []) rfl ?_ ?_ ?_
  rotate_left
  · intro h
    have hm : c.may = false := by simpa using h
    have hn : c.norm = CV.zero := by simp [CV.norm, hm]
    rw [hn]
    refine r_reg ?_
    refine i_build (cs := CV.zero.cells) rfl ?_
    apply i_stN
    · exact rfl
    · exact rfl
    · assumption
    · exact rfl
    · exact rfl
    · exact rfl
    refine i_nil ?_
    refine r_nop ?_
    refine q_k ?_
    exact ⟨_, pick_sub _ [1], rfl, by ((apply Ob.put'; assumption)), by ((refine Stays.put ?_ (by (first | exact Or.inl (List.mem_cons_self ..) | exact Or.inl (List.mem_cons_of_mem _ (List.mem_cons_self ..)) | exact Or.inr (by simp only [Ob.len_push, Ob.len_put, appS_objs, objs_fresh, objs_kill]; omega) | exact Or.inr (by omega))); assumption))⟩
  · intro h
    have hm : c.may = true := by simpa using h
    have hn : c.norm = c := by simp [CV.norm, hm]
    rw [hn]
    refine r_nop ?_
    refine q_k ?_
    exact ⟨_, pick_sub _ [1], rfl, by (assumption), by (assumption)⟩
  clear ho1 hst01 hlt1 hst1
  rintro G S2 ⟨rfl, hoc, hst2⟩
  have hmay := may_norm c
  generalize c.norm = C at hmay hoc ⊢
  dsimp only [CV.cells] at hoc
  refine r_reg ?_
  apply i_fld0
  · exact rfl
  apply i_load
  · exact rfl
  · assumption
  · exact rfl
  refine i_call (swNew C.swab _) rfl ?_
  rintro v S3 ⟨osw, rfl, hosw, hst3, hsw⟩
  have hlt3 := hsw.len.2
  skip
  refine i_call (tabThen [] _ (by simp) (by simp) .nil 0 Rd.nil (.inr rfl)) rfl ?_
  rintro v S4 ⟨hst4, rfl⟩
  skip
  refine i_call (tabThen [] _ (by simp) (by simp) .nil 0 Rd.nil (.inr rfl)) rfl ?_
  rintro v S5 ⟨hst5, rfl⟩
  have hI : ∀ b, mapL (thenL []) b = b := fun b => thenL_map [] b
  have hIl := thenL_len []
  generalize thenL [] = I at hI hIl ⊢
  refine i_build (cs := []) rfl ?_
  apply i_iface
  · exact rfl
  refine i_build (cvc_fill (q := (osw, 0)) (t := 62) (v := .agg []) (u8l hIl) (u8l hIl)) ?_
  apply i_boxA
  · exact rfl
  apply i_mov
  · exact tP rfl
  refine i_nil ?_
  refine r_reg ?_
  apply i_fld0
  · exact rfl
  apply i_load
  · exact rfl
  · (apply Ob.push; (apply Ob.stays0'; (· assumption)); (apply Ob.stays0'; (· assumption)); (apply Ob.stays0'; (· assumption)); assumption)
  · exact rfl
  refine i_nil ?_
  have hN : NewAt S (S5.push (cvc (.ptr (some (osw, 0))) (u8s I) (u8s I) (.iface 62 (.agg [])) (.ptr none))) C I I S5.objs.length osw S.objs.length [AV.bool C.swab, AV.sl Own.nil 0 (u8s [])] (.iface 62 (.agg [])) (.ptr none) := by
    have e3 := hst2.objs
    have e4 := hst3.objs
    have e5 := hst4.objs
    have e6 := hst5.objs
    have e7 := Ob.lt hoc
    refine ⟨Ob.new, hIl, hIl, Ob.push (Ob.stays0 (Ob.stays0 (Ob.stays0 hoc hst3) hst4) hst5), ?_, (((hst2.then0 hst3).then0 hst4).then0 hst5).push, by omega, by omega, Nat.le_refl _, by omega, by omega⟩
    obtain ⟨sk, h1, h2, h3, h4, h5, h6⟩ := (hsw.stays hst4 (by simp)).stays hst5 (by simp)
    exact ⟨sk, Ob.push h1, h2, h3, h4, h5, h6.push⟩
  generalize S5.objs.length = o at hN ⊢
  generalize (S5.push (cvc (.ptr (some (osw, 0))) (u8s I) (u8s I) (.iface 62 (.agg [])) (.ptr none))) = S6 at hN ⊢
  have hob6 := hN.1
  have hoc6 := hN.2.2.2.1
  dsimp only [CV.cells] at hoc6
  generalize hoce : S.objs.length = oc at hN hoc6 hoc ⊢
  clear hst5 hst4 hst3 hsw hosw hlt3 hoc hst2
  generalize [AV.bool C.swab, AV.sl Own.nil 0 (u8s [])] = csw at hN
  skip
  refine r_join (fun G S' => ∃ A, G = [(1, .ptr (some (oc, 0))), (3, .ptr (some (o, 0)))] ∧ (∀ b, mapL A b = C.f1 b) ∧ NewAt S S' C A I o osw oc csw (.iface 62 (.agg [])) (.ptr none)) rfl ?_ ?_ ?_
  rotate_left
  · intro h
    refine r_reg ?_
    apply i_mov
    · exact tP rfl
    refine i_call (tAscii _) rfl ?_
    rintro v S7 ⟨rfl, rfl⟩
    have hTl := asciiL_len
    have hTm : ∀ b, mapL asciiL b = C.f1 b := fun b => by simp [CV.f1, h]
    generalize asciiL = T at hTl hTm ⊢
    apply i_nckP
    · exact rfl
    apply i_fld0
    · exact rfl
    refine i_stO rfl rfl hob6 (u8l hTl) (by rw [cvc_len (u8l hN.2.1) (u8l hN.2.2.1)]; omega) ?_
    refine i_nil ?_
    refine r_nop ?_
    refine q_k ?_
    exact ⟨_, pick_sub _ [1, 3], T, rfl, hTm, hN.put hTl hN.2.2.1 (cvc_setA (u8l hN.2.1) (u8l hTl))⟩
  · intro h
    refine r_nop ?_
    refine q_k ?_
    exact ⟨_, pick_sub _ [1, 3], I, rfl, fun b => by rw [hI]; simp [CV.f1, h], hN⟩
  clear hob6 hoc6 hN
  rintro G S6 ⟨A, rfl, hfA, hN⟩
  have hob6 := hN.1
  have hoc6 := hN.2.2.2.1
  dsimp only [CV.cells] at hoc6
  have hAl := hN.2.1
  have hlA := u8l hN.2.1
  have hcA := cvc_A (p := .ptr (some (osw, 0))) (b := u8s I) (st := .iface 62 (.agg [])) (pk := .ptr none) hlA
  refine r_block ?_
  refine r_reg ?_
  apply i_fld0
  · exact rfl
  apply i_load
  · exact rfl
  · assumption
  · exact rfl
  apply i_mov
  · exact tB rfl
  refine i_nil ?_
  refine r_join (fun G S' => ∃ A, G = [(1, .ptr (some (oc, 0))), (3, .ptr (some (o, 0)))] ∧ (∀ b, mapL A b = C.first b) ∧ NewAt S S' C A I o osw oc csw (.iface 62 (.agg [])) (.ptr none)) rfl ?_ ?_ ?_
  rotate_left
  · intro h
    refine r_reg ?_
    apply i_mov
    · exact tP rfl
    apply i_mov
    · exact tP rfl
    apply i_nckP
    · exact rfl
    apply i_fld0
    · exact rfl
    apply i_loadNO
    · exact rfl
    · assumption
    · first | assumption | exact rfl
    · with_reducible assumption
    · exact Nat.le_of_ble_eq_true rfl
    refine i_call (tLower _) rfl ?_
    rintro v S7 ⟨rfl, rfl⟩
    have hTl := lowerL_len
    have hTm : ∀ b, mapL lowerL (mapL A b) = C.first b := fun b => by rw [hfA]; simp [CV.f1, CV.first, h, may_ucase hmay h]
    generalize lowerL = T at hTl hTm ⊢
    apply c_re
    · (apply c_loadNO; (· exact rfl); (· assumption); (· first | assumption | exact rfl); (· with_reducible assumption); (· exact Nat.le_of_ble_eq_true rfl); (· exact rfl))
    apply c_re
    · (apply c_fldP; (· exact rfl); (· exact rfl))
    refine i_mk2 (v := tabv A) (w := tabv T) rfl rfl (by simp [AV.box, AV.cells, hAl]) (by simp [AV.box, AV.cells, hTl]) ?_
    refine i_call (tabThen [A, T] _ (by intro u hu; simp only [List.mem_cons, List.not_mem_nil, or_false] at hu; rcases hu with rfl | rfl; exact hAl; exact hTl) (by simp) .ro 256 Rd.ro (.inl rfl)) rfl ?_
    rintro v S8 ⟨hst8, rfl⟩
    have hTh := then2 A T
    have hThl := thenL_len [A, T]
    generalize thenL [A, T] = T2 at hTh hThl ⊢
    have hob8 := Ob.stays0 hob6 hst8
    apply i_nckP
    · exact rfl
    apply i_fld0
    · exact rfl
    refine i_stO rfl rfl hob8 (u8l hThl) (by rw [cvc_len hlA (u8l hN.2.2.1)]; omega) ?_
    refine i_nil ?_
    refine r_nop ?_
    refine q_k ?_
    exact ⟨_, pick_sub _ [1, 3], T2, rfl, fun b => by rw [hTh]; exact hTm b, (hN.stays hst8).put hThl hN.2.2.1 (cvc_setA hlA (u8l hThl))⟩
  · intro h
    cases hu : C.ucase with
    | false =>
      refine r_reg ?_
      apply i_fld0
      · exact rfl
      apply i_load
      · exact rfl
      · assumption
      · exact rfl
      apply i_mov
      · exact tB rfl
      refine i_nil ?_
      simp only [hu]
      apply r_condF
      · exact rfl
      refine r_nop ?_
      refine r_nop ?_
      refine q_k ?_
      exact ⟨_, pick_sub _ [1, 3], A, rfl, fun b => by rw [hfA]; simp [CV.f1, CV.first, h, hu], hN⟩
    | true =>
      refine r_reg ?_
      apply i_fld0
      · exact rfl
      apply i_load
      · exact rfl
      · assumption
      · exact rfl
      apply i_mov
      · exact tB rfl
      refine i_nil ?_
      simp only [hu]
      apply r_condT
      · exact rfl
      refine r_reg ?_
      apply i_mov
      · exact tP rfl
      apply i_mov
      · exact tP rfl
      apply i_nckP
      · exact rfl
      apply i_fld0
      · exact rfl
      apply i_loadNO
      · exact rfl
      · assumption
      · first | assumption | exact rfl
      · with_reducible assumption
      · exact Nat.le_of_ble_eq_true rfl
      refine i_call (tUpper _) rfl ?_
      rintro v S7 ⟨rfl, rfl⟩
      have hTl := upperL_len
      have hTm : ∀ b, mapL upperL (mapL A b) = C.first b := fun b => by rw [hfA]; simp [CV.f1, CV.first, h, hu]
      generalize upperL = T at hTl hTm ⊢
      apply c_re
      · (apply c_loadNO; (· exact rfl); (· assumption); (· first | assumption | exact rfl); (· with_reducible assumption); (· exact Nat.le_of_ble_eq_true rfl); (· exact rfl))
      apply c_re
      · (apply c_fldP; (· exact rfl); (· exact rfl))
      refine i_mk2 (v := tabv A) (w := tabv T) rfl rfl (by simp [AV.box, AV.cells, hAl]) (by simp [AV.box, AV.cells, hTl]) ?_
      refine i_call (tabThen [A, T] _ (by intro u hu; simp only [List.mem_cons, List.not_mem_nil, or_false] at hu; rcases hu with rfl | rfl; exact hAl; exact hTl) (by simp) .ro 256 Rd.ro (.inl rfl)) rfl ?_
      rintro v S8 ⟨hst8, rfl⟩
      have hTh := then2 A T
      have hThl := thenL_len [A, T]
      generalize thenL [A, T] = T2 at hTh hThl ⊢
      have hob8 := Ob.stays0 hob6 hst8
      apply i_nckP
      · exact rfl
      apply i_fld0
      · exact rfl
      refine i_stO rfl rfl hob8 (u8l hThl) (by rw [cvc_len hlA (u8l hN.2.2.1)]; omega) ?_
      refine i_nil ?_
      refine r_nop ?_
      refine r_nop ?_
      refine q_k ?_
      exact ⟨_, pick_sub _ [1, 3], T2, rfl, fun b => by rw [hTh]; exact hTm b, (hN.stays hst8).put hThl hN.2.2.1 (cvc_setA hlA (u8l hThl))⟩
  clear hob6 hoc6 hlA hcA hN hfA hAl
  rintro G S6 ⟨A, rfl, hfA, hN⟩
  have hoc6 := hN.2.2.2.1
  dsimp only [CV.cells] at hoc6
  refine r_nop ?_
  refine r_block ?_
  refine r_reg ?_
  apply i_loadN
  · exact rfl
  · assumption
  · exact rfl
  refine i_call (cBlocks C _) rfl ?_
  rintro v S7 ⟨rfl, hst7⟩
  replace hN := hN.stays hst7
  clear hoc6
  have hob7 := hN.1
  have hoc7 := hN.2.2.2.1
  dsimp only [CV.cells] at hoc7
  have hlA := u8l hN.2.1
  have hlI := u8l hIl
  have hS7 := hN.2.2.2.2.2.1.objs
  have hlt7 := Ob.lt hob7
  have hltw := hN.2.2.2.2.1.len.2
  apply i_mov
  · exact tB rfl
  refine i_nil ?_
  refine r_join (fun G S' => ∃ st pk op, G = [(1, .ptr (some (oc, 0))), (3, .ptr (some (o, 0)))] ∧ NewAt S S' C A I o osw oc csw st pk ∧ StAt S' C.md o osw op C.n [] 0 .nil st pk ∧ (∀ p ∈ opL C.md op, S.objs.length ≤ p)) rfl ?_ ?_ ?_
  rotate_left
  · intro h
    have hmd := md_pck h
    have hh := held_n hmay (by rw [h]; rfl)
    refine r_reg ?_
    apply i_mov
    · exact tP rfl
    apply i_fld0
    · exact rfl
    apply i_load
    · exact rfl
    · assumption
    · exact rfl
    refine i_call (newPacker C.cbs _) rfl ?_
    rw [hh]
    rintro v S8 ⟨op, rfl, hop, hst8, hrec⟩
    replace hN := hN.stays hst8
    have hob8 := hN.1
    have hpk := cvc_pk (p := .ptr (some (osw, 0))) (st := .iface 62 (.agg [])) (pk := .ptr (some (op, 0))) hlA hlI
    apply i_nckP
    · exact rfl
    apply i_fld0
    · exact rfl
    refine i_st (j := 514) (v := .ptr (some (op, 0))) rfl rfl rfl hob8 (by rw [cvc_len hlA hlI]; omega) ?_
    have hN9 := hN.put (A2 := A) (B2 := I) (cs := (cvc (.ptr (some (osw, 0))) (u8s A) (u8s I) (.iface 62 (.agg [])) (.ptr none)).set 514 (.ptr (some (op, 0)))) hN.2.1 hIl (cvc_setP hlA hlI)
    have hrec9 := hrec.putNe (o := o) (cs := (cvc (.ptr (some (osw, 0))) (u8s A) (u8s I) (.iface 62 (.agg [])) (.ptr none)).set 514 (.ptr (some (op, 0)))) (by omega)
    generalize S8.put o ((cvc (.ptr (some (osw, 0))) (u8s A) (u8s I) (.iface 62 (.agg [])) (.ptr none)).set 514 (.ptr (some (op, 0)))) = S9 at hN9 hrec9 ⊢
    have hob9 := hN9.1
    refine i_nil ?_
    refine r_reg ?_
    apply i_mov
    · exact tP rfl
    apply i_mov
    · exact tP rfl
    apply i_nckP
    · exact rfl
    apply i_fld0
    · exact rfl
    apply i_load
    · exact rfl
    · assumption
    · assumption
    apply i_iface
    · exact rfl
    apply i_nckP
    · exact rfl
    apply i_fld0
    · exact rfl
    refine i_st (j := 513) (v := .iface 65 (.ptr (some (op, 0)))) rfl rfl rfl hob9 (by rw [cvc_len hlA hlI]; omega) ?_
    have hN10 := hN9.put (A2 := A) (B2 := I) (cs := (cvc (.ptr (some (osw, 0))) (u8s A) (u8s I) (.iface 62 (.agg [])) (.ptr (some (op, 0)))).set 513 (.iface 65 (.ptr (some (op, 0))))) hN.2.1 hIl (cvc_setS hlA hlI)
    have hrec10 := hrec9.putNe (o := o) (cs := (cvc (.ptr (some (osw, 0))) (u8s A) (u8s I) (.iface 62 (.agg [])) (.ptr (some (op, 0)))).set 513 (.iface 65 (.ptr (some (op, 0))))) (by omega)
    refine i_nil ?_
    refine r_nop ?_
    refine q_k ?_
    refine ⟨_, pick_sub _ [1, 3], _, _, op, rfl, hN10, ?_, ?_⟩
    · rw [hmd]
      exact ⟨rfl, rfl, hrec10, by omega, by omega⟩
    · rw [hmd]
      intro p hp
      rw [List.mem_singleton.1 hp]; omega
  · intro h
    refine r_reg ?_
    apply i_loadN
    · exact rfl
    · assumption
    · exact rfl
    refine i_call (cUnblocks C _) rfl ?_
    rintro v S8 ⟨rfl, hst8⟩
    replace hN := hN.stays hst8
    have hob8 := hN.1
    have hoc8 := hN.2.2.2.1
    dsimp only [CV.cells] at hoc8
    have hge8 := hst8.objs
    cases hu : C.unblocks with
    | false =>
      have hmd := md_thr h hu
      apply i_mov
      · exact tB rfl
      refine i_nil ?_
      apply r_condF
      · exact rfl
      refine r_nop ?_
      refine r_nop ?_
      refine q_k ?_
      refine ⟨_, pick_sub _ [1, 3], _, _, 0, rfl, hN, ?_, ?_⟩
      · rw [hmd]
        exact ⟨rfl, rfl, rfl⟩
      · rw [hmd]
        intro p hp; cases hp
    | true =>
      have hmd := md_unp h hu
      have hh := held_n hmay (by rw [h, hu]; rfl)
      apply i_mov
      · exact tB rfl
      refine i_nil ?_
      apply r_condT
      · exact rfl
      refine r_reg ?_
      apply i_mov
      · exact tP rfl
      apply i_fld0
      · exact rfl
      apply i_load
      · exact rfl
      · assumption
      · exact rfl
      refine i_call (newUnpacker C.cbs _) rfl ?_
      rw [hh]
      rintro v S9 ⟨op, rfl, hop, hst9, hrec⟩
      replace hN := hN.stays hst9
      have hob9 := hN.1
      apply i_iface
      · exact rfl
      apply i_nckP
      · exact rfl
      apply i_fld0
      · exact rfl
      refine i_st (j := 513) (v := .iface 69 (.ptr (some (op, 0)))) rfl rfl rfl hob9 (by rw [cvc_len hlA hlI]; omega) ?_
      have hN10 := hN.put (A2 := A) (B2 := I) (cs := (cvc (.ptr (some (osw, 0))) (u8s A) (u8s I) (.iface 62 (.agg [])) (.ptr none)).set 513 (.iface 69 (.ptr (some (op, 0))))) hN.2.1 hIl (cvc_setS hlA hlI)
      have hrec10 := hrec.putNe (o := o) (cs := (cvc (.ptr (some (osw, 0))) (u8s A) (u8s I) (.iface 62 (.agg [])) (.ptr none)).set 513 (.iface 69 (.ptr (some (op, 0))))) (by omega)
      refine i_nil ?_
      refine r_nop ?_
      refine r_nop ?_
      refine q_k ?_
      refine ⟨_, pick_sub _ [1, 3], _, _, op, rfl, hN10, ?_, ?_⟩
      · rw [hmd]
        exact ⟨rfl, rfl, hrec10, by omega, by omega⟩
      · rw [hmd]
        intro p hp
        rw [List.mem_singleton.1 hp]; omega
  clear hob7 hoc7 hN hst7 hS7 hlt7 hltw hlA
  rintro G S6 ⟨st, pk, op, rfl, hN, hst, hopl⟩
  have hob6 := hN.1
  have hoc6 := hN.2.2.2.1
  dsimp only [CV.cells] at hoc6
  have hlA := u8l hN.2.1
  refine r_nop ?_
  refine r_block ?_
  refine r_reg ?_
  apply i_fld0
  · exact rfl
  apply i_load
  · exact rfl
  · assumption
  · exact rfl
  apply i_mov
  · exact tB rfl
  refine i_nil ?_
  refine r_join (fun G S' => ∃ B, G = [(3, .ptr (some (o, 0)))] ∧ (∀ b, mapL B b = C.last b) ∧ NewAt S S' C A B o osw oc csw st pk ∧ StAt S' C.md o osw op C.n [] 0 .nil st pk) rfl ?_ ?_ ?_
  rotate_left
  · intro h
    refine r_reg ?_
    apply i_mov
    · exact tP rfl
    refine i_call (tEbcdic _) rfl ?_
    rintro v S7 ⟨rfl, rfl⟩
    have hTl := ebcdicL_len
    have hTm : ∀ b, mapL ebcdicL b = C.last b := fun b => by simp [CV.last, h, may_ibm hmay h]
    generalize ebcdicL = T at hTl hTm ⊢
    apply i_nckP
    · exact rfl
    apply i_fld0
    · exact rfl
    refine i_stO rfl rfl hob6 (u8l hTl) (by rw [cvc_len hlA hlI]; omega) ?_
    refine i_nil ?_
    refine r_nop ?_
    refine q_k ?_
    exact ⟨_, pick_sub _ [3], T, rfl, hTm, hN.put hN.2.1 hTl (cvc_setB hlA hlI (u8l hTl)), hst.put⟩
  · intro h
    cases hu : C.ibm with
    | false =>
      refine r_reg ?_
      apply i_fld0
      · exact rfl
      apply i_load
      · exact rfl
      · assumption
      · exact rfl
      apply i_mov
      · exact tB rfl
      refine i_nil ?_
      simp only [hu]
      apply r_condF
      · exact rfl
      refine r_nop ?_
      refine r_nop ?_
      refine q_k ?_
      exact ⟨_, pick_sub _ [3], I, rfl, fun b => by rw [hI]; simp [CV.last, h, hu], hN, hst⟩
    | true =>
      refine r_reg ?_
      apply i_fld0
      · exact rfl
      apply i_load
      · exact rfl
      · assumption
      · exact rfl
      apply i_mov
      · exact tB rfl
      refine i_nil ?_
      simp only [hu]
      apply r_condT
      · exact rfl
      refine r_reg ?_
      apply i_mov
      · exact tP rfl
      refine i_call (tIbm _) rfl ?_
      rintro v S7 ⟨rfl, rfl⟩
      have hTl := ibmL_len
      have hTm : ∀ b, mapL ibmL b = C.last b := fun b => by simp [CV.last, h, hu]
      generalize ibmL = T at hTl hTm ⊢
      apply i_nckP
      · exact rfl
      apply i_fld0
      · exact rfl
      refine i_stO rfl rfl hob6 (u8l hTl) (by rw [cvc_len hlA hlI]; omega) ?_
      refine i_nil ?_
      refine r_nop ?_
      refine r_nop ?_
      refine q_k ?_
      exact ⟨_, pick_sub _ [3], T, rfl, hTm, hN.put hN.2.1 hTl (cvc_setB hlA hlI (u8l hTl)), hst.put⟩
  clear hob6 hoc6 hlA hN hst
  rintro G S6 ⟨B, rfl, hfB, hN, hst⟩
  obtain ⟨h1, h2, h3, h4, h5, h6, h7, h8, h9, h10, h11⟩ := hN
  refine r_nop ?_
  refine r_reg ?_
  apply i_mov
  · exact tP rfl
  apply i_mov
  · exact tP rfl
  refine i_nil ?_
  refine r_ret ?_
  apply q_ret1
  · exact tP rfl
  refine ⟨o, osw, op, A, B, rfl, ?_, h6, st, pk, csw, h1, h2, h3, hfA, hfB, h5, hst, Apart.nil, h10⟩
  intro p hp
  rw [← hoce]
  rcases List.mem_cons.1 hp with rfl | hp
  · exact h7
  · rcases List.mem_cons.1 hp with rfl | hp
    · exact h8
    · exact hopl p hp
end Go.Proofs.Ythpomdoaiibnfaa.Abs
