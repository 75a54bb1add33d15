/- Whatever order a region draws; code; calls. -/
import Derived.Test.YtmfkocmbmadkmaaAbs16
import Derived.Deep.LoopGhost
namespace Go.Proofs.Ytmfkocmbmadkmaa.Abs
open Go Go.RowKit
set_option linter.unusedVariables false
set_option linter.unusedSimpArgs false

section
variable {P : Program} {M : Modes} {ops : List Oper} {ord : List Nat} {E0 : Env} {S0 : ASt} {w0 : World} {n0 : Nat} {K : List AV → ASt → Prop}

open Classical in
noncomputable def hide (F : List AV) (B : Nat → Prop) : List AV := F.zipIdx.map fun p => if B p.2 then .top else p.1

theorem hide_length (F : List AV) (B : Nat → Prop) : (hide F B).length = F.length := by simp [hide]
theorem hide_no {F : List AV} {B : Nat → Prop} {s : Nat} (h : ¬ B s) : (hide F B).getD s .top = F.getD s .top := by
  simp only [hide, List.getD, List.getElem?_map, List.getElem?_zipIdx]
  cases hq : F[s]? with
  | none => simp
  | some v => simp [h]
theorem hide_yes {F : List AV} {B : Nat → Prop} {s : Nat} (h : B s) : (hide F B).getD s .top = .top := by
  simp only [hide, List.getD, List.getElem?_map, List.getElem?_zipIdx]
  cases hq : F[s]? with
  | none => simp
  | some v => simp [h]

def Blocked (ops : List Oper) (C : List Nat) (D : Nat → Prop) (s : Nat) : Prop := ∃ j o, j ∈ C ∧ ¬ D j ∧ ops[j]? = some o ∧ o.dst = some s

theorem Inv.hidden {C rest L : List Nat} {E : Env} {S : ASt} {F : List AV} {D : Nat → Prop} {a : Act} {w : World} (h : Inv P M ops ord E0 S0 w0 n0 K C rest L E S F D a w) :
    FRel E S w (hide F (Blocked ops C D)) a.tmps := by
  refine ⟨by rw [hide_length]; exact h.len, fun s => ?_⟩
  by_cases hb : Blocked ops C D s
  · rw [hide_yes hb]; exact .top _
  · rw [hide_no hb]
    exact h.frame s (fun j o h1 h2 h3 h4 => hb ⟨j, o, h1, h2, h3, h4⟩)

theorem ready_spec {listed : Array Bool} {i : Nat} (hs : listed.size = ops.length) (h : i ∈ Region.ready .any ops.toArray listed) :
    ∃ o, ops[i]? = some o ∧ ¬ Dn listed i ∧ ∀ j ∈ edgesOf o, Dn listed j := by
  unfold Region.ready at h
  simp only [List.mem_filter, List.mem_range, List.size_toArray, Bool.and_eq_true, Bool.not_eq_true', List.getElem?_toArray] at h
  obtain ⟨hlt, h1, h2⟩ := h
  have ho : ops[i]? = some ops[i] := List.getElem?_eq_getElem hlt
  rw [ho] at h2
  simp only [Option.map_some, Option.getD_some, Array.all_eq_true_iff_forall_mem, Bool.or_eq_true, Bool.not_eq_true'] at h2
  refine ⟨ops[i], ho, ?_, ?_⟩
  · unfold Dn
    have hls : i < listed.size := by omega
    simp only [Array.getD, hls, dif_pos] at h1 ⊢
    simpa using h1
  · intro j hj
    unfold edgesOf at hj
    obtain ⟨e, he, rfl⟩ := List.mem_map.1 hj
    obtain ⟨he1, he2⟩ := List.mem_filter.1 he
    rcases h2 e (Array.mem_toList_iff.1 he1) with h | h
    · rw [h] at he2; cases he2
    · exact h

theorem ready_nil {listed : Array Bool} (hf : DrawFacts P M ops ord) (hs : listed.size = ops.length) (h : Region.ready .any ops.toArray listed = []) : ∀ i, i < ops.length → Dn listed i := by
  intro i
  induction i using Nat.strongRecOn with
  | _ i ih =>
    intro hi
    apply Classical.byContradiction
    intro hn
    have hmem : i ∈ Region.ready .any ops.toArray listed := by
      unfold Region.ready
      simp only [List.mem_filter, List.mem_range, List.size_toArray, Bool.and_eq_true, Bool.not_eq_true', List.getElem?_toArray]
      have ho : ops[i]? = some ops[i] := List.getElem?_eq_getElem hi
      refine ⟨hi, ?_, ?_⟩
      · have hls : i < listed.size := by omega
        unfold Dn at hn
        simp only [Array.getD, hls, dif_pos] at hn ⊢
        simpa using hn
      · rw [ho]
        simp only [Option.map_some, Option.getD_some, Array.all_eq_true_iff_forall_mem, Bool.or_eq_true, Bool.not_eq_true']
        intro e he
        by_cases hb : Region.binds .any e = true
        · right
          have hj : e.on ∈ edgesOf ops[i] := List.mem_map.2 ⟨e, List.mem_filter.2 ⟨Array.mem_toList_iff.2 he, hb⟩, rfl⟩
          have hlt := hf.edge i _ ho _ hj
          exact ih e.on hlt (by omega)
        · left; simpa using hb
    rw [h] at hmem; cases hmem

theorem Dn_set {listed : Array Bool} {i j : Nat} (hi : i < listed.size) : Dn (listed.setIfInBounds i true) j ↔ j = i ∨ Dn listed j := by
  unfold Dn
  simp only [Array.getD_eq_getD_getElem?, Array.getElem?_setIfInBounds]
  by_cases h : i = j
  · subst h; simp [hi]
  · simp [h, Ne.symm h]

def unl (ops : List Oper) (listed : Array Bool) : Nat := ((List.range ops.length).filter fun i => !listed.getD i false).length

theorem unl_set {listed : Array Bool} {i : Nat} (hs : listed.size = ops.length) (hi : i < ops.length) (hn : ¬ Dn listed i) : unl ops (listed.setIfInBounds i true) < unl ops listed := by
  unfold unl
  have hsub : ((List.range ops.length).filter fun j => !(listed.setIfInBounds i true).getD j false) = (((List.range ops.length).filter fun j => !listed.getD j false).filter fun j => !(j == i)) := by
    rw [List.filter_filter]
    apply List.filter_congr
    intro j hj
    have := Dn_set (listed := listed) (i := i) (j := j) (by omega)
    unfold Dn at this
    by_cases hji : j = i
    · subst hji
      rw [this.2 (.inl rfl)]; simp
    · have e : (listed.setIfInBounds i true).getD j false = listed.getD j false := by
        cases hq : listed.getD j false
        · cases hq2 : (listed.setIfInBounds i true).getD j false
          · rfl
          · rcases this.1 hq2 with h | h
            · exact absurd h hji
            · rw [hq] at h; cases h
        · exact this.2 (.inr hq)
      rw [e]; simp [hji]
  rw [hsub]
  refine List.length_filter_lt_length_iff_exists.2 ⟨i, ?_, by simp⟩
  refine List.mem_filter.2 ⟨by simpa using hi, ?_⟩
  unfold Dn at hn; simpa using hn

theorem recheck_mem {F : List AV} {S : ASt} : ∀ {l : List Nat} {j : Nat} {o : Oper}, recheckA P M ops F S l → j ∈ l → ops[j]? = some o → wantA ops o F = some true →
    opA P (M0 M) o F S (fun v _ _ => match o.dst with | some d => v = F.getD d .top | none => True)
  | [], j, o, _, h, _, _ => by cases h
  | k :: l, j, o, h, hj, ho, hw => by
    simp only [recheckA] at h
    rcases List.mem_cons.1 hj with rfl | hj
    · have h1 := h.1
      rw [ho] at h1
      simp only [hw] at h1
      exact h1
    · exact recheck_mem h.2 hj ho hw

/-- One step: an operation whose forerunners are all done. -/
theorem inv_step (hf : DrawFacts P M ops ord) {C rest L : List Nat} {E : Env} {S : ASt} {F : List AV} {listed : Array Bool} {a : Act} {w : World} {Q : Exit → Act → World → Prop} {next : Act → World → Prop}
    (hsz : listed.size = ops.length) (h : Inv P M ops ord E0 S0 w0 n0 K C rest L E S F (Dn listed) a w) (hst : Stop M ops rest) {i : Nat} {o : Oper} (ho : ops[i]? = some o) (hnd : ¬ Dn listed i)
    (hed : ∀ j ∈ edgesOf o, Dn listed j) (hdown : ∀ i o, ops[i]? = some o → Dn listed i → ∀ j ∈ edgesOf o, Dn listed j)
    (hnext : ∀ a' w' C' rest' L' E' S' F', Inv P M ops ord E0 S0 w0 n0 K C' rest' L' E' S' F' (Dn (listed.setIfInBounds i true)) a' w' → Stop M ops rest' → next a' w') :
    wpOp P ops.toArray Q i next a w := by
  have hil : i < ops.length := (List.getElem?_eq_some_iff.1 ho).1
  have hpre : ∀ b, ((preL ops []).getD i 0).testBit b = true → Dn listed b := pre_sub hf hdown i o ho hed
  have hset : ∀ j, Dn (listed.setIfInBounds i true) j ↔ j = i ∨ Dn listed j := fun j => Dn_set (by omega)
  -- no operand is a slot that is still to be written
  have hlook : ∀ t ∈ looks ops o, ¬ Blocked ops C (Dn listed) t := by
    rintro t ht ⟨j, p, hj, hjd, hpj, hd⟩
    have hpe : effOp M p = false := by
      cases he : effOp M p
      · rfl
      · exact absurd (h.effs j p hj hpj he) hjd
    rcases hf.dst j p hpj t hd i o ho (List.mem_append_left _ ht) with ⟨e, h1⟩ | h1 | ⟨h1, _⟩ | ⟨h1, _⟩
    · subst e; rw [ho] at hpj; cases hpj; exact h1 ht
    · exact hjd (hpre j h1)
    · rw [hpe] at h1; cases h1
    · rw [hpe] at h1; cases h1
  have hagree : ∀ t ∈ looks ops o, F.getD t .top = (hide F (Blocked ops C (Dn listed))).getD t .top := fun t ht => (hide_no (hlook t ht)).symm
  have hFb := h.hidden
  have hwant : ∀ b, wantA ops o F = some b → Region.wanted o (yielded ops.toArray a.tmps) = b := fun b hb => wantA_sound hFb (by rw [← want_agree hagree]; exact hb)
  unfold wpOp
  rw [List.getElem?_toArray, ho]
  simp only
  by_cases hiC : i ∈ C
  · -- it is pending
    obtain ⟨hcand, hpl⟩ := h.pend i o hiC hnd ho
    have hpe : effOp M o = false := by
      cases he : effOp M o
      · rfl
      · exact absurd (h.effs i o hiC ho he) hnd
    -- what the state is like behind it
    have fin : ∀ E' w' cv a', Evolves E S w E' S w' → Rel E' S w' → a' = a.put o.dst cv → (∀ d, o.dst = some d → d < F.length → VRel E' S w' (F.getD d .top) cv) →
        Inv P M ops ord E0 S0 w0 n0 K C rest L E' S F (Dn (listed.setIfInBounds i true)) a' w' := by
      intro E' w' cv a' ev1 hR1 ha' hv
      subst ha'
      refine ⟨h.ev.trans ev1, hR1, ?_, h.len0, put_defers _ _ h.defers, h.ordq, ?_, ?_, ?_, ?_, h.cont⟩
      · cases hd : o.dst <;> simp [Act.put, h.len]
      · intro j hj
        rcases (hset j).1 hj with rfl | hj
        · exact hiC
        · exact h.sub j hj
      · intro j p hj hpj hep; exact (hset j).2 (.inr (h.effs j p hj hpj hep))
      · intro s hs
        by_cases hds : o.dst = some s
        · by_cases hlt : s < F.length
          · have hlt' : s < a.tmps.size := h.len ▸ hlt
            have : (a.put o.dst cv).tmps.getD s undef = cv := by rw [hds]; simp [Act.put, Array.getD, hlt']
            rw [this]
            exact hv s hds hlt
          · rw [show F.getD s .top = .top by simp [List.getD, hlt]]; exact .top _
        · have e : (a.put o.dst cv).tmps.getD s undef = a.tmps.getD s undef := by
            cases hd : o.dst with
            | none => rfl
            | some d =>
              have : d ≠ s := fun e => hds (by rw [hd, e])
              simp only [Act.put, Array.getD_eq_getD_getElem?, Array.getElem?_setIfInBounds, this, if_false]
          rw [e]
          refine (h.frame s (fun j p hj hjd hpj hd => ?_)).mono ev1
          by_cases hji : j = i
          · subst hji; rw [ho] at hpj; cases hpj; exact hds hd
          · exact hs j p hj (fun hq => by rcases (hset j).1 hq with h1 | h1; exact hji h1; exact hjd h1) hpj hd
      · intro j p hj hjd hpj
        exact h.pend j p hj (fun hq => hjd ((hset j).2 (.inr hq))) hpj
    rcases hcand with ⟨hw, hd⟩ | ⟨hw, hop⟩
    · rw [if_neg (by rw [hwant _ hw]; simp)]
      exact hnext _ _ _ _ _ _ _ _ (fin E w undef _ (Evolves.refl h.rel) h.rel rfl (fun d hd' hlt => by rw [hd d hd' hlt]; exact undef_rel)) hst
    · rw [if_pos (hwant _ hw)]
      refine .inl ?_
      have hop' : opA P (M0 M) o (hide F (Blocked ops C (Dn listed))) S (fun v _ S' => S' = S ∧ ∀ d, o.dst = some d → d < F.length → v = F.getD d .top) := by
        rw [opA_M0]; exact opG_congr (ev_agree hagree) hop
      refine opA_sound h.rel hFb hop' ?_
      rintro E' S' w' v cv F' ev1 hR1 hv hF1 ⟨rfl, hvd⟩
      exact hnext _ _ _ _ _ _ _ _ (fin E' w' cv _ ev1 hR1 rfl (fun d hd' hlt => by rw [← hvd d hd' hlt]; exact hv)) hst
  · -- it is the next one that changes the state
    have hio : i ∈ ord := hf.all i hil
    rw [h.ordq] at hio
    have hir : i ∈ rest := by rcases List.mem_append.1 hio with h1 | h1; exact absurd h1 hiC; exact h1
    rcases hst with rfl | ⟨e, rest', oe, rfl, hoe, hee⟩
    · cases hir
    obtain ⟨oC, oR⟩ := ordB_split C e rest' (h.ordq ▸ hf.ordB)
    have heC : e ∉ C := fun hh => (oC e hh).2 rfl
    have hie : i = e := by
      rcases List.mem_cons.1 hir with h1 | h1
      · exact h1
      · exact absurd (h.sub e (hpre e ((oR i h1).1 oe hoe hee))) heC
    subst hie
    rw [ho] at hoe; cases hoe
    have hc := h.cont
    simp only [drawGo, ho] at hc
    -- the others' slots
    have old : ∀ v j p, j ∈ C → ¬ Dn listed j → ops[j]? = some p → ∀ t ∈ names ops p, F.getD t .top = (setO F o.dst v).getD t .top := by
      intro v j p hj hjd hpj t ht
      refine (getD_setO_ne ?_).symm
      intro hd
      rcases hf.dst i o ho t hd j p hpj ht with ⟨e, _⟩ | h1 | ⟨_, h1⟩ | ⟨_, h1⟩
      · exact heC (e ▸ hj)
      · have := (oC j hj).1; rw [h1] at this; cases this
      · exact hjd (hpre j h1)
      · exact heC (h1 ▸ hj)
    have fin : ∀ E' S' w' v cv L', Evolves E S w E' S' w' → Rel E' S' w' → VRel E' S' w' v cv → drawGo P M ops (preL ops []) rest' L' (setO F o.dst v) S' K →
        (∀ j p, j ∈ C → ¬ Dn listed j → ops[j]? = some p → Cand P M ops (setO F o.dst v) S' p ∧ (pureOp p = true ∨ j ∈ L' ∨ wantA ops p (setO F o.dst v) = some false)) →
        next (a.put o.dst cv) w' := by
      intro E' S' w' v cv L' ev1 hR1 hv hcont hpend
      have inv : Inv P M ops ord E0 S0 w0 n0 K (C ++ [i]) rest' L' E' S' (setO F o.dst v) (Dn (listed.setIfInBounds i true)) (a.put o.dst cv) w' := by
        refine ⟨h.ev.trans ev1, hR1, ?_, by rw [setO_length]; exact h.len0, put_defers _ _ h.defers, by rw [h.ordq]; simp, ?_, ?_, ?_, ?_, hcont⟩
        · rw [setO_length]; cases hd : o.dst <;> simp [Act.put, h.len]
        · intro j hj
          rcases (hset j).1 hj with rfl | hj
          · simp
          · exact List.mem_append_left _ (h.sub j hj)
        · intro j p hj hpj hep
          rcases List.mem_append.1 hj with hj | hj
          · exact (hset j).2 (.inr (h.effs j p hj hpj hep))
          · exact (hset j).2 (.inl (by simpa using hj))
        · intro s hs
          by_cases hds : o.dst = some s
          · by_cases hlt : s < F.length
            · have hlt' : s < a.tmps.size := h.len ▸ hlt
              have e1 : (a.put o.dst cv).tmps.getD s undef = cv := by rw [hds]; simp [Act.put, Array.getD, hlt']
              have e2 : (setO F o.dst v).getD s .top = v := by rw [hds]; simp [setO, List.getD, hlt]
              rw [e1, e2]; exact hv
            · rw [show (setO F o.dst v).getD s .top = .top by rw [List.getD, List.getElem?_eq_none (by rw [setO_length]; exact Nat.le_of_not_lt hlt)]; rfl]; exact .top _
          · have e : (a.put o.dst cv).tmps.getD s undef = a.tmps.getD s undef := by
              cases hd : o.dst with
              | none => rfl
              | some d =>
                have : d ≠ s := fun e => hds (by rw [hd, e])
                simp only [Act.put, Array.getD_eq_getD_getElem?, Array.getElem?_setIfInBounds, this, if_false]
            rw [e, getD_setO_ne hds]
            refine (h.frame s (fun j p hj hjd hpj hd => ?_)).mono ev1
            by_cases hji : j = i
            · subst hji; exact heC hj
            · exact hs j p (List.mem_append_left _ hj) (fun hq => by rcases (hset j).1 hq with h1 | h1; exact hji h1; exact hjd h1) hpj hd
        · intro j p hj hjd hpj
          have hjd' : ¬ Dn listed j := fun hq => hjd ((hset j).2 (.inr hq))
          rcases List.mem_append.1 hj with hj | hj
          · exact hpend j p hj hjd' hpj
          · exact absurd ((hset j).2 (.inl (by simpa using hj))) hjd
      obtain ⟨C', r', L'', F', i1, i2⟩ := advance hf _ _ _ _ inv
      exact hnext _ _ _ _ _ _ _ _ i1 i2
    split at hc
    · exact hc.elim
    · rename_i hw
      rw [if_neg (by rw [hwant _ hw]; simp)]
      refine fin E S w _ undef L (Evolves.refl h.rel) h.rel undef_rel hc ?_
      intro j p hj hjd hpj
      obtain ⟨c1, c2⟩ := h.pend j p hj hjd hpj
      refine ⟨c1.agree (old _ j p hj hjd hpj) (setO_length _ _).symm, ?_⟩
      rcases c2 with c2 | c2 | c2
      · exact .inl c2
      · exact .inr (.inl c2)
      · exact .inr (.inr (by rw [← want_agree (fun t ht => old _ j p hj hjd hpj t (List.mem_append_left _ ht))]; exact c2))
    · rename_i hw
      rw [if_pos (hwant _ hw)]
      rw [if_pos hee] at hc
      refine .inl ?_
      rw [opA_M0] at hc
      have hop' : opA P (M0 M) o (hide F (Blocked ops C (Dn listed))) S (fun v _ S' => match L.filter (fun j => !((preL ops []).getD i 0).testBit j) with
            | [] => drawGo P M ops (preL ops []) rest' [] (setO F o.dst v) S' K
            | j :: js => recheckA P M ops (setO F o.dst v) S' (j :: js) ∧ drawGo P M ops (preL ops []) rest' (j :: js) (setO F o.dst v) S' K) := by
        rw [opA_M0]; exact opG_congr (ev_agree hagree) hc
      refine opA_sound h.rel hFb hop' ?_
      intro E' S' w' v cv F' ev1 hR1 hv hF1 hk
      obtain ⟨hre, hcont⟩ : recheckA P M ops (setO F o.dst v) S' (L.filter (fun j => !((preL ops []).getD i 0).testBit j)) ∧ drawGo P M ops (preL ops []) rest' (L.filter (fun j => !((preL ops []).getD i 0).testBit j)) (setO F o.dst v) S' K := by
        split at hk
        · rename_i he; rw [he]; exact ⟨trivial, hk⟩
        · rename_i j js he; rw [he]; exact hk
      refine fin E' S' w' v cv _ ev1 hR1 hv hcont ?_
      intro j p hj hjd hpj
      obtain ⟨c1, c2⟩ := h.pend j p hj hjd hpj
      have holdj := old v j p hj hjd hpj
      have hlk : ∀ t ∈ looks ops p, F.getD t .top = (setO F o.dst v).getD t .top := fun t ht => holdj t (List.mem_append_left _ ht)
      have hds : ∀ d, p.dst = some d → F.getD d .top = (setO F o.dst v).getD d .top := fun d hd => holdj d (List.mem_append_right _ (by simp [hd]))
      rcases c1 with ⟨w1, d1⟩ | ⟨w1, op1⟩
      · have w1' : wantA ops p (setO F o.dst v) = some false := by rw [← want_agree hlk]; exact w1
        exact ⟨.inl ⟨w1', fun d hd hlt => by rw [← hds d hd]; rw [setO_length] at hlt; exact d1 d hd hlt⟩, .inr (.inr w1')⟩
      · have w1' : wantA ops p (setO F o.dst v) = some true := by rw [← want_agree hlk]; exact w1
        by_cases hp : pureOp p = true
        · obtain ⟨v0, hv0, hdet⟩ := pure_det hp op1
          refine ⟨.inr ⟨w1', opG_congr (ev_agree hlk) (hdet S' _ ⟨rfl, fun d hd hlt => ?_⟩)⟩, .inl hp⟩
          rw [← hds d hd]; rw [setO_length] at hlt; exact hv0.2 d hd hlt
        · have hjL : j ∈ L := by
            rcases c2 with c2 | c2 | c2
            · exact absurd c2 hp
            · exact c2
            · rw [w1] at c2; cases c2
          have hjf : j ∈ L.filter (fun j => !((preL ops []).getD i 0).testBit j) := by
            refine List.mem_filter.2 ⟨hjL, ?_⟩
            cases hb : ((preL ops []).getD i 0).testBit j
            · rfl
            · exact absurd (hpre j hb) hjd
          have hrc := recheck_mem hre hjf hpj w1'
          rw [opA_M0] at hrc
          have hpe : effOp M p = false := by
            cases he : effOp M p
            · rfl
            · exact absurd (h.effs j p hj hpj he) hjd
          obtain ⟨v0, hv0, hdet⟩ := quiet_det hpe hrc
          refine ⟨.inr ⟨w1', hdet _ ⟨rfl, fun d hd hlt => ?_⟩⟩, .inr (.inl hjf)⟩
          simp only [hd] at hv0
          exact hv0

theorem inv_any (hf : DrawFacts P M ops ord) {Q : Exit → Act → World → Prop} (hQ : ∀ a' w', Reach E0 S0 w0 n0 K a' w' → Q .normal a' w') :
    ∀ (fuel : Nat) (listed : Array Bool) (a : Act) (w : World) (C rest L : List Nat) (E : Env) (S : ASt) (F : List AV), listed.size = ops.length → unl ops listed ≤ fuel →
      (∀ i o, ops[i]? = some o → Dn listed i → ∀ j ∈ edgesOf o, Dn listed j) →
      Inv P M ops ord E0 S0 w0 n0 K C rest L E S F (Dn listed) a w → Stop M ops rest → wpAny P .any ops.toArray Q fuel listed a w := by
  intro fuel
  have done : ∀ (listed : Array Bool) (a : Act) (w : World) (C rest L : List Nat) (E : Env) (S : ASt) (F : List AV), listed.size = ops.length →
      Inv P M ops ord E0 S0 w0 n0 K C rest L E S F (Dn listed) a w → Stop M ops rest → Region.ready .any ops.toArray listed = [] → Q .normal a w := by
    intro listed a w C rest L E S F hs h hst hr
    have hall := ready_nil hf hs hr
    have hrest : rest = [] := by
      rcases hst with h1 | ⟨e, rest', oe, rfl, hoe, hee⟩
      · exact h1
      · obtain ⟨oC, oR⟩ := ordB_split C e rest' (h.ordq ▸ hf.ordB)
        exact absurd rfl (oC e (h.sub e (hall e (List.getElem?_eq_some_iff.1 hoe).1))).2
    subst hrest
    have hk := h.cont
    simp only [drawGo] at hk
    refine hQ a w ⟨E, S, F, h.ev, h.rel, ⟨h.len, fun s => h.frame s (fun j o hj hjd hpj => ?_)⟩, h.defers, h.len0, hk⟩
    exact absurd (hall j (List.getElem?_eq_some_iff.1 hpj).1) hjd
  induction fuel with
  | zero =>
    intro listed a w C rest L E S F hs hu hdown h hst
    have hr : Region.ready .any ops.toArray listed = [] := by
      apply List.eq_nil_iff_forall_not_mem.2
      intro i hi
      obtain ⟨o, ho, hn, _⟩ := ready_spec hs hi
      have := unl_set hs (List.getElem?_eq_some_iff.1 ho).1 hn
      omega
    exact ⟨hr, done listed a w C rest L E S F hs h hst hr⟩
  | succ fuel ih =>
    intro listed a w C rest L E S F hs hu hdown h hst
    refine ⟨done listed a w C rest L E S F hs h hst, fun i hi => ?_⟩
    obtain ⟨o, ho, hn, hed⟩ := ready_spec hs hi
    have hil := (List.getElem?_eq_some_iff.1 ho).1
    have hlt := unl_set hs hil hn
    refine inv_step hf hs h hst ho hn hed hdown ?_
    intro a' w' C' rest' L' E' S' F' h' hst'
    refine ih _ a' w' C' rest' L' E' S' F' (by simpa using hs) (by omega) ?_ h' hst'
    intro k p hk hkd j hj
    rcases (Dn_set (by omega)).1 hkd with rfl | hkd
    · rw [ho] at hk; cases hk
      exact (Dn_set (by omega)).2 (.inr (hed j hj))
    · exact (Dn_set (by omega)).2 (.inr (hdown k p hk hkd j hj))

theorem drawA_sound {E : Env} {S : ASt} {w : World} {F : List AV} {a : Act} {id : Nat} {Q : Exit → Act → World → Prop} (hR : Rel E S w) (hF : FRel E S w F a.tmps) (hd : a.defers = [])
    (h : drawA P M ops ord F S K) (hQ : ∀ a' w', Reach E S w F.length K a' w' → Q .normal a' w') : (Code.region id ops.toArray true).wp P Q a w := by
  obtain ⟨hok, hgo⟩ := h
  have hf := drawFacts hok
  obtain ⟨ev0, hR0⟩ := step_drew hR
  refine wp_region_any hf.follows ?_
  have hno : ∀ i, ¬ Dn (Array.replicate ops.length false) i := by
    intro i hi
    unfold Dn at hi
    simp only [Array.getD_eq_getD_getElem?, Array.getElem?_replicate] at hi
    split at hi <;> simp at hi
  have inv : Inv P M ops ord E S w F.length K [] ord [] E S F (Dn (Array.replicate ops.length false)) a w.drew :=
    ⟨ev0, hR0, hF.1, rfl, hd, rfl, fun i hi => absurd hi (hno i), fun i o hi => (by cases hi), fun s _ => (hF.2 s).mono ev0, fun j o hj => (by cases hj), hgo⟩
  obtain ⟨C', r', L', F', i1, i2⟩ := advance hf _ _ _ _ inv
  have := inv_any (P := P) (M := M) hf hQ ops.length (Array.replicate ops.length false) a w.drew C' r' L' E S F' (by simp) ?_ (fun i o _ hi => absurd hi (hno i)) i1 i2
  · rw [show (ops.toArray).size = ops.length by simp]
    exact this
  · unfold unl
    exact Nat.le_trans (List.length_filter_le _ _) (by simp)
end
end Go.Proofs.Ytmfkocmbmadkmaa.Abs
