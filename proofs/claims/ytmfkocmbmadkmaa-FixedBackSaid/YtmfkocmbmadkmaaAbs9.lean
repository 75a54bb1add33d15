/- Each operation of the model does what its abstract reading says: literals and stores. -/
import Derived.Test.YtmfkocmbmadkmaaAbs8
namespace Go.Proofs.Ytmfkocmbmadkmaa.Abs
open Go Go.RowKit
set_option linter.unusedVariables false
set_option linter.unusedSimpArgs false

def CRel (E : Env) (S : ASt) (w : World) (cs : List AV) (cur : Array Value) : Prop :=
  cur.size = cs.length ∧ ∀ i u, cs[i]? = some u → u.one = true ∧ VRel E S w u (cur.getD i undef)

section
variable {P : Program} {M : Modes} {E : Env} {S : ASt} {w : World} {o : Oper} {a : Act} {next : Act → World → Prop} {Q : Exit → Act → World → Prop} {F : List AV} {K : AV → List AV → ASt → Prop}

theorem foldl_put (off : Nat) : ∀ (vs : List Value) (k : Nat) (cs : Array Value), ((vs.zipIdx k).foldl (fun cs (p : Value × Nat) => cs.setIfInBounds (off + p.2) p.1) cs).size = cs.size ∧
    ∀ i, off + k + vs.length ≤ cs.size → ((vs.zipIdx k).foldl (fun cs (p : Value × Nat) => cs.setIfInBounds (off + p.2) p.1) cs).getD i undef =
      if off + k ≤ i ∧ i < off + k + vs.length then vs.getD (i - (off + k)) undef else cs.getD i undef
  | [], k, cs => by simp; intro i _ h1 h2; omega
  | v :: vs, k, cs => by
    obtain ⟨h1, h2⟩ := foldl_put off vs (k + 1) (cs.setIfInBounds (off + k) v)
    simp only [List.zipIdx_cons, List.foldl_cons]
    refine ⟨by rw [h1]; simp, fun i hle => ?_⟩
    simp only [List.length_cons] at hle
    rw [h2 i (by simp; omega)]
    by_cases hi : i = off + k
    · subst hi
      rw [if_neg (by omega), if_pos ⟨Nat.le_refl _, by simp⟩]
      simp only [Nat.sub_self, List.getD_cons_zero]
      have : off + k < cs.size := by omega
      simp [Array.getD, this]
    · by_cases hr : off + (k + 1) ≤ i ∧ i < off + (k + 1) + vs.length
      · rw [if_pos hr, if_pos ⟨by omega, by simp; omega⟩]
        rw [show i - (off + k) = (i - (off + (k + 1))) + 1 by omega, List.getD_cons_succ]
      · rw [if_neg hr, if_neg (by simp; omega)]
        simp only [Array.getD_eq_getD_getElem?, Array.getElem?_setIfInBounds, if_neg (Ne.symm hi)]

theorem fold_cells (off : Nat) (v : Value) (cs : Array Value) : (v.cells.zipIdx.foldl (fun cs (c, j) => cs.setIfInBounds (off + j) c) cs) =
    (v.cells.toList.zipIdx 0).foldl (fun cs (p : Value × Nat) => cs.setIfInBounds (off + p.2) p.1) cs := by
  rw [← Array.foldl_toList, Array.toList_zipIdx]

theorem CRel.put {cs : List AV} {cur : Array Value} (h : CRel E S w cs cur) {off : Nat} {u : AV} {v : Value} (hv : VRel E S w u v) (hb : u.box = true) (hle : off + u.cells.length ≤ cs.length) :
    CRel E S w (cs.take off ++ u.cells ++ cs.drop (off + u.cells.length)) (v.cells.zipIdx.foldl (fun cs (c, j) => cs.setIfInBounds (off + j) c) cur) := by
  obtain ⟨hk, hs, hc⟩ := box_cells hv hb
  rw [fold_cells]
  obtain ⟨h1, h2⟩ := foldl_put off v.cells.toList 0 cur
  have hsl : v.cells.toList.length = u.cells.length := by simpa using hs
  refine ⟨by rw [h1, h.1]; simp; omega, fun i x hx => ?_⟩
  rw [h2 i (by rw [hsl, h.1]; omega), hsl]
  simp only [Nat.add_zero]
  by_cases hi : off ≤ i ∧ i < off + u.cells.length
  · rw [if_pos hi]
    rw [List.append_assoc, List.getElem?_append_right (by simp; omega), List.length_take, Nat.min_eq_left (by omega), List.getElem?_append_left (by omega)] at hx
    have := hc _ x hx
    have e : v.cells.toList.getD (i - off) undef = v.cells.getD (i - off) undef := by
      simp [Array.getD_eq_getD_getElem?, List.getD]
    rw [e]; exact this
  · rw [if_neg hi]
    apply h.2
    by_cases hlt : i < off
    · rw [List.append_assoc, List.getElem?_append_left (by simp; omega), List.getElem?_take, if_pos hlt] at hx
      exact hx
    · rw [List.getElem?_append_right (by simp; omega), List.getElem?_drop] at hx
      rw [← hx]; congr 1
      simp only [List.length_append, List.length_take, Nat.min_eq_left (show off ≤ cs.length by omega)]
      omega

theorem fill_rel {pl : List (Nat × Nat)} : ∀ (parts : List (Nat × AV)) (cparts : List (Nat × Value)) (cs : List AV) (cur : Array Value) (cs' : List AV),
    (cparts.length = parts.length) → (∀ (j : Nat) (p : Nat × AV), parts[j]? = some p → ∃ q : Nat × Value, cparts[j]? = some q ∧ q.1 = p.1 ∧ VRel E S w p.2 q.2) → CRel E S w cs cur → fillA pl cs parts = some cs' →
    ∃ cur', Instr.fill (pl[·]?) cur cparts = some cur' ∧ CRel E S w cs' cur'
  | [], cparts, cs, cur, cs', hl, _, hc, h => by
    have : cparts = [] := List.eq_nil_of_length_eq_zero (by simpa using hl)
    subst this
    simp only [fillA, Option.some.injEq] at h; subst h
    exact ⟨cur, rfl, hc⟩
  | (i, v) :: rest, cparts, cs, cur, cs', hl, hp, hc, h => by
    cases cparts with
    | nil => simp at hl
    | cons q crest =>
      obtain ⟨q', hq, h1, h2⟩ := hp 0 (i, v) rfl
      simp only [List.getElem?_cons_zero, Option.some.injEq] at hq
      subst hq
      obtain ⟨qi, qv⟩ := q
      dsimp only at h1 h2
      subst h1
      simp only [fillA] at h
      split at h
      · rename_i off size hpl
        split at h
        · rename_i hcond
          simp only [Bool.and_eq_true, beq_iff_eq, decide_eq_true_eq] at hcond
          obtain ⟨hbx, hsz, hle⟩ := hcond
          obtain ⟨hk, hs, _⟩ := box_cells h2 hbx
          subst hsz
          have hput := hc.put (off := off) h2 hbx hle
          obtain ⟨cur', e1, e2⟩ := fill_rel rest crest _ _ cs' (by simpa using hl) (fun j p hj => hp (j + 1) p hj) hput h
          refine ⟨cur', ?_, e2⟩
          simp only [Instr.fill, hpl]
          rw [if_neg, e1]
          have := hc.1
          rw [Bool.or_eq_true, decide_eq_true_eq, decide_eq_true_eq]
          omega
        · cases h
      · cases h

theorem args_rel (hF : FRel E S w F a.tmps) (parts : Array (Nat × Operand)) :
    ((parts.map fun (i, x) => (i, a.eval x)).toList.length = (parts.toList.map fun p => (p.1, ev F p.2)).length) ∧
    ∀ (j : Nat) (p : Nat × AV), (parts.toList.map fun p => (p.1, ev F p.2))[j]? = some p → ∃ q : Nat × Value, (parts.map fun (i, x) => (i, a.eval x)).toList[j]? = some q ∧ q.1 = p.1 ∧ VRel E S w p.2 q.2 := by
  refine ⟨by simp, fun j p hj => ?_⟩
  rw [List.getElem?_map] at hj
  cases hq : parts.toList[j]? with
  | none => rw [hq] at hj; simp at hj
  | some q =>
    rw [hq] at hj
    simp only [Option.map_some, Option.some.injEq] at hj
    subst hj
    refine ⟨(q.1, a.eval q.2), ?_, rfl, ev_rel hF q.2⟩
    rw [Array.toList_map, List.getElem?_map, hq]; rfl

theorem snd_build {t : TypeId} {parts : Array (Nat × Operand)} {z : List AV} {pl : List (Nat × Nat)} {cs : List AV} (ho : o.op = .build t parts) (hz : zeroA P t = some z) (hpl : placesA P t = some pl)
    (hf : fillA pl z (parts.toList.map fun p => (p.1, ev F p.2)) = some cs) (hR : Rel E S w) (hF : FRel E S w F a.tmps)
    (h : K (.agg cs) F S) (hn : Cont E S w o a next K) : o.wp P a w next Q := by
  obtain ⟨i, zv, hi, hzz, rfl, h1, hl, hzs⟩ := zeroA_some hz
  obtain ⟨hl', hp'⟩ := args_rel hF parts
  obtain ⟨cur', e1, e2⟩ := fill_rel _ _ (zv.cells.toList.map ofV1) zv.cells cs hl' hp'
    ⟨by simp, fun j u hu => ⟨h1 u (List.mem_of_getElem? hu), zeroCells_rel E S w j u hu⟩⟩ hf
  unfold placesA at hpl
  split at hpl
  · rename_i fs hu
    have hb : P.built t (parts.map fun (i, x) => (i, a.eval x)).toList = some cur' := by
      unfold Program.built
      simp only [hi, hu, hzz, hpl]
      simpa using e1
    refine wp_val (v := .agg cur') (w' := w) ?_ (hn.same hR hF (.agg _ _ e2.1 (fun u hu => ?_) (fun j u hj => (e2.2 j u hj).2)) h)
    · simp only [execOp, ho, Sem.run_bind, run_build w t _ cur' hb, Result.andThen_ok, Sem.run_pure]
    · obtain ⟨j, hj⟩ := List.mem_iff_getElem?.1 hu
      exact (e2.2 j u hj).1
  · cases hpl

/-! ### stores -/
theorem setA_length {cs vs : List AV} {i : Nat} (h : i + vs.length ≤ cs.length) : (setA cs i vs).length = cs.length := by
  unfold setA; split
  · simp
  · simp; omega

theorem setA_eq {cs vs : List AV} {i : Nat} (h : i + vs.length ≤ cs.length) : setA cs i vs = cs.take i ++ vs ++ cs.drop (i + vs.length) := by
  unfold setA; split
  · rename_i h1
    match vs, h1 with
    | [v], _ =>
      simp only [List.length_singleton, List.getD_cons_zero] at h ⊢
      rw [List.set_eq_take_append_cons_drop, if_pos (by omega)]
      simp
  · rfl

theorem getD_toArray (l : List Value) (i : Nat) : l.toArray.getD i undef = l.getD i undef := by
  simp [Array.getD_eq_getD_getElem?, List.getD]

theorem snd_store_obj {t : TypeId} {ad x : Operand} {ob i : Nat} {cs : List AV} (ho : o.op = .store t ad x) (had : ev F ad = .ptr (some (ob, i))) (hcs : S.objs[ob]? = some cs)
    (hb : (ev F x).box = true) (hsz : szA P t = some (ev F x).cells.length) (hle : i + (ev F x).cells.length ≤ cs.length) (hR : Rel E S w) (hF : FRel E S w F a.tmps)
    (h : K .top F (S.put ob (setA cs i (ev F x).cells))) (hn : Cont E S w o a next K) : o.wp P a w next Q := by
  have hx := ev_rel hF x
  have hadr := ev_rel hF ad
  rw [had] at hadr
  have hqa : a.eval ad = .pointer (some ⟨E.mu ob, i, none⟩) := by cases hq : a.eval ad <;> rw [hq] at hadr <;> cases hadr <;> rfl
  obtain ⟨hk, hs, hc⟩ := box_cells hx hb
  obtain ⟨cur, e, g1, g2, g3⟩ := hR.obj ob cs hcs
  have hone : ∀ v ∈ (a.eval x).cells.toList, v.oneCell' = true := by
    intro v hv
    obtain ⟨j, hj⟩ := List.mem_iff_getElem?.1 hv
    have hjl : j < (ev F x).cells.length := by
      rw [← hs]; have := (List.getElem?_eq_some_iff.1 hj).1; simpa using this
    obtain ⟨h1, h2⟩ := hc j _ (List.getElem?_eq_getElem hjl)
    have : (a.eval x).cells.getD j undef = v := by
      rw [Array.getD_eq_getD_getElem?, ← Array.getElem?_toList, hj]; rfl
    rw [this] at h2
    exact h2.one h1
  have hvl : (a.eval x).cells.toList.length = (ev F x).cells.length := by simpa using hs
  have hrun := run_storeCells_at P (E.mu ob) i e (a.eval x).cells.toList 0 cur w g1 (by rw [hvl, g2]; omega) hone
  simp only [Nat.add_zero] at hrun
  obtain ⟨ev1, hR1⟩ := step_put hR ob cs (setA cs i (ev F x).cells) cur (cur.toList.take i ++ (a.eval x).cells.toList ++ cur.toList.drop (i + (a.eval x).cells.toList.length)).toArray e hcs g1
    (setA_length hle) (by rw [setA_length hle]; simp; omega) (by
      intro j u hj
      rw [setA_eq hle] at hj
      rw [getD_toArray]
      by_cases h1 : j < i
      · rw [List.append_assoc, List.getElem?_append_left (by simp; omega), List.getElem?_take, if_pos h1] at hj
        have e1 : (cur.toList.take i ++ (a.eval x).cells.toList ++ cur.toList.drop (i + (a.eval x).cells.toList.length)).getD j undef = cur.getD j undef := by
          simp only [List.getD]
          rw [List.append_assoc, List.getElem?_append_left (by simp; omega), List.getElem?_take, if_pos h1, Array.getElem?_toList, Array.getD_eq_getD_getElem?]
        rw [e1]; exact g3 j u hj
      · by_cases h2 : j < i + (ev F x).cells.length
        · rw [List.append_assoc, List.getElem?_append_right (by simp; omega), List.length_take, Nat.min_eq_left (by omega), List.getElem?_append_left (by omega)] at hj
          have e1 : (cur.toList.take i ++ (a.eval x).cells.toList ++ cur.toList.drop (i + (a.eval x).cells.toList.length)).getD j undef = (a.eval x).cells.getD (j - i) undef := by
            simp only [List.getD]
            rw [List.append_assoc, List.getElem?_append_right (by simp; omega), List.length_take, Nat.min_eq_left (by simp; omega), List.getElem?_append_left (by omega), Array.getElem?_toList, Array.getD_eq_getD_getElem?]
          rw [e1]; exact hc _ u hj
        · rw [List.getElem?_append_right (by simp; omega), List.getElem?_drop] at hj
          have e1 : (cur.toList.take i ++ (a.eval x).cells.toList ++ cur.toList.drop (i + (a.eval x).cells.toList.length)).getD j undef = cur.getD j undef := by
            simp only [List.getD]
            rw [List.getElem?_append_right (by simp; omega), List.getElem?_drop, Array.getD_eq_getD_getElem?, ← Array.getElem?_toList]
            congr 2
            simp only [List.length_append, List.length_take, Array.length_toList]
            rw [Nat.min_eq_left (by omega)]
            simp only [Array.length_toList] at hvl
            omega
          rw [e1]
          apply g3 j u
          rw [← hj]; congr 1
          simp only [List.length_append, List.length_take]
          rw [Nat.min_eq_left (by omega)]
          omega)
  refine wp_skp (w' := w.setRow (E.mu ob) (cur.toList.take i ++ (a.eval x).cells.toList ++ cur.toList.drop (i + (a.eval x).cells.toList.length)).toArray) ?_ (hn _ _ _ _ _ F ev1 hR1 (.top undef) (hF.mono ev1) h)
  have hszv : (a.eval x).cells.size = (ev F x).cells.length := hs
  simp only [execOp, ho, hqa, Instr.storeAt, Instr.sureAddr, storeVar, Sem.run_bind, Sem.run_pure, Result.andThen_ok, run_sizeOf hsz, hszv, ne_eq, not_true_eq_false, if_false, hrun]
end
end Go.Proofs.Ytmfkocmbmadkmaa.Abs
