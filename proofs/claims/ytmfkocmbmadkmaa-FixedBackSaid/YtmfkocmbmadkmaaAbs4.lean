/- Each operation of the model does what its abstract reading says. -/
import Derived.Test.YtmfkocmbmadkmaaAbs3
namespace Go.Proofs.Ytmfkocmbmadkmaa.Abs
open Go Go.RowKit
set_option linter.unusedVariables false
set_option linter.unusedSimpArgs false

def Cont (E : Env) (S : ASt) (w : World) (o : Oper) (a : Act) (next : Act → World → Prop) (K : AV → List AV → ASt → Prop) : Prop :=
  ∀ E' S' w' v cv F', Evolves E S w E' S' w' → Rel E' S' w' → VRel E' S' w' v cv → FRel E' S' w' F' a.tmps → K v F' S' → next (a.put o.dst cv) w'

section
variable {P : Program} {M : Modes} {E : Env} {S : ASt} {w : World} {o : Oper} {a : Act} {next : Act → World → Prop} {Q : Exit → Act → World → Prop} {F : List AV} {K : AV → List AV → ASt → Prop}

theorem wp_val {v : Value} {w' : World} (hrun : (execOp a.eval o).run P w = .ok (.value v) w') (h : next (a.put o.dst v) w') : o.wp P a w next Q := by
  unfold Oper.wp; rw [hrun]; exact h
theorem wp_skp {w' : World} (hrun : (execOp a.eval o).run P w = .ok .skip w') (h : next (a.put o.dst undef) w') : o.wp P a w next Q := by
  unfold Oper.wp; rw [hrun]; exact h

theorem Cont.same (hR : Rel E S w) (hF : FRel E S w F a.tmps) (hn : Cont E S w o a next K) {v : AV} {cv : Value} (hv : VRel E S w v cv) (hk : K v F S) :
    next (a.put o.dst cv) w := hn E S w v cv F (Evolves.refl hR) hR hv hF hk

theorem snd_move {x : Operand} (ho : o.op = .move x ∨ o.op = .assign x) (hR : Rel E S w) (hF : FRel E S w F a.tmps) (h : K (ev F x) F S) (hn : Cont E S w o a next K) : o.wp P a w next Q := by
  refine wp_val (v := a.eval x) (w' := w) ?_ (hn.same hR hF (ev_rel hF x) h)
  rcases ho with ho | ho <;> simp [execOp, ho]

theorem snd_pick {c x y : Operand} {b : Bool} (ho : o.op = .pick c x y) (hc : ev F c = .bool b) (hR : Rel E S w) (hF : FRel E S w F a.tmps) (h : K (if b then ev F x else ev F y) F S)
    (hn : Cont E S w o a next K) : o.wp P a w next Q := by
  have hcr := ev_rel hF c
  rw [hc] at hcr
  have he : a.eval c = .bool b := by cases hq : a.eval c <;> rw [hq] at hcr <;> cases hcr <;> rfl
  refine wp_val (v := if b then a.eval x else a.eval y) (w' := w) (by simp [execOp, ho, he, asBool]) (hn.same hR hF ?_ h)
  cases b
  · exact ev_rel hF y
  · exact ev_rel hF x

theorem zeroA_some {t : TypeId} {cs : List AV} (h : zeroA P t = some cs) :
    ∃ i z, P.info? t = some i ∧ i.zero = some z ∧ cs = z.cells.toList.map ofV1 ∧ (∀ u ∈ cs, u.one = true) ∧ cs.length = i.size ∧ z.cells.size = i.size := by
  unfold zeroA at h
  split at h
  · rename_i i hi
    split at h
    · rename_i z hz
      dsimp only at h
      split at h
      · rename_i hc
        simp only [Bool.and_eq_true, List.all_eq_true, beq_iff_eq] at hc
        cases h
        refine ⟨i, z, hi, hz, rfl, hc.1, hc.2, ?_⟩
        have := hc.2; simpa using this
      · cases h
    · cases h
  · cases h

theorem zeroCells_rel {z : Value} (E : Env) (S : ASt) (w : World) : ∀ i u, (z.cells.toList.map ofV1)[i]? = some u → VRel E S w u (z.cells.getD i undef) := by
  intro i u hu
  rw [List.getElem?_map] at hu
  cases hq : z.cells.toList[i]? with
  | none => rw [hq] at hu; simp at hu
  | some x =>
    rw [hq] at hu
    simp only [Option.map_some, Option.some.injEq] at hu
    subst hu
    have : z.cells.getD i undef = x := by
      simp only [Array.getD_eq_getD_getElem?]
      rw [← Array.getElem?_toList, hq]; rfl
    rw [this]; exact ofV1_rel E S w x

theorem snd_alloc {e : TypeId} {cs : List AV} (ho : o.op = .alloc e) (hz : zeroA P e = some cs) (hR : Rel E S w) (hF : FRel E S w F a.tmps)
    (h : K (.ptr (some (S.objs.length, 0))) F (S.push cs)) (hn : Cont E S w o a next K) : o.wp P a w next Q := by
  obtain ⟨i, z, hi, hzz, rfl, h1, hl, hzs⟩ := zeroA_some hz
  obtain ⟨ev1, hR1⟩ := step_obj hR (z.cells.toList.map ofV1) z.cells e (by simp) (fun i u hu => ⟨h1 u (List.mem_of_getElem? hu), zeroCells_rel E S w i u hu⟩)
  have hp : VRel (E.addObj S.objs.length w.heap.size) (S.push (z.cells.toList.map ofV1)) (w.alloc (.cells z.cells e)) (.ptr (some (S.objs.length, 0))) (.pointer (some ⟨w.heap.size, 0, none⟩)) := by
    have := VRel.ptr (E := E.addObj S.objs.length w.heap.size) (S := S.push (z.cells.toList.map ofV1)) (w := w.alloc (.cells z.cells e)) S.objs.length 0 (by simp [ASt.push])
    have hm : (E.addObj S.objs.length w.heap.size).mu S.objs.length = w.heap.size := by
      show (if S.objs.length = S.objs.length then w.heap.size else E.mu S.objs.length) = _
      rw [if_pos rfl]
    rwa [hm] at this
  refine wp_val ?_ (hn _ _ _ _ _ F ev1 hR1 hp (hF.mono ev1) h)
  simp [execOp, ho, Instr.alloc, zeroValue, typeInfo, hi, hzz, newVar, newRow]

theorem box_cells {u : AV} {v : Value} (h : VRel E S w u v) (hb : u.box = true) :
    u.known = true ∧ v.cells.size = u.cells.length ∧ (∀ i x, u.cells[i]? = some x → x.one = true ∧ VRel E S w x (v.cells.getD i undef)) := by
  have hk : u.known = true := by cases u <;> simp [AV.box, AV.one] at hb <;> rfl
  obtain ⟨h1, h2⟩ := h.cells hk
  refine ⟨hk, h1, fun i x hx => ⟨?_, h2 i x hx⟩⟩
  cases h with
  | agg cs vs hl h1' hr => exact h1' x (List.mem_of_getElem? hx)
  | _ =>
    cases i with
    | zero =>
      simp only [AV.cells, List.getElem?_cons_zero, Option.some.injEq] at hx
      subst hx
      first | exact hb | (simp [AV.box, AV.one] at hb)
    | succ i => simp [AV.cells] at hx

theorem snd_box {e : TypeId} {x : Operand} (ho : o.op = .box e x) (hb : (ev F x).box = true) (hR : Rel E S w) (hF : FRel E S w F a.tmps)
    (h : K (.ptr (some (S.objs.length, 0))) F (S.push (ev F x).cells)) (hn : Cont E S w o a next K) : o.wp P a w next Q := by
  obtain ⟨hk, hs, hc⟩ := box_cells (ev_rel hF x) hb
  obtain ⟨ev1, hR1⟩ := step_obj hR (ev F x).cells (a.eval x).cells e hs hc
  have hp : VRel (E.addObj S.objs.length w.heap.size) (S.push (ev F x).cells) (w.alloc (.cells (a.eval x).cells e)) (.ptr (some (S.objs.length, 0))) (.pointer (some ⟨w.heap.size, 0, none⟩)) := by
    have := VRel.ptr (E := E.addObj S.objs.length w.heap.size) (S := S.push (ev F x).cells) (w := w.alloc (.cells (a.eval x).cells e)) S.objs.length 0 (by simp [ASt.push])
    have hm : (E.addObj S.objs.length w.heap.size).mu S.objs.length = w.heap.size := by
      show (if S.objs.length = S.objs.length then w.heap.size else E.mu S.objs.length) = _
      rw [if_pos rfl]
    rwa [hm] at this
  refine wp_val ?_ (hn _ _ _ _ _ F ev1 hR1 hp (hF.mono ev1) h)
  simp [execOp, ho, Instr.box, newVar, newRow]

/-! ### cells of a slice -/
theorem flat_getElem {sz : Nat} : ∀ (xs : List AV) (i k : Nat), (∀ x ∈ xs, x.cells.length = sz) → i < xs.length → k < sz →
    (flat xs)[i * sz + k]? = (xs.getD i .top).cells[k]?
  | [], i, k, _, hi, _ => by simp at hi
  | x :: xs, 0, k, hs, _, hk => by
    have hx : x.cells.length = sz := hs x (by simp)
    simp only [flat, List.flatMap_cons, Nat.zero_mul, Nat.zero_add, List.getD_cons_zero]
    rw [List.getElem?_append_left (by omega)]
  | x :: xs, i + 1, k, hs, hi, hk => by
    have hx : x.cells.length = sz := hs x (by simp)
    have ih := flat_getElem xs i k (fun y hy => hs y (by simp [hy])) (by simpa using hi) hk
    simp only [flat, List.flatMap_cons, List.getD_cons_succ] at ih ⊢
    rw [List.getElem?_append_right (by rw [hx]; have : (i + 1) * sz = i * sz + sz := by rw [Nat.add_mul, Nat.one_mul]
                                       omega), hx]
    have : (i + 1) * sz + k - sz = i * sz + k := by rw [Nat.add_mul, Nat.one_mul]; omega
    rw [this]; exact ih

theorem flat_length {sz : Nat} : ∀ (xs : List AV), (∀ x ∈ xs, x.cells.length = sz) → (flat xs).length = xs.length * sz
  | [], _ => by simp [flat]
  | x :: xs, hs => by
    have hx : x.cells.length = sz := hs x (by simp)
    have ih := flat_length xs (fun y hy => hs y (by simp [hy]))
    simp only [flat, List.flatMap_cons, List.length_append, List.length_cons] at ih ⊢
    rw [hx, ih, Nat.add_mul, Nat.one_mul]; omega

theorem flat_append (xs ys : List AV) : flat (xs ++ ys) = flat xs ++ flat ys := by simp [flat]

theorem cell_of_cells {x : AV} {k : Nat} (h : k < x.cells.length) : x.cells[k]? = some (x.cell k) := by
  cases x with
  | agg cs => simp only [AV.cells] at h ⊢; simp [AV.cell, List.getD, List.getElem?_eq_getElem h]
  | _ =>
    have h0 : k = 0 := by simp [AV.cells] at h; omega
    subst h0; simp [AV.cells, AV.cell]

theorem getD_mem {xs : List AV} {i : Nat} (h : i < xs.length) : xs.getD i .top ∈ xs := by
  simp only [List.getD, List.getElem?_eq_getElem h, Option.getD_some]; exact List.getElem_mem h

theorem rd_tok {ow : Own} {t : Nat} (h : rdA S ow) (he : ow.tok = some t) : S.live t = true := by
  cases ow <;> simp [Own.tok] at he <;> subst he <;> exact h

/-- Loading through a pointer into a slice. -/
theorem ep_cells {ow : Own} {sz i k : Nat} {xs : List AV} {v : Value} (h : VRel E S w (.eptr ow sz xs i k) v) (hrd : rdA S ow) (n : Nat) (hk : k + n ≤ sz) :
    ∃ ad : Addr, v = .pointer (some ad) ∧ i < xs.length ∧ (xs.getD i .top).cells.length = sz ∧ (∀ u ∈ (xs.getD i .top).cells, u.one = true) ∧ ∃ vs : Nat → Value,
      ∀ j u, ((xs.getD i .top).cells.drop k)[j]? = some u → j < n → w.cell? (ad.add j) = some (vs j) ∧ VRel E S w u (vs j) := by
  cases h with
  | ep_dead o' t sz xs i k a' ho ht hd => have := rd_tok hrd ho; rw [hd] at this; cases this
  | ep_mem o' sz' xs' i' k' b off vs hacc hi hsz h1 hv hr hroom =>
    have hlen : (xs.getD i .top).cells.length = sz := hsz _ (getD_mem hi)
    refine ⟨_, rfl, hi, hlen, ?_, fun j => vs (i * sz + (k + j)), ?_⟩
    · intro u hu
      obtain ⟨j, hj⟩ := List.mem_iff_getElem?.1 hu
      have hj' : j < sz := by rw [← hlen]; exact (List.getElem?_eq_some_iff.1 hj).1
      exact h1 u (List.mem_of_getElem? (by rw [flat_getElem xs i j hsz hi hj']; exact hj))
    · intro j u hu hjn
      rw [List.getElem?_drop] at hu
      have hj' : k + j < sz := by omega
      have hfl := flat_getElem xs i (k + j) hsz hi hj'
      rw [hu] at hfl
      have e1 := hv _ _ hfl
      refine ⟨?_, hr _ _ hfl⟩
      rw [Addr.add_lit, ← e1]
      congr 2; omega

theorem run_isAgg {t : TypeId} {b : Bool} (h : aggT P t = some b) (w : World) : (isAgg t).run P w = .ok b w := by
  unfold aggT at h
  unfold isAgg
  split at h
  · rename_i fs hu; cases h; simp [run_underlying hu]
  · rename_i n e hu; cases h; simp [run_underlying hu]
  · rename_i d hns hna hu
    cases h
    simp only [Sem.run_bind, run_underlying hu, Result.andThen_ok]
    rfl
  · cases h

theorem run_sizeOf {t : TypeId} {n : Nat} (h : szA P t = some n) (w : World) : (sizeOf t).run P w = .ok n w := by
  unfold szA at h
  cases hi : P.info? t with
  | none => rw [hi] at h; cases h
  | some i => rw [hi] at h; simp only [Option.map_some, Option.some.injEq] at h; simp [sizeOf, typeInfo, hi, h]

theorem run_loadVar_one {t : TypeId} {ad : Addr} {v : Value} (h : aggT P t = some false) (hc : w.cell? ad = some v) : (loadVar t ad).run P w = .ok v w := by
  simp [loadVar, run_isAgg h, hc]

theorem run_loadVar_agg {t : TypeId} {ad : Addr} {n : Nat} {f : Nat → Value} (h : aggT P t = some true) (hs : szA P t = some n) (hc : ∀ j, j < n → w.cell? (ad.add j) = some (f j)) :
    (loadVar t ad).run P w = .ok (.agg ((List.range n).map f).toArray) w := by
  simp [loadVar, run_isAgg h, run_sizeOf hs, run_loadCells w ad n f hc]

theorem snd_load {t : TypeId} {x : Operand} (ho : o.op = .load t x) (hR : Rel E S w) (hF : FRel E S w F a.tmps) (h : loadA P t (ev F x) S (fun v => K v F S))
    (hn : Cont E S w o a next K) : o.wp P a w next Q := by
  have hx := ev_rel hF x
  unfold loadA at h
  split at h
  · rename_i ob i hev
    rw [hev] at hx
    cases hq : a.eval x <;> rw [hq] at hx <;> cases hx
    rename_i hol
    split at h
    · rename_i cs hcs
      obtain ⟨cur, e, g1, g2, g3⟩ := hR.obj ob cs hcs
      have hcell : ∀ j u, cs[j]? = some u → w.cell? ⟨E.mu ob, j, none⟩ = some (cur.getD j undef) := by
        intro j u hu
        have hj : j < cur.size := by rw [g2]; exact (List.getElem?_eq_some_iff.1 hu).1
        rw [cell_of_row w _ _ cur e (0, 0) g1]
        simp [Array.getD, hj]
      split at h
      · rename_i hag
        split at h
        · rename_i v hv
          refine wp_val (v := cur.getD i undef) (w' := w) ?_ (hn.same hR hF (g3 i v hv).2 h)
          simp [execOp, ho, hq, Instr.loadAt, Instr.sureAddr, run_loadVar_one hag (hcell i v hv)]
        · exact h.elim
      · rename_i hag
        split at h
        · rename_i n hsz
          obtain ⟨hle, hk⟩ := h
          have hc : ∀ j, j < n → w.cell? ((⟨E.mu ob, i, none⟩ : Addr).add j) = some (cur.getD (i + j) undef) := by
            intro j hj
            rw [Addr.add_lit]
            exact hcell (i + j) _ (List.getElem?_eq_getElem (by omega))
          refine wp_val (v := .agg ((List.range n).map fun j => cur.getD (i + j) undef).toArray) (w' := w) ?_ (hn.same hR hF ?_ hk)
          · simp [execOp, ho, hq, Instr.loadAt, Instr.sureAddr, run_loadVar_agg hag hsz hc]
          · refine .agg _ _ (by simp; omega) ?_ ?_
            · intro u hu
              obtain ⟨j, hj⟩ := List.mem_iff_getElem?.1 hu
              rw [List.getElem?_take] at hj
              split at hj
              · rw [List.getElem?_drop] at hj; exact (g3 _ u hj).1
              · cases hj
            · intro j u hj
              rw [List.getElem?_take] at hj
              split at hj
              · rename_i hjn
                rw [List.getElem?_drop] at hj
                have := (g3 _ u hj).2
                simpa [Array.getD, hjn] using this
              · cases hj
        · exact h.elim
      · exact h.elim
    · exact h.elim
  · rename_i ow sz xs i k hev
    rw [hev] at hx
    split at h
    · rename_i hag
      obtain ⟨hk, hrd, hK⟩ := h
      obtain ⟨ad, hq, hi, hlen, h1, vs, hvs⟩ := ep_cells hx hrd 1 (by omega)
      have hc0 : ((xs.getD i .top).cells.drop k)[0]? = some ((xs.getD i .top).cell k) := by
        rw [List.getElem?_drop, Nat.add_zero]; exact cell_of_cells (by omega)
      obtain ⟨e1, e2⟩ := hvs 0 _ hc0 (by omega)
      have e1' : w.cell? ad = some (vs 0) := by simpa [Addr.add] using e1
      refine wp_val (v := vs 0) (w' := w) ?_ (hn.same hR hF e2 hK)
      simp [execOp, ho, hq, Instr.loadAt, Instr.sureAddr, run_loadVar_one hag e1']
    · rename_i hag
      split at h
      · rename_i n hsz
        obtain ⟨hk, hrd, hK⟩ := h
        obtain ⟨ad, hq, hi, hlen, h1, vs, hvs⟩ := ep_cells hx hrd n hk
        have hlt : ∀ j, j < n → ∃ u, ((xs.getD i .top).cells.drop k)[j]? = some u := fun j hj => ⟨_, List.getElem?_eq_getElem (by rw [List.length_drop]; omega)⟩
        have hc : ∀ j, j < n → w.cell? (ad.add j) = some (vs j) := by
          intro j hj
          obtain ⟨u, hu⟩ := hlt j hj
          exact (hvs j u hu hj).1
        refine wp_val (v := .agg ((List.range n).map vs).toArray) (w' := w) ?_ (hn.same hR hF ?_ hK)
        · simp [execOp, ho, hq, Instr.loadAt, Instr.sureAddr, run_loadVar_agg hag hsz hc]
        · refine .agg _ _ (by rw [List.length_take, List.length_drop]; simp only [List.size_toArray, List.length_map, List.length_range]; omega) ?_ ?_
          · intro u hu
            exact h1 u (List.mem_of_mem_drop (List.mem_of_mem_take hu))
          · intro j u hj
            rw [List.getElem?_take] at hj
            split at hj
            · rename_i hjn
              have := (hvs j u hj hjn).2
              simpa [Array.getD, hjn] using this
            · cases hj
      · exact h.elim
    · exact h.elim
  · exact h.elim
end
end Go.Proofs.Ytmfkocmbmadkmaa.Abs
