/- Each operation of the model does what its abstract reading says: conversions. -/
import Derived.Test.YtmfkocmbmadkmaaAbs5
import Derived.Lib.ConvBytes
namespace Go.Proofs.Ytmfkocmbmadkmaa.Abs
open Go Go.RowKit
set_option linter.unusedVariables false
set_option linter.unusedSimpArgs false

section
variable {P : Program} {M : Modes} {E : Env} {S : ASt} {w : World} {o : Oper} {a : Act} {next : Act → World → Prop} {Q : Exit → Act → World → Prop} {F : List AV} {K : AV → List AV → ASt → Prop}

theorem snd_convert {s d : TypeId} {x : Operand} (ho : o.op = .convert s d x) (hR : Rel E S w) (hF : FRel E S w F a.tmps)
    (h : convA P s d (ev F x) S (fun v => K v F S)) (hn : Cont E S w o a next K) : o.wp P a w next Q := by
  have hx := ev_rel hF x
  unfold convA at h
  split at h
  · rename_i k0 n hev
    rw [hev] at hx
    have hq : a.eval x = .int k0 n := by cases hq : a.eval x <;> rw [hq] at hx <;> cases hx <;> rfl
    split at h
    · rename_i k hk
      obtain ⟨hs, hK⟩ := h
      obtain ⟨ds, hds⟩ := Option.isSome_iff_exists.1 hs
      refine wp_val ?_ (hn.same hR hF (.int _ _) hK)
      simp only [execOp, ho, hq, convert, Sem.run_bind, run_underlying hds, run_underlying (intT_some hk), Result.andThen_ok]
      simp [Conv.intToInt]
    · exact h.elim
  · rename_i l hev
    rw [hev] at hx
    have hq : a.eval x = .string ⟨l.toArray⟩ := by cases hq : a.eval x <;> rw [hq] at hx <;> cases hx <;> rfl
    split at h
    · rename_i hs hd
      refine wp_val ?_ (hn.same hR hF (.str _) h)
      simp only [execOp, ho, hq, convert, Sem.run_bind, run_underlying (isStrT_true hs), run_underlying (isStrT_true hd), Result.andThen_ok]
      simp
    · rename_i e hs hd hse
      obtain ⟨hu8, hK⟩ := h
      have hsz : (⟨l.toArray⟩ : ByteArray).size = l.length := by simp [ByteArray.size]
      have hrun := Lib.run_convert_string_bytes (P := P) w s d e ⟨l.toArray⟩ (isStrT_true hs) (sliceT_some hse) (intT_some hu8)
      rw [hsz] at hrun
      obtain ⟨ev1, hR1⟩ := step_ro' (w' := Lib.bytesWorld w e ⟨l.toArray⟩) hR rfl rfl rfl (Lib.bytesWorld_size _ _ _) (fun b hb => Lib.bytesWorld_at_old w e _ b hb)
      refine wp_val (v := .slice (some ⟨w.heap.size, 0, none⟩) l.length (grownCap w l.length 0 e)) (w' := Lib.bytesWorld w e ⟨l.toArray⟩) ?_ ?_
      · simp only [execOp, ho, hq, Sem.run_bind, hrun, Result.andThen_ok, Sem.run_pure]
      · refine hn _ _ _ (.sl .ro 1 (l.map fun b => .int .u8 b.toNat)) _ F ev1 hR1 ?_ (hF.mono ev1) hK
        have hfl : ∀ l : List UInt8, flat (l.map fun b => AV.int .u8 b.toNat) = l.map fun b => AV.int .u8 b.toNat := by
          intro l
          induction l with
          | nil => rfl
          | cons b l ih => simp only [flat, List.map_cons, List.flatMap_cons, AV.cells, List.singleton_append] at ih ⊢; rw [ih]
        have := VRel.sl_mem (E := E.addRo w.heap.size) (S := S) (w := Lib.bytesWorld w e ⟨l.toArray⟩) .ro 1 (l.map fun b => .int .u8 b.toNat) w.heap.size 0 (grownCap w l.length 0 e)
          (fun j => .int .u8 (l.getD j 0).toNat) (.inr rfl) (by simpa using grownCap_ge w l.length 0 e) (by simp [AV.cells]) (by rw [hfl]; simp [AV.one]) ?_ ?_ (fun t ht => by cases ht)
        · simpa using this
        · intro j u hj
          rw [hfl] at hj
          have hjl : j < l.length := by have := (List.getElem?_eq_some_iff.1 hj).1; simpa using this
          rw [Nat.zero_add]
          exact Lib.bytesWorld_cell w e ⟨l.toArray⟩ j (by rw [hsz]; exact hjl)
        · intro j u hj
          rw [hfl] at hj
          have hjl : j < l.length := by have := (List.getElem?_eq_some_iff.1 hj).1; simpa using this
          have : u = .int .u8 (l.getD j 0).toNat := by
            rw [List.getElem?_map, List.getElem?_eq_getElem hjl] at hj
            simp only [Option.map_some, Option.some.injEq] at hj
            simp [List.getD, List.getElem?_eq_getElem hjl, ← hj]
          subst this
          exact .int _ _
    · exact h.elim
  · rename_i ow sz xs hev
    rw [hev] at hx
    split at h
    · rename_i e hse hd
      obtain ⟨hu8, hsz, hrd, hall, hK⟩ := h
      have hb : ∀ u ∈ xs, ∃ n, u = .int .u8 n := by
        intro u hu
        have := (List.all_eq_true.1 hall) u hu
        unfold AV.isU8 at this
        split at this
        · exact ⟨_, rfl⟩
        · cases this
      have fin : ∀ a' c, (xs = [] ∨ ∃ ad, a' = some ad ∧ ∀ j u, xs[j]? = some u → ∃ n, u = .int .u8 n ∧ w.cell? (ad.add j) = some (.int .u8 n)) → a.eval x = .slice a' xs.length c →
          o.wp P a w next Q := by
        intro a' c hcase hq
        refine wp_val (v := .string ⟨(xs.map AV.byte).toArray⟩) (w' := w) ?_ (hn.same hR hF (.str _) hK)
        simp only [execOp, ho, hq, Sem.run_bind, run_convert_bytes_string w s d e a' xs.length c (sliceT_some hse) (intT_some hu8) (isStrT_true hd)]
        rcases hcase with rfl | ⟨ad, rfl, hcell⟩
        · cases a' with
          | none => simp [Conv.bytesToString]; rfl
          | some ad =>
            have := run_bytesToString (P := P) w ad 0 c [] (by simp [loadCells, loadCellsFrom])
            simp only [List.length_nil, this]; rfl
        · have hload : (loadCells ad xs.length).run P w = .ok ((xs.map fun u => match u with | .int _ n => n | _ => 0).map (Value.int .u8)).toArray w := by
            have := run_loadCells_list (P := P) w ad ((xs.map fun u => match u with | .int _ n => n | _ => 0).map (Value.int .u8)) ?_
            · simpa using this
            · intro j v hv
              rw [List.getElem?_map, List.getElem?_map] at hv
              cases hxj : xs[j]? with
              | none => rw [hxj] at hv; simp at hv
              | some u =>
                obtain ⟨n, rfl, hc⟩ := hcell j u hxj
                rw [hxj] at hv
                simp only [Option.map_some, Option.some.injEq] at hv
                rw [← hv]; exact hc
          rw [run_bytesToString (P := P) w ad xs.length c _ hload, foldl_push_bytes]
          have : (xs.map fun u => match u with | .int _ n => n | _ => 0).map (fun n => UInt8.ofNat n.toNat) = xs.map AV.byte := by
            rw [List.map_map]
            apply List.map_congr_left
            intro u hu
            obtain ⟨n, rfl⟩ := hb u hu
            rfl
          rw [this]
          simp
      generalize hq : a.eval x = cv at hx
      cases hx with
      | sl_nil sz => exact fin none 0 (.inl rfl) hq
      | sl_emp sz a' c => exact fin a' c (.inl rfl) hq
      | sl_own_nil t sz ht => exact fin none 0 (.inl rfl) hq
      | sl_sub_emp t sz a' c ht => exact fin a' c (.inl rfl) hq
      | sl_dead o' t sz xs a' c ho ht hd' => have := rd_tok hrd ho; rw [hd'] at this; cases this
      | sl_mem ow' sz' xs' b off c vs hacc hc hsz' h1 hv hr hroom =>
        refine fin _ c ?_ hq
        by_cases he : xs = []
        · exact .inl he
        · right
          refine ⟨_, rfl, fun j u hj => ?_⟩
          have hfl : flat xs = xs := by
            have : ∀ (ys : List AV), (∀ u ∈ ys, ∃ n, u = .int .u8 n) → flat ys = ys := by
              intro ys hys
              induction ys with
              | nil => rfl
              | cons y ys ih =>
                obtain ⟨n, rfl⟩ := hys y (by simp)
                have ih' := ih (fun u hu => hys u (by simp [hu]))
                simp only [flat, List.flatMap_cons, AV.cells, List.singleton_append] at ih' ⊢
                rw [ih']
            exact this xs hb
          obtain ⟨n, rfl⟩ := hb u (List.mem_of_getElem? hj)
          have hj' : (flat xs)[j]? = some (.int .u8 n) := by rw [hfl]; exact hj
          have e1 := hv j _ hj'
          have e2 := hr j _ hj'
          cases hvj : vs j <;> rw [hvj] at e2 <;> cases e2
          rw [hvj] at e1
          exact ⟨n, rfl, by rw [Addr.add_lit]; exact e1⟩
    · exact h.elim
  · exact h.elim
end
end Go.Proofs.Ytmfkocmbmadkmaa.Abs
