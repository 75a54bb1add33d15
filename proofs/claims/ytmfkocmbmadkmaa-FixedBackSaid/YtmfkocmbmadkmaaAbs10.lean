/- Each operation of the model does what its abstract reading says: slices made, written and appended to. -/
import Derived.Test.YtmfkocmbmadkmaaAbs9
namespace Go.Proofs.Ytmfkocmbmadkmaa.Abs
open Go Go.RowKit
set_option linter.unusedVariables false
set_option linter.unusedSimpArgs false

section
variable {P : Program} {M : Modes} {E : Env} {S : ASt} {w : World} {o : Oper} {a : Act} {next : Act → World → Prop} {Q : Exit → Act → World → Prop} {F : List AV} {K : AV → List AV → ASt → Prop}

theorem flat_set {sz : Nat} (xs : List AV) (i : Nat) (v : AV) (hs : ∀ x ∈ xs, x.cells.length = sz) (hi : i < xs.length) :
    flat (xs.set i v) = (flat xs).take (i * sz) ++ v.cells ++ (flat xs).drop (i * sz + sz) := by
  have e1 : xs.set i v = xs.take i ++ [v] ++ xs.drop (i + 1) := by
    rw [List.set_eq_take_append_cons_drop, if_pos hi]; simp
  have e2 : xs = xs.take i ++ [xs[i]] ++ xs.drop (i + 1) := by
    have : xs.take i ++ [xs[i]] ++ xs.drop (i + 1) = xs := by simp
    exact this.symm
  have l1 : (flat (xs.take i)).length = i * sz := by
    rw [flat_length _ (fun x hx => hs x (List.mem_of_mem_take hx)), List.length_take, Nat.min_eq_left (by omega)]
  have l2 : (flat [xs[i]]).length = sz := by simp [flat]; exact hs _ (List.getElem_mem hi)
  have e3 : flat xs = flat (xs.take i) ++ flat [xs[i]] ++ flat (xs.drop (i + 1)) := by
    rw [← flat_append, ← flat_append, ← e2]
  rw [e1, flat_append, flat_append]
  have t1 : (flat xs).take (i * sz) = flat (xs.take i) := by
    rw [e3, List.append_assoc, ← l1, List.take_left']; rfl
  have t2 : (flat xs).drop (i * sz + sz) = flat (xs.drop (i + 1)) := by
    rw [e3]
    have : i * sz + sz = (flat (xs.take i) ++ flat [xs[i]]).length := by rw [List.length_append, l1, l2]
    rw [this, List.drop_left']; rfl
  rw [t1, t2]
  simp [flat]

theorem elemA_cells {ag : Bool} {z : List AV} {sz : Nat} (hl : z.length = sz) (h1 : ∀ u ∈ z, u.one = true) (hc : ag = true ∨ sz = 1) : (elemA ag z).cells = z := by
  unfold elemA
  cases ag
  · rcases hc with hc | hc
    · cases hc
    · subst hc
      match z, hl with
      | [v], _ =>
        have := h1 v (by simp)
        cases v <;> simp [AV.one] at this <;> rfl
  · rfl

theorem fillS_rel {sz : Nat} : ∀ (parts : List (Nat × AV)) (cparts : List (Nat × Value)) (xs : List AV) (cur : Array Value) (xs' : List AV),
    (cparts.length = parts.length) → (∀ (j : Nat) (p : Nat × AV), parts[j]? = some p → ∃ q : Nat × Value, cparts[j]? = some q ∧ q.1 = p.1 ∧ VRel E S w p.2 q.2) →
    (∀ x ∈ xs, x.cells.length = sz) → CRel E S w (flat xs) cur → fillS sz xs parts = some xs' →
    ∃ cur', Instr.fill (fun i => some (i * sz, sz)) cur cparts = some cur' ∧ CRel E S w (flat xs') cur' ∧ (∀ x ∈ xs', x.cells.length = sz) ∧ xs'.length = xs.length
  | [], cparts, xs, cur, xs', hl, _, hs, hc, h => by
    have : cparts = [] := List.eq_nil_of_length_eq_zero (by simpa using hl)
    subst this
    simp only [fillS, Option.some.injEq] at h; subst h
    exact ⟨cur, rfl, hc, hs, rfl⟩
  | (i, v) :: rest, cparts, xs, cur, xs', hl, hp, hs, hc, h => by
    cases cparts with
    | nil => simp at hl
    | cons q crest =>
      obtain ⟨q', hq, h1, h2⟩ := hp 0 (i, v) rfl
      simp only [List.getElem?_cons_zero, Option.some.injEq] at hq
      subst hq
      obtain ⟨qi, qv⟩ := q
      dsimp only at h1 h2
      subst h1
      simp only [fillS] at h
      split at h
      · rename_i hcond
        simp only [Bool.and_eq_true, beq_iff_eq, decide_eq_true_eq] at hcond
        obtain ⟨hbx, hsz, hlt⟩ := hcond
        obtain ⟨hk, hs2, _⟩ := box_cells h2 hbx
        have hfl := flat_length xs hs
        have hle : qi * sz + sz ≤ xs.length * sz := by
          have : (qi + 1) * sz ≤ xs.length * sz := Nat.mul_le_mul_right _ hlt
          rwa [Nat.add_mul, Nat.one_mul] at this
        have hput := hc.put (off := qi * sz) h2 hbx (by rw [hsz, hfl]; exact hle)
        rw [hsz, ← flat_set xs qi v hs hlt] at hput
        obtain ⟨cur', e1, e2, e3, e4⟩ := fillS_rel rest crest (xs.set qi v) _ xs' (by simpa using hl) (fun j p hj => hp (j + 1) p hj)
          (fun x hx => by
            rcases List.mem_or_eq_of_mem_set hx with h | h
            · exact hs x h
            · rw [h]; exact hsz) hput h
        refine ⟨cur', ?_, e2, e3, by simpa using e4⟩
        simp only [Instr.fill]
        rw [if_neg, e1]
        have := hc.1
        rw [Bool.or_eq_true, decide_eq_true_eq, decide_eq_true_eq]
        omega
      · cases h

theorem szA_some {t : TypeId} {n : Nat} (h : szA P t = some n) : ∃ i, P.info? t = some i ∧ i.size = n := by
  unfold szA at h
  cases hi : P.info? t with
  | none => rw [hi] at h; cases h
  | some i => rw [hi] at h; simp only [Option.map_some, Option.some.injEq] at h; exact ⟨i, rfl, h⟩

theorem flat_rep {n sz : Nat} {x : AV} (hx : x.cells.length = sz) (hsz : 0 < sz) {j : Nat} {u : AV} (h : (flat (List.replicate n x))[j]? = some u) : x.cells[j % sz]? = some u := by
  have hs : ∀ y ∈ List.replicate n x, y.cells.length = sz := fun y hy => by rw [List.eq_of_mem_replicate hy]; exact hx
  have hj := (List.getElem?_eq_some_iff.1 h).1
  rw [flat_length _ hs, List.length_replicate] at hj
  have hq : j / sz < n := Nat.div_lt_of_lt_mul (by rwa [Nat.mul_comm])
  have hr : j % sz < sz := Nat.mod_lt _ hsz
  have := flat_getElem (List.replicate n x) (j / sz) (j % sz) hs (by simpa using hq) hr
  have e : j / sz * sz + j % sz = j := by rw [Nat.mul_comm]; exact Nat.div_add_mod j sz
  rw [e, h] at this
  rw [show (List.replicate n x).getD (j / sz) .top = x by simp [List.getD, hq]] at this
  exact this.symm

theorem zero_init {z : Array Value} {acs : List AV} {n sz : Nat} (hz : z.size = sz) (hsz : 0 < sz) {x : AV} (hx : x.cells = acs) (hl : acs.length = sz) (h1 : ∀ u ∈ acs, u.one = true)
    (hr : ∀ i u, acs[i]? = some u → VRel E S w u (z.getD i undef)) :
    CRel E S w (flat (List.replicate n x)) ((Array.range (n * sz)).map (z[· % z.size]!)) := by
  have hs : ∀ y ∈ List.replicate n x, y.cells.length = sz := fun y hy => by rw [List.eq_of_mem_replicate hy, hx]; exact hl
  have hfl := flat_length _ hs
  rw [List.length_replicate] at hfl
  refine ⟨by simp [hfl], fun j u hu => ?_⟩
  have hj : j < n * sz := by rw [← hfl]; exact (List.getElem?_eq_some_iff.1 hu).1
  have h2 := flat_rep (by rw [hx]; exact hl) hsz hu
  rw [hx] at h2
  refine ⟨h1 u (List.mem_of_getElem? h2), ?_⟩
  have h3 := hr _ u h2
  have e : ((Array.range (n * sz)).map (z[· % z.size]!)).getD j undef = z.getD (j % sz) undef := by
    have hm : j % sz < z.size := by rw [hz]; exact Nat.mod_lt _ hsz
    simp [Array.getD, hj, hz]
    rw [getElem!_pos z (j % sz) hm]
    simp [hz ▸ hm]
  rw [e]; exact h3

theorem snd_buildSlice {t e : TypeId} {n sz : Nat} {parts : Array (Nat × Operand)} {z : List AV} {ag : Bool} {xs : List AV} {d : Nat} (ho : o.op = .buildSlice t n parts) (hd : o.dst = some d)
    (hse : sliceT P t = some e) (hs : szA P e = some sz) (hz : zeroA P e = some z) (hag : aggT P e = some ag) (hn24 : n * sz ≤ 16777216) (h0 : 0 < sz) (hc1 : ag = true ∨ sz = 1)
    (hf : fillS sz (List.replicate n (elemA ag z)) (parts.toList.map fun p => (p.1, ev F p.2)) = some xs) (hR : Rel E S w) (hF : FRel E S w F a.tmps)
    (h : if M.own d then K (.sl (.own S.next) sz xs) F S.fresh else K (.sl .ro sz xs) F S) (hn : Cont E S w o a next K) : o.wp P a w next Q := by
  obtain ⟨i, zv, hi, hzz, hzq, h1, hl, hzs⟩ := zeroA_some hz
  obtain ⟨i', hi', hsi⟩ := szA_some hs
  rw [hi] at hi'; cases hi'
  have hzl : z.length = sz := by rw [hl, hsi]
  have hec := elemA_cells (ag := ag) hzl h1 hc1
  obtain ⟨hl', hp'⟩ := args_rel hF parts
  have hinit : CRel E S w (flat (List.replicate n (elemA ag z))) ((Array.range (n * sz)).map (zv.cells[· % zv.cells.size]!)) :=
    zero_init (by rw [hzs, hsi]) h0 hec hzl h1 (fun j u hu => by rw [hzq] at hu; exact zeroCells_rel E S w j u hu)
  have hrs : ∀ y ∈ List.replicate n (elemA ag z), y.cells.length = sz := fun y hy => by rw [List.eq_of_mem_replicate hy, hec]; exact hzl
  obtain ⟨cur', e1, e2, e3, e4⟩ := fillS_rel _ _ _ _ xs hl' hp' hrs hinit hf
  rw [List.length_replicate] at e4
  have hfl := flat_length xs e3
  have hrun : (execOp a.eval o).run P w = .ok (.value (.slice (some ⟨w.heap.size, 0, none⟩) n n)) (w.alloc (.cells cur' e)) := by
    have hle : ¬ (16777216 < n * sz) := by omega
    have e1' : Instr.fill (fun i => some (i * sz, sz)) ((Array.range (n * sz)).map fun x => (if n * sz = 0 then (#[] : Array Value) else zv.cells)[x % (if n * sz = 0 then (#[] : Array Value) else zv.cells).size]!)
        (parts.map fun (i, x) => (i, a.eval x)).toList = some cur' := by
      by_cases hz0 : n * sz = 0
      · have r0 : ∀ f : Nat → Value, (Array.range 0).map f = #[] := fun f => by apply Array.eq_empty_of_size_eq_zero; simp
        rw [hz0] at e1 ⊢; rw [r0] at e1 ⊢; exact e1
      · simp only [if_neg hz0]; exact e1
    by_cases hz0 : n * sz = 0
    · simp only [if_pos hz0] at e1'
      simp only [execOp, ho, Instr.buildSlice, Sem.run_bind, run_underlying (sliceT_some hse), Result.andThen_ok, run_sizeOf hs, gt_iff_lt, Nat.reducePow, hz0, if_true, Nat.not_lt_zero, if_false, Sem.run_pure]
      rw [hz0] at e1'
      simp only [e1', newRow, run_newObj, Sem.run_bind, Result.andThen_ok, Sem.run_pure]
      rfl
    · simp only [if_neg hz0] at e1'
      simp only [execOp, ho, Instr.buildSlice, Sem.run_bind, run_underlying (sliceT_some hse), Result.andThen_ok, run_sizeOf hs, gt_iff_lt, Nat.reducePow, if_neg hle, if_neg hz0, zeroValue, typeInfo, hi, hzz, run_program, Sem.run_pure]
      simp only [e1', newRow, run_newObj, Sem.run_bind, Result.andThen_ok, Sem.run_pure]
      rfl
  have hv0 : ∀ (w' : World) (b : Nat), w'.heap[b]? = some (.cells cur' e (0, 0)) → ∀ j u, (flat xs)[j]? = some u → w'.cell? ⟨b, 0 + j, none⟩ = some (cur'.getD j undef) := by
    intro w' b hb j u hu
    have hj : j < cur'.size := by rw [e2.1]; exact (List.getElem?_eq_some_iff.1 hu).1
    obtain ⟨cv, q1, q2⟩ := arr_get hj
    rw [Nat.zero_add, cell_of_row w' b j cur' e (0, 0) hb, q1, q2]
  have h1' : ∀ u ∈ flat xs, u.one = true := fun u hu => by obtain ⟨j, hj⟩ := List.mem_iff_getElem?.1 hu; exact (e2.2 j u hj).1
  split at h
  · obtain ⟨ev1, hR1⟩ := step_tok hR (.cells cur' e)
    refine wp_val hrun (hn _ _ _ _ _ F ev1 hR1 ?_ (hF.mono ev1) h)
    have := VRel.sl_mem (E := E.addTok S.next (some w.heap.size) 0) (S := S.fresh) (w := w.alloc (.cells cur' e)) (.own S.next) sz xs w.heap.size 0 n (fun j => cur'.getD j undef)
      ⟨Nat.lt_succ_self _, by simp [ASt.fresh], by simp [Env.addTok]⟩ (by omega) e3 h1' (hv0 _ _ (heap_of_alloc_new _ _)) (fun j u hu => (e2.2 j u hu).2.mono ev1)
      (fun t ht => by cases ht; exact ⟨by simp [Env.addTok], cur', e, heap_of_alloc_new _ _, by rw [e2.1, hfl, e4]; omega⟩)
    rwa [e4] at this
  · obtain ⟨ev1, hR1⟩ := step_ro hR (.cells cur' e)
    refine wp_val hrun (hn _ _ _ _ _ F ev1 hR1 ?_ (hF.mono ev1) h)
    have := VRel.sl_mem (E := E.addRo w.heap.size) (S := S) (w := w.alloc (.cells cur' e)) .ro sz xs w.heap.size 0 n (fun j => cur'.getD j undef)
      (.inr rfl) (by omega) e3 h1' (hv0 _ _ (heap_of_alloc_new _ _)) (fun j u hu => (e2.2 j u hu).2.mono ev1) (fun t ht => by cases ht)
    rwa [e4] at this

/-! ### append -/
theorem sl_read {ow : Own} {sz sz2 : Nat} {ys : List AV} {v : Value} (h : VRel E S w (.sl ow sz2 ys) v) (hrd : rdA S ow) (hsz : sz2 = sz ∨ ys = []) :
    ∃ ax cx, v = .slice ax ys.length cx ∧ ys.length ≤ max ys.length cx ∧ ∃ news : List Value, news.length = ys.length * sz ∧
      (∀ w' : World, w'.heap = w.heap → (Builtin.firstCells sz ys.length v).run P w' = .ok news.toArray w') ∧ (∀ u ∈ flat ys, u.one = true) ∧ (∀ y ∈ ys, y.cells.length = sz) ∧
      ∀ j u, (flat ys)[j]? = some u → VRel E S w u (news.getD j undef) := by
  have emp : ∀ a c, ys = [] → v = .slice a 0 c → ∃ ax cx, v = .slice ax ys.length cx ∧ ys.length ≤ max ys.length cx ∧ ∃ news : List Value, news.length = ys.length * sz ∧
      (∀ w' : World, w'.heap = w.heap → (Builtin.firstCells sz ys.length v).run P w' = .ok news.toArray w') ∧ (∀ u ∈ flat ys, u.one = true) ∧ (∀ y ∈ ys, y.cells.length = sz) ∧
      ∀ j u, (flat ys)[j]? = some u → VRel E S w u (news.getD j undef) := by
    rintro a c rfl rfl
    refine ⟨a, c, rfl, Nat.zero_le _, [], by simp, fun w' _ => ?_, by simp [flat], by simp, by simp [flat]⟩
    cases a <;> simp [Builtin.firstCells, loadCells, loadCellsFrom]
  cases h with
  | sl_nil sz' => exact emp none 0 rfl rfl
  | sl_emp sz' a c => exact emp a c rfl rfl
  | sl_own_nil t sz' ht => exact emp none 0 rfl rfl
  | sl_sub_emp t sz' a c ht => exact emp a c rfl rfl
  | sl_dead o' t sz' xs a c ho ht hd => have := rd_tok hrd ho; rw [hd] at this; cases this
  | sl_mem o' sz' xs b off c vs hacc hc hsz' h1 hv hr hroom =>
    by_cases he : ys = []
    · subst he; exact emp _ c rfl rfl
    have hszz : sz2 = sz := by rcases hsz with h | h; exact h; exact absurd h he
    subst hszz
    have hfl := flat_length ys hsz'
    refine ⟨_, c, rfl, Nat.le_max_left _ _, (List.range (ys.length * sz2)).map vs, by simp, fun w' hw => ?_, h1, hsz', fun j u hj => ?_⟩
    · simp only [Builtin.firstCells]
      refine run_loadCells w' _ _ vs (fun j hj => ?_)
      rw [Addr.add_lit]
      have hj' : j < (flat ys).length := by rw [hfl]; exact hj
      have := hv j _ (List.getElem?_eq_getElem hj')
      rw [← this]
      simp [World.cell?, hw]
    · have hj' : j < ys.length * sz2 := by rw [← hfl]; exact (List.getElem?_eq_some_iff.1 hj).1
      have := hr j u hj
      simpa [List.getD, hj'] using this

theorem run_isInt_slice {u e : TypeId} (hu : P.underlying u = some (.slice e)) (w : World) : (do pure ((← underlying u) matches .int _) : Sem Bool).run P w = .ok false w := by
  simp only [Sem.run_bind, run_underlying hu, Result.andThen_ok]; rfl

theorem run_app_room {t u ty e e2 : TypeId} {sz n m c cx : Nat} {ba ax : Option Addr} {news : List Value} (ht : P.underlying t = some (.slice e)) (hu : P.underlying u = some (.slice e2)) (hs : szA P e = some sz)
    (hfirst : (Builtin.firstCells sz m (.slice ax m cx)).run P w = .ok news.toArray w) (hroom : n + m ≤ c) {w' : World}
    (hst : (match ba with | some ad => storeCells (ad.add (n * sz)) news | none => pure ()).run P w = .ok () w') :
    (Builtin.append_ #[t, u] ty #[.slice ba n c, .slice ax m cx]).run P w = .ok (.slice ba (n + m) c) w' := by
  cases ba with
  | none =>
    simp only [Sem.run_pure, Result.ok.injEq, true_and] at hst
    subst hst
    simp [Builtin.append_, run_underlying ht, run_underlying hu, run_sizeOf hs, Builtin.lenOf, hroom, hfirst]
  | some ad =>
    simp only at hst
    simp [Builtin.append_, run_underlying ht, run_underlying hu, run_sizeOf hs, Builtin.lenOf, hroom, hfirst, hst]

theorem run_app_grow {t u ty e e2 : TypeId} {i : TypeInfo} {z : Value} {n m c cx : Nat} {ba ax : Option Addr} {olds news : List Value} (ht : P.underlying t = some (.slice e)) (hu : P.underlying u = some (.slice e2))
    (hi : P.info? e = some i) (hz : i.zero = some z)
    (hfirst : (Builtin.firstCells i.size m (.slice ax m cx)).run P w.drew = .ok news.toArray w.drew) (hold : (Builtin.firstCells i.size n (.slice ba n c)).run P w.drew = .ok olds.toArray w.drew)
    (hg : c < n + m) (h63 : ((n + m : Nat) : Int) ≤ 9223372036854775807) (hfit : Builtin.nextslicecap (n + m) c * i.bytes ≤ 281474976710656) :
    (Builtin.append_ #[t, u] ty #[.slice ba n c, .slice ax m cx]).run P w =
      .ok (.slice (some ⟨w.heap.size, 0, none⟩) (n + m) (grownCap w (n + m) c e)) (w.drew.alloc (.cells (olds.toArray ++ news.toArray ++ Builtin.zeroCells z.cells (grownCap w (n + m) c e - (n + m))) e)) := by
  have hn : ¬ (n + m ≤ c) := by omega
  have h63' : ¬ (9223372036854775807 < ((n : Int) + (m : Int))) := by omega
  have h48' : ¬ (281474976710656 < Builtin.nextslicecap (n + m) c * i.bytes) := by omega
  simp [Builtin.append_, run_underlying ht, run_underlying hu, sizeOf, typeInfo, zeroValue, hi, hz, Builtin.lenOf, hn, h63', h48', Question.forced, newRow, grownCap, hfirst, hold, -Array.append_assoc, -List.append_toArray]
end
end Go.Proofs.Ytmfkocmbmadkmaa.Abs
