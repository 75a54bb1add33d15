/- Each operation of the model does what its abstract reading says: slices made, written and appended to. Each operation of the model does what its abstract reading says: append, a store into a slice, calls. Each operation of the model does what its abstract reading says: the other builtins, calls; all together. Each operation of the model does what its abstract reading says: all together; regions in the order of the text. Regions and code, read abstractly; a region in the order of the text does what its reading says. An operation hangs on its operands alone; which operations yield one value, and which one hang on no state. A region that draws its order: whatever order is drawn, it does what its reading in one order says. Whatever order a region draws; code; calls. -/
import Derived.Test.YthpomdoaiibnfaaAbs9
import Derived.IntWalk
import Derived.Orders
import Derived.Deep.LoopGhost
namespace Go.Proofs.Ythpomdoaiibnfaa.Abs
open Go Go.RowKit
set_option linter.unusedVariables false
set_option linter.unusedSimpArgs false

section
variable {P : Program} {M : Modes} {E : Env} {S : ASt} {w : World} {o : Oper} {a : Act} {next : Act → World → Prop} {Q : Exit → Act → World → Prop} {F : List AV} {K : AV → List AV → ASt → Prop}

theorem flat_set {sz : Nat} (xs : List AV) (i : Nat) (v : AV) (hs : ∀ x ∈ xs, x.cells.length = sz) (hi : i < xs.length) :
    flat (xs.set i v) = (flat xs).take (i * sz) ++ v.cells ++ (flat xs).drop (i * sz + sz) := by
  have e1 : xs.set i v = xs.take i ++ [v] ++ xs.drop (i + 1) := by
    rw [List.set_eq_take_append_cons_drop, if_pos hi]; simp
  have e2 : xs = xs.take i ++ [xs[i]] ++ xs.drop (i + 1) := by
    have : xs.take i ++ [xs[i]] ++ xs.drop (i + 1) = xs := by simp
    exact this.symm
  have l1 : (flat (xs.take i)).length = i * sz := by
    rw [flat_length _ (fun x hx => hs x (List.mem_of_mem_take hx)), List.length_take, Nat.min_eq_left (by omega)]
  have l2 : (flat [xs[i]]).length = sz := by simp [flat]; exact hs _ (List.getElem_mem hi)
  have e3 : flat xs = flat (xs.take i) ++ flat [xs[i]] ++ flat (xs.drop (i + 1)) := by
    rw [← flat_append, ← flat_append, ← e2]
  rw [e1, flat_append, flat_append]
  have t1 : (flat xs).take (i * sz) = flat (xs.take i) := by
    rw [e3, List.append_assoc, ← l1, List.take_left']; rfl
  have t2 : (flat xs).drop (i * sz + sz) = flat (xs.drop (i + 1)) := by
    rw [e3]
    have : i * sz + sz = (flat (xs.take i) ++ flat [xs[i]]).length := by rw [List.length_append, l1, l2]
    rw [this, List.drop_left']; rfl
  rw [t1, t2]
  simp [flat]

theorem elemA_cells {ag : Bool} {z : List AV} {sz : Nat} (hl : z.length = sz) (h1 : ∀ u ∈ z, u.one = true) (hc : ag = true ∨ sz = 1) : (elemA ag z).cells = z := by
  unfold elemA
  cases ag
  · rcases hc with hc | hc
    · cases hc
    · subst hc
      match z, hl with
      | [v], _ =>
        have := h1 v (by simp)
        cases v <;> simp [AV.one] at this <;> rfl
  · rfl

theorem fillS_rel {sz : Nat} : ∀ (parts : List (Nat × AV)) (cparts : List (Nat × Value)) (xs : List AV) (cur : Array Value) (xs' : List AV),
    (cparts.length = parts.length) → (∀ (j : Nat) (p : Nat × AV), parts[j]? = some p → ∃ q : Nat × Value, cparts[j]? = some q ∧ q.1 = p.1 ∧ VRel E S w p.2 q.2) →
    (∀ x ∈ xs, x.cells.length = sz) → CRel E S w (flat xs) cur → fillS sz xs parts = some xs' →
    ∃ cur', Instr.fill (fun i => some (i * sz, sz)) cur cparts = some cur' ∧ CRel E S w (flat xs') cur' ∧ (∀ x ∈ xs', x.cells.length = sz) ∧ xs'.length = xs.length
  | [], cparts, xs, cur, xs', hl, _, hs, hc, h => by
    have : cparts = [] := List.eq_nil_of_length_eq_zero (by simpa using hl)
    subst this
    simp only [fillS, Option.some.injEq] at h; subst h
    exact ⟨cur, rfl, hc, hs, rfl⟩
  | (i, v) :: rest, cparts, xs, cur, xs', hl, hp, hs, hc, h => by
    cases cparts with
    | nil => simp at hl
    | cons q crest =>
      obtain ⟨q', hq, h1, h2⟩ := hp 0 (i, v) rfl
      simp only [List.getElem?_cons_zero, Option.some.injEq] at hq
      subst hq
      obtain ⟨qi, qv⟩ := q
      dsimp only at h1 h2
      subst h1
      simp only [fillS] at h
      split at h
      · rename_i hcond
        simp only [Bool.and_eq_true, beq_iff_eq, decide_eq_true_eq] at hcond
        obtain ⟨hbx, hsz, hlt⟩ := hcond
        obtain ⟨hk, hs2, _⟩ := box_cells h2 hbx
        have hfl := flat_length xs hs
        have hle : qi * sz + sz ≤ xs.length * sz := by
          have : (qi + 1) * sz ≤ xs.length * sz := Nat.mul_le_mul_right _ hlt
          rwa [Nat.add_mul, Nat.one_mul] at this
        have hput := hc.put (off := qi * sz) h2 hbx (by rw [hsz, hfl]; exact hle)
        rw [hsz, ← flat_set xs qi v hs hlt] at hput
        obtain ⟨cur', e1, e2, e3, e4⟩ := fillS_rel rest crest (xs.set qi v) _ xs' (by simpa using hl) (fun j p hj => hp (j + 1) p hj)
          (fun x hx => by
            rcases List.mem_or_eq_of_mem_set hx with h | h
            · exact hs x h
            · rw [h]; exact hsz) hput h
        refine ⟨cur', ?_, e2, e3, by simpa using e4⟩
        simp only [Instr.fill]
        rw [if_neg, e1]
        have := hc.1
        rw [Bool.or_eq_true, decide_eq_true_eq, decide_eq_true_eq]
        omega
      · cases h

theorem szA_some {t : TypeId} {n : Nat} (h : szA P t = some n) : ∃ i, P.info? t = some i ∧ i.size = n := by
  unfold szA at h
  cases hi : P.info? t with
  | none => rw [hi] at h; cases h
  | some i => rw [hi] at h; simp only [Option.map_some, Option.some.injEq] at h; exact ⟨i, rfl, h⟩

theorem flat_rep {n sz : Nat} {x : AV} (hx : x.cells.length = sz) (hsz : 0 < sz) {j : Nat} {u : AV} (h : (flat (List.replicate n x))[j]? = some u) : x.cells[j % sz]? = some u := by
  have hs : ∀ y ∈ List.replicate n x, y.cells.length = sz := fun y hy => by rw [List.eq_of_mem_replicate hy]; exact hx
  have hj := (List.getElem?_eq_some_iff.1 h).1
  rw [flat_length _ hs, List.length_replicate] at hj
  have hq : j / sz < n := Nat.div_lt_of_lt_mul (by rwa [Nat.mul_comm])
  have hr : j % sz < sz := Nat.mod_lt _ hsz
  have := flat_getElem (List.replicate n x) (j / sz) (j % sz) hs (by simpa using hq) hr
  have e : j / sz * sz + j % sz = j := by rw [Nat.mul_comm]; exact Nat.div_add_mod j sz
  rw [e, h] at this
  rw [show (List.replicate n x).getD (j / sz) .top = x by simp [List.getD, hq]] at this
  exact this.symm

theorem zero_init {z : Array Value} {acs : List AV} {n sz : Nat} (hz : z.size = sz) (hsz : 0 < sz) {x : AV} (hx : x.cells = acs) (hl : acs.length = sz) (h1 : ∀ u ∈ acs, u.one = true)
    (hr : ∀ i u, acs[i]? = some u → VRel E S w u (z.getD i undef)) :
    CRel E S w (flat (List.replicate n x)) ((Array.range (n * sz)).map (z[· % z.size]!)) := by
  have hs : ∀ y ∈ List.replicate n x, y.cells.length = sz := fun y hy => by rw [List.eq_of_mem_replicate hy, hx]; exact hl
  have hfl := flat_length _ hs
  rw [List.length_replicate] at hfl
  refine ⟨by simp [hfl], fun j u hu => ?_⟩
  have hj : j < n * sz := by rw [← hfl]; exact (List.getElem?_eq_some_iff.1 hu).1
  have h2 := flat_rep (by rw [hx]; exact hl) hsz hu
  rw [hx] at h2
  refine ⟨h1 u (List.mem_of_getElem? h2), ?_⟩
  have h3 := hr _ u h2
  have e : ((Array.range (n * sz)).map (z[· % z.size]!)).getD j undef = z.getD (j % sz) undef := by
    have hm : j % sz < z.size := by rw [hz]; exact Nat.mod_lt _ hsz
    simp [Array.getD, hj, hz]
    rw [getElem!_pos z (j % sz) hm]
    simp [hz ▸ hm]
  rw [e]; exact h3

theorem snd_buildSlice {t e : TypeId} {n sz : Nat} {parts : Array (Nat × Operand)} {z : List AV} {ag : Bool} {xs : List AV} {d : Nat} (ho : o.op = .buildSlice t n parts) (hd : o.dst = some d)
    (hse : sliceT P t = some e) (hs : szA P e = some sz) (hz : zeroA P e = some z) (hag : aggT P e = some ag) (hn24 : n * sz ≤ 16777216) (h0 : 0 < sz) (hc1 : ag = true ∨ sz = 1)
    (hf : fillS sz (List.replicate n (elemA ag z)) (parts.toList.map fun p => (p.1, ev F p.2)) = some xs) (hR : Rel E S w) (hF : FRel E S w F a.tmps)
    (h : if M.own d then K (.sl (.own S.next) sz xs) F S.fresh else K (.sl .ro sz xs) F S) (hn : Cont E S w o a next K) : o.wp P a w next Q := by
  obtain ⟨i, zv, hi, hzz, hzq, h1, hl, hzs⟩ := zeroA_some hz
  obtain ⟨i', hi', hsi⟩ := szA_some hs
  rw [hi] at hi'; cases hi'
  have hzl : z.length = sz := by rw [hl, hsi]
  have hec := elemA_cells (ag := ag) hzl h1 hc1
  obtain ⟨hl', hp'⟩ := args_rel hF parts
  have hinit : CRel E S w (flat (List.replicate n (elemA ag z))) ((Array.range (n * sz)).map (zv.cells[· % zv.cells.size]!)) :=
    zero_init (by rw [hzs, hsi]) h0 hec hzl h1 (fun j u hu => by rw [hzq] at hu; exact zeroCells_rel E S w j u hu)
  have hrs : ∀ y ∈ List.replicate n (elemA ag z), y.cells.length = sz := fun y hy => by rw [List.eq_of_mem_replicate hy, hec]; exact hzl
  obtain ⟨cur', e1, e2, e3, e4⟩ := fillS_rel _ _ _ _ xs hl' hp' hrs hinit hf
  rw [List.length_replicate] at e4
  have hfl := flat_length xs e3
  have hrun : (execOp a.eval o).run P w = .ok (.value (.slice (some ⟨w.heap.size, 0, none⟩) n n)) (w.alloc (.cells cur' e)) := by
    have hle : ¬ (16777216 < n * sz) := by omega
    have e1' : Instr.fill (fun i => some (i * sz, sz)) ((Array.range (n * sz)).map fun x => (if n * sz = 0 then (#[] : Array Value) else zv.cells)[x % (if n * sz = 0 then (#[] : Array Value) else zv.cells).size]!)
        (parts.map fun (i, x) => (i, a.eval x)).toList = some cur' := by
      by_cases hz0 : n * sz = 0
      · have r0 : ∀ f : Nat → Value, (Array.range 0).map f = #[] := fun f => by apply Array.eq_empty_of_size_eq_zero; simp
        rw [hz0] at e1 ⊢; rw [r0] at e1 ⊢; exact e1
      · simp only [if_neg hz0]; exact e1
    by_cases hz0 : n * sz = 0
    · simp only [if_pos hz0] at e1'
      simp only [execOp, ho, Instr.buildSlice, Sem.run_bind, run_underlying (sliceT_some hse), Result.andThen_ok, run_sizeOf hs, gt_iff_lt, Nat.reducePow, hz0, if_true, Nat.not_lt_zero, if_false, Sem.run_pure]
      rw [hz0] at e1'
      simp only [e1', newRow, run_newObj, Sem.run_bind, Result.andThen_ok, Sem.run_pure]
      rfl
    · simp only [if_neg hz0] at e1'
      simp only [execOp, ho, Instr.buildSlice, Sem.run_bind, run_underlying (sliceT_some hse), Result.andThen_ok, run_sizeOf hs, gt_iff_lt, Nat.reducePow, if_neg hle, if_neg hz0, zeroValue, typeInfo, hi, hzz, run_program, Sem.run_pure]
      simp only [e1', newRow, run_newObj, Sem.run_bind, Result.andThen_ok, Sem.run_pure]
      rfl
  have hv0 : ∀ (w' : World) (b : Nat), w'.heap[b]? = some (.cells cur' e (0, 0)) → ∀ j u, (flat xs)[j]? = some u → w'.cell? ⟨b, 0 + j, none⟩ = some (cur'.getD j undef) := by
    intro w' b hb j u hu
    have hj : j < cur'.size := by rw [e2.1]; exact (List.getElem?_eq_some_iff.1 hu).1
    obtain ⟨cv, q1, q2⟩ := arr_get hj
    rw [Nat.zero_add, cell_of_row w' b j cur' e (0, 0) hb, q1, q2]
  have h1' : ∀ u ∈ flat xs, u.one = true := fun u hu => by obtain ⟨j, hj⟩ := List.mem_iff_getElem?.1 hu; exact (e2.2 j u hj).1
  split at h
  · obtain ⟨ev1, hR1⟩ := step_tok hR (.cells cur' e)
    refine wp_val hrun (hn _ _ _ _ _ F ev1 hR1 ?_ (hF.mono ev1) h)
    have := VRel.sl_mem (E := E.addTok S.next (some w.heap.size) 0) (S := S.fresh) (w := w.alloc (.cells cur' e)) (.own S.next) sz xs w.heap.size 0 n (fun j => cur'.getD j undef)
      ⟨Nat.lt_succ_self _, by simp [ASt.fresh], by simp [Env.addTok]⟩ (by omega) e3 h1' (hv0 _ _ (heap_of_alloc_new _ _)) (fun j u hu => (e2.2 j u hu).2.mono ev1)
      (fun t ht => by cases ht; exact ⟨by simp [Env.addTok], cur', e, heap_of_alloc_new _ _, by rw [e2.1, hfl, e4]; omega⟩)
    rwa [e4] at this
  · obtain ⟨ev1, hR1⟩ := step_ro hR (.cells cur' e)
    refine wp_val hrun (hn _ _ _ _ _ F ev1 hR1 ?_ (hF.mono ev1) h)
    have := VRel.sl_mem (E := E.addRo w.heap.size) (S := S) (w := w.alloc (.cells cur' e)) .ro sz xs w.heap.size 0 n (fun j => cur'.getD j undef)
      (.inr rfl) (by omega) e3 h1' (hv0 _ _ (heap_of_alloc_new _ _)) (fun j u hu => (e2.2 j u hu).2.mono ev1) (fun t ht => by cases ht)
    rwa [e4] at this

/-! ### append -/
theorem sl_read {ow : Own} {sz sz2 : Nat} {ys : List AV} {v : Value} (h : VRel E S w (.sl ow sz2 ys) v) (hrd : rdA S ow) (hsz : sz2 = sz ∨ ys = []) :
    ∃ ax cx, v = .slice ax ys.length cx ∧ ys.length ≤ max ys.length cx ∧ ∃ news : List Value, news.length = ys.length * sz ∧
      (∀ w' : World, w'.heap = w.heap → (Builtin.firstCells sz ys.length v).run P w' = .ok news.toArray w') ∧ (∀ u ∈ flat ys, u.one = true) ∧ (∀ y ∈ ys, y.cells.length = sz) ∧
      ∀ j u, (flat ys)[j]? = some u → VRel E S w u (news.getD j undef) := by
  have emp : ∀ a c, ys = [] → v = .slice a 0 c → ∃ ax cx, v = .slice ax ys.length cx ∧ ys.length ≤ max ys.length cx ∧ ∃ news : List Value, news.length = ys.length * sz ∧
      (∀ w' : World, w'.heap = w.heap → (Builtin.firstCells sz ys.length v).run P w' = .ok news.toArray w') ∧ (∀ u ∈ flat ys, u.one = true) ∧ (∀ y ∈ ys, y.cells.length = sz) ∧
      ∀ j u, (flat ys)[j]? = some u → VRel E S w u (news.getD j undef) := by
    rintro a c rfl rfl
    refine ⟨a, c, rfl, Nat.zero_le _, [], by simp, fun w' _ => ?_, by simp [flat], by simp, by simp [flat]⟩
    cases a <;> simp [Builtin.firstCells, loadCells, loadCellsFrom]
  cases h with
  | sl_nil sz' => exact emp none 0 rfl rfl
  | sl_emp sz' a c => exact emp a c rfl rfl
  | sl_own_nil t sz' ht => exact emp none 0 rfl rfl
  | sl_sub_emp t sz' a c ht => exact emp a c rfl rfl
  | sl_dead o' t sz' xs a c ho ht hd => have := rd_tok hrd ho; rw [hd] at this; cases this
  | sl_mem o' sz' xs b off c vs hacc hc hsz' h1 hv hr hroom =>
    by_cases he : ys = []
    · subst he; exact emp _ c rfl rfl
    have hszz : sz2 = sz := by rcases hsz with h | h; exact h; exact absurd h he
    subst hszz
    have hfl := flat_length ys hsz'
    refine ⟨_, c, rfl, Nat.le_max_left _ _, (List.range (ys.length * sz2)).map vs, by simp, fun w' hw => ?_, h1, hsz', fun j u hj => ?_⟩
    · simp only [Builtin.firstCells]
      refine run_loadCells w' _ _ vs (fun j hj => ?_)
      rw [Addr.add_lit]
      have hj' : j < (flat ys).length := by rw [hfl]; exact hj
      have := hv j _ (List.getElem?_eq_getElem hj')
      rw [← this]
      simp [World.cell?, hw]
    · have hj' : j < ys.length * sz2 := by rw [← hfl]; exact (List.getElem?_eq_some_iff.1 hj).1
      have := hr j u hj
      simpa [List.getD, hj'] using this

theorem run_isInt_slice {u e : TypeId} (hu : P.underlying u = some (.slice e)) (w : World) : (do pure ((← underlying u) matches .int _) : Sem Bool).run P w = .ok false w := by
  simp only [Sem.run_bind, run_underlying hu, Result.andThen_ok]; rfl

theorem run_app_room {t u ty e e2 : TypeId} {sz n m c cx : Nat} {ba ax : Option Addr} {news : List Value} (ht : P.underlying t = some (.slice e)) (hu : P.underlying u = some (.slice e2)) (hs : szA P e = some sz)
    (hfirst : (Builtin.firstCells sz m (.slice ax m cx)).run P w = .ok news.toArray w) (hroom : n + m ≤ c) {w' : World}
    (hst : (match ba with | some ad => storeCells (ad.add (n * sz)) news | none => pure ()).run P w = .ok () w') :
    (Builtin.append_ #[t, u] ty #[.slice ba n c, .slice ax m cx]).run P w = .ok (.slice ba (n + m) c) w' := by
  cases ba with
  | none =>
    simp only [Sem.run_pure, Result.ok.injEq, true_and] at hst
    subst hst
    simp [Builtin.append_, run_underlying ht, run_underlying hu, run_sizeOf hs, Builtin.lenOf, hroom, hfirst]
  | some ad =>
    simp only at hst
    simp [Builtin.append_, run_underlying ht, run_underlying hu, run_sizeOf hs, Builtin.lenOf, hroom, hfirst, hst]

theorem run_app_grow {t u ty e e2 : TypeId} {i : TypeInfo} {z : Value} {n m c cx : Nat} {ba ax : Option Addr} {olds news : List Value} (ht : P.underlying t = some (.slice e)) (hu : P.underlying u = some (.slice e2))
    (hi : P.info? e = some i) (hz : i.zero = some z)
    (hfirst : (Builtin.firstCells i.size m (.slice ax m cx)).run P w.drew = .ok news.toArray w.drew) (hold : (Builtin.firstCells i.size n (.slice ba n c)).run P w.drew = .ok olds.toArray w.drew)
    (hg : c < n + m) (h63 : ((n + m : Nat) : Int) ≤ 9223372036854775807) (hfit : Builtin.nextslicecap (n + m) c * i.bytes ≤ 281474976710656) :
    (Builtin.append_ #[t, u] ty #[.slice ba n c, .slice ax m cx]).run P w =
      .ok (.slice (some ⟨w.heap.size, 0, none⟩) (n + m) (grownCap w (n + m) c e)) (w.drew.alloc (.cells (olds.toArray ++ news.toArray ++ Builtin.zeroCells z.cells (grownCap w (n + m) c e - (n + m))) e)) := by
  have hn : ¬ (n + m ≤ c) := by omega
  have h63' : ¬ (9223372036854775807 < ((n : Int) + (m : Int))) := by omega
  have h48' : ¬ (281474976710656 < Builtin.nextslicecap (n + m) c * i.bytes) := by omega
  simp [Builtin.append_, run_underlying ht, run_underlying hu, sizeOf, typeInfo, zeroValue, hi, hz, Builtin.lenOf, hn, h63', h48', Question.forced, newRow, grownCap, hfirst, hold, -Array.append_assoc, -List.append_toArray]
end
end Go.Proofs.Ythpomdoaiibnfaa.Abs

namespace Go.Proofs.Ythpomdoaiibnfaa.Abs
open Go Go.RowKit
set_option linter.unusedVariables false
set_option linter.unusedSimpArgs false

section
variable {P : Program} {M : Modes} {E : Env} {S : ASt} {w : World} {o : Oper} {a : Act} {next : Act → World → Prop} {Q : Exit → Act → World → Prop} {F : List AV} {K : AV → List AV → ASt → Prop}

theorem byA_some {t : TypeId} {n : Nat} (h : byA P t = some n) : ∃ i, P.info? t = some i ∧ i.bytes = n := by
  unfold byA at h
  cases hi : P.info? t with
  | none => rw [hi] at h; cases h
  | some i => rw [hi] at h; simp only [Option.map_some, Option.some.injEq] at h; exact ⟨i, rfl, h⟩

theorem getD_append (xs ys : List Value) (j : Nat) : (xs ++ ys).getD j undef = if j < xs.length then xs.getD j undef else ys.getD (j - xs.length) undef := by
  simp only [List.getD]
  split
  · rw [List.getElem?_append_left (by assumption)]
  · rw [List.getElem?_append_right (by omega)]

/-- What a slice that may be appended to is: nil, or a row. -/
theorem own_read {tk sz1 : Nat} {xs : List AV} {v : Value} (h : VRel E S w (.sl (.own tk) sz1 xs) v) (hl : S.live tk = true) :
    (xs = [] ∧ v = .slice none 0 0) ∨ ∃ (b off c : Nat) (cur : Array Value) (e : TypeId) (vs : Nat → Value), v = .slice (some ⟨b, off, none⟩) xs.length c ∧ tk < S.next ∧ E.be tk = some b ∧ off = E.off tk ∧ xs.length ≤ c ∧ w.heap[b]? = some (.cells cur e (0, 0)) ∧
      off + c * sz1 ≤ cur.size ∧ (∀ x ∈ xs, x.cells.length = sz1) ∧ (∀ u ∈ flat xs, u.one = true) ∧ (∀ j u, (flat xs)[j]? = some u → cur[off + j]? = some (vs j)) ∧ (∀ j u, (flat xs)[j]? = some u → VRel E S w u (vs j)) := by
  cases h with
  | sl_own_nil t sz' ht => exact .inl ⟨rfl, rfl⟩
  | sl_dead o' t sz' xs a c ho ht hd => cases ho; rw [hl] at hd; cases hd
  | sl_mem o' sz' xs b off c vs hacc hc hsz' h1 hv hr hroom =>
    obtain ⟨h0, cur, e, hcur, hfit⟩ := hroom tk rfl
    refine .inr ⟨b, off, c, cur, e, vs, rfl, hacc.1, hacc.2.2, h0, hc, hcur, hfit, hsz', h1, fun j u hj => ?_, hr⟩
    rw [← cell_of_row w b (off + j) cur e (0, 0) hcur]; exact hv j u hj

/-- The new row behind an append that makes one. -/
theorem new_row {sz n : Nat} {zs : List AV} {cur : Array Value} {e : TypeId} {olds : List Value} {rest : Array Value} (hR : Rel E S w) (hs : ∀ x ∈ zs, x.cells.length = sz) (h1 : ∀ u ∈ flat zs, u.one = true)
    (hl : olds.length = zs.length * sz) (hr : ∀ j u, (flat zs)[j]? = some u → VRel E S w u (olds.getD j undef)) (hc : zs.length ≤ n) (hcur : cur = olds.toArray ++ rest) (hsz : rest.size = (n - zs.length) * sz) :
    ∃ E', Evolves E S w E' S.fresh (w.drew.alloc (.cells cur e)) ∧ Rel E' S.fresh (w.drew.alloc (.cells cur e)) ∧
      VRel E' S.fresh (w.drew.alloc (.cells cur e)) (.sl (.own S.next) sz zs) (.slice (some ⟨w.heap.size, 0, none⟩) zs.length n) := by
  obtain ⟨ev0, hR0⟩ := step_drew hR
  obtain ⟨ev1, hR1⟩ := step_tok hR0 (.cells cur e)
  have ev2 := ev0.trans ev1
  have hfl := flat_length zs hs
  refine ⟨_, ev2, hR1, ?_⟩
  have hn := heap_of_alloc_new w.drew (.cells cur e)
  refine VRel.sl_mem (.own S.next) sz zs w.heap.size 0 n (fun j => olds.getD j undef) ⟨Nat.lt_succ_self _, by simp [ASt.fresh], by simp [Env.addTok]⟩ hc hs h1 ?_ (fun j u hj => (hr j u hj).mono ev2) ?_
  · intro j u hj
    have hj' : j < olds.length := by rw [hl, ← hfl]; exact (List.getElem?_eq_some_iff.1 hj).1
    rw [Nat.zero_add, cell_of_row (w.drew.alloc (.cells cur e)) w.heap.size j cur e (0, 0) hn, hcur, Array.getElem?_append_left (by simpa using hj')]
    simp [List.getD, hj']
  · intro t ht
    cases ht
    refine ⟨by simp [Env.addTok], cur, e, hn, ?_⟩
    rw [hcur, Array.size_append, List.size_toArray, hl, hsz, Nat.zero_add]
    rw [← Nat.add_mul]
    exact Nat.mul_le_mul_right _ (by omega)

theorem snd_append_nil {t u e : TypeId} {s x : Operand} {sz by_ sz1 sz2 : Nat} {z ys xs : List AV} {o2 : Own}
    (ho : o.op = .call { callee := .builtin .append, args := #[s, x], argTypes := #[t, u] })
    (hse : sliceT P t = some e) (hs : szA P e = some sz) (hb : byA P e = some by_) (hz : zeroA P e = some z) (h0 : 0 < sz) (hby : by_ ≤ 65536)
    (hes : ev F s = .sl .nil sz1 xs) (hex : ev F x = .sl o2 sz2 ys) (hu : (sliceT P u).isSome = true) (hlen : xs.length + ys.length ≤ 1073741824) (hrd : rdA S o2) (hsz : sz2 = sz ∨ ys = [])
    (hR : Rel E S w) (hF : FRel E S w F a.tmps) (h : K (.sl (.own S.next) sz ys) F S.fresh) (hn : Cont E S w o a next K) : o.wp P a w next Q := by
  have hsr := ev_rel hF s
  have hxr := ev_rel hF x
  rw [hes] at hsr; rw [hex] at hxr
  obtain ⟨i, zv, hi, hzz, hzq, hz1, hzl, hzs⟩ := zeroA_some hz
  obtain ⟨i', hi', hsi⟩ := szA_some hs
  rw [hi] at hi'; cases hi'
  obtain ⟨i', hi', hbi⟩ := byA_some hb
  rw [hi] at hi'; cases hi'
  obtain ⟨e2, he2⟩ := Option.isSome_iff_exists.1 hu
  have hqs : a.eval s = .slice none 0 0 ∧ xs = [] := by
    generalize hq : a.eval s = cv at hsr
    cases hsr with
    | sl_nil sz => exact ⟨rfl, rfl⟩
    | sl_mem o' sz' xs' b off c vs hacc => exact hacc.elim
    | sl_dead o' t sz xs a' c ho => cases ho
  obtain ⟨hqs, rfl⟩ := hqs
  obtain ⟨ax, cx, hqx, _, news, hnl, hfirst, hone, hcs, hnr⟩ := sl_read (P := P) hxr hrd hsz
  rw [hqx] at hfirst
  have hex' : ∀ cv w', (Builtin.append_ #[t, u] o.type #[.slice none 0 0, .slice ax ys.length cx]).run P w = .ok cv w' → (execOp a.eval o).run P w = .ok (.value cv) w' := by
    intro cv w' hr
    simp only [execOp, ho, resolve, invoke, builtin, Sem.run_bind, Sem.run_pure, Result.andThen_ok, List.map_toArray, List.map_cons, List.map_nil, hqs, hqx, hr]
  by_cases hm : ys = []
  · subst hm
    have hn0 : news = [] := List.eq_nil_of_length_eq_zero (by simpa using hnl)
    subst hn0
    have hr := run_app_room (P := P) (w := w) (ty := o.type) (t := t) (u := u) (n := 0) (c := 0) (ba := none) (sliceT_some hse) (sliceT_some he2) hs (hfirst w rfl) (by simp) (w' := w) (by simp)
    obtain ⟨ev1, hR1⟩ := step_tok_nil hR
    refine wp_val (hex' _ _ hr) (hn _ _ _ _ _ F ev1 hR1 ?_ (hF.mono ev1) h)
    exact VRel.sl_own_nil S.next sz (Nat.lt_succ_self _)
  · have hm0 : 0 < ys.length := List.length_pos_iff.2 hm
    have hbb : (0 + ys.length) * i.bytes ≤ 140737488355328 := by
      rw [hbi, Nat.zero_add]
      calc ys.length * by_ ≤ 1073741824 * 65536 := Nat.mul_le_mul (by simpa using hlen) hby
        _ ≤ 140737488355328 := by decide
    have hr := run_app_grow (P := P) (w := w) (ty := o.type) (t := t) (u := u) (n := 0) (c := 0) (ba := none) (olds := []) (news := news) (sliceT_some hse) (sliceT_some he2) hi hzz (by rw [hsi]; exact hfirst w.drew rfl)
      (by simp [Builtin.firstCells]) (by omega) (by simp at hlen ⊢; omega) (growslice_fits (by omega) hbb)
    rw [Nat.zero_add] at hr
    obtain ⟨E', ev1, hR1, hv⟩ := new_row (n := grownCap w ys.length 0 e) (e := e) (cur := ([] : List Value).toArray ++ news.toArray ++ Builtin.zeroCells zv.cells (grownCap w ys.length 0 e - ys.length))
      (rest := Builtin.zeroCells zv.cells (grownCap w ys.length 0 e - ys.length)) hR hcs hone hnl hnr (grownCap_ge w ys.length 0 e) (by simp) (by rw [size_zeroCells, hzs, hsi])
    exact wp_val (hex' _ _ hr) (hn _ _ _ _ _ F ev1 hR1 hv (hF.mono ev1) h)

theorem snd_append_own {t u e : TypeId} {s x : Operand} {sz by_ sz2 tk : Nat} {z ys xs : List AV} {o2 : Own}
    (ho : o.op = .call { callee := .builtin .append, args := #[s, x], argTypes := #[t, u] })
    (hse : sliceT P t = some e) (hs : szA P e = some sz) (hb : byA P e = some by_) (hz : zeroA P e = some z) (h0 : 0 < sz) (hby : by_ ≤ 65536)
    (hes : ev F s = .sl (.own tk) sz xs) (hlive : S.live tk = true) (hex : ev F x = .sl o2 sz2 ys) (hu : (sliceT P u).isSome = true) (hlen : xs.length + ys.length ≤ 1073741824) (hrd : rdA S o2) (hsz : sz2 = sz ∨ ys = [])
    (hR : Rel E S w) (hF : FRel E S w F a.tmps) (h : K (.sl (.own S.next) sz (xs ++ ys)) F (S.kill tk).fresh) (hn : Cont E S w o a next K) : o.wp P a w next Q := by
  have hsr := ev_rel hF s
  have hxr := ev_rel hF x
  rw [hes] at hsr; rw [hex] at hxr
  obtain ⟨i, zv, hi, hzz, hzq, hz1, hzl, hzs⟩ := zeroA_some hz
  obtain ⟨i', hi', hsi⟩ := szA_some hs
  rw [hi] at hi'; cases hi'
  obtain ⟨i', hi', hbi⟩ := byA_some hb
  rw [hi] at hi'; cases hi'
  obtain ⟨e2, he2⟩ := Option.isSome_iff_exists.1 hu
  obtain ⟨ax, cx, hqx, _, news, hnl, hfirst, hone, hcs, hnr⟩ := sl_read (P := P) hxr hrd hsz
  rw [hqx] at hfirst
  have hbb : (xs.length + ys.length) * i.bytes ≤ 140737488355328 := by
    rw [hbi]
    calc (xs.length + ys.length) * by_ ≤ 1073741824 * 65536 := Nat.mul_le_mul hlen hby
      _ ≤ 140737488355328 := by decide
  have hex' : ∀ sv cv w', a.eval s = sv → (Builtin.append_ #[t, u] o.type #[sv, .slice ax ys.length cx]).run P w = .ok cv w' → (execOp a.eval o).run P w = .ok (.value cv) w' := by
    intro sv cv w' hqs hr
    simp only [execOp, ho, resolve, invoke, builtin, Sem.run_bind, Sem.run_pure, Result.andThen_ok, List.map_toArray, List.map_cons, List.map_nil, hqs, hqx, hr]
  have hkill := step_kill hR tk hlive (w' := w) rfl rfl rfl rfl (fun b _ => rfl)
  rcases own_read hsr hlive with ⟨rfl, hqs⟩ | ⟨b, off, c, cur, et, vs, hqs, htk, hbe, hoff, hc, hcur, hfit, hxs, hx1, hxv, hxr'⟩
  · -- nil so far
    obtain ⟨ev0, hR0⟩ := hkill
    simp only [List.nil_append] at h
    by_cases hm : ys = []
    · subst hm
      have hn0 : news = [] := List.eq_nil_of_length_eq_zero (by simpa using hnl)
      subst hn0
      have hr := run_app_room (P := P) (w := w) (ty := o.type) (t := t) (u := u) (n := 0) (c := 0) (ba := none) (sliceT_some hse) (sliceT_some he2) hs (hfirst w rfl) (by simp) (w' := w) (by simp)
      obtain ⟨ev1, hR1⟩ := step_tok_nil hR0
      refine wp_val (hex' _ _ _ hqs hr) (hn _ _ _ _ _ F (ev0.trans ev1) hR1 ?_ (hF.mono (ev0.trans ev1)) h)
      exact VRel.sl_own_nil S.next sz (Nat.lt_succ_self _)
    · have hm0 : 0 < ys.length := List.length_pos_iff.2 hm
      have hr := run_app_grow (P := P) (w := w) (ty := o.type) (t := t) (u := u) (n := 0) (c := 0) (ba := none) (olds := []) (news := news) (sliceT_some hse) (sliceT_some he2) hi hzz (by rw [hsi]; exact hfirst w.drew rfl)
        (by simp [Builtin.firstCells]) (by omega) (by simp at hlen ⊢; omega) (growslice_fits (by omega) (by simpa using hbb))
      rw [Nat.zero_add] at hr
      obtain ⟨E', ev1, hR1, hv⟩ := new_row (n := grownCap w ys.length 0 e) (e := e) (cur := ([] : List Value).toArray ++ news.toArray ++ Builtin.zeroCells zv.cells (grownCap w ys.length 0 e - ys.length))
        (rest := Builtin.zeroCells zv.cells (grownCap w ys.length 0 e - ys.length)) hR0 hcs hone hnl (fun j u hj => (hnr j u hj).mono ev0) (grownCap_ge w ys.length 0 e) (by simp) (by rw [size_zeroCells, hzs, hsi])
      exact wp_val (hex' _ _ _ hqs hr) (hn _ _ _ _ _ F (ev0.trans ev1) hR1 hv (hF.mono (ev0.trans ev1)) h)
  · have hxfl := flat_length xs hxs
    have hyfl := flat_length ys hcs
    have hxys : ∀ x ∈ xs ++ ys, x.cells.length = sz := by
      intro x hx; rcases List.mem_append.1 hx with hx | hx; exact hxs x hx; exact hcs x hx
    have hone' : ∀ u ∈ flat (xs ++ ys), u.one = true := by
      intro u hu; rw [flat_append] at hu; rcases List.mem_append.1 hu with hu | hu; exact hx1 u hu; exact hone u hu
    have hn1 : ∀ v ∈ news, v.oneCell' = true := by
      intro v hv
      obtain ⟨j, hj⟩ := List.mem_iff_getElem?.1 hv
      have hjl : j < (flat ys).length := by rw [hyfl, ← hnl]; exact (List.getElem?_eq_some_iff.1 hj).1
      have h2 := hnr j _ (List.getElem?_eq_getElem hjl)
      have : news.getD j undef = v := by simp [List.getD, hj]
      rw [this] at h2
      exact h2.one (hone _ (List.getElem_mem hjl))
    by_cases hroom : xs.length + ys.length ≤ c
    · -- in place
      have hfit' : off + xs.length * sz + news.length ≤ cur.size := by
        rw [hnl]
        have : xs.length * sz + ys.length * sz ≤ c * sz := by rw [← Nat.add_mul]; exact Nat.mul_le_mul_right _ hroom
        omega
      have hst := run_storeCells_at P b (off + xs.length * sz) et news 0 cur w hcur (by simpa using hfit') hn1
      simp only [Nat.add_zero] at hst
      have hr := run_app_room (P := P) (w := w) (ty := o.type) (t := t) (u := u) (n := xs.length) (c := c) (ba := some ⟨b, off, none⟩) (sliceT_some hse) (sliceT_some he2) hs (hfirst w rfl) hroom
        (by simp only [Addr.add_lit]; exact hst)
      obtain ⟨ev1, hR1⟩ := step_pass hR tk hlive (w' := w.setRow b (cur.toList.take (off + xs.length * sz) ++ news ++ cur.toList.drop (off + xs.length * sz + news.length)).toArray) rfl rfl rfl (by simp)
        (fun b' hb' => setRow_other w b b' _ (fun he => hb' (he ▸ hbe)))
      refine wp_val (hex' _ _ _ hqs hr) (hn _ _ _ _ _ F ev1 hR1 ?_ (hF.mono ev1) h)
      have hnew := setRow_heap w b cur (cur.toList.take (off + xs.length * sz) ++ news ++ cur.toList.drop (off + xs.length * sz + news.length)).toArray et (0, 0) hcur
      rw [← List.length_append]
      refine VRel.sl_mem (.own S.next) sz (xs ++ ys) b off c (fun j => if j < xs.length * sz then vs j else news.getD (j - xs.length * sz) undef)
        ⟨Nat.lt_succ_self _, by simp [ASt.fresh, ASt.kill], by simp [Env.addTok, hbe]⟩ (by simpa using hroom) hxys hone' ?_ ?_ ?_
      · intro j u hj
        rw [cell_of_row _ b (off + j) _ et (0, 0) hnew]
        rw [flat_append] at hj
        have hcl : off + xs.length * sz ≤ cur.toList.length := by simp; omega
        by_cases h1 : j < xs.length * sz
        · rw [if_pos h1]
          rw [List.getElem?_append_left (by rw [hxfl]; exact h1)] at hj
          have := hxv j u hj
          rw [List.getElem?_toArray, List.append_assoc, List.getElem?_append_left (by rw [List.length_take]; omega), List.getElem?_take, if_pos (by omega), Array.getElem?_toList]
          exact this
        · rw [if_neg h1]
          rw [List.getElem?_append_right (by rw [hxfl]; omega), hxfl] at hj
          have hjl : j - xs.length * sz < news.length := by rw [hnl, ← hyfl]; exact (List.getElem?_eq_some_iff.1 hj).1
          rw [List.getElem?_toArray, List.append_assoc, List.getElem?_append_right (by rw [List.length_take]; omega), List.length_take, Nat.min_eq_left hcl, List.getElem?_append_left (by omega)]
          rw [show off + j - (off + xs.length * sz) = j - xs.length * sz by omega]
          simp [List.getD, List.getElem?_eq_getElem hjl]
      · intro j u hj
        rw [flat_append] at hj
        by_cases h1 : j < xs.length * sz
        · rw [if_pos h1]
          rw [List.getElem?_append_left (by rw [hxfl]; exact h1)] at hj
          exact (hxr' j u hj).mono ev1
        · rw [if_neg h1]
          rw [List.getElem?_append_right (by rw [hxfl]; omega), hxfl] at hj
          exact (hnr _ u hj).mono ev1
      · intro t' ht'
        cases ht'
        refine ⟨by simp [Env.addTok, hoff], _, et, hnew, ?_⟩
        simp only [List.size_toArray, List.length_append, List.length_take, List.length_drop, Array.length_toList]
        omega
    · -- a new row
      obtain ⟨ev0, hR0⟩ := hkill
      have hcl : off + xs.length * sz ≤ cur.size := by
        have : xs.length * sz ≤ c * sz := Nat.mul_le_mul_right _ hc
        omega
      have hold : (Builtin.firstCells i.size xs.length (.slice (some ⟨b, off, none⟩) xs.length c)).run P w.drew = .ok ((List.range (xs.length * sz)).map vs).toArray w.drew := by
        simp only [Builtin.firstCells, hsi]
        refine run_loadCells w.drew _ _ vs (fun j hj => ?_)
        have hj' : j < (flat xs).length := by rw [hxfl]; exact hj
        have := hxv j _ (List.getElem?_eq_getElem hj')
        rw [Addr.add_lit, World.cell?_drew, cell_of_row w b (off + j) cur et (0, 0) hcur]; exact this
      have hr := run_app_grow (P := P) (w := w) (ty := o.type) (t := t) (u := u) (n := xs.length) (c := c) (ba := some ⟨b, off, none⟩) (news := news) (sliceT_some hse) (sliceT_some he2) hi hzz (by rw [hsi]; exact hfirst w.drew rfl)
        hold (by omega) (by omega) (growslice_fits (by omega) hbb)
      obtain ⟨E', ev1, hR1, hv⟩ := new_row (zs := xs ++ ys) (n := grownCap w (xs.length + ys.length) c e) (e := e)
        (cur := ((List.range (xs.length * sz)).map vs).toArray ++ news.toArray ++ Builtin.zeroCells zv.cells (grownCap w (xs.length + ys.length) c e - (xs.length + ys.length)))
        (olds := (List.range (xs.length * sz)).map vs ++ news) (rest := Builtin.zeroCells zv.cells (grownCap w (xs.length + ys.length) c e - (xs.length + ys.length))) hR0 hxys hone'
        (by rw [List.length_append, List.length_append, hnl]; simp [Nat.add_mul]) (by
          intro j u hj
          rw [flat_append] at hj
          rw [getD_append]
          by_cases h1 : j < xs.length * sz
          · rw [if_pos (by simpa using h1)]
            rw [List.getElem?_append_left (by rw [hxfl]; exact h1)] at hj
            have : ((List.range (xs.length * sz)).map vs).getD j undef = vs j := by simp [List.getD, h1]
            rw [this]
            exact (hxr' j u hj).mono ev0
          · rw [if_neg (by simpa using h1)]
            rw [List.getElem?_append_right (by rw [hxfl]; omega), hxfl] at hj
            have := (hnr _ u hj).mono ev0
            simpa using this)
        (by rw [List.length_append]; exact grownCap_ge w _ c e) (by simp) (by rw [size_zeroCells, hzs, hsi, List.length_append])
      rw [List.length_append] at hv
      exact wp_val (hex' _ _ _ hqs hr) (hn _ _ _ _ _ F (ev0.trans ev1) hR1 hv (hF.mono (ev0.trans ev1)) h)
end
end Go.Proofs.Ythpomdoaiibnfaa.Abs

namespace Go.Proofs.Ythpomdoaiibnfaa.Abs
open Go Go.RowKit
set_option linter.unusedVariables false
set_option linter.unusedSimpArgs false

theorem wrap_i64 {n : Int} (h1 : -9223372036854775808 ≤ n) (h2 : n < 9223372036854775808) : IntKind.wrap .i64 n = n := by
  exact IntWalk.i64_in n ⟨h1, by omega⟩

section
variable {P : Program} {M : Modes} {E : Env} {S : ASt} {w : World} {o : Oper} {a : Act} {next : Act → World → Prop} {Q : Exit → Act → World → Prop} {F : List AV} {K : AV → List AV → ASt → Prop}

theorem snd_append_zeros {t u e : TypeId} {s x : Operand} {sz by_ sz1 : Nat} {z xs : List AV} {k : IntKind} {n : Int}
    (ho : o.op = .call { callee := .builtin .append, args := #[s, x], argTypes := #[t, u] })
    (hse : sliceT P t = some e) (hs : szA P e = some sz) (hb : byA P e = some by_) (hz : zeroA P e = some z) (hby : by_ ≤ 65536)
    (hes : ev F s = .sl .nil sz1 xs) (hex : ev F x = .int k n) (hu : (intT P u).isSome = true) (hsz : sz = 1) (hn0 : 0 < n) (hn1 : n ≤ 1073741824)
    (hR : Rel E S w) (hF : FRel E S w F a.tmps) (h : K (.sl (.own S.next) sz (List.replicate n.toNat (z.getD 0 .top))) F S.fresh) (hn : Cont E S w o a next K) : o.wp P a w next Q := by
  have hsr := ev_rel hF s
  have hxr := ev_rel hF x
  rw [hes] at hsr; rw [hex] at hxr
  obtain ⟨i, zv, hi, hzz, hzq, hz1, hzl, hzs⟩ := zeroA_some hz
  obtain ⟨i', hi', hsi⟩ := szA_some hs
  rw [hi] at hi'; cases hi'
  obtain ⟨i', hi', hbi⟩ := byA_some hb
  rw [hi] at hi'; cases hi'
  obtain ⟨k', hk'⟩ := Option.isSome_iff_exists.1 hu
  have hqs : a.eval s = .slice none 0 0 := by
    generalize hq : a.eval s = cv at hsr
    cases hsr with
    | sl_nil sz => rfl
    | sl_mem o' sz' xs' b off c vs hacc => exact hacc.elim
    | sl_dead o' t sz xs a' c ho => cases ho
  have hqx : a.eval x = .int k n := by cases hq : a.eval x <;> rw [hq] at hxr <;> cases hxr <;> rfl
  have hw : IntKind.wrap .i64 n = n := wrap_i64 (by omega) (by omega)
  have hex' : ∀ cv w', (Builtin.append_ #[t, u] o.type #[.slice none 0 0, .int k n]).run P w = .ok cv w' → (execOp a.eval o).run P w = .ok (.value cv) w' := by
    intro cv w' hr
    simp only [execOp, ho, resolve, invoke, builtin, Sem.run_bind, Sem.run_pure, Result.andThen_ok, List.map_toArray, List.map_cons, List.map_nil, hqs, hqx, hr]
  have hneg : ¬ n < 0 := by omega
  have hbig : ¬ (281474976710656 < n * (i.bytes : Int)) := by
    rw [hbi]
    have h1 : n * (by_ : Int) ≤ 1073741824 * 65536 := by
      have : (by_ : Int) ≤ 65536 := by omega
      calc n * (by_ : Int) ≤ 1073741824 * (by_ : Int) := Int.mul_le_mul_of_nonneg_right hn1 (by omega)
        _ ≤ 1073741824 * 65536 := Int.mul_le_mul_of_nonneg_left this (by omega)
    omega
  have hpos : 0 < n.toNat := by omega
  have hbb : (0 + n.toNat) * i.bytes ≤ 140737488355328 := by
    rw [hbi, Nat.zero_add]
    calc n.toNat * by_ ≤ 1073741824 * 65536 := Nat.mul_le_mul (by omega) hby
      _ ≤ 140737488355328 := by decide
  have hfit := growslice_fits (old := 0) (need := n.toNat) (bytes := i.bytes) hpos (by simpa using hbb)
  have h48' : ¬ (281474976710656 < Builtin.nextslicecap n.toNat 0 * i.bytes) := by omega
  have h63' : ¬ (9223372036854775807 < ((n.toNat : Nat) : Int)) := by omega
  have hne : n.toNat ≠ 0 := by omega
  have hr : (Builtin.append_ #[t, u] o.type #[.slice none 0 0, .int k n]).run P w =
      .ok (.slice (some ⟨w.heap.size, 0, none⟩) n.toNat (grownCap w n.toNat 0 e)) (w.drew.alloc (.cells (Builtin.zeroCells zv.cells n.toNat ++ Builtin.zeroCells zv.cells (grownCap w n.toNat 0 e - n.toNat)) e)) := by
    have hne' : ¬ n ≤ 0 := by omega
    have h3 : ¬ (9223372036854775807 < max n 0) := by omega
    simp [Builtin.append_, run_underlying (sliceT_some hse), run_underlying (intT_some hk'), sizeOf, asInt, asIntOf, hw, typeInfo, hi, hzz, hneg, hbig, hne, hsi, hsz, zeroValue, Question.forced, newRow, grownCap, h48', h3, Builtin.firstCells, hne']
  have hz0 : z.length = 1 := by rw [hzl, hsi, hsz]
  have hzv : zv.cells.size = 1 := by rw [hzs, hsi, hsz]
  have hel : (z.getD 0 .top).one = true ∧ VRel E S w (z.getD 0 .top) (zv.cells.getD 0 undef) := by
    have hget : z[0]? = some (z.getD 0 .top) := by
      have : 0 < z.length := by omega
      simp [List.getD, this]
    refine ⟨hz1 _ (List.mem_of_getElem? hget), ?_⟩
    rw [hzq] at hget ⊢
    exact zeroCells_rel E S w 0 _ hget
  have hcl : (z.getD 0 .top).cells = [z.getD 0 .top] := by
    have := hel.1
    cases hq : z.getD 0 .top <;> rw [hq] at this <;> simp [AV.one] at this <;> rfl
  have hzc : Builtin.zeroCells zv.cells n.toNat = ((List.range n.toNat).map fun _ => zv.cells.getD 0 undef).toArray := by
    apply Array.ext'
    simp only [Builtin.zeroCells, hzv, Nat.mul_one, Array.toList_map, Array.toList_range]
    apply List.map_congr_left
    intro j _
    have : 0 < zv.cells.size := by omega
    simp only [Nat.mod_one]
    rw [getElem!_pos zv.cells 0 this]
    simp [Array.getD, this]
  subst hsz
  have hfl : flat (List.replicate n.toNat (z.getD 0 .top)) = List.replicate n.toNat (z.getD 0 .top) := by
    generalize n.toNat = m
    induction m with
    | zero => rfl
    | succ m ih => simp only [flat, List.replicate_succ, List.flatMap_cons, hcl, List.singleton_append] at ih ⊢; rw [ih]
  obtain ⟨E', ev1, hR1, hv⟩ := new_row (sz := 1) (zs := List.replicate n.toNat (z.getD 0 .top)) (n := grownCap w n.toNat 0 e) (e := e)
    (cur := Builtin.zeroCells zv.cells n.toNat ++ Builtin.zeroCells zv.cells (grownCap w n.toNat 0 e - n.toNat))
    (olds := (List.range n.toNat).map fun _ => zv.cells.getD 0 undef) (rest := Builtin.zeroCells zv.cells (grownCap w n.toNat 0 e - n.toNat)) hR
    (fun y hy => by rw [List.eq_of_mem_replicate hy, hcl]; rfl) (by rw [hfl]; intro u hu; rw [List.eq_of_mem_replicate hu]; exact hel.1) (by simp)
    (by
      intro j u hj
      rw [hfl] at hj
      have hjl := (List.getElem?_eq_some_iff.1 hj).1
      rw [List.length_replicate] at hjl
      have hu' : u = z.getD 0 .top := List.eq_of_mem_replicate (List.mem_of_getElem? hj)
      subst hu'
      have : ((List.range n.toNat).map fun _ => zv.cells.getD 0 undef).getD j undef = zv.cells.getD 0 undef := by simp [List.getD, hjl]
      rw [this]; exact hel.2)
    (by rw [List.length_replicate]; exact grownCap_ge w _ 0 e) (by rw [hzc]) (by rw [size_zeroCells, hzv, List.length_replicate])
  rw [List.length_replicate] at hv
  exact wp_val (hex' _ _ hr) (hn _ _ _ _ _ F ev1 hR1 hv (hF.mono ev1) h)

theorem snd_store_ep {t : TypeId} {ad x : Operand} {tk sz i k s : Nat} {xs : List AV} (ho : o.op = .store t ad x) (had : ev F ad = .eptr (.own tk) sz xs i k) (hsl : F.getD s .top = .sl (.own tk) sz xs) (hlive : S.live tk = true)
    (h1x : (ev F x).one = true) (hsz1 : szA P t = some 1) (hk : k < sz) (hR : Rel E S w) (hF : FRel E S w F a.tmps)
    (h : K .top (F.set s (.sl (.own S.next) sz (xs.set i ((xs.getD i .top).putCell k (ev F x))))) (S.kill tk).fresh) (hn : Cont E S w o a next K) : o.wp P a w next Q := by
  have hx := ev_rel hF x
  have hadr := ev_rel hF ad
  rw [had] at hadr
  have hsr := hF.2 s
  rw [hsl] at hsr
  -- the pointer
  obtain ⟨b, off, cur0, et0, hqa, hi, hbe, hoff, hcur0, hxs, hx1⟩ : ∃ (b off : Nat) (cur : Array Value) (et : TypeId), a.eval ad = .pointer (some ⟨b, off + i * sz + k, none⟩) ∧ i < xs.length ∧ E.be tk = some b ∧ off = E.off tk ∧
      w.heap[b]? = some (.cells cur et (0, 0)) ∧ (∀ x ∈ xs, x.cells.length = sz) ∧ (∀ u ∈ flat xs, u.one = true) := by
    generalize hq : a.eval ad = cv at hadr
    cases hadr with
    | ep_dead o' t' sz' xs' i' k' a' ho' ht hd => cases ho'; rw [hlive] at hd; cases hd
    | ep_mem o' sz' xs' i' k' b off vs hacc hi hsz' h1 hv hr hroom =>
      obtain ⟨h0, cur, et, hcur⟩ := hroom tk rfl
      exact ⟨b, off, cur, et, rfl, hi, hacc.2.2, h0, hcur, hsz', h1⟩
  rcases own_read hsr hlive with ⟨rfl, hqs⟩ | ⟨b', off', c, cur, et, vs, hqs, htk, hbe', hoff', hc, hcur, hfit, hxs', hx1', hxv, hxr⟩
  · simp at hi
  rw [hbe] at hbe'; cases hbe'
  subst hoff
  subst hoff'
  have hfl := flat_length xs hxs
  have hpos : i * sz + k < xs.length * sz := by
    have : (i + 1) * sz ≤ xs.length * sz := Nat.mul_le_mul_right _ hi
    rw [Nat.add_mul, Nat.one_mul] at this; omega
  have hin : E.off tk + i * sz + k < cur.size := by
    have : xs.length * sz ≤ c * sz := Nat.mul_le_mul_right _ hc
    omega
  have h1v : (a.eval x).oneCell' = true := hx.one h1x
  have hcells : (a.eval x).cells = #[a.eval x] := by cases hq : a.eval x <;> rw [hq] at h1v <;> simp [Value.oneCell'] at h1v <;> rfl
  have hst := run_storeCells_at P b (E.off tk + i * sz + k) et [a.eval x] 0 cur w hcur (by simp; omega) (by simpa using h1v)
  simp only [Nat.add_zero] at hst
  have hrun : (execOp a.eval o).run P w = .ok .skip (w.setRow b (cur.toList.take (E.off tk + i * sz + k) ++ [a.eval x] ++ cur.toList.drop (E.off tk + i * sz + k + 1)).toArray) := by
    simp only [execOp, ho, hqa, Instr.storeAt, Instr.sureAddr, storeVar, Sem.run_bind, Sem.run_pure, Result.andThen_ok, run_sizeOf hsz1, hcells, List.size_toArray, List.length_cons, List.length_nil, Nat.zero_add, ne_eq, not_true_eq_false, if_false, hst]
  obtain ⟨ev1, hR1⟩ := step_pass hR tk hlive (w' := w.setRow b (cur.toList.take (E.off tk + i * sz + k) ++ [a.eval x] ++ cur.toList.drop (E.off tk + i * sz + k + 1)).toArray) rfl rfl rfl (by simp)
    (fun b' hb' => setRow_other w b b' _ (fun he => hb' (he ▸ hbe)))
  have hnew := setRow_heap w b cur (cur.toList.take (E.off tk + i * sz + k) ++ [a.eval x] ++ cur.toList.drop (E.off tk + i * sz + k + 1)).toArray et (0, 0) hcur
  have hset : (cur.toList.take (E.off tk + i * sz + k) ++ [a.eval x] ++ cur.toList.drop (E.off tk + i * sz + k + 1)) = cur.toList.set (E.off tk + i * sz + k) (a.eval x) := by
    rw [List.set_eq_take_append_cons_drop, if_pos (by simpa using hin)]; simp
  rw [hset] at hnew hrun ev1 hR1
  -- the new element
  have hel : (xs.getD i .top).cells.length = sz := hxs _ (getD_mem hi)
  have hput : ((xs.getD i .top).putCell k (ev F x)).cells = (xs.getD i .top).cells.set k (ev F x) := by
    cases hq : xs.getD i .top with
    | agg cs => rfl
    | _ =>
      rw [hq] at hel
      simp only [AV.cells, List.length_singleton] at hel
      have hk0 : k = 0 := by omega
      subst hk0
      simp only [AV.putCell, AV.cells, List.set_cons_zero]
      cases hqx : ev F x <;> rw [hqx] at h1x <;> simp [AV.one] at h1x <;> rfl
  have hflat : flat (xs.set i ((xs.getD i .top).putCell k (ev F x))) = (flat xs).set (i * sz + k) (ev F x) := by
    rw [flat_set xs i _ hxs hi, hput]
    have hgi : xs.getD i .top = xs[i] := by simp [List.getD, hi]
    have hself := flat_set xs i (xs.getD i .top) hxs hi
    rw [show xs.set i (xs.getD i .top) = xs by rw [hgi]; simp] at hself
    have hl1 : ((flat xs).take (i * sz)).length = i * sz := by rw [List.length_take, hfl]; omega
    generalize hA : (flat xs).take (i * sz) = A at hself hl1 ⊢
    generalize hB : (flat xs).drop (i * sz + sz) = B at hself ⊢
    rw [hself]
    rw [List.append_assoc, List.append_assoc, List.set_append_right _ _ (by omega), hl1, show i * sz + k - i * sz = k by omega, List.set_append_left _ _ (by omega)]
  have hxs2 : ∀ y ∈ xs.set i ((xs.getD i .top).putCell k (ev F x)), y.cells.length = sz := by
    intro y hy
    rcases List.mem_or_eq_of_mem_set hy with hy | hy
    · exact hxs y hy
    · rw [hy, hput, List.length_set]; exact hel
  have hone2 : ∀ u ∈ flat (xs.set i ((xs.getD i .top).putCell k (ev F x))), u.one = true := by
    intro u hu
    rw [hflat] at hu
    rcases List.mem_or_eq_of_mem_set hu with hu | hu
    · exact hx1 u hu
    · rw [hu]; exact h1x
  have hv : VRel (E.addTok S.next (E.be tk) (E.off tk)) (S.kill tk).fresh (w.setRow b (cur.toList.set (E.off tk + i * sz + k) (a.eval x)).toArray) (.sl (.own S.next) sz (xs.set i ((xs.getD i .top).putCell k (ev F x)))) (a.tmps.getD s undef) := by
    rw [hqs]
    have hlen : xs.length = (xs.set i ((xs.getD i .top).putCell k (ev F x))).length := by simp
    rw [hlen]
    refine VRel.sl_mem (.own S.next) sz _ b (E.off tk) c (fun j => if j = i * sz + k then a.eval x else vs j) ⟨Nat.lt_succ_self _, by simp [ASt.fresh, ASt.kill], by simp [Env.addTok, hbe]⟩ (by rw [← hlen]; exact hc) hxs2 hone2 ?_ ?_ ?_
    · intro j u hj
      rw [cell_of_row _ b (E.off tk + j) _ et (0, 0) hnew, List.getElem?_toArray]
      rw [hflat] at hj
      by_cases he : j = i * sz + k
      · subst he
        rw [if_pos rfl, show E.off tk + (i * sz + k) = E.off tk + i * sz + k by omega, List.getElem?_set_self (by simpa using hin)]
      · rw [if_neg he, List.getElem?_set_ne (by omega), Array.getElem?_toList]
        rw [List.getElem?_set_ne (Ne.symm he)] at hj
        exact hxv j u hj
    · intro j u hj
      rw [hflat] at hj
      by_cases he : j = i * sz + k
      · subst he
        rw [List.getElem?_set_self (by rw [hfl]; exact hpos)] at hj
        cases hj
        rw [if_pos rfl]; exact hx.mono ev1
      · rw [if_neg he]
        rw [List.getElem?_set_ne (Ne.symm he)] at hj
        exact (hxr j u hj).mono ev1
    · intro t' ht'
      cases ht'
      refine ⟨by simp [Env.addTok], _, et, hnew, ?_⟩
      simpa using hfit
  refine wp_skp hrun (hn _ _ _ _ _ _ ev1 hR1 (.top undef) ?_ h)
  have hm := hF.mono ev1
  refine ⟨by simpa using hm.1, fun j => ?_⟩
  by_cases hj : s = j
  · subst hj
    by_cases hlt : s < F.length
    · have : (F.set s (.sl (.own S.next) sz (xs.set i ((xs.getD i .top).putCell k (ev F x))))).getD s .top = .sl (.own S.next) sz (xs.set i ((xs.getD i .top).putCell k (ev F x))) := by
        simp [List.getD, hlt]
      rw [this]; exact hv
    · rw [List.getD, List.getElem?_eq_none (by omega)] at hsl
      cases hsl
  · have : (F.set s (.sl (.own S.next) sz (xs.set i ((xs.getD i .top).putCell k (ev F x))))).getD j .top = F.getD j .top := by
      simp [List.getD, List.getElem?_set_ne hj]
    rw [this]; exact hm.2 j

/-- A byte slice turned to its own type. -/
theorem snd_frz {s : TypeId} {x : Operand} (ho : o.op = .convert s s x) (hR : Rel E S w) (hF : FRel E S w F a.tmps)
    (h : frzA P s (ev F x) S (fun v S' => K v F S')) (hn : Cont E S w o a next K) : o.wp P a w next Q := by
  have hx := ev_rel hF x
  unfold frzA at h
  split at h
  · rename_i tk sz x0 xs0 hev
    rw [hev] at hx
    obtain ⟨hty, hl, hK⟩ := h
    obtain ⟨e, hse, hie⟩ := Option.bind_eq_some_iff.1 hty
    rcases own_read hx hl with ⟨h0, _⟩ | ⟨b, off, c, cur, et, vs, hq, hlt, hbe, hoff, hc, hcur, hfit, hsz, h1, hv, hr⟩
    · cases h0
    have hrun : (execOp a.eval o).run P w = .ok (.value (.slice (some ⟨b, off, none⟩) (x0 :: xs0).length c)) (w.freeze ⟨b, cur.size, none⟩ 1) := by
      have hsh : w.shape? b = some (et, cur.size) := by simp [World.shape?, hcur]
      simp only [execOp, ho, hq, convert, Sem.run_bind, run_underlying (sliceT_some hse), run_underlying (intT_some hie), Result.andThen_ok]
      simp [markStringish, hsh]
    have hheap : ∀ b', b ≠ b' → (w.freeze ⟨b, cur.size, none⟩ 1).heap[b']? = w.heap[b']? := by
      intro b' hb'
      simp [World.freeze, Array.getElem?_modify, hb']
    obtain ⟨ev1, hR1⟩ := step_pass (w' := w.freeze ⟨b, cur.size, none⟩ 1) hR tk hl rfl rfl rfl (by simp [World.freeze]) (fun b' hb' => hheap b' (fun e => hb' (by rw [← e]; exact hbe)))
    refine wp_val hrun (hn _ _ _ _ _ F ev1 hR1 ?_ (hF.mono ev1) hK)
    refine VRel.sl_mem (.sub S.next) sz (x0 :: xs0) b off c vs ⟨Nat.lt_succ_self _, by simp [ASt.fresh, ASt.kill], by simp [Env.addTok, hbe]⟩ hc hsz h1 ?_ (fun j u hj => (hr j u hj).mono ev1) (fun t ht => by cases ht)
    intro j u hj
    have := hv j u hj
    simp [World.cell?, World.freeze, Array.getElem?_modify, hcur, this]
  · exact h.elim
end
end Go.Proofs.Ythpomdoaiibnfaa.Abs

namespace Go.Proofs.Ythpomdoaiibnfaa.Abs
open Go Go.RowKit
set_option linter.unusedVariables false
set_option linter.unusedSimpArgs false

section
variable {P : Program} {M : Modes} {E : Env} {S : ASt} {w : World} {o : Oper} {a : Act} {next : Act → World → Prop} {Q : Exit → Act → World → Prop} {F : List AV} {K : AV → List AV → ASt → Prop}

theorem enterA_some {f : FuncId} (h : enterA P f = true) : ∃ fn, P.funcs[f]? = some fn ∧ fn.body.isSome = true ∧ (fn.name == "runtime.NumGoroutine") = false := by
  unfold enterA at h
  split at h
  · rename_i fn hf
    simp only [Bool.and_eq_true, Bool.not_eq_true'] at h
    exact ⟨fn, hf, h.1, h.2⟩
  · cases h

theorem run_callFunc {f : FuncId} (h : enterA P f = true) (args : Array Value) (w : World) : (callFunc f args).run P w = .ok (.enter f args) w := by
  obtain ⟨fn, h1, h2, h3⟩ := enterA_some h
  have h3' : ¬ fn.name = "runtime.NumGoroutine" := by simpa using h3
  have h2' : fn.body ≠ none := by intro hh; rw [hh] at h2; cases h2
  simp [callFunc, h1, h3', h2']

theorem args_ev (hF : FRel E S w F a.tmps) (xs : Array Operand) : ArgsRel E S w (xs.toList.map (ev F)) (xs.map a.eval) := by
  refine ⟨by simp, fun i hi => ?_⟩
  have hi' : i < xs.size := by simpa using hi
  have e1 : (xs.toList.map (ev F)).getD i .top = ev F xs[i] := by simp [List.getD, hi']
  have e2 : (xs.map a.eval).getD i undef = a.eval xs[i] := by simp [Array.getD, hi']
  rw [e1, e2]; exact ev_rel hF _

theorem ArgsRel.cons {args : List AV} {cargs : Array Value} {v : AV} {cv : Value} (hv : VRel E S w v cv) (h : ArgsRel E S w args cargs) : ArgsRel E S w (v :: args) (#[cv] ++ cargs) := by
  refine ⟨by simp [h.1, Nat.add_comm], fun i hi => ?_⟩
  cases i with
  | zero =>
    have h0 : 0 < 1 + cargs.size := by omega
    simpa [Array.getD, h0] using hv
  | succ i =>
    have hi' : i < args.length := by simpa using hi
    have := h.2 i hi'
    have e2 : (#[cv] ++ cargs).getD (i + 1) undef = cargs.getD i undef := by
      simp only [Array.getD_eq_getD_getElem?]
      rw [Array.getElem?_append_right (by simp)]
      simp
    rw [e2, List.getD_cons_succ]; exact this

theorem wp_calls {f : FuncId} {args : List AV} {cargs : Array Value} {K' : AV → ASt → Prop} (hrun : (execOp a.eval o).run P w = .ok (.enter f cargs) w) (hR : Rel E S w) (hF : FRel E S w F a.tmps)
    (hA : ArgsRel E S w args cargs) (h : ACalls P f args S K') (hk : ∀ v S', K' v S' → K v F S') (hn : Cont E S w o a next K) : o.wp P a w next Q := by
  unfold Oper.wp
  rw [hrun, Oper.upon_enter]
  refine (h.2 E w cargs hR hA).mono ?_
  rintro e w' ⟨v, cv, E', S', rfl, ev1, hR1, hv, hK⟩
  exact hn E' S' w' v cv F ev1 hR1 hv (hF.mono ev1) (hk _ _ hK)

theorem run_method {t : TypeId} {name : String} {f : FuncId} (h : methA P t name = some f) (v : Value) (w : World) (n : Nat) (hn : 0 < n) : (method n t v name).run P w = .ok (f, v) w := by
  obtain ⟨n, rfl⟩ : ∃ m, n = m + 1 := ⟨n - 1, by omega⟩
  unfold methA at h
  split at h
  · rename_i i hi
    split at h
    · rename_i m hm
      split at h
      · rename_i hp
        split at h
        · rename_i f' pr hf
          split at h
          · rename_i hc
            simp only [Bool.and_eq_true, beq_iff_eq] at hc
            cases h
            obtain ⟨ds, hds⟩ := Option.isSome_iff_exists.1 hc.2
            have hpe : m.path = #[] := by simpa using hp
            have hpr := hc.1
            unfold isPtrT at hpr
            rw [hds] at hpr
            simp only [method, Sem.run_bind, typeInfo, run_program, Result.andThen_ok, hi, Sem.run_pure, hm, hpe, follow, hf]
            cases ds with
            | pointer e =>
              simp only at hpr
              subst hpr
              simp [receiverAt, run_underlying hds, Place.get]
            | _ =>
              simp only at hpr
              subst hpr
              simp [receiverAt, run_underlying hds, Place.get]
          · cases h
        · cases h
      · cases h
    · cases h
  · cases h

theorem one_arg {f : Operand → AV} {args : Array Operand} {v : AV} (h : args.toList.map f = [v]) : ∃ y, args = #[y] := by
  have hl : args.toList.length = 1 := by have := congrArg List.length h; simpa using this
  match hq : args.toList, hl with
  | [y], _ => exact ⟨y, Array.ext' (by rw [hq])⟩
theorem two_args {f : Operand → AV} {args : Array Operand} {u v : AV} (h : args.toList.map f = [u, v]) : ∃ y z, args = #[y, z] := by
  have hl : args.toList.length = 2 := by have := congrArg List.length h; simpa using this
  match hq : args.toList, hl with
  | [y, z], _ => exact ⟨y, z, Array.ext' (by rw [hq])⟩

theorem snd_call {c : Call} (ho : o.op = .call c) (hR : Rel E S w) (hF : FRel E S w F a.tmps) (h : callA P M c F S (fun v S' => K v F S')) (hn : Cont E S w o a next K) : o.wp P a w next Q := by
  obtain ⟨callee, args, argTypes⟩ := c
  unfold callA at h
  cases callee with
  | value f =>
    simp only at h
    split at h
    · rename_i g hev
      have hf := ev_rel hF f
      rw [hev] at hf
      have hqf : a.eval f = .func (.func g) #[] #[] := by cases hq : a.eval f <;> rw [hq] at hf <;> cases hf <;> rfl
      refine wp_calls (cargs := args.map a.eval) ?_ hR hF (args_ev hF args) h (fun _ _ h => h) hn
      simp only [execOp, ho, resolve, Sem.run_bind, Sem.run_pure, Result.andThen_ok, hqf, Deferred.ofValue, invoke, Array.empty_append, Array.append_empty, run_callFunc h.1]
    · exact h.elim
  | invoke r name =>
    simp only at h
    split at h
    · rename_i t v hev
      split at h
      · rename_i g hm
        have hr := ev_rel hF r
        rw [hev] at hr
        generalize hq : a.eval r = cr at hr
        cases hr with
        | iface t v cv hv =>
          refine wp_calls (cargs := #[cv] ++ args.map a.eval) ?_ hR hF ((args_ev hF args).cons hv) h (fun _ _ h => h) hn
          have hx : (#[Value.iface t cv] ++ args.map a.eval)[0]? = some (.iface t cv) := by rw [Array.getElem?_append_left (by simp)]; rfl
          have hx2 : (#[Value.iface t cv] ++ args.map a.eval).extract 1 (#[Value.iface t cv] ++ args.map a.eval).size = args.map a.eval := by
            apply Array.ext'
            simp [Array.toList_extract, List.take_of_length_le]
          have hme : ∀ w, (method (P.types.size + Made.depth) t cv name).run P w = .ok (g, cv) w := fun w => run_method hm cv w _ (by unfold Made.depth; omega)
          simp only [execOp, ho, resolve, Sem.run_bind, Sem.run_pure, Result.andThen_ok, hq, invoke, hx, hx2, callMethod, run_program, hme, run_callFunc h.1]
      · exact h.elim
    · exact h.elim
  | builtin b =>
    cases b <;> simp only at h <;> try exact h.elim
    case append =>
      split at h
      · rename_i s x t u h1 h2
        obtain ⟨y1, y2, rfl⟩ := two_args h1
        obtain rfl : argTypes = #[t, u] := by apply Array.ext'; rw [h2]
        simp only [List.map_cons, List.map_nil, List.cons.injEq, and_true] at h1
        obtain ⟨rfl, rfl⟩ := h1
        unfold appendA at h
        split at h
        · exact h.elim
        · rename_i e hse
          split at h
          · rename_i sz by_ z hs hb hz
            obtain ⟨h0, hby, h⟩ := h
            split at h
            · rename_i ow sz1 xs o2 sz2 ys hes hex
              obtain ⟨hu, hlen, hrd, hsz, h⟩ := h
              split at h
              · exact snd_append_nil ho hse hs hb hz h0 hby hes hex hu hlen hrd hsz hR hF h hn
              · rename_i tk
                obtain ⟨rfl, hl, h⟩ := h
                exact snd_append_own ho hse hs hb hz h0 hby hes hl hex hu hlen hrd hsz hR hF h hn
              · exact h.elim
            · rename_i sz1 xs k n hes hex
              obtain ⟨hu, hag, hn0, hn1, h⟩ := h
              exact snd_append_zeros ho hse hs hb hz hby hes hex hu hag hn0 hn1 hR hF h hn
            · exact h.elim
          · exact h.elim
      · exact h.elim
    case cap =>
      split at h
      · rename_i sz xs t h1 h2
        obtain ⟨y1, rfl⟩ := one_arg h1
        obtain rfl : argTypes = #[t] := by apply Array.ext'; rw [h2]
        simp only [List.map_cons, List.map_nil, List.cons.injEq, and_true] at h1
        have hx := ev_rel hF y1
        rw [h1] at hx
        obtain ⟨e, he⟩ := Option.isSome_iff_exists.1 h.1
        have hq : a.eval y1 = .slice none 0 0 := by
          generalize hq : a.eval y1 = cv at hx
          cases hx with
          | sl_nil sz => rfl
          | sl_mem o' sz' xs' b off c vs hacc => exact hacc.elim
          | sl_dead o' t sz xs a' c ho => cases ho
        refine wp_val ?_ (hn.same hR hF (.int .i64 0) h.2)
        simp [execOp, ho, resolve, invoke, builtin, Builtin.cap_, hq, run_underlying (sliceT_some he), goInt]
      · exact h.elim
    case len =>
      split at h
      · rename_i ow sz xs t h1 h2
        obtain ⟨y1, rfl⟩ := one_arg h1
        obtain rfl : argTypes = #[t] := by apply Array.ext'; rw [h2]
        simp only [List.map_cons, List.map_nil, List.cons.injEq, and_true] at h1
        have hx := ev_rel hF y1
        rw [h1] at hx
        obtain ⟨e, he⟩ := Option.isSome_iff_exists.1 h.1
        obtain ⟨aa, c, hq⟩ : ∃ aa c, a.eval y1 = .slice aa xs.length c := by
          generalize hq : a.eval y1 = cv at hx
          cases hx with
          | sl_nil sz => exact ⟨_, _, rfl⟩
          | sl_emp sz a' c => exact ⟨_, _, rfl⟩
          | sl_own_nil t sz ht => exact ⟨_, _, rfl⟩
          | sl_sub_emp t sz a' c ht => exact ⟨_, _, rfl⟩
          | sl_mem o' sz' xs' b off c vs hacc => exact ⟨_, _, rfl⟩
          | sl_dead o' t sz xs a' c ho => exact ⟨_, _, rfl⟩
        refine wp_val ?_ (hn.same hR hF (.int .i64 xs.length) h.2)
        simp [execOp, ho, resolve, invoke, builtin, Builtin.len_, hq, run_underlying (sliceT_some he), goInt]
      · rename_i l t h1 h2
        obtain ⟨y1, rfl⟩ := one_arg h1
        obtain rfl : argTypes = #[t] := by apply Array.ext'; rw [h2]
        simp only [List.map_cons, List.map_nil, List.cons.injEq, and_true] at h1
        have hx := ev_rel hF y1
        rw [h1] at hx
        have hq : a.eval y1 = .string ⟨l.toArray⟩ := by cases hq : a.eval y1 <;> rw [hq] at hx <;> cases hx <;> rfl
        refine wp_val ?_ (hn.same hR hF (.int .i64 l.length) h.2)
        have hsz : (⟨l.toArray⟩ : ByteArray).size = l.length := by simp [ByteArray.size]
        simp [execOp, ho, resolve, invoke, builtin, Builtin.len_, hq, run_underlying (isStrT_true h.1), goInt, hsz]
      · exact h.elim
    case max =>
      split at h
      · rename_i k x k' y h1
        obtain ⟨y1, y2, rfl⟩ := two_args h1
        simp only [List.map_cons, List.map_nil, List.cons.injEq, and_true] at h1
        have hx := ev_rel hF y1
        have hy := ev_rel hF y2
        rw [h1.1] at hx; rw [h1.2] at hy
        have hqx : a.eval y1 = .int k x := by cases hq : a.eval y1 <;> rw [hq] at hx <;> cases hx <;> rfl
        have hqy : a.eval y2 = .int k' y := by cases hq : a.eval y2 <;> rw [hq] at hy <;> cases hy <;> rfl
        refine wp_val ?_ (hn.same hR hF (.int k _) h)
        simp [execOp, ho, resolve, invoke, builtin, Builtin.max_, Builtin.max2, hqx, hqy]
      · exact h.elim
    case min =>
      split at h
      · rename_i k x k' y h1
        obtain ⟨y1, y2, rfl⟩ := two_args h1
        simp only [List.map_cons, List.map_nil, List.cons.injEq, and_true] at h1
        have hx := ev_rel hF y1
        have hy := ev_rel hF y2
        rw [h1.1] at hx; rw [h1.2] at hy
        have hqx : a.eval y1 = .int k x := by cases hq : a.eval y1 <;> rw [hq] at hx <;> cases hx <;> rfl
        have hqy : a.eval y2 = .int k' y := by cases hq : a.eval y2 <;> rw [hq] at hy <;> cases hy <;> rfl
        refine wp_val ?_ (hn.same hR hF (.int k _) h)
        simp [execOp, ho, resolve, invoke, builtin, Builtin.min_, Builtin.min2, hqx, hqy]
      · exact h.elim

theorem opA_sound (hR : Rel E S w) (hF : FRel E S w F a.tmps) (h : opA P M o F S K) (hn : Cont E S w o a next K) : o.wp P a w next Q := by
  unfold opA at h
  split at h <;> rename_i ho
  · exact snd_move (.inl ho) hR hF h hn
  · exact snd_move (.inr ho) hR hF h hn
  · split at h
    · rename_i hc; exact snd_pick ho hc hR hF h hn
    · exact h.elim
  · split at h
    · rename_i hz; exact snd_alloc ho hz hR hF h hn
    · exact h.elim
  · exact snd_box ho h.1 hR hF h.2 hn
  · split at h
    · rename_i hz hpl
      split at h
      · rename_i hf; exact snd_build ho hz hpl hf hR hF h hn
      · exact h.elim
    · exact h.elim
  · split at h
    · rename_i hse
      split at h
      · rename_i hs hz hag
        obtain ⟨h1, h2, h3, h⟩ := h
        split at h
        · rename_i hf
          split at h
          · rename_i hd; exact snd_buildSlice ho hd hse hs hz hag h1 h2 h3 hf hR hF h hn
          · exact h.elim
        · exact h.elim
      · exact h.elim
    · exact h.elim
  · exact snd_load ho hR hF h hn
  · unfold storeA at h
    split at h
    · rename_i had
      split at h
      · rename_i hcs
        exact snd_store_obj ho had hcs h.1 h.2.1 h.2.2.1 hR hF h.2.2.2 hn
      · exact h.elim
    · rename_i had
      split at h
      · rename_i d
        split at h
        · exact snd_store_ep ho had h.1 h.2.1 h.2.2.1 h.2.2.2.1 h.2.2.2.2.1 hR hF h.2.2.2.2.2 hn
        · exact h.elim
      · exact h.elim
    · exact h.elim
  · exact snd_nilCheck ho hR hF h hn
  · split at h
    · rename_i hc; exact snd_nilcmp ho hc hR hF h hn
    · exact snd_binOp ho hR hF h hn
  · split at h
    · rename_i hev; exact snd_not ho hev hR hF h hn
    · rename_i hev; exact snd_neg ho hev hR hF h hn
    · exact h.elim
  · split at h
    · rename_i hsd
      subst hsd
      exact snd_frz ho hR hF h hn
    · exact snd_convert ho hR hF h hn
  · exact snd_makeInterface ho h.1 hR hF h.2 hn
  · exact snd_slice ho hR hF h hn
  · split at h
    · rename_i hfa; exact snd_fieldAddr ho hfa hR hF h hn
    · exact h.elim
  · exact snd_indexAddr ho hR hF h hn
  · exact snd_index ho hR hF h hn
  · split at h
    · rename_i hev
      split at h
      · rename_i hv; exact snd_extract ho hev hv hR hF h hn
      · exact h.elim
    · exact h.elim
  · exact snd_call ho hR hF h hn
  · exact h.elim
end
end Go.Proofs.Ythpomdoaiibnfaa.Abs

namespace Go.Proofs.Ythpomdoaiibnfaa.Abs
open Go Go.RowKit
set_option linter.unusedVariables false
set_option linter.unusedSimpArgs false

def setO (F : List AV) (d : Option Tmp) (v : AV) : List AV :=
  match d with
  | some d => F.set d v
  | none => F

def wantA (ops : List Oper) (o : Oper) (F : List AV) : Option Bool :=
  match o.guard with
  | none => some true
  | some (j, want) =>
    match (ops[j]?).bind (·.dst) with
    | some d =>
      match F.getD d .top with
      | .bool b => some (b == want)
      | .top => none
      | _ => some false
    | none => some false

def opsA (P : Program) (M : Modes) (ops : List Oper) : List Oper → List AV → ASt → (List AV → ASt → Prop) → Prop
  | [], F, S, K => K F S
  | o :: rest, F, S, K =>
    match wantA ops o F with
    | some true => opA P M o F S (fun v F' S' => opsA P M ops rest (setO F' o.dst v) S' K)
    | some false => opsA P M ops rest (setO F o.dst (.tuple [])) S K
    | none => False

/-! ### regions that draw their order -/
def edgesOf (o : Oper) : List Nat := (o.after.toList.filter (Region.binds .any)).map (·.on)
def preL : List Oper → List Nat → List Nat
  | [], acc => acc
  | o :: rest, acc => preL rest (acc ++ [(edgesOf o).foldl (fun s j => s ||| 2 ^ j ||| acc.getD j 0) 0])
/-- Operations that change more than their own slot. -/
def effOp (M : Modes) (o : Oper) : Bool :=
  match o.op with
  | .move _ | .pick .. | .build .. | .load .. | .nilCheck _ | .unOp .. | .makeInterface .. | .slice .. | .fieldAddr .. | .indexAddr .. | .index .. | .extract .. => false
  | .convert s d _ => s == d
  | .binOp _ _ _ y _ => isNilC y
  | .buildSlice .. => match o.dst with | some d => M.own d | none => true
  | .call { callee := .builtin .len, .. } | .call { callee := .builtin .min, .. } | .call { callee := .builtin .max, .. } | .call { callee := .builtin .cap, .. } => false
  | _ => true
/-- Operations whose value hangs on their operands alone. -/
def pureOp (o : Oper) : Bool :=
  match o.op with
  | .move _ | .pick .. | .build .. | .nilCheck _ | .unOp .. | .makeInterface .. | .index .. | .extract .. => true
  | .binOp _ _ _ y _ => !isNilC y
  | .call { callee := .builtin .len, .. } | .call { callee := .builtin .min, .. } | .call { callee := .builtin .max, .. } | .call { callee := .builtin .cap, .. } => true
  | _ => false
def looks (ops : List Oper) (o : Oper) : List Tmp :=
  (o.op.operands.toList.filterMap fun | .tmp t => some t | _ => none) ++
  (match o.guard with
   | some (g, _) => ((ops[g]?).bind (·.dst)).toList
   | none => [])
def names (ops : List Oper) (o : Oper) : List Tmp := looks ops o ++ o.dst.toList

def ordB (M : Modes) (ops : List Oper) (pre : List Nat) : List Nat → Bool
  | [] => true
  | i :: rest => (!((ops[i]?).map (effOp M)).getD true || rest.all (fun j => (pre.getD j 0).testBit i)) && rest.all (fun j => !(pre.getD i 0).testBit j && !(i == j)) && ordB M ops pre rest
def drawOk (P : Program) (M : Modes) (ops : List Oper) (ord : List Nat) : Bool :=
  let pre := preL ops []
  P.follows .mixedOrders &&
  (List.range ops.length).all (fun i => ord.contains i) && ord.all (fun i => decide (i < ops.length)) &&
  ops.zipIdx.all (fun (o, i) => (edgesOf o).all (fun j => decide (j < i))) &&
  ordB M ops pre ord &&
  ops.zipIdx.all (fun (o, i) => match o.dst with
    | some t => ops.zipIdx.all fun (p, j) => i == j && !(looks ops p).contains t || !(names ops p).contains t || (pre.getD j 0).testBit i || (effOp M o && (pre.getD i 0).testBit j || effOp M o && i == j)
    | none => true)

def M0 (M : Modes) : Modes := { M with rb := fun _ => none }

def recheckA (P : Program) (M : Modes) (ops : List Oper) (F : List AV) (S : ASt) : List Nat → Prop
  | [] => True
  | j :: js =>
    (match ops[j]? with
     | some o =>
       match wantA ops o F with
       | some true => opA P (M0 M) o F S (fun v _ _ => match o.dst with | some d => v = F.getD d .top | none => True)
       | _ => True
     | none => True) ∧ recheckA P M ops F S js

def drawGo (P : Program) (M : Modes) (ops : List Oper) (pre : List Nat) : List Nat → List Nat → List AV → ASt → (List AV → ASt → Prop) → Prop
  | [], _, F, S, K => K F S
  | i :: rest, L, F, S, K =>
    match ops[i]? with
    | none => False
    | some o =>
      match wantA ops o F with
      | none => False
      | some false => drawGo P M ops pre rest L (setO F o.dst (.tuple [])) S K
      | some true =>
        if effOp M o then
          opA P (M0 M) o F S (fun v F' S' =>
            match L.filter (fun j => !(pre.getD i 0).testBit j) with
            | [] => drawGo P M ops pre rest [] (setO F' o.dst v) S' K
            | j :: js => recheckA P M ops (setO F' o.dst v) S' (j :: js) ∧ drawGo P M ops pre rest (j :: js) (setO F' o.dst v) S' K)
        else
          opA P (M0 M) o F S (fun v F' S' => drawGo P M ops pre rest (if pureOp o then L else i :: L) (setO F' o.dst v) S' K)

def drawA (P : Program) (M : Modes) (ops : List Oper) (ord : List Nat) (F : List AV) (S : ASt) (K : List AV → ASt → Prop) : Prop :=
  drawOk P M ops ord = true ∧ drawGo P M ops (preL ops []) ord [] F S K

/-! ### code -/
inductive Ex where
  | normal
  | exit (id : Nat)
  | ret

section
variable {P : Program} {M : Modes} {E : Env} {S : ASt} {w : World} {o : Oper} {a : Act} {F : List AV}

def Reach (E : Env) (S : ASt) (w : World) (n : Nat) (K : List AV → ASt → Prop) (a' : Act) (w' : World) : Prop :=
  ∃ E' S' F', Evolves E S w E' S' w' ∧ Rel E' S' w' ∧ FRel E' S' w' F' a'.tmps ∧ a'.defers = [] ∧ F'.length = n ∧ K F' S'

def Post (E : Env) (S : ASt) (w : World) (n : Nat) (Q : Ex → List AV → ASt → Prop) : Exit → Act → World → Prop
  | .normal, a', w' => Reach E S w n (Q .normal) a' w'
  | .exit id, a', w' => Reach E S w n (Q (.exit id)) a' w'
  | .ret, a', w' => Reach E S w n (Q .ret) a' w'
  | _, _, _ => False

theorem Reach.mono {n : Nat} {K K' : List AV → ASt → Prop} {a' : Act} {w' : World} (h : Reach E S w n K a' w') (hk : ∀ F S, F.length = n → K F S → K' F S) : Reach E S w n K' a' w' :=
  let ⟨E', S', F', h1, h2, h3, h4, h5, h6⟩ := h
  ⟨E', S', F', h1, h2, h3, h4, h5, hk _ _ h5 h6⟩

theorem Reach.pre {E1 : Env} {S1 : ASt} {w1 : World} {n : Nat} {K : List AV → ASt → Prop} {a' : Act} {w' : World} (ev : Evolves E S w E1 S1 w1) (h : Reach E1 S1 w1 n K a' w') : Reach E S w n K a' w' :=
  let ⟨E', S', F', h1, h2, h3, h4, h5, h6⟩ := h
  ⟨E', S', F', ev.trans h1, h2, h3, h4, h5, h6⟩

theorem FRel.put (hF : FRel E S w F a.tmps) (d : Option Tmp) {v : AV} {cv : Value} (h : VRel E S w v cv) : FRel E S w (setO F d v) (a.put d cv).tmps := by
  cases d with
  | none => exact hF
  | some d => exact hF.set d h

theorem put_defers (d : Option Tmp) (cv : Value) (hd : a.defers = []) : (a.put d cv).defers = [] := by cases d <;> exact hd

theorem setO_length (d : Option Tmp) (v : AV) : (setO F d v).length = F.length := by cases d <;> simp [setO]

theorem undef_rel : VRel E S w (.tuple []) undef := VRel.tuple [] #[] rfl (by simp)

theorem wantA_sound {ops : List Oper} {b : Bool} (hF : FRel E S w F a.tmps) (h : wantA ops o F = some b) : Region.wanted o (yielded ops.toArray a.tmps) = b := by
  unfold wantA at h
  unfold Region.wanted
  split at h
  · rename_i hg; cases h; rw [hg]
  · rename_i j want hg
    rw [hg]
    simp only
    unfold yielded
    rw [List.getElem?_toArray]
    split at h
    · rename_i d hd
      rw [hd]
      simp only [Option.bind_some]
      have hr := hF.2 d
      by_cases hlt : d < F.length
      · have hlt' : d < a.tmps.size := hF.1 ▸ hlt
        obtain ⟨cv, h1, h2⟩ := arr_get hlt'
        rw [h2] at hr
        rw [h1]
        split at h
        · rename_i b' hb'
          rw [hb'] at hr
          cases hr
          cases h
          cases b' <;> cases want <;> rfl
        · cases h
        · rename_i hnb hnt
          cases h
          cases cv with
          | bool b' =>
            cases hq : F.getD d AV.top <;> rw [hq] at hr <;> cases hr
            · exact absurd hq hnt
            · exact absurd hq (hnb _)
          | _ => simp
      · rw [show F.getD d .top = .top by simp [List.getD, hlt]] at h
        cases h
    · rename_i hd
      cases h
      rw [hd]; simp

theorem opsA_sound {ops : List Oper} : ∀ (rest : List Oper) (E : Env) (S : ASt) (w : World) (F : List AV) (a : Act) (K : List AV → ASt → Prop) (Q : Exit → Act → World → Prop), Rel E S w → FRel E S w F a.tmps → a.defers = [] →
    opsA P M ops rest F S K → (∀ a' w', Reach E S w F.length K a' w' → Q .normal a' w') → wpList P ops.toArray Q rest a w
  | [], E, S, w, F, a, K, Q, hR, hF, hd, h, hQ => wpList_nil (hQ _ _ ⟨E, S, F, Evolves.refl hR, hR, hF, hd, rfl, h⟩)
  | o :: rest, E, S, w, F, a, K, Q, hR, hF, hd, h, hQ => by
    simp only [opsA] at h
    unfold wpList
    split at h
    · rename_i hw
      rw [if_pos (wantA_sound hF hw)]
      refine .inl (opA_sound hR hF h ?_)
      intro E' S' w' v cv F' ev1 hR1 hv hF1 hk
      have hl : F'.length = F.length := by rw [hF1.1, hF.1]
      exact opsA_sound rest E' S' w' (setO F' o.dst v) (a.put o.dst cv) K Q hR1 (hF1.put o.dst hv) (put_defers _ _ hd) hk
        (fun a' w'' hr => hQ a' w'' (by rw [setO_length, hl] at hr; exact hr.pre ev1))
    · rename_i hw
      rw [if_neg (by rw [wantA_sound hF hw]; simp)]
      exact opsA_sound rest E S w (setO F o.dst (.tuple [])) (a.put o.dst undef) K Q hR (hF.put o.dst undef_rel) (put_defers _ _ hd) h
        (fun a' w'' hr => hQ a' w'' (by rw [setO_length] at hr; exact hr))
    · exact h.elim
end
end Go.Proofs.Ythpomdoaiibnfaa.Abs

namespace Go.Proofs.Ythpomdoaiibnfaa.Abs
open Go Go.RowKit
set_option linter.unusedVariables false
set_option linter.unusedSimpArgs false

def optG (ρ : Operand → AV) (x : Option Operand) (d : Int) (K : Int → Prop) : Prop :=
  match x with
  | none => K d
  | some x => bndA (ρ x) K


def sliceG (P : Program) (ρ : Operand → AV) (t : TypeId) (x : AV) (lo hi : Option Operand) (S : ASt) (K : AV → Prop) : Prop :=
  match x with
  | .sl o sz xs =>
    match sliceT P t with
    | some e => (szA P e = some sz ∨ xs = []) ∧ rdA S o ∧ (szA P e).isSome = true ∧
      optG ρ lo 0 fun l => optG ρ hi xs.length fun h => (0 ≤ l ∧ l ≤ h ∧ h ≤ xs.length) ∧ K (.sl (subA lo o) sz ((xs.take h.toNat).drop l.toNat))
    | none => False
  | .str s => isStrT P t = true ∧
      optG ρ lo 0 fun l => optG ρ hi s.length fun h => (0 ≤ l ∧ l ≤ h ∧ h ≤ s.length) ∧ K (.str ((s.take h.toNat).drop l.toNat))
  | _ => False


def callG (P : Program) (c : Call) (ρ : Operand → AV) (S : ASt) (K : AV → ASt → Prop) : Prop :=
  match c.callee with
  | .value f =>
    match ρ f with
    | .func g => ACalls P g (c.args.toList.map (ρ)) S K
    | _ => False
  | .invoke r name =>
    match ρ r with
    | .iface t v =>
      match methA P t name with
      | some g => ACalls P g (v :: c.args.toList.map (ρ)) S K
      | none => False
    | _ => False
  | .builtin .len =>
    match c.args.toList.map (ρ), c.argTypes.toList with
    | [.sl _ _ xs], [t] => (sliceT P t).isSome = true ∧ K (.int .i64 xs.length) S
    | [.str l], [t] => isStrT P t = true ∧ K (.int .i64 l.length) S
    | _, _ => False
  | .builtin .cap =>
    match c.args.toList.map (ρ), c.argTypes.toList with
    | [.sl .nil _ _], [t] => (sliceT P t).isSome = true ∧ K (.int .i64 0) S
    | _, _ => False
  | .builtin .min =>
    match c.args.toList.map (ρ) with
    | [.int k x, .int k' y] => K (.int k (if y < x then y else x)) S
    | _ => False
  | .builtin .max =>
    match c.args.toList.map (ρ) with
    | [.int k x, .int k' y] => K (.int k (if x < y then y else x)) S
    | _ => False
  | .builtin .append =>
    match c.args.toList.map (ρ), c.argTypes.toList with
    | [s, x], [t, u] => appendA P t u s x S K
    | _, _ => False
  | _ => False


def storeG (P : Program) (t : TypeId) (ad v : AV) (S : ASt) (K : AV → ASt → Prop) : Prop :=
  match ad with
  | .ptr (some (o, i)) =>
    match S.objs[o]? with
    | some cs => v.box = true ∧ szA P t = some v.cells.length ∧ i + v.cells.length ≤ cs.length ∧ K .top (S.put o (setA cs i v.cells))
    | none => False
  | _ => False

def opG (P : Program) (own : Nat → Bool) (o : Oper) (ρ : Operand → AV) (S : ASt) (K : AV → ASt → Prop) : Prop :=
  match o.op with
  | .move x => K (ρ x) S
  | .assign x => K (ρ x) S
  | .pick c a b => match ρ c with
    | .bool x => K (if x then ρ a else ρ b) S
    | _ => False
  | .alloc e => match zeroA P e with
    | some cs => K (.ptr (some (S.objs.length, 0))) (S.push cs)
    | none => False
  | .box e x => (ρ x).box = true ∧ K (.ptr (some (S.objs.length, 0))) (S.push (ρ x).cells)
  | .build t parts =>
    match zeroA P t, placesA P t with
    | some z, some pl => match fillA pl z (parts.toList.map fun p => (p.1, ρ p.2)) with
      | some cs => K (.agg cs) S
      | none => False
    | _, _ => False
  | .buildSlice t n parts =>
    match sliceT P t with
    | some e => match szA P e, zeroA P e, aggT P e with
      | some sz, some z, some ag => n * sz ≤ 16777216 ∧ 0 < sz ∧ (ag = true ∨ sz = 1) ∧ match fillS sz (List.replicate n (elemA ag z)) (parts.toList.map fun p => (p.1, ρ p.2)) with
        | some xs => match o.dst with
          | some d => if own d then K (.sl (.own S.next) sz xs) S.fresh else K (.sl .ro sz xs) S
          | none => False
        | none => False
      | _, _, _ => False
    | none => False
  | .load t a => loadA P t (ρ a) S (fun v => K v S)
  | .store t a x => storeG P t (ρ a) (ρ x) S K
  | .nilCheck x => match ρ x with
    | .ptr (some p) => K (.ptr (some p)) S
    | .iface t v => K (.iface t v) S
    | _ => False
  | .binOp op t x y _ => if isNilC y then nilA P op t (ρ x) S (fun v => K v S) else binA P op t (ρ x) (ρ y) (fun v => K v S)
  | .unOp op _ x => match op, ρ x with
    | .not, .bool b => K (.bool (!b)) S
    | .neg, .int k n => K (.int k (k.wrap (0 - n))) S
    | _, _ => False
  | .convert s d x => if s = d then frzA P s (ρ x) S K else convA P s d (ρ x) S (fun v => K v S)
  | .makeInterface t x => isIfaceT P t = some false ∧ K (.iface t (ρ x)) S
  | .slice t x lo hi none => sliceG P ρ t (ρ x) lo hi S (fun v => K v S)
  | .fieldAddr s x f => match fieldA P s f with
    | some off => match ρ x with
      | .ptr (some (o, i)) => K (.ptr (some (o, i + off))) S
      | .eptr o sz xs i k => rdA S o ∧ K (.eptr o sz xs i (k + off)) S
      | _ => False
    | none => False
  | .indexAddr t x ix => idxA P t (ρ x) (ρ ix) S (fun v => K v S)
  | .index t x ix => ixA P t (ρ x) (ρ ix) (fun v => K v S)
  | .extract x i => match ρ x with
    | .tuple vs => match vs[i]? with
      | some v => K v S
      | none => False
    | _ => False
  | .call c => callG P c ρ S K
  | _ => False

section
variable {P : Program} {M : Modes} {S : ASt} {F : List AV}

theorem opA_M0 {o : Oper} {K : AV → List AV → ASt → Prop} : opA P (M0 M) o F S K ↔ opG P M.own o (ev F) S (fun v S' => K v F S') := by
  obtain ⟨dst, op, ty, pos, after, guard⟩ := o
  cases op <;> try exact Iff.rfl
  case store t ad x =>
    simp only [opA, opG, storeA, storeG]
    cases hq : ev F ad with
    | eptr ow sz xs i k =>
      cases ow <;> try exact Iff.rfl
      cases ad <;> simp [M0]
    | ptr p => cases p <;> exact Iff.rfl
    | _ => exact Iff.rfl
  case slice t x lo hi mx => cases mx <;> exact Iff.rfl

theorem bndA_mono {x : AV} {K K' : Int → Prop} (h : ∀ n, K n → K' n) : bndA x K → bndA x K' := by
  unfold bndA; cases x <;> intro hh <;> first | exact h _ hh | exact hh

theorem optG_congr {ρ ρ' : Operand → AV} {x : Option Operand} {d : Int} {K : Int → Prop} (h : ∀ y, x = some y → ρ y = ρ' y) : optG ρ x d K = optG ρ' x d K := by
  cases x with
  | none => rfl
  | some y => simp only [optG, h y rfl]

theorem parts_congr {ρ ρ' : Operand → AV} {parts : Array (Nat × Operand)} (h : ∀ x ∈ (parts.toList.map (·.2)).toArray, ρ x = ρ' x) :
    (parts.toList.map fun p => (p.1, ρ p.2)) = parts.toList.map fun p => (p.1, ρ' p.2) := by
  apply List.map_congr_left
  intro p hp
  rw [h p.2 (by simp only [List.mem_toArray, List.mem_map]; exact ⟨p, hp, rfl⟩)]

theorem opG_congr {own : Nat → Bool} {o : Oper} {ρ ρ' : Operand → AV} {K : AV → ASt → Prop} (h : ∀ x ∈ o.op.operands, ρ x = ρ' x) : opG P own o ρ S K → opG P own o ρ' S K := by
  obtain ⟨dst, op, ty, pos, after, guard⟩ := o
  cases op <;> simp only [Op.operands] at h <;> simp only [opG] <;> try exact id
  case move x => rw [h x (by simp)]; exact id
  case assign x => rw [h x (by simp)]; exact id
  case pick c a b => rw [h c (by simp), h a (by simp), h b (by simp)]; exact id
  case box e x => rw [h x (by simp)]; exact id
  case build t ps => rw [parts_congr h]; exact id
  case buildSlice t n ps => rw [parts_congr h]; exact id
  case load t x => rw [h x (by simp)]; exact id
  case store t x y => rw [h x (by simp), h y (by simp)]; exact id
  case nilCheck x => rw [h x (by simp)]; exact id
  case binOp op t x y yt => rw [h x (by simp), h y (by simp)]; exact id
  case unOp op t x => rw [h x (by simp)]; exact id
  case convert s d x => rw [h x (by simp)]; exact id
  case makeInterface t x => rw [h x (by simp)]; exact id
  case slice t x lo hi mx =>
    cases mx with
    | some m => exact id
    | none =>
      simp only
      have e1 : ∀ (d : Int) K, optG ρ lo d K = optG ρ' lo d K := fun d K => optG_congr (fun y hy => h y (by simp [hy]))
      have e2 : ∀ (d : Int) K, optG ρ hi d K = optG ρ' hi d K := fun d K => optG_congr (fun y hy => h y (by simp [hy]))
      rw [h x (by simp)]
      unfold sliceG
      simp only [e1, e2]
      exact id
  case fieldAddr s x f => rw [h x (by simp)]; exact id
  case indexAddr t x y => rw [h x (by simp), h y (by simp)]; exact id
  case index t x y => rw [h x (by simp), h y (by simp)]; exact id
  case extract x i => rw [h x (by simp)]; exact id
  case call c =>
    obtain ⟨callee, args, argTypes⟩ := c
    have ha : args.toList.map ρ = args.toList.map ρ' := List.map_congr_left fun x hx => h x (by simp [Call.operands, Array.mem_toList_iff.1 hx])
    unfold callG
    cases callee with
    | value f => simp only [ha, h f (by simp [Call.operands])]; exact id
    | invoke r name => simp only [ha, h r (by simp [Call.operands])]; exact id
    | builtin b => cases b <;> simp only [ha] <;> exact id

theorem appendA_mono {t u : TypeId} {s x : AV} {K K' : AV → ASt → Prop} (hk : ∀ v S', K v S' → K' v S') (h : appendA P t u s x S K) : appendA P t u s x S K' := by
  unfold appendA at h ⊢
  split at h
  · exact h.elim
  · split at h
    · obtain ⟨h1, h2, h⟩ := h
      refine ⟨h1, h2, ?_⟩
      split at h
      · obtain ⟨a1, a2, a3, a4, h⟩ := h
        refine ⟨a1, a2, a3, a4, ?_⟩
        split at h
        · exact hk _ _ h
        · exact ⟨h.1, h.2.1, hk _ _ h.2.2⟩
        · exact h.elim
      · obtain ⟨a1, a2, a3, a4, h⟩ := h
        exact ⟨a1, a2, a3, a4, hk _ _ h⟩
      · exact h.elim
    · exact h.elim

/-! ### one value -/
theorem intA_det {op : BinOp} {k k' : IntKind} {x y : Int} {K : AV → Prop} (h : intA op k k' x y K) : ∃ v, K v ∧ ∀ K' : AV → Prop, K' v → intA op k k' x y K' := by
  unfold intA at h
  split at h <;> first
    | exact h.elim
    | exact ⟨_, h.2, fun K' hk => ⟨h.1, hk⟩⟩
    | exact ⟨_, h.2.2, fun K' hk => ⟨h.1, h.2.1, hk⟩⟩

theorem strA_det {op : BinOp} {x y : List UInt8} {K : AV → Prop} (h : strA op x y K) : ∃ v, K v ∧ ∀ K' : AV → Prop, K' v → strA op x y K' := by
  unfold strA at h
  split at h <;> first
    | exact h.elim
    | exact ⟨_, h.2, fun K' hk => ⟨h.1, hk⟩⟩
    | exact ⟨_, h, fun K' hk => hk⟩

theorem binA_det {op : BinOp} {t : TypeId} {a b : AV} {K : AV → Prop} (h : binA P op t a b K) : ∃ v, K v ∧ ∀ K' : AV → Prop, K' v → binA P op t a b K' := by
  unfold binA at h ⊢
  split at h
  · exact intA_det h
  · exact strA_det h
  all_goals first
    | exact h.elim
    | exact ⟨_, h.2, fun K' hk => ⟨h.1, hk⟩⟩
    | exact ⟨_, h.2.2, fun K' hk => ⟨h.1, h.2.1, hk⟩⟩

theorem convA_det {s d : TypeId} {x : AV} {K : AV → Prop} (h : convA P s d x S K) : ∃ v, K v ∧ ∀ K' : AV → Prop, K' v → convA P s d x S K' := by
  unfold convA at h ⊢
  split at h
  · split at h
    · exact ⟨_, h.2, fun K' hk => ⟨h.1, hk⟩⟩
    · exact h.elim
  · split at h
    · exact ⟨_, h, fun K' hk => hk⟩
    · exact ⟨_, h.2, fun K' hk => ⟨h.1, hk⟩⟩
    · exact h.elim
  · split at h
    · exact ⟨_, h.2.2.2.2, fun K' hk => ⟨h.1, h.2.1, h.2.2.1, h.2.2.2.1, hk⟩⟩
    · exact h.elim
  · exact h.elim

theorem bndA_det {x : AV} {K : Int → Prop} (h : bndA x K) : ∃ n, K n ∧ ∀ K' : Int → Prop, K' n → bndA x K' := by
  unfold bndA at h ⊢
  split at h
  · exact ⟨_, h, fun K' hk => hk⟩
  · exact h.elim
theorem optG_det {ρ : Operand → AV} {x : Option Operand} {d : Int} {K : Int → Prop} (h : optG ρ x d K) : ∃ n, K n ∧ ∀ K' : Int → Prop, K' n → optG ρ x d K' := by
  cases x with
  | none => exact ⟨d, h, fun K' hk => hk⟩
  | some y => exact bndA_det h

theorem sliceG_det {ρ : Operand → AV} {t : TypeId} {x : AV} {lo hi : Option Operand} {K : AV → Prop} (h : sliceG P ρ t x lo hi S K) : ∃ v, K v ∧ ∀ K' : AV → Prop, K' v → sliceG P ρ t x lo hi S K' := by
  unfold sliceG at h ⊢
  split at h
  · split at h
    · obtain ⟨h1, h2, h3, h⟩ := h
      obtain ⟨l, h, hl⟩ := optG_det h
      obtain ⟨r, h, hr⟩ := optG_det h
      exact ⟨_, h.2, fun K' hk => ⟨h1, h2, h3, hl _ (hr _ ⟨h.1, hk⟩)⟩⟩
    · exact h.elim
  · obtain ⟨h1, h⟩ := h
    obtain ⟨l, h, hl⟩ := optG_det h
    obtain ⟨r, h, hr⟩ := optG_det h
    exact ⟨_, h.2, fun K' hk => ⟨h1, hl _ (hr _ ⟨h.1, hk⟩)⟩⟩
  · exact h.elim

theorem loadA_det {t : TypeId} {a : AV} {K : AV → Prop} (h : loadA P t a S K) : ∃ v, K v ∧ ∀ K' : AV → Prop, K' v → loadA P t a S K' := by
  unfold loadA at h ⊢
  split at h
  · split at h
    · split at h
      · split at h
        · exact ⟨_, h, fun K' hk => hk⟩
        · exact h.elim
      · split at h
        · exact ⟨_, h.2, fun K' hk => ⟨h.1, hk⟩⟩
        · exact h.elim
      · exact h.elim
    · exact h.elim
  · split at h
    · exact ⟨_, h.2.2, fun K' hk => ⟨h.1, h.2.1, hk⟩⟩
    · split at h
      · exact ⟨_, h.2.2, fun K' hk => ⟨h.1, h.2.1, hk⟩⟩
      · exact h.elim
    · exact h.elim
  · exact h.elim

theorem idxA_det {t : TypeId} {x ix : AV} {K : AV → Prop} (h : idxA P t x ix S K) : ∃ v, K v ∧ ∀ K' : AV → Prop, K' v → idxA P t x ix S K' := by
  unfold idxA at h ⊢
  split at h
  · split at h
    · split at h
      · exact ⟨_, h.2.2.2, fun K' hk => ⟨h.1, h.2.1, h.2.2.1, hk⟩⟩
      · exact h.elim
    · split at h
      · split at h
        · exact ⟨_, h.2, fun K' hk => ⟨h.1, hk⟩⟩
        · exact h.elim
      · exact h.elim
    · split at h
      · split at h
        · exact ⟨_, h.2.2, fun K' hk => ⟨h.1, h.2.1, hk⟩⟩
        · exact h.elim
      · exact h.elim
    · exact h.elim
  · exact h.elim

theorem ixA_det {t : TypeId} {x ix : AV} {K : AV → Prop} (h : ixA P t x ix K) : ∃ v, K v ∧ ∀ K' : AV → Prop, K' v → ixA P t x ix K' := by
  unfold ixA at h ⊢
  split at h
  · split at h
    · split at h
      · exact ⟨_, h.2.2.2.2, fun K' hk => ⟨h.1, h.2.1, h.2.2.1, h.2.2.2.1, hk⟩⟩
      · exact h.elim
    · exact ⟨_, h.2.2, fun K' hk => ⟨h.1, h.2.1, hk⟩⟩
    · exact h.elim
  · exact h.elim

theorem builtin_det {b : Builtin} {args : Array Operand} {argTypes : Array TypeId} {ρ : Operand → AV} {K : AV → ASt → Prop} (hb : b = .len ∨ b = .cap ∨ b = .min ∨ b = .max)
    (h : callG P { callee := .builtin b, args, argTypes } ρ S K) : ∃ v, K v S ∧ ∀ (S' : ASt) (K' : AV → ASt → Prop), K' v S' → callG P { callee := .builtin b, args, argTypes } ρ S' K' := by
  unfold callG at h ⊢
  rcases hb with rfl | rfl | rfl | rfl <;> simp only at h ⊢ <;> split at h <;> first
    | exact h.elim
    | exact ⟨_, h.2, fun S' K' hk => ⟨h.1, hk⟩⟩
    | exact ⟨_, h, fun S' K' hk => hk⟩

theorem quiet_det {o : Oper} {ρ : Operand → AV} {K : AV → ASt → Prop} (hq : effOp M o = false) (h : opG P M.own o ρ S K) :
    ∃ v, K v S ∧ ∀ K' : AV → ASt → Prop, K' v S → opG P M.own o ρ S K' := by
  obtain ⟨dst, op, ty, pos, after, guard⟩ := o
  cases op <;> simp only [effOp] at hq <;> try (simp at hq; done)
  all_goals simp only [opG] at h ⊢
  case move x => exact ⟨_, h, fun K' hk => hk⟩
  case pick c a b => split at h; exact ⟨_, h, fun K' hk => hk⟩; exact h.elim
  case build t ps =>
    split at h
    · split at h
      · exact ⟨_, h, fun K' hk => hk⟩
      · exact h.elim
    · exact h.elim
  case buildSlice t n ps =>
    split at h
    · split at h
      · obtain ⟨h1, h2, h3, h⟩ := h
        split at h
        · cases dst with
          | none => exact h.elim
          | some d =>
            simp only at h hq ⊢
            rw [hq] at h ⊢
            exact ⟨_, h, fun K' hk => ⟨h1, h2, h3, hk⟩⟩
        · exact h.elim
      · exact h.elim
    · exact h.elim
  case load t x =>
    obtain ⟨v, h1, h2⟩ := loadA_det h
    exact ⟨v, h1, fun K' hk => h2 _ hk⟩
  case nilCheck x =>
    split at h
    · exact ⟨_, h, fun K' hk => hk⟩
    · exact ⟨_, h, fun K' hk => hk⟩
    · exact h.elim
  case binOp op t x y yt =>
    rw [hq] at h ⊢
    simp only [Bool.false_eq_true, if_false] at h ⊢
    obtain ⟨v, h1, h2⟩ := binA_det h
    exact ⟨v, h1, fun K' hk => h2 _ hk⟩
  case unOp op t x =>
    split at h
    · exact ⟨_, h, fun K' hk => hk⟩
    · exact ⟨_, h, fun K' hk => hk⟩
    · exact h.elim
  case convert s d x =>
    have hq' : s ≠ d := by simpa using hq
    rw [if_neg hq'] at h
    obtain ⟨v, h1, h2⟩ := convA_det h
    exact ⟨v, h1, fun K' hk => by rw [if_neg hq']; exact h2 _ hk⟩
  case makeInterface t x => exact ⟨_, h.2, fun K' hk => ⟨h.1, hk⟩⟩
  case slice t x lo hi mx =>
    cases mx with
    | some m => exact h.elim
    | none =>
      obtain ⟨v, h1, h2⟩ := sliceG_det h
      exact ⟨v, h1, fun K' hk => h2 _ hk⟩
  case fieldAddr s x f =>
    split at h
    · split at h
      · exact ⟨_, h, fun K' hk => hk⟩
      · exact ⟨_, h.2, fun K' hk => ⟨h.1, hk⟩⟩
      · exact h.elim
    · exact h.elim
  case indexAddr t x y =>
    obtain ⟨v, h1, h2⟩ := idxA_det h
    exact ⟨v, h1, fun K' hk => h2 _ hk⟩
  case index t x y =>
    obtain ⟨v, h1, h2⟩ := ixA_det h
    exact ⟨v, h1, fun K' hk => h2 _ hk⟩
  case extract x i =>
    split at h
    · split at h
      · exact ⟨_, h, fun K' hk => hk⟩
      · exact h.elim
    · exact h.elim
  case call c =>
    obtain ⟨callee, args, argTypes⟩ := c
    have hb : ∃ b, callee = .builtin b ∧ (b = .len ∨ b = .cap ∨ b = .min ∨ b = .max) := by
      cases callee with
      | value f => simp at hq
      | invoke r n => simp at hq
      | builtin b => cases b <;> simp at hq ⊢
    obtain ⟨b, rfl, hb⟩ := hb
    obtain ⟨v, h1, h2⟩ := builtin_det hb h
    exact ⟨v, h1, fun K' hk => h2 S K' hk⟩

theorem pure_det {o : Oper} {ρ : Operand → AV} {K : AV → ASt → Prop} (hq : pureOp o = true) (h : opG P M.own o ρ S K) :
    ∃ v, K v S ∧ ∀ (S' : ASt) (K' : AV → ASt → Prop), K' v S' → opG P M.own o ρ S' K' := by
  obtain ⟨dst, op, ty, pos, after, guard⟩ := o
  cases op <;> simp only [pureOp] at hq <;> try (simp at hq; done)
  all_goals simp only [opG] at h ⊢
  case move x => exact ⟨_, h, fun S' K' hk => hk⟩
  case pick c a b => split at h; exact ⟨_, h, fun S' K' hk => hk⟩; exact h.elim
  case build t ps =>
    split at h
    · split at h
      · exact ⟨_, h, fun S' K' hk => hk⟩
      · exact h.elim
    · exact h.elim
  case nilCheck x =>
    split at h
    · exact ⟨_, h, fun S' K' hk => hk⟩
    · exact ⟨_, h, fun S' K' hk => hk⟩
    · exact h.elim
  case binOp op t x y yt =>
    have hq' : isNilC y = false := by simpa using hq
    rw [hq'] at h ⊢
    simp only [Bool.false_eq_true, if_false] at h ⊢
    obtain ⟨v, h1, h2⟩ := binA_det h
    exact ⟨v, h1, fun S' K' hk => h2 _ hk⟩
  case unOp op t x =>
    split at h
    · exact ⟨_, h, fun S' K' hk => hk⟩
    · exact ⟨_, h, fun S' K' hk => hk⟩
    · exact h.elim
  case makeInterface t x => exact ⟨_, h.2, fun S' K' hk => ⟨h.1, hk⟩⟩
  case index t x y =>
    obtain ⟨v, h1, h2⟩ := ixA_det h
    exact ⟨v, h1, fun S' K' hk => h2 _ hk⟩
  case extract x i =>
    split at h
    · split at h
      · exact ⟨_, h, fun S' K' hk => hk⟩
      · exact h.elim
    · exact h.elim
  case call c =>
    obtain ⟨callee, args, argTypes⟩ := c
    have hb : ∃ b, callee = .builtin b ∧ (b = .len ∨ b = .cap ∨ b = .min ∨ b = .max) := by
      cases callee with
      | value f => simp at hq
      | invoke r n => simp at hq
      | builtin b => cases b <;> simp at hq ⊢
    obtain ⟨b, rfl, hb⟩ := hb
    obtain ⟨v, h1, h2⟩ := builtin_det hb h
    exact ⟨v, h1, h2⟩
end
end Go.Proofs.Ythpomdoaiibnfaa.Abs

namespace Go.Proofs.Ythpomdoaiibnfaa.Abs
open Go Go.RowKit
set_option linter.unusedVariables false
set_option linter.unusedSimpArgs false

/-! ### what goes before what -/
theorem testBit_fold (f : Nat → Nat) (b : Nat) : ∀ (l : List Nat) (s : Nat), (l.foldl (fun s j => s ||| 2 ^ j ||| f j) s).testBit b = true → s.testBit b = true ∨ ∃ j ∈ l, b = j ∨ (f j).testBit b = true
  | [], s, h => .inl h
  | j :: l, s, h => by
    simp only [List.foldl_cons] at h
    rcases testBit_fold f b l _ h with h | ⟨k, hk, h⟩
    · rw [Nat.testBit_or, Nat.testBit_or, Bool.or_eq_true, Bool.or_eq_true] at h
      rcases h with (h | h) | h
      · exact .inl h
      · rw [Nat.testBit_two_pow] at h
        exact .inr ⟨j, by simp, .inl (by have := of_decide_eq_true h; exact this.symm)⟩
      · exact .inr ⟨j, by simp, .inr h⟩
    · exact .inr ⟨k, by simp [hk], h⟩

theorem preL_keep : ∀ (rest : List Oper) (acc : List Nat) (i : Nat), i < acc.length → (preL rest acc).getD i 0 = acc.getD i 0
  | [], acc, i, h => rfl
  | o :: rest, acc, i, h => by
    simp only [preL]
    rw [preL_keep rest _ i (by simp; omega)]
    simp [List.getD, List.getElem?_append_left h]

theorem preL_spec : ∀ (rest : List Oper) (acc : List Nat) (k : Nat) (o : Oper), rest[k]? = some o → ∀ b, ((preL rest acc).getD (acc.length + k) 0).testBit b = true →
    b ∈ edgesOf o ∨ ∃ m ∈ edgesOf o, m < acc.length + k ∧ ((preL rest acc).getD m 0).testBit b = true
  | [], acc, k, o, h, _, _ => by simp at h
  | p :: rest, acc, 0, o, h, b, hb => by
    simp only [List.getElem?_cons_zero, Option.some.injEq] at h
    subst h
    simp only [preL, Nat.add_zero] at hb ⊢
    rw [preL_keep rest _ acc.length (by simp)] at hb
    have e : (acc ++ [(edgesOf p).foldl (fun s j => s ||| 2 ^ j ||| acc.getD j 0) 0]).getD acc.length 0 = (edgesOf p).foldl (fun s j => s ||| 2 ^ j ||| acc.getD j 0) 0 := by simp [List.getD]
    rw [e] at hb
    rcases testBit_fold (fun j => acc.getD j 0) b _ _ hb with h | ⟨j, hj, h⟩
    · simp at h
    · rcases h with h | h
      · subst h; exact .inl hj
      · by_cases hlt : j < acc.length
        · refine .inr ⟨j, hj, hlt, ?_⟩
          rw [preL_keep rest _ j (by simp; omega)]
          simpa [List.getD, List.getElem?_append_left hlt] using h
        · simp [List.getD, hlt] at h
  | p :: rest, acc, k + 1, o, h, b, hb => by
    simp only [preL] at hb ⊢
    have := preL_spec rest (acc ++ [(edgesOf p).foldl (fun s j => s ||| 2 ^ j ||| acc.getD j 0) 0]) k o (by simpa using h) b
      (by simp only [List.length_append, List.length_singleton]; rwa [show acc.length + 1 + k = acc.length + (k + 1) by omega])
    simp only [List.length_append, List.length_singleton] at this
    rwa [show acc.length + 1 + k = acc.length + (k + 1) by omega] at this

structure DrawFacts (P : Program) (M : Modes) (ops : List Oper) (ord : List Nat) : Prop where
  follows : P.follows .mixedOrders = true
  all : ∀ i, i < ops.length → i ∈ ord
  lt : ∀ i, i ∈ ord → i < ops.length
  edge : ∀ i o, ops[i]? = some o → ∀ j ∈ edgesOf o, j < i
  ordB : ordB M ops (preL ops []) ord = true
  dst : ∀ i o, ops[i]? = some o → ∀ t, o.dst = some t → ∀ j p, ops[j]? = some p → t ∈ names ops p →
    (i = j ∧ t ∉ looks ops p) ∨ ((preL ops []).getD j 0).testBit i = true ∨ (effOp M o = true ∧ ((preL ops []).getD i 0).testBit j = true) ∨ (effOp M o = true ∧ i = j)

theorem drawFacts {P : Program} {M : Modes} {ops : List Oper} {ord : List Nat} (h : drawOk P M ops ord = true) : DrawFacts P M ops ord := by
  unfold drawOk at h
  simp only [Bool.and_eq_true, List.all_eq_true, decide_eq_true_eq] at h
  obtain ⟨⟨⟨⟨⟨h1, h2⟩, h3⟩, h4⟩, h5⟩, h6⟩ := h
  refine ⟨h1, fun i hi => by have := h2 i (by simpa using hi); simpa using this, h3, fun i o ho j hj => ?_, h5, fun i o ho t ht j p hp hn => ?_⟩
  · exact h4 (o, i) (List.mem_zipIdx_iff_getElem?.2 ho) j hj
  · have := h6 (o, i) (List.mem_zipIdx_iff_getElem?.2 ho)
    simp only [ht, List.all_eq_true] at this
    have := this (p, j) (List.mem_zipIdx_iff_getElem?.2 hp)
    simp only [Bool.or_eq_true, Bool.and_eq_true, beq_iff_eq, Bool.not_eq_true', List.contains_eq_mem, decide_eq_false_iff_not] at this
    rcases this with ((h | h) | h) | (h | h)
    · exact .inl h
    · exact absurd hn h
    · exact .inr (.inl h)
    · exact .inr (.inr (.inl h))
    · exact .inr (.inr (.inr h))

theorem ordB_split {M : Modes} {ops : List Oper} {pre : List Nat} : ∀ (C : List Nat) (i : Nat) (rest : List Nat), ordB M ops pre (C ++ i :: rest) = true →
    (∀ j ∈ C, (pre.getD j 0).testBit i = false ∧ j ≠ i) ∧ (∀ j ∈ rest, (∀ o, ops[i]? = some o → effOp M o = true → (pre.getD j 0).testBit i = true) ∧ i ≠ j)
  | [], i, rest, h => by
    simp only [List.nil_append, ordB, Bool.and_eq_true, Bool.or_eq_true, List.all_eq_true, Bool.not_eq_true', beq_eq_false_iff_ne] at h
    obtain ⟨⟨h1, h2⟩, _⟩ := h
    refine ⟨by simp, fun j hj => ⟨fun o ho he => ?_, (h2 j hj).2⟩⟩
    rcases h1 with h1 | h1
    · rw [ho] at h1; simp [he] at h1
    · exact h1 j hj
  | c :: C, i, rest, h => by
    simp only [List.cons_append, ordB, Bool.and_eq_true] at h
    obtain ⟨⟨h1, h2⟩, h3⟩ := h
    obtain ⟨a1, a2⟩ := ordB_split C i rest h3
    refine ⟨fun j hj => ?_, a2⟩
    rcases List.mem_cons.1 hj with rfl | hj
    · have := (List.all_eq_true.1 h2) i (by simp)
      simp only [Bool.and_eq_true, Bool.not_eq_true', beq_eq_false_iff_ne] at this
      exact this
    · exact a1 j hj

section
variable {P : Program} {M : Modes} {ops : List Oper} {ord : List Nat}

theorem pre_lt (hf : DrawFacts P M ops ord) : ∀ (i : Nat) (o : Oper), ops[i]? = some o → ∀ b, ((preL ops []).getD i 0).testBit b = true → b < i := by
  intro i
  induction i using Nat.strongRecOn with
  | _ i ih =>
    intro o ho b hb
    have := preL_spec ops [] i o ho b (by simpa using hb)
    simp only [List.length_nil, Nat.zero_add] at this
    rcases this with h | ⟨m, hm, hlt, h⟩
    · exact hf.edge i o ho b h
    · have hil : i < ops.length := (List.getElem?_eq_some_iff.1 ho).1
      have := ih m hlt ops[m] (List.getElem?_eq_getElem (by omega)) b h
      omega

/-- A set that holds, with each operation, all that goes before it at once, holds all that goes before it. -/
theorem pre_sub (hf : DrawFacts P M ops ord) {D : Nat → Prop} (hD : ∀ i o, ops[i]? = some o → D i → ∀ j ∈ edgesOf o, D j) :
    ∀ (i : Nat) (o : Oper), ops[i]? = some o → (∀ j ∈ edgesOf o, D j) → ∀ b, ((preL ops []).getD i 0).testBit b = true → D b := by
  intro i
  induction i using Nat.strongRecOn with
  | _ i ih =>
    intro o ho he b hb
    have := preL_spec ops [] i o ho b (by simpa using hb)
    simp only [List.length_nil, Nat.zero_add] at this
    rcases this with h | ⟨m, hm, hlt, h⟩
    · exact he b h
    · have hil : i < ops.length := (List.getElem?_eq_some_iff.1 ho).1
      have hom : ops[m]? = some ops[m] := List.getElem?_eq_getElem (by omega)
      exact ih m hlt ops[m] hom (hD m _ hom (he m hm)) b h
end

/-! ### frames that differ where an operation does not look -/
theorem getD_setO_ne {F : List AV} {d : Option Tmp} {v : AV} {t : Nat} (h : d ≠ some t) : (setO F d v).getD t .top = F.getD t .top := by
  cases d with
  | none => rfl
  | some d =>
    have : d ≠ t := fun e => h (by rw [e])
    simp [setO, List.getD, List.getElem?_set_ne this]

theorem ev_agree {F F1 : List AV} {ops : List Oper} {o : Oper} (h : ∀ t ∈ looks ops o, F.getD t .top = F1.getD t .top) : ∀ x ∈ o.op.operands, ev F x = ev F1 x := by
  intro x hx
  cases x with
  | tmp t =>
    refine h t ?_
    unfold looks
    refine List.mem_append_left _ ?_
    exact List.mem_filterMap.2 ⟨.tmp t, Array.mem_toList_iff.2 hx, rfl⟩
  | _ => rfl

theorem want_agree {F F1 : List AV} {ops : List Oper} {o : Oper} (h : ∀ t ∈ looks ops o, F.getD t .top = F1.getD t .top) : wantA ops o F = wantA ops o F1 := by
  unfold wantA
  split
  · rfl
  · rename_i j want hg
    split
    · rename_i d hd
      have : d ∈ looks ops o := by
        unfold looks
        refine List.mem_append_right _ ?_
        simp [hg, hd]
      rw [h d this]
    · rfl

def Cand (P : Program) (M : Modes) (ops : List Oper) (F : List AV) (S : ASt) (o : Oper) : Prop :=
  (wantA ops o F = some false ∧ ∀ d, o.dst = some d → d < F.length → F.getD d .top = .tuple []) ∨
  (wantA ops o F = some true ∧ opG P M.own o (ev F) S (fun v S' => S' = S ∧ ∀ d, o.dst = some d → d < F.length → v = F.getD d .top))

theorem Cand.agree {P : Program} {M : Modes} {ops : List Oper} {F F1 : List AV} {S : ASt} {o : Oper} (h : ∀ t ∈ names ops o, F.getD t .top = F1.getD t .top) (hl : F.length = F1.length) (hc : Cand P M ops F S o) : Cand P M ops F1 S o := by
  have hlk : ∀ t ∈ looks ops o, F.getD t .top = F1.getD t .top := fun t ht => h t (List.mem_append_left _ ht)
  have hds : ∀ d, o.dst = some d → F.getD d .top = F1.getD d .top := fun d hd => h d (List.mem_append_right _ (by simp [hd]))
  rcases hc with ⟨h1, h2⟩ | ⟨h1, h2⟩
  · exact .inl ⟨by rw [← want_agree hlk]; exact h1, fun d hd hlt => by rw [← hds d hd]; exact h2 d hd (hl.symm ▸ hlt)⟩
  · refine .inr ⟨by rw [← want_agree hlk]; exact h1, ?_⟩
    have := opG_congr (ev_agree hlk) h2
    have he : (fun (v : AV) (S' : ASt) => S' = S ∧ ∀ d, o.dst = some d → d < F.length → v = F.getD d .top) = (fun (v : AV) (S' : ASt) => S' = S ∧ ∀ d, o.dst = some d → d < F1.length → v = F1.getD d .top) := by
      funext v S'
      apply propext
      constructor
      · rintro ⟨a, b⟩; exact ⟨a, fun d hd hlt => by rw [← hds d hd]; exact b d hd (hl.symm ▸ hlt)⟩
      · rintro ⟨a, b⟩; exact ⟨a, fun d hd hlt => by rw [hds d hd]; exact b d hd (hl ▸ hlt)⟩
    rwa [he] at this

def Dn (listed : Array Bool) (i : Nat) : Prop := listed.getD i false = true

structure Inv (P : Program) (M : Modes) (ops : List Oper) (ord : List Nat) (E0 : Env) (S0 : ASt) (w0 : World) (n0 : Nat) (K : List AV → ASt → Prop) (C rest L : List Nat) (E : Env) (S : ASt) (F : List AV) (D : Nat → Prop) (a : Act) (w : World) : Prop where
  ev : Evolves E0 S0 w0 E S w
  rel : Rel E S w
  len : F.length = a.tmps.size
  len0 : F.length = n0
  defers : a.defers = []
  ordq : ord = C ++ rest
  sub : ∀ i, D i → i ∈ C
  effs : ∀ i o, i ∈ C → ops[i]? = some o → effOp M o = true → D i
  frame : ∀ s, (∀ j o, j ∈ C → ¬ D j → ops[j]? = some o → o.dst ≠ some s) → VRel E S w (F.getD s .top) (a.tmps.getD s undef)
  pend : ∀ j o, j ∈ C → ¬ D j → ops[j]? = some o → Cand P M ops F S o ∧ (pureOp o = true ∨ j ∈ L ∨ wantA ops o F = some false)
  cont : drawGo P M ops (preL ops []) rest L F S K

def Stop (M : Modes) (ops : List Oper) (rest : List Nat) : Prop := rest = [] ∨ ∃ e rest' o, rest = e :: rest' ∧ ops[e]? = some o ∧ effOp M o = true

theorem advance {P : Program} {M : Modes} {ops : List Oper} {ord : List Nat} (hf : DrawFacts P M ops ord) {E0 : Env} {S0 : ASt} {w0 : World} {n0 : Nat} {K : List AV → ASt → Prop} {E : Env} {S : ASt} {D : Nat → Prop} {a : Act} {w : World} :
    ∀ (rest C L : List Nat) (F : List AV), Inv P M ops ord E0 S0 w0 n0 K C rest L E S F D a w → ∃ C' rest' L' F', Inv P M ops ord E0 S0 w0 n0 K C' rest' L' E S F' D a w ∧ Stop M ops rest'
  | [], C, L, F, h => ⟨C, [], L, F, h, .inl rfl⟩
  | i :: rest, C, L, F, h => by
    have hc := h.cont
    simp only [drawGo] at hc
    cases ho : ops[i]? with
    | none => rw [ho] at hc; exact hc.elim
    | some o =>
      rw [ho] at hc
      simp only at hc
      by_cases he : effOp M o = true
      · exact ⟨C, i :: rest, L, F, h, .inr ⟨i, rest, o, rfl, ho, he⟩⟩
      have he' : effOp M o = false := by simpa using he
      obtain ⟨oC, oR⟩ := ordB_split C i rest (h.ordq ▸ hf.ordB)
      have hiC : i ∉ C := fun hi => (oC i hi).2 rfl
      have hiD : ¬ D i := fun hi => hiC (h.sub i hi)
      -- the new frame differs at the operation's own slot alone
      have key : ∀ v L', (∀ x, x ∈ L → x ∈ L') → drawGo P M ops (preL ops []) rest L' (setO F o.dst v) S K →
          (Cand P M ops (setO F o.dst v) S o ∧ (pureOp o = true ∨ i ∈ L' ∨ wantA ops o (setO F o.dst v) = some false)) →
          Inv P M ops ord E0 S0 w0 n0 K (C ++ [i]) rest L' E S (setO F o.dst v) D a w := by
        intro v L' hL hcont hp
        have old : ∀ j p, j ∈ C → ops[j]? = some p → ∀ t ∈ names ops p, F.getD t .top = (setO F o.dst v).getD t .top := by
          intro j p hj hpj t ht
          refine (getD_setO_ne ?_).symm
          intro hd
          rcases hf.dst i o ho t hd j p hpj ht with ⟨e, _⟩ | h1 | ⟨h1, _⟩ | ⟨h1, _⟩
          · exact hiC (e ▸ hj)
          · have := (oC j hj).1; rw [h1] at this; cases this
          · exact he h1
          · exact he h1
        refine ⟨h.ev, h.rel, by rw [setO_length]; exact h.len, by rw [setO_length]; exact h.len0, h.defers, by rw [h.ordq]; simp, fun j hj => List.mem_append_left _ (h.sub j hj), ?_, ?_, ?_, hcont⟩
        · intro j p hj hpj hep
          rcases List.mem_append.1 hj with hj | hj
          · exact h.effs j p hj hpj hep
          · have hji : j = i := by simpa using hj
            subst hji; rw [ho] at hpj; cases hpj; exact absurd hep he
        · intro s hs
          have hds : o.dst ≠ some s := hs i o (by simp) hiD ho
          rw [getD_setO_ne hds]
          exact h.frame s (fun j p hj hd hpj => hs j p (List.mem_append_left _ hj) hd hpj)
        · intro j p hj hd hpj
          rcases List.mem_append.1 hj with hj | hj
          · obtain ⟨c1, c2⟩ := h.pend j p hj hd hpj
            refine ⟨c1.agree (old j p hj hpj) (setO_length _ _).symm, ?_⟩
            rcases c2 with c2 | c2 | c2
            · exact .inl c2
            · exact .inr (.inl (hL _ c2))
            · exact .inr (.inr (by rw [← want_agree (fun t ht => old j p hj hpj t (List.mem_append_left _ ht))]; exact c2))
          · have hji : j = i := by simpa using hj
            subst hji; rw [ho] at hpj; cases hpj; exact hp
      -- the operation does not look at its own slot
      have own : ∀ v, ∀ t ∈ looks ops o, F.getD t .top = (setO F o.dst v).getD t .top := by
        intro v t ht
        refine (getD_setO_ne ?_).symm
        intro hd
        rcases hf.dst i o ho t hd i o ho (List.mem_append_left _ ht) with ⟨_, h1⟩ | h1 | ⟨h1, _⟩ | ⟨h1, _⟩
        · exact h1 ht
        · exact absurd (pre_lt hf i o ho i h1) (Nat.lt_irrefl _)
        · exact he h1
        · exact he h1
      have atd : ∀ v, ∀ d, o.dst = some d → d < (setO F o.dst v).length → (setO F o.dst v).getD d .top = v := by
        intro v d hd hlt
        rw [setO_length] at hlt
        rw [hd]
        simp [setO, List.getD, hlt]
      split at hc
      · exact hc.elim
      · rename_i hw
        exact advance hf rest (C ++ [i]) L _ (key _ L (fun _ h => h) hc
          ⟨.inl ⟨by rw [← want_agree (own _)]; exact hw, fun d hd hlt => atd _ d hd hlt⟩, .inr (.inr (by rw [← want_agree (own _)]; exact hw))⟩)
      · rename_i hw
        rw [if_neg he] at hc
        rw [opA_M0] at hc
        obtain ⟨v, hv, hdet⟩ := quiet_det he' hc
        refine advance hf rest (C ++ [i]) (if pureOp o then L else i :: L) _ (key v _ ?_ hv ⟨.inr ⟨by rw [← want_agree (own _)]; exact hw, ?_⟩, ?_⟩)
        · intro x hx; split; exact hx; exact List.mem_cons_of_mem _ hx
        · exact opG_congr (ev_agree (own v)) (hdet _ ⟨rfl, fun d hd hlt => (atd v d hd hlt).symm⟩)
        · by_cases hp : pureOp o = true
          · exact .inl hp
          · exact .inr (.inl (by rw [if_neg hp]; simp))
end Go.Proofs.Ythpomdoaiibnfaa.Abs

namespace Go.Proofs.Ythpomdoaiibnfaa.Abs
open Go Go.RowKit
set_option linter.unusedVariables false
set_option linter.unusedSimpArgs false

section
variable {P : Program} {M : Modes} {ops : List Oper} {ord : List Nat} {E0 : Env} {S0 : ASt} {w0 : World} {n0 : Nat} {K : List AV → ASt → Prop}

open Classical in
noncomputable def hide (F : List AV) (B : Nat → Prop) : List AV := F.zipIdx.map fun p => if B p.2 then .top else p.1

theorem hide_length (F : List AV) (B : Nat → Prop) : (hide F B).length = F.length := by simp [hide]
theorem hide_no {F : List AV} {B : Nat → Prop} {s : Nat} (h : ¬ B s) : (hide F B).getD s .top = F.getD s .top := by
  simp only [hide, List.getD, List.getElem?_map, List.getElem?_zipIdx]
  cases hq : F[s]? with
  | none => simp
  | some v => simp [h]
theorem hide_yes {F : List AV} {B : Nat → Prop} {s : Nat} (h : B s) : (hide F B).getD s .top = .top := by
  simp only [hide, List.getD, List.getElem?_map, List.getElem?_zipIdx]
  cases hq : F[s]? with
  | none => simp
  | some v => simp [h]

def Blocked (ops : List Oper) (C : List Nat) (D : Nat → Prop) (s : Nat) : Prop := ∃ j o, j ∈ C ∧ ¬ D j ∧ ops[j]? = some o ∧ o.dst = some s

theorem Inv.hidden {C rest L : List Nat} {E : Env} {S : ASt} {F : List AV} {D : Nat → Prop} {a : Act} {w : World} (h : Inv P M ops ord E0 S0 w0 n0 K C rest L E S F D a w) :
    FRel E S w (hide F (Blocked ops C D)) a.tmps := by
  refine ⟨by rw [hide_length]; exact h.len, fun s => ?_⟩
  by_cases hb : Blocked ops C D s
  · rw [hide_yes hb]; exact .top _
  · rw [hide_no hb]
    exact h.frame s (fun j o h1 h2 h3 h4 => hb ⟨j, o, h1, h2, h3, h4⟩)

theorem ready_spec {listed : Array Bool} {i : Nat} (hs : listed.size = ops.length) (h : i ∈ Region.ready .any ops.toArray listed) :
    ∃ o, ops[i]? = some o ∧ ¬ Dn listed i ∧ ∀ j ∈ edgesOf o, Dn listed j := by
  unfold Region.ready at h
  simp only [List.mem_filter, List.mem_range, List.size_toArray, Bool.and_eq_true, Bool.not_eq_true', List.getElem?_toArray] at h
  obtain ⟨hlt, h1, h2⟩ := h
  have ho : ops[i]? = some ops[i] := List.getElem?_eq_getElem hlt
  rw [ho] at h2
  simp only [Option.map_some, Option.getD_some, Array.all_eq_true_iff_forall_mem, Bool.or_eq_true, Bool.not_eq_true'] at h2
  refine ⟨ops[i], ho, ?_, ?_⟩
  · unfold Dn
    have hls : i < listed.size := by omega
    simp only [Array.getD, hls, dif_pos] at h1 ⊢
    simpa using h1
  · intro j hj
    unfold edgesOf at hj
    obtain ⟨e, he, rfl⟩ := List.mem_map.1 hj
    obtain ⟨he1, he2⟩ := List.mem_filter.1 he
    rcases h2 e (Array.mem_toList_iff.1 he1) with h | h
    · rw [h] at he2; cases he2
    · exact h

theorem ready_nil {listed : Array Bool} (hf : DrawFacts P M ops ord) (hs : listed.size = ops.length) (h : Region.ready .any ops.toArray listed = []) : ∀ i, i < ops.length → Dn listed i := by
  intro i
  induction i using Nat.strongRecOn with
  | _ i ih =>
    intro hi
    apply Classical.byContradiction
    intro hn
    have hmem : i ∈ Region.ready .any ops.toArray listed := by
      unfold Region.ready
      simp only [List.mem_filter, List.mem_range, List.size_toArray, Bool.and_eq_true, Bool.not_eq_true', List.getElem?_toArray]
      have ho : ops[i]? = some ops[i] := List.getElem?_eq_getElem hi
      refine ⟨hi, ?_, ?_⟩
      · have hls : i < listed.size := by omega
        unfold Dn at hn
        simp only [Array.getD, hls, dif_pos] at hn ⊢
        simpa using hn
      · rw [ho]
        simp only [Option.map_some, Option.getD_some, Array.all_eq_true_iff_forall_mem, Bool.or_eq_true, Bool.not_eq_true']
        intro e he
        by_cases hb : Region.binds .any e = true
        · right
          have hj : e.on ∈ edgesOf ops[i] := List.mem_map.2 ⟨e, List.mem_filter.2 ⟨Array.mem_toList_iff.2 he, hb⟩, rfl⟩
          have hlt := hf.edge i _ ho _ hj
          exact ih e.on hlt (by omega)
        · left; simpa using hb
    rw [h] at hmem; cases hmem

theorem Dn_set {listed : Array Bool} {i j : Nat} (hi : i < listed.size) : Dn (listed.setIfInBounds i true) j ↔ j = i ∨ Dn listed j := by
  unfold Dn
  simp only [Array.getD_eq_getD_getElem?, Array.getElem?_setIfInBounds]
  by_cases h : i = j
  · subst h; simp [hi]
  · simp [h, Ne.symm h]

def unl (ops : List Oper) (listed : Array Bool) : Nat := ((List.range ops.length).filter fun i => !listed.getD i false).length

theorem unl_set {listed : Array Bool} {i : Nat} (hs : listed.size = ops.length) (hi : i < ops.length) (hn : ¬ Dn listed i) : unl ops (listed.setIfInBounds i true) < unl ops listed := by
  unfold unl
  have hsub : ((List.range ops.length).filter fun j => !(listed.setIfInBounds i true).getD j false) = (((List.range ops.length).filter fun j => !listed.getD j false).filter fun j => !(j == i)) := by
    rw [List.filter_filter]
    apply List.filter_congr
    intro j hj
    have := Dn_set (listed := listed) (i := i) (j := j) (by omega)
    unfold Dn at this
    by_cases hji : j = i
    · subst hji
      rw [this.2 (.inl rfl)]; simp
    · have e : (listed.setIfInBounds i true).getD j false = listed.getD j false := by
        cases hq : listed.getD j false
        · cases hq2 : (listed.setIfInBounds i true).getD j false
          · rfl
          · rcases this.1 hq2 with h | h
            · exact absurd h hji
            · rw [hq] at h; cases h
        · exact this.2 (.inr hq)
      rw [e]; simp [hji]
  rw [hsub]
  refine List.length_filter_lt_length_iff_exists.2 ⟨i, ?_, by simp⟩
  refine List.mem_filter.2 ⟨by simpa using hi, ?_⟩
  unfold Dn at hn; simpa using hn

theorem recheck_mem {F : List AV} {S : ASt} : ∀ {l : List Nat} {j : Nat} {o : Oper}, recheckA P M ops F S l → j ∈ l → ops[j]? = some o → wantA ops o F = some true →
    opA P (M0 M) o F S (fun v _ _ => match o.dst with | some d => v = F.getD d .top | none => True)
  | [], j, o, _, h, _, _ => by cases h
  | k :: l, j, o, h, hj, ho, hw => by
    simp only [recheckA] at h
    rcases List.mem_cons.1 hj with rfl | hj
    · have h1 := h.1
      rw [ho] at h1
      simp only [hw] at h1
      exact h1
    · exact recheck_mem h.2 hj ho hw

/-- One step: an operation whose forerunners are all done. -/
theorem inv_step (hf : DrawFacts P M ops ord) {C rest L : List Nat} {E : Env} {S : ASt} {F : List AV} {listed : Array Bool} {a : Act} {w : World} {Q : Exit → Act → World → Prop} {next : Act → World → Prop}
    (hsz : listed.size = ops.length) (h : Inv P M ops ord E0 S0 w0 n0 K C rest L E S F (Dn listed) a w) (hst : Stop M ops rest) {i : Nat} {o : Oper} (ho : ops[i]? = some o) (hnd : ¬ Dn listed i)
    (hed : ∀ j ∈ edgesOf o, Dn listed j) (hdown : ∀ i o, ops[i]? = some o → Dn listed i → ∀ j ∈ edgesOf o, Dn listed j)
    (hnext : ∀ a' w' C' rest' L' E' S' F', Inv P M ops ord E0 S0 w0 n0 K C' rest' L' E' S' F' (Dn (listed.setIfInBounds i true)) a' w' → Stop M ops rest' → next a' w') :
    wpOp P ops.toArray Q i next a w := by
  have hil : i < ops.length := (List.getElem?_eq_some_iff.1 ho).1
  have hpre : ∀ b, ((preL ops []).getD i 0).testBit b = true → Dn listed b := pre_sub hf hdown i o ho hed
  have hset : ∀ j, Dn (listed.setIfInBounds i true) j ↔ j = i ∨ Dn listed j := fun j => Dn_set (by omega)
  -- no operand is a slot that is still to be written
  have hlook : ∀ t ∈ looks ops o, ¬ Blocked ops C (Dn listed) t := by
    rintro t ht ⟨j, p, hj, hjd, hpj, hd⟩
    have hpe : effOp M p = false := by
      cases he : effOp M p
      · rfl
      · exact absurd (h.effs j p hj hpj he) hjd
    rcases hf.dst j p hpj t hd i o ho (List.mem_append_left _ ht) with ⟨e, h1⟩ | h1 | ⟨h1, _⟩ | ⟨h1, _⟩
    · subst e; rw [ho] at hpj; cases hpj; exact h1 ht
    · exact hjd (hpre j h1)
    · rw [hpe] at h1; cases h1
    · rw [hpe] at h1; cases h1
  have hagree : ∀ t ∈ looks ops o, F.getD t .top = (hide F (Blocked ops C (Dn listed))).getD t .top := fun t ht => (hide_no (hlook t ht)).symm
  have hFb := h.hidden
  have hwant : ∀ b, wantA ops o F = some b → Region.wanted o (yielded ops.toArray a.tmps) = b := fun b hb => wantA_sound hFb (by rw [← want_agree hagree]; exact hb)
  unfold wpOp
  rw [List.getElem?_toArray, ho]
  simp only
  by_cases hiC : i ∈ C
  · -- it is pending
    obtain ⟨hcand, hpl⟩ := h.pend i o hiC hnd ho
    have hpe : effOp M o = false := by
      cases he : effOp M o
      · rfl
      · exact absurd (h.effs i o hiC ho he) hnd
    -- what the state is like behind it
    have fin : ∀ E' w' cv a', Evolves E S w E' S w' → Rel E' S w' → a' = a.put o.dst cv → (∀ d, o.dst = some d → d < F.length → VRel E' S w' (F.getD d .top) cv) →
        Inv P M ops ord E0 S0 w0 n0 K C rest L E' S F (Dn (listed.setIfInBounds i true)) a' w' := by
      intro E' w' cv a' ev1 hR1 ha' hv
      subst ha'
      refine ⟨h.ev.trans ev1, hR1, ?_, h.len0, put_defers _ _ h.defers, h.ordq, ?_, ?_, ?_, ?_, h.cont⟩
      · cases hd : o.dst <;> simp [Act.put, h.len]
      · intro j hj
        rcases (hset j).1 hj with rfl | hj
        · exact hiC
        · exact h.sub j hj
      · intro j p hj hpj hep; exact (hset j).2 (.inr (h.effs j p hj hpj hep))
      · intro s hs
        by_cases hds : o.dst = some s
        · by_cases hlt : s < F.length
          · have hlt' : s < a.tmps.size := h.len ▸ hlt
            have : (a.put o.dst cv).tmps.getD s undef = cv := by rw [hds]; simp [Act.put, Array.getD, hlt']
            rw [this]
            exact hv s hds hlt
          · rw [show F.getD s .top = .top by simp [List.getD, hlt]]; exact .top _
        · have e : (a.put o.dst cv).tmps.getD s undef = a.tmps.getD s undef := by
            cases hd : o.dst with
            | none => rfl
            | some d =>
              have : d ≠ s := fun e => hds (by rw [hd, e])
              simp only [Act.put, Array.getD_eq_getD_getElem?, Array.getElem?_setIfInBounds, this, if_false]
          rw [e]
          refine (h.frame s (fun j p hj hjd hpj hd => ?_)).mono ev1
          by_cases hji : j = i
          · subst hji; rw [ho] at hpj; cases hpj; exact hds hd
          · exact hs j p hj (fun hq => by rcases (hset j).1 hq with h1 | h1; exact hji h1; exact hjd h1) hpj hd
      · intro j p hj hjd hpj
        exact h.pend j p hj (fun hq => hjd ((hset j).2 (.inr hq))) hpj
    rcases hcand with ⟨hw, hd⟩ | ⟨hw, hop⟩
    · rw [if_neg (by rw [hwant _ hw]; simp)]
      exact hnext _ _ _ _ _ _ _ _ (fin E w undef _ (Evolves.refl h.rel) h.rel rfl (fun d hd' hlt => by rw [hd d hd' hlt]; exact undef_rel)) hst
    · rw [if_pos (hwant _ hw)]
      refine .inl ?_
      have hop' : opA P (M0 M) o (hide F (Blocked ops C (Dn listed))) S (fun v _ S' => S' = S ∧ ∀ d, o.dst = some d → d < F.length → v = F.getD d .top) := by
        rw [opA_M0]; exact opG_congr (ev_agree hagree) hop
      refine opA_sound h.rel hFb hop' ?_
      rintro E' S' w' v cv F' ev1 hR1 hv hF1 ⟨rfl, hvd⟩
      exact hnext _ _ _ _ _ _ _ _ (fin E' w' cv _ ev1 hR1 rfl (fun d hd' hlt => by rw [← hvd d hd' hlt]; exact hv)) hst
  · -- it is the next one that changes the state
    have hio : i ∈ ord := hf.all i hil
    rw [h.ordq] at hio
    have hir : i ∈ rest := by rcases List.mem_append.1 hio with h1 | h1; exact absurd h1 hiC; exact h1
    rcases hst with rfl | ⟨e, rest', oe, rfl, hoe, hee⟩
    · cases hir
    obtain ⟨oC, oR⟩ := ordB_split C e rest' (h.ordq ▸ hf.ordB)
    have heC : e ∉ C := fun hh => (oC e hh).2 rfl
    have hie : i = e := by
      rcases List.mem_cons.1 hir with h1 | h1
      · exact h1
      · exact absurd (h.sub e (hpre e ((oR i h1).1 oe hoe hee))) heC
    subst hie
    rw [ho] at hoe; cases hoe
    have hc := h.cont
    simp only [drawGo, ho] at hc
    -- the others' slots
    have old : ∀ v j p, j ∈ C → ¬ Dn listed j → ops[j]? = some p → ∀ t ∈ names ops p, F.getD t .top = (setO F o.dst v).getD t .top := by
      intro v j p hj hjd hpj t ht
      refine (getD_setO_ne ?_).symm
      intro hd
      rcases hf.dst i o ho t hd j p hpj ht with ⟨e, _⟩ | h1 | ⟨_, h1⟩ | ⟨_, h1⟩
      · exact heC (e ▸ hj)
      · have := (oC j hj).1; rw [h1] at this; cases this
      · exact hjd (hpre j h1)
      · exact heC (h1 ▸ hj)
    have fin : ∀ E' S' w' v cv L', Evolves E S w E' S' w' → Rel E' S' w' → VRel E' S' w' v cv → drawGo P M ops (preL ops []) rest' L' (setO F o.dst v) S' K →
        (∀ j p, j ∈ C → ¬ Dn listed j → ops[j]? = some p → Cand P M ops (setO F o.dst v) S' p ∧ (pureOp p = true ∨ j ∈ L' ∨ wantA ops p (setO F o.dst v) = some false)) →
        next (a.put o.dst cv) w' := by
      intro E' S' w' v cv L' ev1 hR1 hv hcont hpend
      have inv : Inv P M ops ord E0 S0 w0 n0 K (C ++ [i]) rest' L' E' S' (setO F o.dst v) (Dn (listed.setIfInBounds i true)) (a.put o.dst cv) w' := by
        refine ⟨h.ev.trans ev1, hR1, ?_, by rw [setO_length]; exact h.len0, put_defers _ _ h.defers, by rw [h.ordq]; simp, ?_, ?_, ?_, ?_, hcont⟩
        · rw [setO_length]; cases hd : o.dst <;> simp [Act.put, h.len]
        · intro j hj
          rcases (hset j).1 hj with rfl | hj
          · simp
          · exact List.mem_append_left _ (h.sub j hj)
        · intro j p hj hpj hep
          rcases List.mem_append.1 hj with hj | hj
          · exact (hset j).2 (.inr (h.effs j p hj hpj hep))
          · exact (hset j).2 (.inl (by simpa using hj))
        · intro s hs
          by_cases hds : o.dst = some s
          · by_cases hlt : s < F.length
            · have hlt' : s < a.tmps.size := h.len ▸ hlt
              have e1 : (a.put o.dst cv).tmps.getD s undef = cv := by rw [hds]; simp [Act.put, Array.getD, hlt']
              have e2 : (setO F o.dst v).getD s .top = v := by rw [hds]; simp [setO, List.getD, hlt]
              rw [e1, e2]; exact hv
            · rw [show (setO F o.dst v).getD s .top = .top by rw [List.getD, List.getElem?_eq_none (by rw [setO_length]; exact Nat.le_of_not_lt hlt)]; rfl]; exact .top _
          · have e : (a.put o.dst cv).tmps.getD s undef = a.tmps.getD s undef := by
              cases hd : o.dst with
              | none => rfl
              | some d =>
                have : d ≠ s := fun e => hds (by rw [hd, e])
                simp only [Act.put, Array.getD_eq_getD_getElem?, Array.getElem?_setIfInBounds, this, if_false]
            rw [e, getD_setO_ne hds]
            refine (h.frame s (fun j p hj hjd hpj hd => ?_)).mono ev1
            by_cases hji : j = i
            · subst hji; exact heC hj
            · exact hs j p (List.mem_append_left _ hj) (fun hq => by rcases (hset j).1 hq with h1 | h1; exact hji h1; exact hjd h1) hpj hd
        · intro j p hj hjd hpj
          have hjd' : ¬ Dn listed j := fun hq => hjd ((hset j).2 (.inr hq))
          rcases List.mem_append.1 hj with hj | hj
          · exact hpend j p hj hjd' hpj
          · exact absurd ((hset j).2 (.inl (by simpa using hj))) hjd
      obtain ⟨C', r', L'', F', i1, i2⟩ := advance hf _ _ _ _ inv
      exact hnext _ _ _ _ _ _ _ _ i1 i2
    split at hc
    · exact hc.elim
    · rename_i hw
      rw [if_neg (by rw [hwant _ hw]; simp)]
      refine fin E S w _ undef L (Evolves.refl h.rel) h.rel undef_rel hc ?_
      intro j p hj hjd hpj
      obtain ⟨c1, c2⟩ := h.pend j p hj hjd hpj
      refine ⟨c1.agree (old _ j p hj hjd hpj) (setO_length _ _).symm, ?_⟩
      rcases c2 with c2 | c2 | c2
      · exact .inl c2
      · exact .inr (.inl c2)
      · exact .inr (.inr (by rw [← want_agree (fun t ht => old _ j p hj hjd hpj t (List.mem_append_left _ ht))]; exact c2))
    · rename_i hw
      rw [if_pos (hwant _ hw)]
      rw [if_pos hee] at hc
      refine .inl ?_
      rw [opA_M0] at hc
      have hop' : opA P (M0 M) o (hide F (Blocked ops C (Dn listed))) S (fun v _ S' => match L.filter (fun j => !((preL ops []).getD i 0).testBit j) with
            | [] => drawGo P M ops (preL ops []) rest' [] (setO F o.dst v) S' K
            | j :: js => recheckA P M ops (setO F o.dst v) S' (j :: js) ∧ drawGo P M ops (preL ops []) rest' (j :: js) (setO F o.dst v) S' K) := by
        rw [opA_M0]; exact opG_congr (ev_agree hagree) hc
      refine opA_sound h.rel hFb hop' ?_
      intro E' S' w' v cv F' ev1 hR1 hv hF1 hk
      obtain ⟨hre, hcont⟩ : recheckA P M ops (setO F o.dst v) S' (L.filter (fun j => !((preL ops []).getD i 0).testBit j)) ∧ drawGo P M ops (preL ops []) rest' (L.filter (fun j => !((preL ops []).getD i 0).testBit j)) (setO F o.dst v) S' K := by
        split at hk
        · rename_i he; rw [he]; exact ⟨trivial, hk⟩
        · rename_i j js he; rw [he]; exact hk
      refine fin E' S' w' v cv _ ev1 hR1 hv hcont ?_
      intro j p hj hjd hpj
      obtain ⟨c1, c2⟩ := h.pend j p hj hjd hpj
      have holdj := old v j p hj hjd hpj
      have hlk : ∀ t ∈ looks ops p, F.getD t .top = (setO F o.dst v).getD t .top := fun t ht => holdj t (List.mem_append_left _ ht)
      have hds : ∀ d, p.dst = some d → F.getD d .top = (setO F o.dst v).getD d .top := fun d hd => holdj d (List.mem_append_right _ (by simp [hd]))
      rcases c1 with ⟨w1, d1⟩ | ⟨w1, op1⟩
      · have w1' : wantA ops p (setO F o.dst v) = some false := by rw [← want_agree hlk]; exact w1
        exact ⟨.inl ⟨w1', fun d hd hlt => by rw [← hds d hd]; rw [setO_length] at hlt; exact d1 d hd hlt⟩, .inr (.inr w1')⟩
      · have w1' : wantA ops p (setO F o.dst v) = some true := by rw [← want_agree hlk]; exact w1
        by_cases hp : pureOp p = true
        · obtain ⟨v0, hv0, hdet⟩ := pure_det hp op1
          refine ⟨.inr ⟨w1', opG_congr (ev_agree hlk) (hdet S' _ ⟨rfl, fun d hd hlt => ?_⟩)⟩, .inl hp⟩
          rw [← hds d hd]; rw [setO_length] at hlt; exact hv0.2 d hd hlt
        · have hjL : j ∈ L := by
            rcases c2 with c2 | c2 | c2
            · exact absurd c2 hp
            · exact c2
            · rw [w1] at c2; cases c2
          have hjf : j ∈ L.filter (fun j => !((preL ops []).getD i 0).testBit j) := by
            refine List.mem_filter.2 ⟨hjL, ?_⟩
            cases hb : ((preL ops []).getD i 0).testBit j
            · rfl
            · exact absurd (hpre j hb) hjd
          have hrc := recheck_mem hre hjf hpj w1'
          rw [opA_M0] at hrc
          have hpe : effOp M p = false := by
            cases he : effOp M p
            · rfl
            · exact absurd (h.effs j p hj hpj he) hjd
          obtain ⟨v0, hv0, hdet⟩ := quiet_det hpe hrc
          refine ⟨.inr ⟨w1', hdet _ ⟨rfl, fun d hd hlt => ?_⟩⟩, .inr (.inl hjf)⟩
          simp only [hd] at hv0
          exact hv0

theorem inv_any (hf : DrawFacts P M ops ord) {Q : Exit → Act → World → Prop} (hQ : ∀ a' w', Reach E0 S0 w0 n0 K a' w' → Q .normal a' w') :
    ∀ (fuel : Nat) (listed : Array Bool) (a : Act) (w : World) (C rest L : List Nat) (E : Env) (S : ASt) (F : List AV), listed.size = ops.length → unl ops listed ≤ fuel →
      (∀ i o, ops[i]? = some o → Dn listed i → ∀ j ∈ edgesOf o, Dn listed j) →
      Inv P M ops ord E0 S0 w0 n0 K C rest L E S F (Dn listed) a w → Stop M ops rest → wpAny P .any ops.toArray Q fuel listed a w := by
  intro fuel
  have done : ∀ (listed : Array Bool) (a : Act) (w : World) (C rest L : List Nat) (E : Env) (S : ASt) (F : List AV), listed.size = ops.length →
      Inv P M ops ord E0 S0 w0 n0 K C rest L E S F (Dn listed) a w → Stop M ops rest → Region.ready .any ops.toArray listed = [] → Q .normal a w := by
    intro listed a w C rest L E S F hs h hst hr
    have hall := ready_nil hf hs hr
    have hrest : rest = [] := by
      rcases hst with h1 | ⟨e, rest', oe, rfl, hoe, hee⟩
      · exact h1
      · obtain ⟨oC, oR⟩ := ordB_split C e rest' (h.ordq ▸ hf.ordB)
        exact absurd rfl (oC e (h.sub e (hall e (List.getElem?_eq_some_iff.1 hoe).1))).2
    subst hrest
    have hk := h.cont
    simp only [drawGo] at hk
    refine hQ a w ⟨E, S, F, h.ev, h.rel, ⟨h.len, fun s => h.frame s (fun j o hj hjd hpj => ?_)⟩, h.defers, h.len0, hk⟩
    exact absurd (hall j (List.getElem?_eq_some_iff.1 hpj).1) hjd
  induction fuel with
  | zero =>
    intro listed a w C rest L E S F hs hu hdown h hst
    have hr : Region.ready .any ops.toArray listed = [] := by
      apply List.eq_nil_iff_forall_not_mem.2
      intro i hi
      obtain ⟨o, ho, hn, _⟩ := ready_spec hs hi
      have := unl_set hs (List.getElem?_eq_some_iff.1 ho).1 hn
      omega
    exact ⟨hr, done listed a w C rest L E S F hs h hst hr⟩
  | succ fuel ih =>
    intro listed a w C rest L E S F hs hu hdown h hst
    refine ⟨done listed a w C rest L E S F hs h hst, fun i hi => ?_⟩
    obtain ⟨o, ho, hn, hed⟩ := ready_spec hs hi
    have hil := (List.getElem?_eq_some_iff.1 ho).1
    have hlt := unl_set hs hil hn
    refine inv_step hf hs h hst ho hn hed hdown ?_
    intro a' w' C' rest' L' E' S' F' h' hst'
    refine ih _ a' w' C' rest' L' E' S' F' (by simpa using hs) (by omega) ?_ h' hst'
    intro k p hk hkd j hj
    rcases (Dn_set (by omega)).1 hkd with rfl | hkd
    · rw [ho] at hk; cases hk
      exact (Dn_set (by omega)).2 (.inr (hed j hj))
    · exact (Dn_set (by omega)).2 (.inr (hdown k p hk hkd j hj))

theorem drawA_sound {E : Env} {S : ASt} {w : World} {F : List AV} {a : Act} {id : Nat} {Q : Exit → Act → World → Prop} (hR : Rel E S w) (hF : FRel E S w F a.tmps) (hd : a.defers = [])
    (h : drawA P M ops ord F S K) (hQ : ∀ a' w', Reach E S w F.length K a' w' → Q .normal a' w') : (Code.region id ops.toArray true).wp P Q a w := by
  obtain ⟨hok, hgo⟩ := h
  have hf := drawFacts hok
  obtain ⟨ev0, hR0⟩ := step_drew hR
  refine wp_region_any hf.follows ?_
  have hno : ∀ i, ¬ Dn (Array.replicate ops.length false) i := by
    intro i hi
    unfold Dn at hi
    simp only [Array.getD_eq_getD_getElem?, Array.getElem?_replicate] at hi
    split at hi <;> simp at hi
  have inv : Inv P M ops ord E S w F.length K [] ord [] E S F (Dn (Array.replicate ops.length false)) a w.drew :=
    ⟨ev0, hR0, hF.1, rfl, hd, rfl, fun i hi => absurd hi (hno i), fun i o hi => (by cases hi), fun s _ => (hF.2 s).mono ev0, fun j o hj => (by cases hj), hgo⟩
  obtain ⟨C', r', L', F', i1, i2⟩ := advance hf _ _ _ _ inv
  have := inv_any (P := P) (M := M) hf hQ ops.length (Array.replicate ops.length false) a w.drew C' r' L' E S F' (by simp) ?_ (fun i o _ hi => absurd hi (hno i)) i1 i2
  · rw [show (ops.toArray).size = ops.length by simp]
    exact this
  · unfold unl
    exact Nat.le_trans (List.length_filter_le _ _) (by simp)
end
end Go.Proofs.Ythpomdoaiibnfaa.Abs
