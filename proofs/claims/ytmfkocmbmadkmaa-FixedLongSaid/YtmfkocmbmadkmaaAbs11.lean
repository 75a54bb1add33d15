/- Each operation of the model does what its abstract reading says: append, a store into a slice, calls. -/
import Derived.Test.YtmfkocmbmadkmaaAbs10
namespace Go.Proofs.Ytmfkocmbmadkmaa.Abs
open Go Go.RowKit
set_option linter.unusedVariables false
set_option linter.unusedSimpArgs false

section
variable {P : Program} {M : Modes} {E : Env} {S : ASt} {w : World} {o : Oper} {a : Act} {next : Act → World → Prop} {Q : Exit → Act → World → Prop} {F : List AV} {K : AV → List AV → ASt → Prop}

theorem byA_some {t : TypeId} {n : Nat} (h : byA P t = some n) : ∃ i, P.info? t = some i ∧ i.bytes = n := by
  unfold byA at h
  cases hi : P.info? t with
  | none => rw [hi] at h; cases h
  | some i => rw [hi] at h; simp only [Option.map_some, Option.some.injEq] at h; exact ⟨i, rfl, h⟩

theorem getD_append (xs ys : List Value) (j : Nat) : (xs ++ ys).getD j undef = if j < xs.length then xs.getD j undef else ys.getD (j - xs.length) undef := by
  simp only [List.getD]
  split
  · rw [List.getElem?_append_left (by assumption)]
  · rw [List.getElem?_append_right (by omega)]

/-- What a slice that may be appended to is: nil, or a row. -/
theorem own_read {tk sz1 : Nat} {xs : List AV} {v : Value} (h : VRel E S w (.sl (.own tk) sz1 xs) v) (hl : S.live tk = true) :
    (xs = [] ∧ v = .slice none 0 0) ∨ ∃ (b off c : Nat) (cur : Array Value) (e : TypeId) (vs : Nat → Value), v = .slice (some ⟨b, off, none⟩) xs.length c ∧ tk < S.next ∧ E.be tk = some b ∧ off = E.off tk ∧ xs.length ≤ c ∧ w.heap[b]? = some (.cells cur e (0, 0)) ∧
      off + c * sz1 ≤ cur.size ∧ (∀ x ∈ xs, x.cells.length = sz1) ∧ (∀ u ∈ flat xs, u.one = true) ∧ (∀ j u, (flat xs)[j]? = some u → cur[off + j]? = some (vs j)) ∧ (∀ j u, (flat xs)[j]? = some u → VRel E S w u (vs j)) := by
  cases h with
  | sl_own_nil t sz' ht => exact .inl ⟨rfl, rfl⟩
  | sl_dead o' t sz' xs a c ho ht hd => cases ho; rw [hl] at hd; cases hd
  | sl_mem o' sz' xs b off c vs hacc hc hsz' h1 hv hr hroom =>
    obtain ⟨h0, cur, e, hcur, hfit⟩ := hroom tk rfl
    refine .inr ⟨b, off, c, cur, e, vs, rfl, hacc.1, hacc.2.2, h0, hc, hcur, hfit, hsz', h1, fun j u hj => ?_, hr⟩
    rw [← cell_of_row w b (off + j) cur e (0, 0) hcur]; exact hv j u hj

/-- The new row behind an append that makes one. -/
theorem new_row {sz n : Nat} {zs : List AV} {cur : Array Value} {e : TypeId} {olds : List Value} {rest : Array Value} (hR : Rel E S w) (hs : ∀ x ∈ zs, x.cells.length = sz) (h1 : ∀ u ∈ flat zs, u.one = true)
    (hl : olds.length = zs.length * sz) (hr : ∀ j u, (flat zs)[j]? = some u → VRel E S w u (olds.getD j undef)) (hc : zs.length ≤ n) (hcur : cur = olds.toArray ++ rest) (hsz : rest.size = (n - zs.length) * sz) :
    ∃ E', Evolves E S w E' S.fresh (w.drew.alloc (.cells cur e)) ∧ Rel E' S.fresh (w.drew.alloc (.cells cur e)) ∧
      VRel E' S.fresh (w.drew.alloc (.cells cur e)) (.sl (.own S.next) sz zs) (.slice (some ⟨w.heap.size, 0, none⟩) zs.length n) := by
  obtain ⟨ev0, hR0⟩ := step_drew hR
  obtain ⟨ev1, hR1⟩ := step_tok hR0 (.cells cur e)
  have ev2 := ev0.trans ev1
  have hfl := flat_length zs hs
  refine ⟨_, ev2, hR1, ?_⟩
  have hn := heap_of_alloc_new w.drew (.cells cur e)
  refine VRel.sl_mem (.own S.next) sz zs w.heap.size 0 n (fun j => olds.getD j undef) ⟨Nat.lt_succ_self _, by simp [ASt.fresh], by simp [Env.addTok]⟩ hc hs h1 ?_ (fun j u hj => (hr j u hj).mono ev2) ?_
  · intro j u hj
    have hj' : j < olds.length := by rw [hl, ← hfl]; exact (List.getElem?_eq_some_iff.1 hj).1
    rw [Nat.zero_add, cell_of_row (w.drew.alloc (.cells cur e)) w.heap.size j cur e (0, 0) hn, hcur, Array.getElem?_append_left (by simpa using hj')]
    simp [List.getD, hj']
  · intro t ht
    cases ht
    refine ⟨by simp [Env.addTok], cur, e, hn, ?_⟩
    rw [hcur, Array.size_append, List.size_toArray, hl, hsz, Nat.zero_add]
    rw [← Nat.add_mul]
    exact Nat.mul_le_mul_right _ (by omega)

theorem snd_append_nil {t u e : TypeId} {s x : Operand} {sz by_ sz1 sz2 : Nat} {z ys xs : List AV} {o2 : Own}
    (ho : o.op = .call { callee := .builtin .append, args := #[s, x], argTypes := #[t, u] })
    (hse : sliceT P t = some e) (hs : szA P e = some sz) (hb : byA P e = some by_) (hz : zeroA P e = some z) (h0 : 0 < sz) (hby : by_ ≤ 65536)
    (hes : ev F s = .sl .nil sz1 xs) (hex : ev F x = .sl o2 sz2 ys) (hu : (sliceT P u).isSome = true) (hlen : xs.length + ys.length ≤ 1073741824) (hrd : rdA S o2) (hsz : sz2 = sz ∨ ys = [])
    (hR : Rel E S w) (hF : FRel E S w F a.tmps) (h : K (.sl (.own S.next) sz ys) F S.fresh) (hn : Cont E S w o a next K) : o.wp P a w next Q := by
  have hsr := ev_rel hF s
  have hxr := ev_rel hF x
  rw [hes] at hsr; rw [hex] at hxr
  obtain ⟨i, zv, hi, hzz, hzq, hz1, hzl, hzs⟩ := zeroA_some hz
  obtain ⟨i', hi', hsi⟩ := szA_some hs
  rw [hi] at hi'; cases hi'
  obtain ⟨i', hi', hbi⟩ := byA_some hb
  rw [hi] at hi'; cases hi'
  obtain ⟨e2, he2⟩ := Option.isSome_iff_exists.1 hu
  have hqs : a.eval s = .slice none 0 0 ∧ xs = [] := by
    generalize hq : a.eval s = cv at hsr
    cases hsr with
    | sl_nil sz => exact ⟨rfl, rfl⟩
    | sl_mem o' sz' xs' b off c vs hacc => exact hacc.elim
    | sl_dead o' t sz xs a' c ho => cases ho
  obtain ⟨hqs, rfl⟩ := hqs
  obtain ⟨ax, cx, hqx, _, news, hnl, hfirst, hone, hcs, hnr⟩ := sl_read (P := P) hxr hrd hsz
  rw [hqx] at hfirst
  have hex' : ∀ cv w', (Builtin.append_ #[t, u] o.type #[.slice none 0 0, .slice ax ys.length cx]).run P w = .ok cv w' → (execOp a.eval o).run P w = .ok (.value cv) w' := by
    intro cv w' hr
    simp only [execOp, ho, resolve, invoke, builtin, Sem.run_bind, Sem.run_pure, Result.andThen_ok, List.map_toArray, List.map_cons, List.map_nil, hqs, hqx, hr]
  by_cases hm : ys = []
  · subst hm
    have hn0 : news = [] := List.eq_nil_of_length_eq_zero (by simpa using hnl)
    subst hn0
    have hr := run_app_room (P := P) (w := w) (ty := o.type) (t := t) (u := u) (n := 0) (c := 0) (ba := none) (sliceT_some hse) (sliceT_some he2) hs (hfirst w rfl) (by simp) (w' := w) (by simp)
    obtain ⟨ev1, hR1⟩ := step_tok_nil hR
    refine wp_val (hex' _ _ hr) (hn _ _ _ _ _ F ev1 hR1 ?_ (hF.mono ev1) h)
    exact VRel.sl_own_nil S.next sz (Nat.lt_succ_self _)
  · have hm0 : 0 < ys.length := List.length_pos_iff.2 hm
    have hbb : (0 + ys.length) * i.bytes ≤ 140737488355328 := by
      rw [hbi, Nat.zero_add]
      calc ys.length * by_ ≤ 1073741824 * 65536 := Nat.mul_le_mul (by simpa using hlen) hby
        _ ≤ 140737488355328 := by decide
    have hr := run_app_grow (P := P) (w := w) (ty := o.type) (t := t) (u := u) (n := 0) (c := 0) (ba := none) (olds := []) (news := news) (sliceT_some hse) (sliceT_some he2) hi hzz (by rw [hsi]; exact hfirst w.drew rfl)
      (by simp [Builtin.firstCells]) (by omega) (by simp at hlen ⊢; omega) (growslice_fits (by omega) hbb)
    rw [Nat.zero_add] at hr
    obtain ⟨E', ev1, hR1, hv⟩ := new_row (n := grownCap w ys.length 0 e) (e := e) (cur := ([] : List Value).toArray ++ news.toArray ++ Builtin.zeroCells zv.cells (grownCap w ys.length 0 e - ys.length))
      (rest := Builtin.zeroCells zv.cells (grownCap w ys.length 0 e - ys.length)) hR hcs hone hnl hnr (grownCap_ge w ys.length 0 e) (by simp) (by rw [size_zeroCells, hzs, hsi])
    exact wp_val (hex' _ _ hr) (hn _ _ _ _ _ F ev1 hR1 hv (hF.mono ev1) h)

theorem snd_append_own {t u e : TypeId} {s x : Operand} {sz by_ sz2 tk : Nat} {z ys xs : List AV} {o2 : Own}
    (ho : o.op = .call { callee := .builtin .append, args := #[s, x], argTypes := #[t, u] })
    (hse : sliceT P t = some e) (hs : szA P e = some sz) (hb : byA P e = some by_) (hz : zeroA P e = some z) (h0 : 0 < sz) (hby : by_ ≤ 65536)
    (hes : ev F s = .sl (.own tk) sz xs) (hlive : S.live tk = true) (hex : ev F x = .sl o2 sz2 ys) (hu : (sliceT P u).isSome = true) (hlen : xs.length + ys.length ≤ 1073741824) (hrd : rdA S o2) (hsz : sz2 = sz ∨ ys = [])
    (hR : Rel E S w) (hF : FRel E S w F a.tmps) (h : K (.sl (.own S.next) sz (xs ++ ys)) F (S.kill tk).fresh) (hn : Cont E S w o a next K) : o.wp P a w next Q := by
  have hsr := ev_rel hF s
  have hxr := ev_rel hF x
  rw [hes] at hsr; rw [hex] at hxr
  obtain ⟨i, zv, hi, hzz, hzq, hz1, hzl, hzs⟩ := zeroA_some hz
  obtain ⟨i', hi', hsi⟩ := szA_some hs
  rw [hi] at hi'; cases hi'
  obtain ⟨i', hi', hbi⟩ := byA_some hb
  rw [hi] at hi'; cases hi'
  obtain ⟨e2, he2⟩ := Option.isSome_iff_exists.1 hu
  obtain ⟨ax, cx, hqx, _, news, hnl, hfirst, hone, hcs, hnr⟩ := sl_read (P := P) hxr hrd hsz
  rw [hqx] at hfirst
  have hbb : (xs.length + ys.length) * i.bytes ≤ 140737488355328 := by
    rw [hbi]
    calc (xs.length + ys.length) * by_ ≤ 1073741824 * 65536 := Nat.mul_le_mul hlen hby
      _ ≤ 140737488355328 := by decide
  have hex' : ∀ sv cv w', a.eval s = sv → (Builtin.append_ #[t, u] o.type #[sv, .slice ax ys.length cx]).run P w = .ok cv w' → (execOp a.eval o).run P w = .ok (.value cv) w' := by
    intro sv cv w' hqs hr
    simp only [execOp, ho, resolve, invoke, builtin, Sem.run_bind, Sem.run_pure, Result.andThen_ok, List.map_toArray, List.map_cons, List.map_nil, hqs, hqx, hr]
  have hkill := step_kill hR tk hlive (w' := w) rfl rfl rfl rfl (fun b _ => rfl)
  rcases own_read hsr hlive with ⟨rfl, hqs⟩ | ⟨b, off, c, cur, et, vs, hqs, htk, hbe, hoff, hc, hcur, hfit, hxs, hx1, hxv, hxr'⟩
  · -- nil so far
    obtain ⟨ev0, hR0⟩ := hkill
    simp only [List.nil_append] at h
    by_cases hm : ys = []
    · subst hm
      have hn0 : news = [] := List.eq_nil_of_length_eq_zero (by simpa using hnl)
      subst hn0
      have hr := run_app_room (P := P) (w := w) (ty := o.type) (t := t) (u := u) (n := 0) (c := 0) (ba := none) (sliceT_some hse) (sliceT_some he2) hs (hfirst w rfl) (by simp) (w' := w) (by simp)
      obtain ⟨ev1, hR1⟩ := step_tok_nil hR0
      refine wp_val (hex' _ _ _ hqs hr) (hn _ _ _ _ _ F (ev0.trans ev1) hR1 ?_ (hF.mono (ev0.trans ev1)) h)
      exact VRel.sl_own_nil S.next sz (Nat.lt_succ_self _)
    · have hm0 : 0 < ys.length := List.length_pos_iff.2 hm
      have hr := run_app_grow (P := P) (w := w) (ty := o.type) (t := t) (u := u) (n := 0) (c := 0) (ba := none) (olds := []) (news := news) (sliceT_some hse) (sliceT_some he2) hi hzz (by rw [hsi]; exact hfirst w.drew rfl)
        (by simp [Builtin.firstCells]) (by omega) (by simp at hlen ⊢; omega) (growslice_fits (by omega) (by simpa using hbb))
      rw [Nat.zero_add] at hr
      obtain ⟨E', ev1, hR1, hv⟩ := new_row (n := grownCap w ys.length 0 e) (e := e) (cur := ([] : List Value).toArray ++ news.toArray ++ Builtin.zeroCells zv.cells (grownCap w ys.length 0 e - ys.length))
        (rest := Builtin.zeroCells zv.cells (grownCap w ys.length 0 e - ys.length)) hR0 hcs hone hnl (fun j u hj => (hnr j u hj).mono ev0) (grownCap_ge w ys.length 0 e) (by simp) (by rw [size_zeroCells, hzs, hsi])
      exact wp_val (hex' _ _ _ hqs hr) (hn _ _ _ _ _ F (ev0.trans ev1) hR1 hv (hF.mono (ev0.trans ev1)) h)
  · have hxfl := flat_length xs hxs
    have hyfl := flat_length ys hcs
    have hxys : ∀ x ∈ xs ++ ys, x.cells.length = sz := by
      intro x hx; rcases List.mem_append.1 hx with hx | hx; exact hxs x hx; exact hcs x hx
    have hone' : ∀ u ∈ flat (xs ++ ys), u.one = true := by
      intro u hu; rw [flat_append] at hu; rcases List.mem_append.1 hu with hu | hu; exact hx1 u hu; exact hone u hu
    have hn1 : ∀ v ∈ news, v.oneCell' = true := by
      intro v hv
      obtain ⟨j, hj⟩ := List.mem_iff_getElem?.1 hv
      have hjl : j < (flat ys).length := by rw [hyfl, ← hnl]; exact (List.getElem?_eq_some_iff.1 hj).1
      have h2 := hnr j _ (List.getElem?_eq_getElem hjl)
      have : news.getD j undef = v := by simp [List.getD, hj]
      rw [this] at h2
      exact h2.one (hone _ (List.getElem_mem hjl))
    by_cases hroom : xs.length + ys.length ≤ c
    · -- in place
      have hfit' : off + xs.length * sz + news.length ≤ cur.size := by
        rw [hnl]
        have : xs.length * sz + ys.length * sz ≤ c * sz := by rw [← Nat.add_mul]; exact Nat.mul_le_mul_right _ hroom
        omega
      have hst := run_storeCells_at P b (off + xs.length * sz) et news 0 cur w hcur (by simpa using hfit') hn1
      simp only [Nat.add_zero] at hst
      have hr := run_app_room (P := P) (w := w) (ty := o.type) (t := t) (u := u) (n := xs.length) (c := c) (ba := some ⟨b, off, none⟩) (sliceT_some hse) (sliceT_some he2) hs (hfirst w rfl) hroom
        (by simp only [Addr.add_lit]; exact hst)
      obtain ⟨ev1, hR1⟩ := step_pass hR tk hlive (w' := w.setRow b (cur.toList.take (off + xs.length * sz) ++ news ++ cur.toList.drop (off + xs.length * sz + news.length)).toArray) rfl rfl rfl (by simp)
        (fun b' hb' => setRow_other w b b' _ (fun he => hb' (he ▸ hbe)))
      refine wp_val (hex' _ _ _ hqs hr) (hn _ _ _ _ _ F ev1 hR1 ?_ (hF.mono ev1) h)
      have hnew := setRow_heap w b cur (cur.toList.take (off + xs.length * sz) ++ news ++ cur.toList.drop (off + xs.length * sz + news.length)).toArray et (0, 0) hcur
      rw [← List.length_append]
      refine VRel.sl_mem (.own S.next) sz (xs ++ ys) b off c (fun j => if j < xs.length * sz then vs j else news.getD (j - xs.length * sz) undef)
        ⟨Nat.lt_succ_self _, by simp [ASt.fresh, ASt.kill], by simp [Env.addTok, hbe]⟩ (by simpa using hroom) hxys hone' ?_ ?_ ?_
      · intro j u hj
        rw [cell_of_row _ b (off + j) _ et (0, 0) hnew]
        rw [flat_append] at hj
        have hcl : off + xs.length * sz ≤ cur.toList.length := by simp; omega
        by_cases h1 : j < xs.length * sz
        · rw [if_pos h1]
          rw [List.getElem?_append_left (by rw [hxfl]; exact h1)] at hj
          have := hxv j u hj
          rw [List.getElem?_toArray, List.append_assoc, List.getElem?_append_left (by rw [List.length_take]; omega), List.getElem?_take, if_pos (by omega), Array.getElem?_toList]
          exact this
        · rw [if_neg h1]
          rw [List.getElem?_append_right (by rw [hxfl]; omega), hxfl] at hj
          have hjl : j - xs.length * sz < news.length := by rw [hnl, ← hyfl]; exact (List.getElem?_eq_some_iff.1 hj).1
          rw [List.getElem?_toArray, List.append_assoc, List.getElem?_append_right (by rw [List.length_take]; omega), List.length_take, Nat.min_eq_left hcl, List.getElem?_append_left (by omega)]
          rw [show off + j - (off + xs.length * sz) = j - xs.length * sz by omega]
          simp [List.getD, List.getElem?_eq_getElem hjl]
      · intro j u hj
        rw [flat_append] at hj
        by_cases h1 : j < xs.length * sz
        · rw [if_pos h1]
          rw [List.getElem?_append_left (by rw [hxfl]; exact h1)] at hj
          exact (hxr' j u hj).mono ev1
        · rw [if_neg h1]
          rw [List.getElem?_append_right (by rw [hxfl]; omega), hxfl] at hj
          exact (hnr _ u hj).mono ev1
      · intro t' ht'
        cases ht'
        refine ⟨by simp [Env.addTok, hoff], _, et, hnew, ?_⟩
        simp only [List.size_toArray, List.length_append, List.length_take, List.length_drop, Array.length_toList]
        omega
    · -- a new row
      obtain ⟨ev0, hR0⟩ := hkill
      have hcl : off + xs.length * sz ≤ cur.size := by
        have : xs.length * sz ≤ c * sz := Nat.mul_le_mul_right _ hc
        omega
      have hold : (Builtin.firstCells i.size xs.length (.slice (some ⟨b, off, none⟩) xs.length c)).run P w.drew = .ok ((List.range (xs.length * sz)).map vs).toArray w.drew := by
        simp only [Builtin.firstCells, hsi]
        refine run_loadCells w.drew _ _ vs (fun j hj => ?_)
        have hj' : j < (flat xs).length := by rw [hxfl]; exact hj
        have := hxv j _ (List.getElem?_eq_getElem hj')
        rw [Addr.add_lit, World.cell?_drew, cell_of_row w b (off + j) cur et (0, 0) hcur]; exact this
      have hr := run_app_grow (P := P) (w := w) (ty := o.type) (t := t) (u := u) (n := xs.length) (c := c) (ba := some ⟨b, off, none⟩) (news := news) (sliceT_some hse) (sliceT_some he2) hi hzz (by rw [hsi]; exact hfirst w.drew rfl)
        hold (by omega) (by omega) (growslice_fits (by omega) hbb)
      obtain ⟨E', ev1, hR1, hv⟩ := new_row (zs := xs ++ ys) (n := grownCap w (xs.length + ys.length) c e) (e := e)
        (cur := ((List.range (xs.length * sz)).map vs).toArray ++ news.toArray ++ Builtin.zeroCells zv.cells (grownCap w (xs.length + ys.length) c e - (xs.length + ys.length)))
        (olds := (List.range (xs.length * sz)).map vs ++ news) (rest := Builtin.zeroCells zv.cells (grownCap w (xs.length + ys.length) c e - (xs.length + ys.length))) hR0 hxys hone'
        (by rw [List.length_append, List.length_append, hnl]; simp [Nat.add_mul]) (by
          intro j u hj
          rw [flat_append] at hj
          rw [getD_append]
          by_cases h1 : j < xs.length * sz
          · rw [if_pos (by simpa using h1)]
            rw [List.getElem?_append_left (by rw [hxfl]; exact h1)] at hj
            have : ((List.range (xs.length * sz)).map vs).getD j undef = vs j := by simp [List.getD, h1]
            rw [this]
            exact (hxr' j u hj).mono ev0
          · rw [if_neg (by simpa using h1)]
            rw [List.getElem?_append_right (by rw [hxfl]; omega), hxfl] at hj
            have := (hnr _ u hj).mono ev0
            simpa using this)
        (by rw [List.length_append]; exact grownCap_ge w _ c e) (by simp) (by rw [size_zeroCells, hzs, hsi, List.length_append])
      rw [List.length_append] at hv
      exact wp_val (hex' _ _ _ hqs hr) (hn _ _ _ _ _ F (ev0.trans ev1) hR1 hv (hF.mono (ev0.trans ev1)) h)
end
end Go.Proofs.Ytmfkocmbmadkmaa.Abs
