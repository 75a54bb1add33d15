/- Each operation of the model does what its abstract reading says: the other builtins, calls; all together. -/
import Derived.Test.YtmfkocmbmadkmaaAbs11
import Derived.IntWalk
namespace Go.Proofs.Ytmfkocmbmadkmaa.Abs
open Go Go.RowKit
set_option linter.unusedVariables false
set_option linter.unusedSimpArgs false

theorem wrap_i64 {n : Int} (h1 : -9223372036854775808 ≤ n) (h2 : n < 9223372036854775808) : IntKind.wrap .i64 n = n := by
  exact IntWalk.i64_in n ⟨h1, by omega⟩

section
variable {P : Program} {M : Modes} {E : Env} {S : ASt} {w : World} {o : Oper} {a : Act} {next : Act → World → Prop} {Q : Exit → Act → World → Prop} {F : List AV} {K : AV → List AV → ASt → Prop}

theorem snd_append_zeros {t u e : TypeId} {s x : Operand} {sz by_ sz1 : Nat} {z xs : List AV} {k : IntKind} {n : Int}
    (ho : o.op = .call { callee := .builtin .append, args := #[s, x], argTypes := #[t, u] })
    (hse : sliceT P t = some e) (hs : szA P e = some sz) (hb : byA P e = some by_) (hz : zeroA P e = some z) (hby : by_ ≤ 65536)
    (hes : ev F s = .sl .nil sz1 xs) (hex : ev F x = .int k n) (hu : (intT P u).isSome = true) (hsz : sz = 1) (hn0 : 0 < n) (hn1 : n ≤ 1073741824)
    (hR : Rel E S w) (hF : FRel E S w F a.tmps) (h : K (.sl (.own S.next) sz (List.replicate n.toNat (z.getD 0 .top))) F S.fresh) (hn : Cont E S w o a next K) : o.wp P a w next Q := by
  have hsr := ev_rel hF s
  have hxr := ev_rel hF x
  rw [hes] at hsr; rw [hex] at hxr
  obtain ⟨i, zv, hi, hzz, hzq, hz1, hzl, hzs⟩ := zeroA_some hz
  obtain ⟨i', hi', hsi⟩ := szA_some hs
  rw [hi] at hi'; cases hi'
  obtain ⟨i', hi', hbi⟩ := byA_some hb
  rw [hi] at hi'; cases hi'
  obtain ⟨k', hk'⟩ := Option.isSome_iff_exists.1 hu
  have hqs : a.eval s = .slice none 0 0 := by
    generalize hq : a.eval s = cv at hsr
    cases hsr with
    | sl_nil sz => rfl
    | sl_mem o' sz' xs' b off c vs hacc => exact hacc.elim
    | sl_dead o' t sz xs a' c ho => cases ho
  have hqx : a.eval x = .int k n := by cases hq : a.eval x <;> rw [hq] at hxr <;> cases hxr <;> rfl
  have hw : IntKind.wrap .i64 n = n := wrap_i64 (by omega) (by omega)
  have hex' : ∀ cv w', (Builtin.append_ #[t, u] o.type #[.slice none 0 0, .int k n]).run P w = .ok cv w' → (execOp a.eval o).run P w = .ok (.value cv) w' := by
    intro cv w' hr
    simp only [execOp, ho, resolve, invoke, builtin, Sem.run_bind, Sem.run_pure, Result.andThen_ok, List.map_toArray, List.map_cons, List.map_nil, hqs, hqx, hr]
  have hneg : ¬ n < 0 := by omega
  have hbig : ¬ (281474976710656 < n * (i.bytes : Int)) := by
    rw [hbi]
    have h1 : n * (by_ : Int) ≤ 1073741824 * 65536 := by
      have : (by_ : Int) ≤ 65536 := by omega
      calc n * (by_ : Int) ≤ 1073741824 * (by_ : Int) := Int.mul_le_mul_of_nonneg_right hn1 (by omega)
        _ ≤ 1073741824 * 65536 := Int.mul_le_mul_of_nonneg_left this (by omega)
    omega
  have hpos : 0 < n.toNat := by omega
  have hbb : (0 + n.toNat) * i.bytes ≤ 140737488355328 := by
    rw [hbi, Nat.zero_add]
    calc n.toNat * by_ ≤ 1073741824 * 65536 := Nat.mul_le_mul (by omega) hby
      _ ≤ 140737488355328 := by decide
  have hfit := growslice_fits (old := 0) (need := n.toNat) (bytes := i.bytes) hpos (by simpa using hbb)
  have h48' : ¬ (281474976710656 < Builtin.nextslicecap n.toNat 0 * i.bytes) := by omega
  have h63' : ¬ (9223372036854775807 < ((n.toNat : Nat) : Int)) := by omega
  have hne : n.toNat ≠ 0 := by omega
  have hr : (Builtin.append_ #[t, u] o.type #[.slice none 0 0, .int k n]).run P w =
      .ok (.slice (some ⟨w.heap.size, 0, none⟩) n.toNat (grownCap w n.toNat 0 e)) (w.drew.alloc (.cells (Builtin.zeroCells zv.cells n.toNat ++ Builtin.zeroCells zv.cells (grownCap w n.toNat 0 e - n.toNat)) e)) := by
    have hne' : ¬ n ≤ 0 := by omega
    have h3 : ¬ (9223372036854775807 < max n 0) := by omega
    simp [Builtin.append_, run_underlying (sliceT_some hse), run_underlying (intT_some hk'), sizeOf, asInt, asIntOf, hw, typeInfo, hi, hzz, hneg, hbig, hne, hsi, hsz, zeroValue, Question.forced, newRow, grownCap, h48', h3, Builtin.firstCells, hne']
  have hz0 : z.length = 1 := by rw [hzl, hsi, hsz]
  have hzv : zv.cells.size = 1 := by rw [hzs, hsi, hsz]
  have hel : (z.getD 0 .top).one = true ∧ VRel E S w (z.getD 0 .top) (zv.cells.getD 0 undef) := by
    have hget : z[0]? = some (z.getD 0 .top) := by
      have : 0 < z.length := by omega
      simp [List.getD, this]
    refine ⟨hz1 _ (List.mem_of_getElem? hget), ?_⟩
    rw [hzq] at hget ⊢
    exact zeroCells_rel E S w 0 _ hget
  have hcl : (z.getD 0 .top).cells = [z.getD 0 .top] := by
    have := hel.1
    cases hq : z.getD 0 .top <;> rw [hq] at this <;> simp [AV.one] at this <;> rfl
  have hzc : Builtin.zeroCells zv.cells n.toNat = ((List.range n.toNat).map fun _ => zv.cells.getD 0 undef).toArray := by
    apply Array.ext'
    simp only [Builtin.zeroCells, hzv, Nat.mul_one, Array.toList_map, Array.toList_range]
    apply List.map_congr_left
    intro j _
    have : 0 < zv.cells.size := by omega
    simp only [Nat.mod_one]
    rw [getElem!_pos zv.cells 0 this]
    simp [Array.getD, this]
  subst hsz
  have hfl : flat (List.replicate n.toNat (z.getD 0 .top)) = List.replicate n.toNat (z.getD 0 .top) := by
    generalize n.toNat = m
    induction m with
    | zero => rfl
    | succ m ih => simp only [flat, List.replicate_succ, List.flatMap_cons, hcl, List.singleton_append] at ih ⊢; rw [ih]
  obtain ⟨E', ev1, hR1, hv⟩ := new_row (sz := 1) (zs := List.replicate n.toNat (z.getD 0 .top)) (n := grownCap w n.toNat 0 e) (e := e)
    (cur := Builtin.zeroCells zv.cells n.toNat ++ Builtin.zeroCells zv.cells (grownCap w n.toNat 0 e - n.toNat))
    (olds := (List.range n.toNat).map fun _ => zv.cells.getD 0 undef) (rest := Builtin.zeroCells zv.cells (grownCap w n.toNat 0 e - n.toNat)) hR
    (fun y hy => by rw [List.eq_of_mem_replicate hy, hcl]; rfl) (by rw [hfl]; intro u hu; rw [List.eq_of_mem_replicate hu]; exact hel.1) (by simp)
    (by
      intro j u hj
      rw [hfl] at hj
      have hjl := (List.getElem?_eq_some_iff.1 hj).1
      rw [List.length_replicate] at hjl
      have hu' : u = z.getD 0 .top := List.eq_of_mem_replicate (List.mem_of_getElem? hj)
      subst hu'
      have : ((List.range n.toNat).map fun _ => zv.cells.getD 0 undef).getD j undef = zv.cells.getD 0 undef := by simp [List.getD, hjl]
      rw [this]; exact hel.2)
    (by rw [List.length_replicate]; exact grownCap_ge w _ 0 e) (by rw [hzc]) (by rw [size_zeroCells, hzv, List.length_replicate])
  rw [List.length_replicate] at hv
  exact wp_val (hex' _ _ hr) (hn _ _ _ _ _ F ev1 hR1 hv (hF.mono ev1) h)

theorem snd_store_ep {t : TypeId} {ad x : Operand} {tk sz i k s : Nat} {xs : List AV} (ho : o.op = .store t ad x) (had : ev F ad = .eptr (.own tk) sz xs i k) (hsl : F.getD s .top = .sl (.own tk) sz xs) (hlive : S.live tk = true)
    (h1x : (ev F x).one = true) (hsz1 : szA P t = some 1) (hk : k < sz) (hR : Rel E S w) (hF : FRel E S w F a.tmps)
    (h : K .top (F.set s (.sl (.own S.next) sz (xs.set i ((xs.getD i .top).putCell k (ev F x))))) (S.kill tk).fresh) (hn : Cont E S w o a next K) : o.wp P a w next Q := by
  have hx := ev_rel hF x
  have hadr := ev_rel hF ad
  rw [had] at hadr
  have hsr := hF.2 s
  rw [hsl] at hsr
  -- the pointer
  obtain ⟨b, off, cur0, et0, hqa, hi, hbe, hoff, hcur0, hxs, hx1⟩ : ∃ (b off : Nat) (cur : Array Value) (et : TypeId), a.eval ad = .pointer (some ⟨b, off + i * sz + k, none⟩) ∧ i < xs.length ∧ E.be tk = some b ∧ off = E.off tk ∧
      w.heap[b]? = some (.cells cur et (0, 0)) ∧ (∀ x ∈ xs, x.cells.length = sz) ∧ (∀ u ∈ flat xs, u.one = true) := by
    generalize hq : a.eval ad = cv at hadr
    cases hadr with
    | ep_dead o' t' sz' xs' i' k' a' ho' ht hd => cases ho'; rw [hlive] at hd; cases hd
    | ep_mem o' sz' xs' i' k' b off vs hacc hi hsz' h1 hv hr hroom =>
      obtain ⟨h0, cur, et, hcur⟩ := hroom tk rfl
      exact ⟨b, off, cur, et, rfl, hi, hacc.2.2, h0, hcur, hsz', h1⟩
  rcases own_read hsr hlive with ⟨rfl, hqs⟩ | ⟨b', off', c, cur, et, vs, hqs, htk, hbe', hoff', hc, hcur, hfit, hxs', hx1', hxv, hxr⟩
  · simp at hi
  rw [hbe] at hbe'; cases hbe'
  subst hoff
  subst hoff'
  have hfl := flat_length xs hxs
  have hpos : i * sz + k < xs.length * sz := by
    have : (i + 1) * sz ≤ xs.length * sz := Nat.mul_le_mul_right _ hi
    rw [Nat.add_mul, Nat.one_mul] at this; omega
  have hin : E.off tk + i * sz + k < cur.size := by
    have : xs.length * sz ≤ c * sz := Nat.mul_le_mul_right _ hc
    omega
  have h1v : (a.eval x).oneCell' = true := hx.one h1x
  have hcells : (a.eval x).cells = #[a.eval x] := by cases hq : a.eval x <;> rw [hq] at h1v <;> simp [Value.oneCell'] at h1v <;> rfl
  have hst := run_storeCells_at P b (E.off tk + i * sz + k) et [a.eval x] 0 cur w hcur (by simp; omega) (by simpa using h1v)
  simp only [Nat.add_zero] at hst
  have hrun : (execOp a.eval o).run P w = .ok .skip (w.setRow b (cur.toList.take (E.off tk + i * sz + k) ++ [a.eval x] ++ cur.toList.drop (E.off tk + i * sz + k + 1)).toArray) := by
    simp only [execOp, ho, hqa, Instr.storeAt, Instr.sureAddr, storeVar, Sem.run_bind, Sem.run_pure, Result.andThen_ok, run_sizeOf hsz1, hcells, List.size_toArray, List.length_cons, List.length_nil, Nat.zero_add, ne_eq, not_true_eq_false, if_false, hst]
  obtain ⟨ev1, hR1⟩ := step_pass hR tk hlive (w' := w.setRow b (cur.toList.take (E.off tk + i * sz + k) ++ [a.eval x] ++ cur.toList.drop (E.off tk + i * sz + k + 1)).toArray) rfl rfl rfl (by simp)
    (fun b' hb' => setRow_other w b b' _ (fun he => hb' (he ▸ hbe)))
  have hnew := setRow_heap w b cur (cur.toList.take (E.off tk + i * sz + k) ++ [a.eval x] ++ cur.toList.drop (E.off tk + i * sz + k + 1)).toArray et (0, 0) hcur
  have hset : (cur.toList.take (E.off tk + i * sz + k) ++ [a.eval x] ++ cur.toList.drop (E.off tk + i * sz + k + 1)) = cur.toList.set (E.off tk + i * sz + k) (a.eval x) := by
    rw [List.set_eq_take_append_cons_drop, if_pos (by simpa using hin)]; simp
  rw [hset] at hnew hrun ev1 hR1
  -- the new element
  have hel : (xs.getD i .top).cells.length = sz := hxs _ (getD_mem hi)
  have hput : ((xs.getD i .top).putCell k (ev F x)).cells = (xs.getD i .top).cells.set k (ev F x) := by
    cases hq : xs.getD i .top with
    | agg cs => rfl
    | _ =>
      rw [hq] at hel
      simp only [AV.cells, List.length_singleton] at hel
      have hk0 : k = 0 := by omega
      subst hk0
      simp only [AV.putCell, AV.cells, List.set_cons_zero]
      cases hqx : ev F x <;> rw [hqx] at h1x <;> simp [AV.one] at h1x <;> rfl
  have hflat : flat (xs.set i ((xs.getD i .top).putCell k (ev F x))) = (flat xs).set (i * sz + k) (ev F x) := by
    rw [flat_set xs i _ hxs hi, hput]
    have hgi : xs.getD i .top = xs[i] := by simp [List.getD, hi]
    have hself := flat_set xs i (xs.getD i .top) hxs hi
    rw [show xs.set i (xs.getD i .top) = xs by rw [hgi]; simp] at hself
    have hl1 : ((flat xs).take (i * sz)).length = i * sz := by rw [List.length_take, hfl]; omega
    generalize hA : (flat xs).take (i * sz) = A at hself hl1 ⊢
    generalize hB : (flat xs).drop (i * sz + sz) = B at hself ⊢
    rw [hself]
    rw [List.append_assoc, List.append_assoc, List.set_append_right _ _ (by omega), hl1, show i * sz + k - i * sz = k by omega, List.set_append_left _ _ (by omega)]
  have hxs2 : ∀ y ∈ xs.set i ((xs.getD i .top).putCell k (ev F x)), y.cells.length = sz := by
    intro y hy
    rcases List.mem_or_eq_of_mem_set hy with hy | hy
    · exact hxs y hy
    · rw [hy, hput, List.length_set]; exact hel
  have hone2 : ∀ u ∈ flat (xs.set i ((xs.getD i .top).putCell k (ev F x))), u.one = true := by
    intro u hu
    rw [hflat] at hu
    rcases List.mem_or_eq_of_mem_set hu with hu | hu
    · exact hx1 u hu
    · rw [hu]; exact h1x
  have hv : VRel (E.addTok S.next (E.be tk) (E.off tk)) (S.kill tk).fresh (w.setRow b (cur.toList.set (E.off tk + i * sz + k) (a.eval x)).toArray) (.sl (.own S.next) sz (xs.set i ((xs.getD i .top).putCell k (ev F x)))) (a.tmps.getD s undef) := by
    rw [hqs]
    have hlen : xs.length = (xs.set i ((xs.getD i .top).putCell k (ev F x))).length := by simp
    rw [hlen]
    refine VRel.sl_mem (.own S.next) sz _ b (E.off tk) c (fun j => if j = i * sz + k then a.eval x else vs j) ⟨Nat.lt_succ_self _, by simp [ASt.fresh, ASt.kill], by simp [Env.addTok, hbe]⟩ (by rw [← hlen]; exact hc) hxs2 hone2 ?_ ?_ ?_
    · intro j u hj
      rw [cell_of_row _ b (E.off tk + j) _ et (0, 0) hnew, List.getElem?_toArray]
      rw [hflat] at hj
      by_cases he : j = i * sz + k
      · subst he
        rw [if_pos rfl, show E.off tk + (i * sz + k) = E.off tk + i * sz + k by omega, List.getElem?_set_self (by simpa using hin)]
      · rw [if_neg he, List.getElem?_set_ne (by omega), Array.getElem?_toList]
        rw [List.getElem?_set_ne (Ne.symm he)] at hj
        exact hxv j u hj
    · intro j u hj
      rw [hflat] at hj
      by_cases he : j = i * sz + k
      · subst he
        rw [List.getElem?_set_self (by rw [hfl]; exact hpos)] at hj
        cases hj
        rw [if_pos rfl]; exact hx.mono ev1
      · rw [if_neg he]
        rw [List.getElem?_set_ne (Ne.symm he)] at hj
        exact (hxr j u hj).mono ev1
    · intro t' ht'
      cases ht'
      refine ⟨by simp [Env.addTok], _, et, hnew, ?_⟩
      simpa using hfit
  refine wp_skp hrun (hn _ _ _ _ _ _ ev1 hR1 (.top undef) ?_ h)
  have hm := hF.mono ev1
  refine ⟨by simpa using hm.1, fun j => ?_⟩
  by_cases hj : s = j
  · subst hj
    by_cases hlt : s < F.length
    · have : (F.set s (.sl (.own S.next) sz (xs.set i ((xs.getD i .top).putCell k (ev F x))))).getD s .top = .sl (.own S.next) sz (xs.set i ((xs.getD i .top).putCell k (ev F x))) := by
        simp [List.getD, hlt]
      rw [this]; exact hv
    · rw [List.getD, List.getElem?_eq_none (by omega)] at hsl
      cases hsl
  · have : (F.set s (.sl (.own S.next) sz (xs.set i ((xs.getD i .top).putCell k (ev F x))))).getD j .top = F.getD j .top := by
      simp [List.getD, List.getElem?_set_ne hj]
    rw [this]; exact hm.2 j

/-- A byte slice turned to its own type. -/
theorem snd_frz {s : TypeId} {x : Operand} (ho : o.op = .convert s s x) (hR : Rel E S w) (hF : FRel E S w F a.tmps)
    (h : frzA P s (ev F x) S (fun v S' => K v F S')) (hn : Cont E S w o a next K) : o.wp P a w next Q := by
  have hx := ev_rel hF x
  unfold frzA at h
  split at h
  · rename_i tk sz x0 xs0 hev
    rw [hev] at hx
    obtain ⟨hty, hl, hK⟩ := h
    obtain ⟨e, hse, hie⟩ := Option.bind_eq_some_iff.1 hty
    rcases own_read hx hl with ⟨h0, _⟩ | ⟨b, off, c, cur, et, vs, hq, hlt, hbe, hoff, hc, hcur, hfit, hsz, h1, hv, hr⟩
    · cases h0
    have hrun : (execOp a.eval o).run P w = .ok (.value (.slice (some ⟨b, off, none⟩) (x0 :: xs0).length c)) (w.freeze ⟨b, cur.size, none⟩ 1) := by
      have hsh : w.shape? b = some (et, cur.size) := by simp [World.shape?, hcur]
      simp only [execOp, ho, hq, convert, Sem.run_bind, run_underlying (sliceT_some hse), run_underlying (intT_some hie), Result.andThen_ok]
      simp [markStringish, hsh]
    have hheap : ∀ b', b ≠ b' → (w.freeze ⟨b, cur.size, none⟩ 1).heap[b']? = w.heap[b']? := by
      intro b' hb'
      simp [World.freeze, Array.getElem?_modify, hb']
    obtain ⟨ev1, hR1⟩ := step_pass (w' := w.freeze ⟨b, cur.size, none⟩ 1) hR tk hl rfl rfl rfl (by simp [World.freeze]) (fun b' hb' => hheap b' (fun e => hb' (by rw [← e]; exact hbe)))
    refine wp_val hrun (hn _ _ _ _ _ F ev1 hR1 ?_ (hF.mono ev1) hK)
    refine VRel.sl_mem (.sub S.next) sz (x0 :: xs0) b off c vs ⟨Nat.lt_succ_self _, by simp [ASt.fresh, ASt.kill], by simp [Env.addTok, hbe]⟩ hc hsz h1 ?_ (fun j u hj => (hr j u hj).mono ev1) (fun t ht => by cases ht)
    intro j u hj
    have := hv j u hj
    simp [World.cell?, World.freeze, Array.getElem?_modify, hcur, this]
  · exact h.elim
end
end Go.Proofs.Ytmfkocmbmadkmaa.Abs
