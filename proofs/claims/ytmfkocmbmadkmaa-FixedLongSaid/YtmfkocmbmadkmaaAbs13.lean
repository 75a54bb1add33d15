/- Each operation of the model does what its abstract reading says: all together; regions in the order of the text. -/
import Derived.Test.YtmfkocmbmadkmaaAbs12
namespace Go.Proofs.Ytmfkocmbmadkmaa.Abs
open Go Go.RowKit
set_option linter.unusedVariables false
set_option linter.unusedSimpArgs false

section
variable {P : Program} {M : Modes} {E : Env} {S : ASt} {w : World} {o : Oper} {a : Act} {next : Act → World → Prop} {Q : Exit → Act → World → Prop} {F : List AV} {K : AV → List AV → ASt → Prop}

theorem enterA_some {f : FuncId} (h : enterA P f = true) : ∃ fn, P.funcs[f]? = some fn ∧ fn.body.isSome = true ∧ (fn.name == "runtime.NumGoroutine") = false := by
  unfold enterA at h
  split at h
  · rename_i fn hf
    simp only [Bool.and_eq_true, Bool.not_eq_true'] at h
    exact ⟨fn, hf, h.1, h.2⟩
  · cases h

theorem run_callFunc {f : FuncId} (h : enterA P f = true) (args : Array Value) (w : World) : (callFunc f args).run P w = .ok (.enter f args) w := by
  obtain ⟨fn, h1, h2, h3⟩ := enterA_some h
  have h3' : ¬ fn.name = "runtime.NumGoroutine" := by simpa using h3
  have h2' : fn.body ≠ none := by intro hh; rw [hh] at h2; cases h2
  simp [callFunc, h1, h3', h2']

theorem args_ev (hF : FRel E S w F a.tmps) (xs : Array Operand) : ArgsRel E S w (xs.toList.map (ev F)) (xs.map a.eval) := by
  refine ⟨by simp, fun i hi => ?_⟩
  have hi' : i < xs.size := by simpa using hi
  have e1 : (xs.toList.map (ev F)).getD i .top = ev F xs[i] := by simp [List.getD, hi']
  have e2 : (xs.map a.eval).getD i undef = a.eval xs[i] := by simp [Array.getD, hi']
  rw [e1, e2]; exact ev_rel hF _

theorem ArgsRel.cons {args : List AV} {cargs : Array Value} {v : AV} {cv : Value} (hv : VRel E S w v cv) (h : ArgsRel E S w args cargs) : ArgsRel E S w (v :: args) (#[cv] ++ cargs) := by
  refine ⟨by simp [h.1, Nat.add_comm], fun i hi => ?_⟩
  cases i with
  | zero =>
    have h0 : 0 < 1 + cargs.size := by omega
    simpa [Array.getD, h0] using hv
  | succ i =>
    have hi' : i < args.length := by simpa using hi
    have := h.2 i hi'
    have e2 : (#[cv] ++ cargs).getD (i + 1) undef = cargs.getD i undef := by
      simp only [Array.getD_eq_getD_getElem?]
      rw [Array.getElem?_append_right (by simp)]
      simp
    rw [e2, List.getD_cons_succ]; exact this

theorem wp_calls {f : FuncId} {args : List AV} {cargs : Array Value} {K' : AV → ASt → Prop} (hrun : (execOp a.eval o).run P w = .ok (.enter f cargs) w) (hR : Rel E S w) (hF : FRel E S w F a.tmps)
    (hA : ArgsRel E S w args cargs) (h : ACalls P f args S K') (hk : ∀ v S', K' v S' → K v F S') (hn : Cont E S w o a next K) : o.wp P a w next Q := by
  unfold Oper.wp
  rw [hrun, Oper.upon_enter]
  refine (h.2 E w cargs hR hA).mono ?_
  rintro e w' ⟨v, cv, E', S', rfl, ev1, hR1, hv, hK⟩
  exact hn E' S' w' v cv F ev1 hR1 hv (hF.mono ev1) (hk _ _ hK)

theorem run_method {t : TypeId} {name : String} {f : FuncId} (h : methA P t name = some f) (v : Value) (w : World) (n : Nat) (hn : 0 < n) : (method n t v name).run P w = .ok (f, v) w := by
  obtain ⟨n, rfl⟩ : ∃ m, n = m + 1 := ⟨n - 1, by omega⟩
  unfold methA at h
  split at h
  · rename_i i hi
    split at h
    · rename_i m hm
      split at h
      · rename_i hp
        split at h
        · rename_i f' pr hf
          split at h
          · rename_i hc
            simp only [Bool.and_eq_true, beq_iff_eq] at hc
            cases h
            obtain ⟨ds, hds⟩ := Option.isSome_iff_exists.1 hc.2
            have hpe : m.path = #[] := by simpa using hp
            have hpr := hc.1
            unfold isPtrT at hpr
            rw [hds] at hpr
            simp only [method, Sem.run_bind, typeInfo, run_program, Result.andThen_ok, hi, Sem.run_pure, hm, hpe, follow, hf]
            cases ds with
            | pointer e =>
              simp only at hpr
              subst hpr
              simp [receiverAt, run_underlying hds, Place.get]
            | _ =>
              simp only at hpr
              subst hpr
              simp [receiverAt, run_underlying hds, Place.get]
          · cases h
        · cases h
      · cases h
    · cases h
  · cases h

theorem one_arg {f : Operand → AV} {args : Array Operand} {v : AV} (h : args.toList.map f = [v]) : ∃ y, args = #[y] := by
  have hl : args.toList.length = 1 := by have := congrArg List.length h; simpa using this
  match hq : args.toList, hl with
  | [y], _ => exact ⟨y, Array.ext' (by rw [hq])⟩
theorem two_args {f : Operand → AV} {args : Array Operand} {u v : AV} (h : args.toList.map f = [u, v]) : ∃ y z, args = #[y, z] := by
  have hl : args.toList.length = 2 := by have := congrArg List.length h; simpa using this
  match hq : args.toList, hl with
  | [y, z], _ => exact ⟨y, z, Array.ext' (by rw [hq])⟩

theorem snd_call {c : Call} (ho : o.op = .call c) (hR : Rel E S w) (hF : FRel E S w F a.tmps) (h : callA P M c F S (fun v S' => K v F S')) (hn : Cont E S w o a next K) : o.wp P a w next Q := by
  obtain ⟨callee, args, argTypes⟩ := c
  unfold callA at h
  cases callee with
  | value f =>
    simp only at h
    split at h
    · rename_i g hev
      have hf := ev_rel hF f
      rw [hev] at hf
      have hqf : a.eval f = .func (.func g) #[] #[] := by cases hq : a.eval f <;> rw [hq] at hf <;> cases hf <;> rfl
      refine wp_calls (cargs := args.map a.eval) ?_ hR hF (args_ev hF args) h (fun _ _ h => h) hn
      simp only [execOp, ho, resolve, Sem.run_bind, Sem.run_pure, Result.andThen_ok, hqf, Deferred.ofValue, invoke, Array.empty_append, Array.append_empty, run_callFunc h.1]
    · exact h.elim
  | invoke r name =>
    simp only at h
    split at h
    · rename_i t v hev
      split at h
      · rename_i g hm
        have hr := ev_rel hF r
        rw [hev] at hr
        generalize hq : a.eval r = cr at hr
        cases hr with
        | iface t v cv hv =>
          refine wp_calls (cargs := #[cv] ++ args.map a.eval) ?_ hR hF ((args_ev hF args).cons hv) h (fun _ _ h => h) hn
          have hx : (#[Value.iface t cv] ++ args.map a.eval)[0]? = some (.iface t cv) := by rw [Array.getElem?_append_left (by simp)]; rfl
          have hx2 : (#[Value.iface t cv] ++ args.map a.eval).extract 1 (#[Value.iface t cv] ++ args.map a.eval).size = args.map a.eval := by
            apply Array.ext'
            simp [Array.toList_extract, List.take_of_length_le]
          have hme : ∀ w, (method (P.types.size + Made.depth) t cv name).run P w = .ok (g, cv) w := fun w => run_method hm cv w _ (by unfold Made.depth; omega)
          simp only [execOp, ho, resolve, Sem.run_bind, Sem.run_pure, Result.andThen_ok, hq, invoke, hx, hx2, callMethod, run_program, hme, run_callFunc h.1]
      · exact h.elim
    · exact h.elim
  | builtin b =>
    cases b <;> simp only at h <;> try exact h.elim
    case append =>
      split at h
      · rename_i s x t u h1 h2
        obtain ⟨y1, y2, rfl⟩ := two_args h1
        obtain rfl : argTypes = #[t, u] := by apply Array.ext'; rw [h2]
        simp only [List.map_cons, List.map_nil, List.cons.injEq, and_true] at h1
        obtain ⟨rfl, rfl⟩ := h1
        unfold appendA at h
        split at h
        · exact h.elim
        · rename_i e hse
          split at h
          · rename_i sz by_ z hs hb hz
            obtain ⟨h0, hby, h⟩ := h
            split at h
            · rename_i ow sz1 xs o2 sz2 ys hes hex
              obtain ⟨hu, hlen, hrd, hsz, h⟩ := h
              split at h
              · exact snd_append_nil ho hse hs hb hz h0 hby hes hex hu hlen hrd hsz hR hF h hn
              · rename_i tk
                obtain ⟨rfl, hl, h⟩ := h
                exact snd_append_own ho hse hs hb hz h0 hby hes hl hex hu hlen hrd hsz hR hF h hn
              · exact h.elim
            · rename_i sz1 xs k n hes hex
              obtain ⟨hu, hag, hn0, hn1, h⟩ := h
              exact snd_append_zeros ho hse hs hb hz hby hes hex hu hag hn0 hn1 hR hF h hn
            · exact h.elim
          · exact h.elim
      · exact h.elim
    case cap =>
      split at h
      · rename_i sz xs t h1 h2
        obtain ⟨y1, rfl⟩ := one_arg h1
        obtain rfl : argTypes = #[t] := by apply Array.ext'; rw [h2]
        simp only [List.map_cons, List.map_nil, List.cons.injEq, and_true] at h1
        have hx := ev_rel hF y1
        rw [h1] at hx
        obtain ⟨e, he⟩ := Option.isSome_iff_exists.1 h.1
        have hq : a.eval y1 = .slice none 0 0 := by
          generalize hq : a.eval y1 = cv at hx
          cases hx with
          | sl_nil sz => rfl
          | sl_mem o' sz' xs' b off c vs hacc => exact hacc.elim
          | sl_dead o' t sz xs a' c ho => cases ho
        refine wp_val ?_ (hn.same hR hF (.int .i64 0) h.2)
        simp [execOp, ho, resolve, invoke, builtin, Builtin.cap_, hq, run_underlying (sliceT_some he), goInt]
      · exact h.elim
    case len =>
      split at h
      · rename_i ow sz xs t h1 h2
        obtain ⟨y1, rfl⟩ := one_arg h1
        obtain rfl : argTypes = #[t] := by apply Array.ext'; rw [h2]
        simp only [List.map_cons, List.map_nil, List.cons.injEq, and_true] at h1
        have hx := ev_rel hF y1
        rw [h1] at hx
        obtain ⟨e, he⟩ := Option.isSome_iff_exists.1 h.1
        obtain ⟨aa, c, hq⟩ : ∃ aa c, a.eval y1 = .slice aa xs.length c := by
          generalize hq : a.eval y1 = cv at hx
          cases hx with
          | sl_nil sz => exact ⟨_, _, rfl⟩
          | sl_emp sz a' c => exact ⟨_, _, rfl⟩
          | sl_own_nil t sz ht => exact ⟨_, _, rfl⟩
          | sl_sub_emp t sz a' c ht => exact ⟨_, _, rfl⟩
          | sl_mem o' sz' xs' b off c vs hacc => exact ⟨_, _, rfl⟩
          | sl_dead o' t sz xs a' c ho => exact ⟨_, _, rfl⟩
        refine wp_val ?_ (hn.same hR hF (.int .i64 xs.length) h.2)
        simp [execOp, ho, resolve, invoke, builtin, Builtin.len_, hq, run_underlying (sliceT_some he), goInt]
      · rename_i l t h1 h2
        obtain ⟨y1, rfl⟩ := one_arg h1
        obtain rfl : argTypes = #[t] := by apply Array.ext'; rw [h2]
        simp only [List.map_cons, List.map_nil, List.cons.injEq, and_true] at h1
        have hx := ev_rel hF y1
        rw [h1] at hx
        have hq : a.eval y1 = .string ⟨l.toArray⟩ := by cases hq : a.eval y1 <;> rw [hq] at hx <;> cases hx <;> rfl
        refine wp_val ?_ (hn.same hR hF (.int .i64 l.length) h.2)
        have hsz : (⟨l.toArray⟩ : ByteArray).size = l.length := by simp [ByteArray.size]
        simp [execOp, ho, resolve, invoke, builtin, Builtin.len_, hq, run_underlying (isStrT_true h.1), goInt, hsz]
      · exact h.elim
    case max =>
      split at h
      · rename_i k x k' y h1
        obtain ⟨y1, y2, rfl⟩ := two_args h1
        simp only [List.map_cons, List.map_nil, List.cons.injEq, and_true] at h1
        have hx := ev_rel hF y1
        have hy := ev_rel hF y2
        rw [h1.1] at hx; rw [h1.2] at hy
        have hqx : a.eval y1 = .int k x := by cases hq : a.eval y1 <;> rw [hq] at hx <;> cases hx <;> rfl
        have hqy : a.eval y2 = .int k' y := by cases hq : a.eval y2 <;> rw [hq] at hy <;> cases hy <;> rfl
        refine wp_val ?_ (hn.same hR hF (.int k _) h)
        simp [execOp, ho, resolve, invoke, builtin, Builtin.max_, Builtin.max2, hqx, hqy]
      · exact h.elim
    case min =>
      split at h
      · rename_i k x k' y h1
        obtain ⟨y1, y2, rfl⟩ := two_args h1
        simp only [List.map_cons, List.map_nil, List.cons.injEq, and_true] at h1
        have hx := ev_rel hF y1
        have hy := ev_rel hF y2
        rw [h1.1] at hx; rw [h1.2] at hy
        have hqx : a.eval y1 = .int k x := by cases hq : a.eval y1 <;> rw [hq] at hx <;> cases hx <;> rfl
        have hqy : a.eval y2 = .int k' y := by cases hq : a.eval y2 <;> rw [hq] at hy <;> cases hy <;> rfl
        refine wp_val ?_ (hn.same hR hF (.int k _) h)
        simp [execOp, ho, resolve, invoke, builtin, Builtin.min_, Builtin.min2, hqx, hqy]
      · exact h.elim

theorem opA_sound (hR : Rel E S w) (hF : FRel E S w F a.tmps) (h : opA P M o F S K) (hn : Cont E S w o a next K) : o.wp P a w next Q := by
  unfold opA at h
  split at h <;> rename_i ho
  · exact snd_move (.inl ho) hR hF h hn
  · exact snd_move (.inr ho) hR hF h hn
  · split at h
    · rename_i hc; exact snd_pick ho hc hR hF h hn
    · exact h.elim
  · split at h
    · rename_i hz; exact snd_alloc ho hz hR hF h hn
    · exact h.elim
  · exact snd_box ho h.1 hR hF h.2 hn
  · split at h
    · rename_i hz hpl
      split at h
      · rename_i hf; exact snd_build ho hz hpl hf hR hF h hn
      · exact h.elim
    · exact h.elim
  · split at h
    · rename_i hse
      split at h
      · rename_i hs hz hag
        obtain ⟨h1, h2, h3, h⟩ := h
        split at h
        · rename_i hf
          split at h
          · rename_i hd; exact snd_buildSlice ho hd hse hs hz hag h1 h2 h3 hf hR hF h hn
          · exact h.elim
        · exact h.elim
      · exact h.elim
    · exact h.elim
  · exact snd_load ho hR hF h hn
  · unfold storeA at h
    split at h
    · rename_i had
      split at h
      · rename_i hcs
        exact snd_store_obj ho had hcs h.1 h.2.1 h.2.2.1 hR hF h.2.2.2 hn
      · exact h.elim
    · rename_i had
      split at h
      · rename_i d
        split at h
        · exact snd_store_ep ho had h.1 h.2.1 h.2.2.1 h.2.2.2.1 h.2.2.2.2.1 hR hF h.2.2.2.2.2 hn
        · exact h.elim
      · exact h.elim
    · exact h.elim
  · exact snd_nilCheck ho hR hF h hn
  · split at h
    · rename_i hc; exact snd_nilcmp ho hc hR hF h hn
    · exact snd_binOp ho hR hF h hn
  · split at h
    · rename_i hev; exact snd_not ho hev hR hF h hn
    · rename_i hev; exact snd_neg ho hev hR hF h hn
    · exact h.elim
  · split at h
    · rename_i hsd
      subst hsd
      exact snd_frz ho hR hF h hn
    · exact snd_convert ho hR hF h hn
  · exact snd_makeInterface ho h.1 hR hF h.2 hn
  · exact snd_slice ho hR hF h hn
  · split at h
    · rename_i hfa; exact snd_fieldAddr ho hfa hR hF h hn
    · exact h.elim
  · exact snd_indexAddr ho hR hF h hn
  · exact snd_index ho hR hF h hn
  · split at h
    · rename_i hev
      split at h
      · rename_i hv; exact snd_extract ho hev hv hR hF h hn
      · exact h.elim
    · exact h.elim
  · exact snd_call ho hR hF h hn
  · exact h.elim
end
end Go.Proofs.Ytmfkocmbmadkmaa.Abs
