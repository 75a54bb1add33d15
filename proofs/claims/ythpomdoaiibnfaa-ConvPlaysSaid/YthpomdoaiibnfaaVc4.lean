/- A function's contract, out of its code made ready; a function run whole. -/
import Derived.Test.YthpomdoaiibnfaaVc3
namespace Go.Proofs.Ythpomdoaiibnfaa.Abs
open Go Go.RowKit
set_option linter.unusedVariables false
set_option linter.unusedSimpArgs false

def resOne (P : Program) (F : List AV) (S : ASt) (r : ResultVar) (K : AV → Prop) : Prop :=
  match r with
  | .tmp t => K (F.getD t .top)
  | .cell a t =>
    match F.getD a .top with
    | .ptr (some (o, i)) => loadA P t (.ptr (some (o, i))) S K
    | _ => False
def resL (P : Program) (F : List AV) (S : ASt) : List ResultVar → (List AV → Prop) → Prop
  | [], K => K []
  | r :: rs, K => resOne P F S r fun v => resL P F S rs fun vs => K (v :: vs)
def resV : List AV → AV
  | [v] => v
  | vs => .tuple vs

section
variable {P : Program} {M : Modes} {E : Env} {S : ASt} {w : World} {a : Act} {F : List AV}
theorem load_ptr {t : TypeId} {ob i : Nat} {K : AV → Prop} (hR : Rel E S w) (h : loadA P t (.ptr (some (ob, i))) S K) :
    ∃ v cv, (loadVar t ⟨E.mu ob, i, none⟩).run P w = .ok cv w ∧ VRel E S w v cv ∧ K v := by
  simp only [loadA] at h
  split at h
  · rename_i cs hcs
    obtain ⟨cur, e, g1, g2, g3⟩ := hR.obj ob cs hcs
    have hcell : ∀ j u, cs[j]? = some u → w.cell? ⟨E.mu ob, j, none⟩ = some (cur.getD j undef) := by
      intro j u hu
      have hj : j < cur.size := by rw [g2]; exact (List.getElem?_eq_some_iff.1 hu).1
      rw [cell_of_row w _ _ cur e (0, 0) g1]
      simp [Array.getD, hj]
    split at h
    · rename_i hag
      split at h
      · rename_i v hv
        exact ⟨v, cur.getD i undef, run_loadVar_one hag (hcell i v hv), (g3 i v hv).2, h⟩
      · exact h.elim
    · rename_i hag
      split at h
      · rename_i n hsz
        obtain ⟨hle, hk⟩ := h
        have hc : ∀ j, j < n → w.cell? ((⟨E.mu ob, i, none⟩ : Addr).add j) = some (cur.getD (i + j) undef) := by
          intro j hj
          rw [Addr.add_lit]
          exact hcell (i + j) _ (List.getElem?_eq_getElem (by omega))
        refine ⟨_, _, run_loadVar_agg hag hsz hc, ?_, hk⟩
        refine .agg _ _ (by simp; omega) ?_ ?_
        · intro u hu
          obtain ⟨j, hj⟩ := List.mem_iff_getElem?.1 hu
          rw [List.getElem?_take] at hj
          split at hj
          · rw [List.getElem?_drop] at hj; exact (g3 _ u hj).1
          · cases hj
        · intro j u hj
          rw [List.getElem?_take] at hj
          split at hj
          · rename_i hjn
            rw [List.getElem?_drop] at hj
            have := (g3 _ u hj).2
            simpa [Array.getD, hjn] using this
          · cases hj
      · exact h.elim
    · exact h.elim
  · exact h.elim

theorem resOne_sound {r : ResultVar} {K : AV → Prop} (hR : Rel E S w) (hF : FRel E S w F a.tmps) (h : resOne P F S r K) :
    ∃ v cv, (match r with | .tmp t => pure (a.tmps.getD t undef) | .cell x t => do loadVar t (← asAddr (a.tmps.getD x undef)) : Sem Value).run P w = .ok cv w ∧ VRel E S w v cv ∧ K v := by
  cases r with
  | tmp t => exact ⟨_, _, rfl, hF.2 t, h⟩
  | cell x t =>
    simp only [resOne] at h
    split at h
    · rename_i ob i hx
      have hr := hF.2 x
      rw [hx] at hr
      have hq : a.tmps.getD x undef = .pointer (some ⟨E.mu ob, i, none⟩) := by generalize a.tmps.getD x undef = cv at hr; cases hr; rfl
      obtain ⟨v, cv, h1, h2, h3⟩ := load_ptr hR h
      refine ⟨v, cv, ?_, h2, h3⟩
      simp only [hq, asAddr, Sem.run_bind, Sem.run_pure, Result.andThen_ok, h1]
    · exact h.elim

theorem resL_sound (hR : Rel E S w) (hF : FRel E S w F a.tmps) : ∀ (rs : List ResultVar) (K : List AV → Prop), resL P F S rs K →
    ∃ vs cvs, (rs.mapM (fun r => (match r with | .tmp t => pure (a.tmps.getD t undef) | .cell x t => do loadVar t (← asAddr (a.tmps.getD x undef)) : Sem Value))).run P w = .ok cvs w ∧ cvs.length = vs.length ∧
      (∀ i u, vs[i]? = some u → VRel E S w u (cvs.getD i undef)) ∧ K vs
  | [], K, h => ⟨[], [], by simp, rfl, by simp, h⟩
  | r :: rs, K, h => by
    simp only [resL] at h
    obtain ⟨v, cv, h1, h2, h3⟩ := resOne_sound hR hF h
    obtain ⟨vs, cvs, g1, g2, g3, g4⟩ := resL_sound hR hF rs _ h3
    refine ⟨v :: vs, cv :: cvs, ?_, by simp [g2], ?_, g4⟩
    · rw [List.mapM_cons]
      simp only [Sem.run_bind, h1, Result.andThen_ok, g1, Sem.run_pure]
    · intro i u hu
      cases i with
      | zero => simp at hu; subst hu; exact h2
      | succ i => simp only [List.getElem?_cons_succ] at hu; simpa using g3 i u hu

theorem results_sound {fn : Func} {K : AV → ASt → Prop} (hR : Rel E S w) (hF : FRel E S w F a.tmps) (h : resL P F S fn.results.toList fun vs => K (resV vs) S) :
    ∃ v cv, (results fn a.tmps).run P w = .ok cv w ∧ VRel E S w v cv ∧ K v S := by
  obtain ⟨vs, cvs, h1, h2, h3, h4⟩ := resL_sound (a := a) hR hF _ _ h
  have hrun : (fn.results.mapM (fun r => (match r with | .tmp t => pure (a.tmps.getD t undef) | .cell x t => do loadVar t (← asAddr (a.tmps.getD x undef)) : Sem Value))).run P w = .ok cvs.toArray w := by
    rw [Array.mapM_eq_mapM_toList, Sem.run_map, h1]; rfl
  refine ⟨resV vs, if h : cvs.toArray.size = 1 then cvs.toArray[0] else .tuple cvs.toArray, ?_, ?_, h4⟩
  · unfold results
    rw [Sem.run_bind]
    refine (congrArg (fun r => Result.andThen r _) hrun).trans ?_
    rfl
  · match vs, cvs, h2, h3 with
    | [v], [cv], _, h3 => exact h3 0 v rfl
    | [], [], _, _ => exact VRel.tuple [] #[] rfl (by simp)
    | v :: v2 :: vs, cv :: cv2 :: cvs, h2, h3 =>
      have e : (if h : (cv :: cv2 :: cvs).toArray.size = 1 then (cv :: cv2 :: cvs).toArray[0] else .tuple (cv :: cv2 :: cvs).toArray) = Value.tuple (cv :: cv2 :: cvs).toArray := dif_neg (by simp)
      rw [e]
      refine VRel.tuple _ _ (by simpa using h2) (fun i u hu => ?_)
      rw [getD_toArray]; exact h3 i u hu
    | [], cv :: cvs, h2, _ => simp at h2
    | v :: vs, [], h2, _ => simp at h2
    | [v], cv :: cv2 :: cvs, h2, _ => simp at h2
    | v :: v2 :: vs, [cv], h2, _ => simp at h2

theorem args_frel {args : List AV} {cargs : Array Value} {n : Nat} (hA : ArgsRel E S w args cargs) : FRel E S w (args ++ List.replicate (n - args.length) (.tuple [])) (cargs ++ Array.replicate (n - cargs.size) undef) := by
  refine ⟨by simp [hA.1], fun i => ?_⟩
  by_cases hi : i < args.length
  · have e1 : (args ++ List.replicate (n - args.length) (AV.tuple [])).getD i .top = args.getD i .top := by simp [List.getD, List.getElem?_append_left hi]
    have e2 : (cargs ++ Array.replicate (n - cargs.size) undef).getD i undef = cargs.getD i undef := by
      simp only [Array.getD_eq_getD_getElem?]
      rw [Array.getElem?_append_left (by rw [hA.1]; exact hi)]
    rw [e1, e2]; exact hA.2 i hi
  · by_cases hi2 : i < args.length + (n - args.length)
    · have e1 : (args ++ List.replicate (n - args.length) (AV.tuple [])).getD i .top = .tuple [] := by
        simp only [List.getD]
        rw [List.getElem?_append_right (by omega), List.getElem?_replicate, if_pos (by omega)]; rfl
      have e2 : (cargs ++ Array.replicate (n - cargs.size) undef).getD i undef = undef := by
        simp only [Array.getD_eq_getD_getElem?]
        rw [Array.getElem?_append_right (by rw [hA.1]; omega), Array.getElem?_replicate]
        split <;> rfl
      rw [e1, e2]; exact undef_rel
    · have e1 : (args ++ List.replicate (n - args.length) (AV.tuple [])).getD i .top = .top := by
        simp only [List.getD]
        rw [List.getElem?_append_right (by omega), List.getElem?_replicate, if_neg (by omega)]; rfl
      rw [e1]; exact .top _

end

/-! ### results made ready -/
inductive Rs where
  | t (i : Nat)
  | cell (i : Nat)
  | cellN (i n : Nat)
def rsRes (P : Program) (n : Nat) : List ResultVar → Option (List Rs)
  | [] => some []
  | .tmp t :: r => if t < n then (rsRes P n r).bind fun l => some (.t t :: l) else none
  | .cell x t :: r => if x < n then (aggT P t).bind fun ag => (rsRes P n r).bind fun l =>
      match ag with
      | true => (szA P t).bind fun m => some (.cellN x m :: l)
      | false => some (.cell x :: l)
    else none
def cellE (S : ASt) (v : AV) : Option AV :=
  match v with
  | .ptr p => loadE S (.ptr p)
  | _ => none
def cellNE (S : ASt) (n : Nat) (v : AV) : Option AV :=
  match v with
  | .ptr p => loadNE S n (.ptr p)
  | _ => none
def resE (F : Fr) (S : ASt) : List Rs → Option (List AV)
  | [] => some []
  | .t i :: r => (resE F S r).bind fun l => some (look F i :: l)
  | .cell i :: r => (cellE S (look F i)).bind fun v => (resE F S r).bind fun l => some (v :: l)
  | .cellN i n :: r => (cellNE S n (look F i)).bind fun v => (resE F S r).bind fun l => some (v :: l)
def bodyQ (rr : List Rs) (K : AV → ASt → Prop) : Ex → Fr → ASt → Prop
  | .exit _, _, _ => False
  | _, F, S => ∃ vs, resE F S rr = some vs ∧ K (resV vs) S
def argF : Nat → List AV → Fr
  | _, [] => []
  | i, a :: r => (i, a) :: argF (i + 1) r

section
variable {P : Program} {E : Env} {S : ASt} {w : World} {n : Nat}
theorem rsRes_ok {F : Fr} : ∀ {rs : List ResultVar} {rr : List Rs} {vs : List AV} {K : List AV → Prop}, rsRes P n rs = some rr → resE F S rr = some vs → K vs → resL P (toL n F) S rs K
  | [], rr, vs, K, h, hv, hk => by
    simp only [rsRes, Option.some.injEq] at h; subst h
    simp only [resE, Option.some.injEq] at hv; subst hv
    exact hk
  | .tmp t :: r, rr, vs, K, h, hv, hk => by
    simp only [rsRes] at h
    split at h
    · rename_i ht
      simp only [Option.bind_eq_some_iff, Option.some.injEq] at h
      obtain ⟨l, hl, rfl⟩ := h
      simp only [resE, Option.bind_eq_some_iff, Option.some.injEq] at hv
      obtain ⟨vs', hvs', rfl⟩ := hv
      simp only [resL, resOne, toL_get ht]
      exact rsRes_ok hl hvs' hk
    · cases h
  | .cell x t :: r, rr, vs, K, h, hv, hk => by
    simp only [rsRes] at h
    split at h
    · rename_i ht
      simp only [Option.bind_eq_some_iff] at h
      obtain ⟨ag, hag, l, hl, h⟩ := h
      simp only [resL, resOne, toL_get ht]
      split at h
      · simp only [Option.bind_eq_some_iff, Option.some.injEq] at h
        obtain ⟨m, hm, rfl⟩ := h
        simp only [resE, Option.bind_eq_some_iff, Option.some.injEq] at hv
        obtain ⟨v, hv0, vs', hvs', rfl⟩ := hv
        unfold cellNE at hv0
        split at hv0
        · rename_i p hp
          rw [hp]
          cases p with
          | none => simp [loadNE] at hv0
          | some p => exact loadNE_ok hag hm hv0 (rsRes_ok hl hvs' hk)
        · cases hv0
      · simp only [Option.some.injEq] at h; subst h
        simp only [resE, Option.bind_eq_some_iff, Option.some.injEq] at hv
        obtain ⟨v, hv0, vs', hvs', rfl⟩ := hv
        unfold cellE at hv0
        split at hv0
        · rename_i p hp
          rw [hp]
          cases p with
          | none => simp [loadE] at hv0
          | some p => exact loadE_ok hag hv0 (rsRes_ok hl hvs' hk)
        · cases hv0
    · cases h

theorem look_argF : ∀ (args : List AV) (k i : Nat), look (argF k args) (k + i) = args.getD i .top
  | [], k, i => rfl
  | x :: r, k, i => by
    simp only [argF, look_cons]
    cases i with
    | zero => simp
    | succ i =>
      rw [if_neg (by omega), show k + (i + 1) = (k + 1) + i by omega, look_argF r (k + 1) i]
      simp
theorem argF_fr {args : List AV} {cargs : Array Value} (hA : ArgsRel E S w args cargs) : FR E S w (argF 0 args) (cargs ++ Array.replicate (n - cargs.size) undef) := by
  intro i hi
  have e := look_argF args 0 i
  rw [Nat.zero_add] at e
  rw [e]
  by_cases h : i < args.length
  · have e2 : (cargs ++ Array.replicate (n - cargs.size) undef).getD i undef = cargs.getD i undef := by
      simp only [Array.getD_eq_getD_getElem?]
      rw [Array.getElem?_append_left (by rw [hA.1]; exact h)]
    rw [e2]; exact hA.2 i h
  · rw [show args.getD i .top = .top by simp [List.getD, h]]; exact .top _

/-- A function's contract. -/
theorem ACalls.enter {f : FuncId} {fn : Func} {c : Code} {args : List AV} {K : AV → ASt → Prop} {rs : Array ResultVar} {H : Hn} {rc : RC} {rr : List Rs} (hf : P.funcs[f]? = some fn) (hb : fn.body = some c) (hrs : fn.results = rs) (hn : fn.ntmps = n)
    (he : enterA P f = true) (hc : cmp P H n c .nop = some rc) (hr : rsRes P n rs.toList = some rr) (hl : args.length ≤ n)
    (h : wpR P rc (bodyQ rr K) (argF 0 args) S) : ACalls P f args S K := by
  subst hn
  subst hrs
  refine ⟨he, fun E w cargs hR hA => ?_⟩
  refine calls_of_wp hf hb (wp_mono (wpR_sound (H := H) c .nop rc _ E S w _ { tmps := cargs ++ Array.replicate (fn.ntmps - cargs.size) undef, defers := [] } hc h hR (argF_fr hA) rfl (by simp [hA.1]; omega)) ?_)
  intro e a' w' hp
  have key : ∀ {K0 : Fr → ASt → Prop}, Rch E S w fn.ntmps K0 a' w' → (∀ F S, K0 F S → ∃ vs, resE F S rr = some vs ∧ K (resV vs) S) → bodyPost P fn (CallPost E S w K) .ret a' w' := by
    rintro K0 ⟨E', S', F', ev, hR', hF', hd', hn', hq⟩ hk
    obtain ⟨vs, hvs, hkv⟩ := hk _ _ hq
    obtain ⟨v, cv, h1, h2, h3⟩ := results_sound (fn := fn) (K := K) hR' (hF'.rel hn') (rsRes_ok hr hvs hkv)
    exact ⟨hd', cv, h1, v, cv, E', S', rfl, ev, hR', h2, h3⟩
  cases e with
  | normal => exact key hp (fun F S h => h)
  | ret => exact key hp (fun F S h => h)
  | exit id =>
    obtain ⟨E', S', F', ev, hR', hF', hd', hl, hq⟩ := hp
    exact hq.elim
  | goto l => exact hp.elim
  | panic c => exact hp.elim
  | outgrown => exact hp.elim
end
end Go.Proofs.Ythpomdoaiibnfaa.Abs
