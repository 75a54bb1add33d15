/- A function's code and results made ready in one; a function run whole, on values that are known. -/
import Derived.Test.YthpomdoaiibnfaaVc4
namespace Go.Proofs.Ythpomdoaiibnfaa.Abs
open Go Go.RowKit
set_option linter.unusedVariables false
set_option linter.unusedSimpArgs false

def rdy (P : Program) (H : Hn) (fn : Func) : Option (RC × List Rs × Nat) :=
  fn.body.bind fun c => (cmp P H fn.ntmps c .nop).bind fun rc => (rsRes P fn.ntmps fn.results.toList).bind fun rr => some (rc, rr, fn.ntmps)
theorem rdy_some {P : Program} {H : Hn} {fn : Func} {rc : RC} {rr : List Rs} {n : Nat} (h : rdy P H fn = some (rc, rr, n)) :
    ∃ c, fn.body = some c ∧ cmp P H fn.ntmps c .nop = some rc ∧ rsRes P fn.ntmps fn.results.toList = some rr ∧ fn.ntmps = n := by
  simp only [rdy, Option.bind_eq_some_iff, Option.some.injEq, Prod.mk.injEq] at h
  obtain ⟨c, h1, rc', h2, rr', h3, rfl, rfl, h4⟩ := h
  exact ⟨c, h1, h2, h3, h4⟩
theorem ACalls.of {P : Program} {f : FuncId} {fn : Func} {args : List AV} {K : AV → ASt → Prop} {S : ASt} {H : Hn} {rc : RC} {rr : List Rs} {n : Nat} (hf : P.funcs[f]? = some fn) (he : enterA P f = true)
    (hr : rdy P H fn = some (rc, rr, n)) (hl : args.length ≤ n) (h : wpR P rc (bodyQ rr K) (argF 0 args) S) : ACalls P f args S K := by
  obtain ⟨c, h1, h2, h3, h4⟩ := rdy_some hr
  subst h4
  exact ACalls.enter hf h1 rfl rfl he h2 h3 hl h

/-! ### what more is claimed behind -/
theorem ropK_mono {P : Program} {r : ROp} {F : Fr} {S : ASt} {K K' : AV → Fr → ASt → Prop} (hk : ∀ v F S, K v F S → K' v F S) (h : ropK P r F S K) : ropK P r F S K' := by
  cases r with
  | call f as => exact ACalls.mono h (fun v S' hv => hk _ _ _ hv)
  | inv x ms as =>
    simp only [ropK] at h ⊢
    split at h
    · split at h
      · exact ACalls.mono h (fun v S' hv => hk _ _ _ hv)
      · exact h.elim
    · exact h.elim
  | eqn ng x =>
    simp only [ropK] at h ⊢
    split at h
    · exact nilSlA_mono (fun b hb => hk _ _ _ hb) h
    · exact h.elim
  | stE s a x =>
    simp only [ropK] at h ⊢
    split at h
    · exact ⟨h.1, h.2.1, h.2.2.1, h.2.2.2.1, hk _ _ _ h.2.2.2.2⟩
    · exact h.elim
  | _ =>
    obtain ⟨v, S', h1, h2⟩ := h
    exact ⟨v, S', h1, hk _ _ _ h2⟩
theorem gK3_mono {v : AV} {w : Bool} {A B A' B' : Prop} (ha : A → A') (hb : B → B') (h : gK3 v w A B) : gK3 v w A' B' := by
  unfold gK3 at h ⊢
  split at h
  · split at h
    · rename_i e; rw [if_pos e]; exact ha h
    · rename_i e; rw [if_neg e]; exact hb h
  · exact h
  · exact hb h
theorem wpI_mono {P : Program} : ∀ {l : List RI} {K K' : Fr → ASt → Prop} {F : Fr} {S : ASt}, (∀ F S, K F S → K' F S) → wpI P l K F S → wpI P l K' F S
  | [], K, K', F, S, hk, h => hk _ _ h
  | i :: r, K, K', F, S, hk, h => by
    have hrun : ∀ {F S}, rRun P i F S (wpI P r K) → rRun P i F S (wpI P r K') := by
      intro F S h
      unfold rRun at h ⊢
      split at h
      · exact ⟨h.1, wpI_mono hk h.2⟩
      · exact ropK_mono (fun v F S h => wpI_mono hk h) h
    have hskip : ∀ {F S}, rSkip i F S (wpI P r K) → rSkip i F S (wpI P r K') := by
      intro F S h
      unfold rSkip at h ⊢
      split at h <;> exact wpI_mono hk h
    simp only [wpI] at h ⊢
    split at h
    · exact hrun h
    · exact gK3_mono hrun hskip h
theorem kQ_mono {A A' : Fr → ASt → Prop} {Q Q' : Ex → Fr → ASt → Prop} (ha : ∀ F S, A F S → A' F S) (hq : ∀ e F S, Q e F S → Q' e F S) : ∀ e F S, kQ A Q e F S → kQ A' Q' e F S
  | .normal, F, S, h => ha _ _ h
  | .exit _, F, S, h => hq _ _ _ h
  | .ret, F, S, h => hq _ _ _ h
theorem wpR_mono {P : Program} : ∀ {rc : RC} {Q Q' : Ex → Fr → ASt → Prop} {F : Fr} {S : ASt}, (∀ e F S, Q e F S → Q' e F S) → wpR P rc Q F S → wpR P rc Q' F S := by
  intro rc
  induction rc with
  | nop => intro Q Q' F S hq h; exact hq _ _ _ h
  | reg l k ih => intro Q Q' F S hq h; exact wpI_mono (fun F S h => ih hq h) h
  | cond c x y k ihx ihy ihk =>
    intro Q Q' F S hq h
    obtain ⟨R, h1, h2⟩ := h
    have hj : ∀ e F S, jQ R Q e F S → jQ R Q' e F S := by
      intro e F S h
      cases e with
      | normal => exact h
      | exit j => exact hq _ _ _ h
      | ret => exact hq _ _ _ h
    refine ⟨R, fun G S hg => ihk hq (h1 G S hg), ?_⟩
    unfold cK3 at h2 ⊢
    split at h2
    · exact ihx hj h2
    · exact ihy hj h2
    · exact h2
  | block id c k ihc ihk =>
    intro Q Q' F S hq h
    refine ihc ?_ h
    intro e F S h
    cases e with
    | normal => exact ihk hq h
    | exit j =>
      simp only [bQ] at h ⊢
      split at h
      · rename_i e; rw [if_pos e]; exact ihk hq h
      · rename_i e; rw [if_neg e]; exact hq _ _ _ h
    | ret => exact hq _ _ _ h
  | loop lv c ih =>
    intro Q Q' F S hq h
    obtain ⟨R, h0, h1⟩ := h
    refine ⟨R, h0, fun m G S hr => ih ?_ (h1 m G S hr)⟩
    intro e F S h
    cases e with
    | normal => exact h
    | exit j => exact hq _ _ _ h
    | ret => exact hq _ _ _ h
  | exit id => intro Q Q' F S hq h; exact hq _ _ _ h
  | ret => intro Q Q' F S hq h; exact hq _ _ _ h
theorem wpR_k {P : Program} {x : RC} {A : Fr → ASt → Prop} {Q : Ex → Fr → ASt → Prop} {F : Fr} {S : ASt} (h : wpR P x (kQ A Q) F S) : wpR P x (jQ A Q) F S := by
  refine wpR_mono ?_ h
  intro e F S h
  cases e with
  | normal => exact ⟨F, Sub.refl F, h⟩
  | exit j => exact h
  | ret => exact h
end Go.Proofs.Ythpomdoaiibnfaa.Abs
