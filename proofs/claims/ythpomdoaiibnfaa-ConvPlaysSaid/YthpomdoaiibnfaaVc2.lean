/- What is made ready does what the reading of the Go operation says. -/
import Derived.Test.YthpomdoaiibnfaaVc1
namespace Go.Proofs.Ythpomdoaiibnfaa.Abs
open Go Go.RowKit
set_option linter.unusedVariables false
set_option linter.unusedSimpArgs false

section
variable {P : Program} {M : Modes} {ms : List TypeId} {n : Nat} {o : Oper} {F : Fr} {S : ASt} {K : AV → Fr → ASt → Prop} {K' : AV → List AV → ASt → Prop}

theorem loadE_ok {t : TypeId} {a v : AV} {K : AV → Prop} (ht : aggT P t = some false) (h : loadE S a = some v) (hk : K v) : loadA P t a S K := by
  unfold loadE at h
  unfold loadA
  split at h
  · split at h
    · rename_i hcs; simp only [hcs, ht, h]; exact hk
    · cases h
  · split at h
    · rename_i hc; simp only [Option.some.injEq] at h; subst h; simp only [ht]; exact ⟨hc.1, rdB_iff.1 hc.2, hk⟩
    · cases h
  · cases h

theorem loadNE_ok {t : TypeId} {m : Nat} {a v : AV} {K : AV → Prop} (ht : aggT P t = some true) (hs : szA P t = some m) (h : loadNE S m a = some v) (hk : K v) : loadA P t a S K := by
  unfold loadNE at h
  unfold loadA
  split at h
  · split at h
    · rename_i hcs
      split at h
      · rename_i hc; simp only [Option.some.injEq] at h; subst h; simp only [hcs, ht, hs]; exact ⟨hc, hk⟩
      · cases h
    · cases h
  · split at h
    · rename_i hc; simp only [Option.some.injEq] at h; subst h; simp only [ht, hs]; exact ⟨hc.1, rdB_iff.1 hc.2, hk⟩
    · cases h
  · cases h

theorem appE_ok {t u e : TypeId} {sz b : Nat} {z : List AV} {s x v : AV} {S' : ASt} {K : AV → ASt → Prop} (ht : sliceT P t = some e) (hs : szA P e = some sz) (hb : byA P e = some b) (hz : zeroA P e = some z)
    (h1 : 0 < sz) (h2 : b ≤ 65536) (hu : (sliceT P u).isSome = true) (h : appE S sz s x = some (v, S')) (hk : K v S') : appendA P t u s x S K := by
  unfold appE at h
  unfold appendA
  simp only [ht, hs, hb, hz]
  refine ⟨h1, h2, ?_⟩
  split at h
  · split at h
    · rename_i hc
      refine ⟨hu, hc.1, rdB_iff.1 hc.2.1, hc.2.2.imp id (fun h => by simpa using h), ?_⟩
      split at h
      · simp only [Option.some.injEq, Prod.mk.injEq] at h; obtain ⟨rfl, rfl⟩ := h; exact hk
      · split at h
        · rename_i hc2; simp only [Option.some.injEq, Prod.mk.injEq] at h; obtain ⟨rfl, rfl⟩ := h; exact ⟨hc2.1, hc2.2, hk⟩
        · cases h
      · cases h
    · cases h
  · cases h

theorem appNE_ok {t u e : TypeId} {sz b : Nat} {z : List AV} {s x v : AV} {S' : ASt} {K : AV → ASt → Prop} (ht : sliceT P t = some e) (hs : szA P e = some sz) (hb : byA P e = some b) (hz : zeroA P e = some z)
    (h1 : 0 < sz) (h2 : b ≤ 65536) (hu : (intT P u).isSome = true) (h : appNE S sz (z.getD 0 .top) s x = some (v, S')) (hk : K v S') : appendA P t u s x S K := by
  unfold appNE at h
  unfold appendA
  simp only [ht, hs, hb, hz]
  refine ⟨h1, h2, ?_⟩
  split at h
  · split at h
    · rename_i hc
      simp only [Option.some.injEq, Prod.mk.injEq] at h; obtain ⟨rfl, rfl⟩ := h
      exact ⟨hu, hc.1, hc.2.1, hc.2.2, hk⟩
    · cases h
  · cases h

theorem lookM_ok {name : String} {t : TypeId} {g : FuncId} : ∀ {ms : List TypeId}, lookM (ms.filterMap fun t => (methA P t name).map fun g => (t, g)) t = some g → methA P t name = some g
  | [], h => by simp [lookM] at h
  | u :: ms, h => by
    simp only [List.filterMap_cons] at h
    cases hm : methA P u name with
    | none =>
      rw [hm] at h; simp only [Option.map_none] at h
      exact lookM_ok h
    | some g' =>
      rw [hm] at h; simp only [Option.map_some, lookM] at h
      split at h
      · rename_i hu; subst hu; simp only [Option.some.injEq] at h; subst h; exact hm
      · exact lookM_ok h

theorem rsCall_ok {c : Call} {r : ROp} (h : rsCall P ms n c = some r) (hk : ∀ v G S', K v G S' → K' v (toL n G) S') (hr : ropK P r F S K) : callA P M c (toL n F) S (fun v S' => K' v (toL n F) S') := by
  unfold rsCall at h
  unfold callA
  split at h
  · rename_i f hf
    simp only [Option.bind_eq_some_iff] at h
    obtain ⟨r0, h0, h⟩ := h
    split at h
    · rename_i g
      simp only [Option.bind_eq_some_iff, Option.some.injEq] at h
      obtain ⟨as, has, rfl⟩ := h
      have e : ev (toL n F) f = .func g := rsR_ev (F := F) h0
      simp only [hf, e, rsRs_ev has]
      exact ACalls.mono hr (fun v S' hv => hk _ _ _ hv)
    · cases h
  · rename_i r0 name hf
    simp only [Option.bind_eq_some_iff, Option.some.injEq] at h
    obtain ⟨r1, h1, as, has, rfl⟩ := h
    simp only [ropK] at hr
    simp only [hf, rsR_ev h1, rsRs_ev has]
    split at hr
    · rename_i t v hv
      split at hr
      · rename_i g hg
        simp only [hv, lookM_ok hg]
        exact ACalls.mono hr (fun v S' hv => hk _ _ _ hv)
      · exact hr.elim
    · exact hr.elim
  · rename_i hf
    split at h
    · rename_i x t hx ht
      simp only [Option.bind_eq_some_iff] at h
      obtain ⟨a, ha, h⟩ := h
      have e := rsR_ev (F := F) ha
      simp only [hf, hx, ht, List.map_cons, List.map_nil, e]
      split at h
      · rename_i hs
        simp only [Option.some.injEq] at h; subst h
        obtain ⟨v, S', h1, h2⟩ := hr
        simp only [ropE] at h1
        split at h1
        · rename_i ow sz xs hv
          simp only [Option.some.injEq, Prod.mk.injEq] at h1; obtain ⟨rfl, rfl⟩ := h1
          simp only [hv]
          exact ⟨hs, hk _ _ _ h2⟩
        · cases h1
      · split at h
        · rename_i hs
          simp only [Option.some.injEq] at h; subst h
          obtain ⟨v, S', h1, h2⟩ := hr
          simp only [ropE] at h1
          split at h1
          · rename_i l hv
            simp only [Option.some.injEq, Prod.mk.injEq] at h1; obtain ⟨rfl, rfl⟩ := h1
            simp only [hv]
            exact ⟨hs, hk _ _ _ h2⟩
          · cases h1
        · cases h
    · cases h
  · rename_i hf
    split at h
    · rename_i x t hx ht
      simp only [Option.bind_eq_some_iff] at h
      obtain ⟨a, ha, h⟩ := h
      have e := rsR_ev (F := F) ha
      simp only [hf, hx, ht, List.map_cons, List.map_nil, e]
      split at h
      · rename_i hs
        simp only [Option.some.injEq] at h; subst h
        obtain ⟨v, S', h1, h2⟩ := hr
        simp only [ropE] at h1
        split at h1
        · rename_i sz xs hv
          simp only [Option.some.injEq, Prod.mk.injEq] at h1; obtain ⟨rfl, rfl⟩ := h1
          simp only [hv]
          exact ⟨hs, hk _ _ _ h2⟩
        · cases h1
      · cases h
    · cases h
  · rename_i hf
    split at h
    · rename_i x y hx
      simp only [Option.bind_eq_some_iff, Option.some.injEq] at h
      obtain ⟨a, ha, b, hb, rfl⟩ := h
      simp only [hf, hx, List.map_cons, List.map_nil, rsR_ev ha, rsR_ev hb]
      obtain ⟨v, S', h1, h2⟩ := hr
      simp only [ropE] at h1
      split at h1
      · rename_i k x' k' y' hv hw
        simp only [Option.some.injEq, Prod.mk.injEq] at h1; obtain ⟨rfl, rfl⟩ := h1
        simp only [hv, hw]
        exact hk _ _ _ h2
      · cases h1
    · cases h
  · rename_i hf
    split at h
    · rename_i x y hx
      simp only [Option.bind_eq_some_iff, Option.some.injEq] at h
      obtain ⟨a, ha, b, hb, rfl⟩ := h
      simp only [hf, hx, List.map_cons, List.map_nil, rsR_ev ha, rsR_ev hb]
      obtain ⟨v, S', h1, h2⟩ := hr
      simp only [ropE] at h1
      split at h1
      · rename_i k x' k' y' hv hw
        simp only [Option.some.injEq, Prod.mk.injEq] at h1; obtain ⟨rfl, rfl⟩ := h1
        simp only [hv, hw]
        exact hk _ _ _ h2
      · cases h1
    · cases h
  · rename_i hf
    split at h
    · rename_i x y t u hx ht
      simp only [Option.bind_eq_some_iff] at h
      obtain ⟨a, ha, b, hb, e, he, sz, hsz, by_, hby, z, hz, h⟩ := h
      simp only [hf, hx, ht, List.map_cons, List.map_nil, rsR_ev ha, rsR_ev hb]
      split at h
      · rename_i hc
        split at h
        · rename_i hu
          simp only [Option.some.injEq] at h; subst h
          obtain ⟨v, S', h1, h2⟩ := hr
          exact appE_ok he hsz hby hz hc.1 hc.2 hu h1 (hk _ _ _ h2)
        · split at h
          · rename_i hu
            simp only [Option.some.injEq] at h; subst h
            obtain ⟨v, S', h1, h2⟩ := hr
            exact appNE_ok he hsz hby hz hc.1 hc.2 hu.1 h1 (hk _ _ _ h2)
          · cases h
      · cases h
    · cases h
  · cases h

theorem binE_ok {t : TypeId} {op : BinOp} {a b v : AV} {K : AV → Prop} (h : binE op a b = some v) (hk : K v) : binA P op t a b K := by
  unfold binE at h
  split at h
  · simp only [binA]; exact intE_ok h hk
  · simp only [binA]; exact strE_ok h hk
  · cases h

theorem eqOf_ok {t : TypeId} {ng : Bool} {x y : RO} {r : ROp} (h : eqOf P t ng x y = some r) (hr : ropK P r F S K) (hk : ∀ v G S', K v G S' → K' v (toL n G) S') :
    binA P (if ng = true then .neq else .eql) t (ro F x) (ro F y) (fun v => K' v (toL n F) S) := by
  unfold eqOf at h
  split at h
  · rename_i hb
    simp only [Option.some.injEq] at h; subst h
    obtain ⟨v, S', h1, h2⟩ := hr
    simp only [ropE] at h1
    split at h1
    · rename_i a b hx hy
      simp only [Option.some.injEq, Prod.mk.injEq] at h1; obtain ⟨rfl, rfl⟩ := h1
      rw [hx, hy]
      cases ng
      · exact ⟨hb, hk _ _ _ (by simpa using h2)⟩
      · exact ⟨hb, hk _ _ _ (by simpa using h2)⟩
    · cases h1
  · split at h
    · rename_i hb
      simp only [Option.some.injEq] at h; subst h
      obtain ⟨v, S', h1, h2⟩ := hr
      simp only [ropE] at h1
      split at h1
      · rename_i p hx hy
        simp only [Option.some.injEq, Prod.mk.injEq] at h1; obtain ⟨rfl, rfl⟩ := h1
        rw [hx, hy]
        cases ng
        · exact ⟨hb, hk _ _ _ (by simpa using h2)⟩
        · exact ⟨hb, hk _ _ _ (by simpa using h2)⟩
      · cases h1
    · simp only [Option.map_eq_some_iff] at h
      obtain ⟨ss, hss, rfl⟩ := h
      obtain ⟨v, S', h1, h2⟩ := hr
      simp only [ropE] at h1
      split at h1
      · rename_i xs ys hx hy
        split at h1
        · rename_i hc
          simp only [Option.some.injEq, Prod.mk.injEq] at h1; obtain ⟨rfl, rfl⟩ := h1
          rw [hx, hy]
          cases ng
          · exact ⟨by rw [hss, hc.1], hc.2, hk _ _ _ (by simpa using h2)⟩
          · exact ⟨by rw [hss, hc.1], hc.2, hk _ _ _ (by simpa using h2)⟩
        · cases h1
      · cases h1

theorem nilSlA_mono {o : Own} {xs : List AV} {K K' : Bool → Prop} (hk : ∀ b, K b → K' b) (h : nilSlA S o xs K) : nilSlA S o xs K' := by
  unfold nilSlA at h ⊢
  split at h
  · exact hk _ h
  · exact ⟨h.1, hk _ h.2⟩
  · exact ⟨hk _ h.1, hk _ h.2⟩

theorem rop_ok {r : ROp} (h : rsO P M ms n o = some r) (hk : ∀ v G S', K v G S' → K' v (toL n G) S') (hr : ropK P r F S K) : opA P M o (toL n F) S K' := by
  unfold rsO at h
  unfold opA
  split at h <;> rename_i ho
  -- move
  · simp only [Option.bind_eq_some_iff, Option.some.injEq] at h
    obtain ⟨x, hx, rfl⟩ := h
    obtain ⟨v, S', h1, h2⟩ := hr
    simp only [ropE, Option.some.injEq, Prod.mk.injEq] at h1; obtain ⟨rfl, rfl⟩ := h1
    simp only [ho, rsR_ev hx]; exact hk _ _ _ h2
  · simp only [Option.bind_eq_some_iff, Option.some.injEq] at h
    obtain ⟨x, hx, rfl⟩ := h
    obtain ⟨v, S', h1, h2⟩ := hr
    simp only [ropE, Option.some.injEq, Prod.mk.injEq] at h1; obtain ⟨rfl, rfl⟩ := h1
    simp only [ho, rsR_ev hx]; exact hk _ _ _ h2
  -- pick
  · simp only [Option.bind_eq_some_iff, Option.some.injEq] at h
    obtain ⟨c, hc, a, ha, b, hb, rfl⟩ := h
    obtain ⟨v, S', h1, h2⟩ := hr
    simp only [ropE] at h1
    simp only [ho, rsR_ev hc, rsR_ev ha, rsR_ev hb]
    split at h1
    · rename_i hv
      simp only [Option.some.injEq, Prod.mk.injEq] at h1; obtain ⟨rfl, rfl⟩ := h1
      simp only [hv, if_true]; exact hk _ _ _ h2
    · rename_i hv
      simp only [Option.some.injEq, Prod.mk.injEq] at h1; obtain ⟨rfl, rfl⟩ := h1
      simp only [hv, Bool.false_eq_true, if_false]; exact hk _ _ _ h2
    · cases h1
  -- alloc
  · simp only [Option.bind_eq_some_iff, Option.some.injEq] at h
    obtain ⟨cs, hcs, rfl⟩ := h
    obtain ⟨v, S', h1, h2⟩ := hr
    simp only [ropE, Option.some.injEq, Prod.mk.injEq] at h1; obtain ⟨rfl, rfl⟩ := h1
    simp only [ho, hcs]; exact hk _ _ _ h2
  -- box
  · simp only [Option.bind_eq_some_iff, Option.some.injEq] at h
    obtain ⟨x, hx, rfl⟩ := h
    obtain ⟨v, S', h1, h2⟩ := hr
    simp only [ropE] at h1
    split at h1
    · rename_i hb
      simp only [Option.some.injEq, Prod.mk.injEq] at h1; obtain ⟨rfl, rfl⟩ := h1
      simp only [ho, rsR_ev hx]; exact ⟨hb, hk _ _ _ h2⟩
    · cases h1
  -- build
  · simp only [Option.bind_eq_some_iff, Option.some.injEq] at h
    obtain ⟨z, hz, pl, hpl, ps, hps, rfl⟩ := h
    obtain ⟨v, S', h1, h2⟩ := hr
    simp only [ropE] at h1
    split at h1
    · rename_i cs hcs
      simp only [Option.some.injEq, Prod.mk.injEq] at h1; obtain ⟨rfl, rfl⟩ := h1
      simp only [ho, hz, hpl, rsP_ev hps, hcs]; exact hk _ _ _ h2
    · cases h1
  -- buildSlice
  · simp only [Option.bind_eq_some_iff] at h
    obtain ⟨e, he, sz, hsz, z, hz, ag, hag, ps, hps, d, hd, h⟩ := h
    split at h
    · rename_i hc
      simp only [Option.some.injEq] at h; subst h
      obtain ⟨v, S', h1, h2⟩ := hr
      simp only [ropE] at h1
      split at h1
      · rename_i xs hxs
        simp only [ho, he, hsz, hz, hag, rsP_ev hps, hxs, hd]
        refine ⟨hc.1, hc.2.1, hc.2.2, ?_⟩
        split at h1
        · rename_i hown
          simp only [Option.some.injEq, Prod.mk.injEq] at h1; obtain ⟨rfl, rfl⟩ := h1
          simp only [hown, if_true]; exact hk _ _ _ h2
        · rename_i hown
          simp only [Option.some.injEq, Prod.mk.injEq] at h1; obtain ⟨rfl, rfl⟩ := h1
          simp only [hown, if_false]; exact hk _ _ _ h2
      · cases h1
    · cases h
  -- load
  · simp only [Option.bind_eq_some_iff] at h
    obtain ⟨ag, hag, a, ha, h⟩ := h
    simp only [ho, rsR_ev ha]
    split at h
    · simp only [Option.bind_eq_some_iff, Option.some.injEq] at h
      obtain ⟨m, hm, rfl⟩ := h
      obtain ⟨v, S', h1, h2⟩ := hr
      simp only [ropE, st1] at h1
      split at h1
      · rename_i v' hv
        simp only [Option.some.injEq, Prod.mk.injEq] at h1; obtain ⟨rfl, rfl⟩ := h1
        exact loadNE_ok hag hm hv (hk _ _ _ h2)
      · cases h1
    · simp only [Option.some.injEq] at h; subst h
      obtain ⟨v, S', h1, h2⟩ := hr
      simp only [ropE, st1] at h1
      split at h1
      · rename_i v' hv
        simp only [Option.some.injEq, Prod.mk.injEq] at h1; obtain ⟨rfl, rfl⟩ := h1
        exact loadE_ok hag hv (hk _ _ _ h2)
      · cases h1
  -- store
  · rename_i t0 a0 x0
    simp only [Option.bind_eq_some_iff] at h
    obtain ⟨m, hm, x, hx, a', ha, h⟩ := h
    have est : ∀ {r}, some (ROp.st m a' x) = some r → ropK P r F S K → storeA P M t0 a0 (ev (toL n F) x0) (toL n F) S K' := by
      intro r h hr
      simp only [Option.some.injEq] at h; subst h
      obtain ⟨v, S', h1, h2⟩ := hr
      simp only [ropE] at h1
      split at h1
      · rename_i S1 hS
        simp only [Option.some.injEq, Prod.mk.injEq] at h1; obtain ⟨rfl, rfl⟩ := h1
        unfold stA at hS
        unfold storeA
        simp only [rsR_ev ha, rsR_ev hx]
        split at hS
        · rename_i hp
          split at hS
          · rename_i cs hcs
            split at hS
            · rename_i hc
              simp only [Option.some.injEq] at hS; subst hS
              simp only [hp, hcs]
              exact ⟨hc.1, by rw [hm, hc.2.1], hc.2.2, hk _ _ _ h2⟩
            · cases hS
          · cases hS
        · cases hS
      · cases h1
    simp only [ho]
    split at h
    · rename_i d
      split at h
      · rename_i s hs
        split at h
        · rename_i hc
          obtain ⟨hc, hsn⟩ := hc
          subst hc
          simp only [Option.some.injEq] at h; subst h
          simp only [ropK] at hr
          unfold storeA
          simp only [rsR_ev ha, rsR_ev hx]
          split at hr
          · rename_i hp
            simp only [hp, hs]
            rw [toL_get hsn, toL_set hsn]
            exact ⟨hr.1, hr.2.1, hr.2.2.1, hm, hr.2.2.2.1, hk _ _ _ hr.2.2.2.2⟩
          · exact hr.elim
        · cases h
      · exact est h hr
    · exact est h hr
  -- nilCheck
  · simp only [Option.bind_eq_some_iff, Option.some.injEq] at h
    obtain ⟨x, hx, rfl⟩ := h
    obtain ⟨v, S', h1, h2⟩ := hr
    simp only [ropE] at h1
    simp only [ho, rsR_ev hx]
    split at h1
    · rename_i hv
      simp only [Option.some.injEq, Prod.mk.injEq] at h1; obtain ⟨rfl, rfl⟩ := h1
      simp only [hv]; exact hk _ _ _ h2
    · rename_i hv
      simp only [Option.some.injEq, Prod.mk.injEq] at h1; obtain ⟨rfl, rfl⟩ := h1
      simp only [hv]; exact hk _ _ _ h2
    · cases h1
  -- binOp
  · simp only [ho]
    split at h
    · rename_i hnil
      rw [if_pos hnil]
      simp only [Option.bind_eq_some_iff] at h
      obtain ⟨e, he, x, hx, h⟩ := h
      split at h
      · simp only [Option.some.injEq] at h; subst h
        simp only [ropK] at hr
        simp only [rsR_ev hx]
        split at hr
        · rename_i hv
          simp only [hv, nilA]
          exact ⟨by rw [he]; rfl, nilSlA_mono (fun b hb => hk _ _ _ (by simpa using hb)) hr⟩
        · exact hr.elim
      · simp only [Option.some.injEq] at h; subst h
        simp only [ropK] at hr
        simp only [rsR_ev hx]
        split at hr
        · rename_i hv
          simp only [hv, nilA]
          exact ⟨by rw [he]; rfl, nilSlA_mono (fun b hb => hk _ _ _ (by simpa using hb)) hr⟩
        · exact hr.elim
      · cases h
    · rename_i hnil
      rw [if_neg hnil]
      simp only [Option.bind_eq_some_iff] at h
      obtain ⟨x, hx, y, hy, h⟩ := h
      simp only [rsR_ev hx, rsR_ev hy]
      split at h
      · simp only [Option.some.injEq] at h; subst h
        obtain ⟨v, S', h1, h2⟩ := hr
        simp only [ropE, st1] at h1
        split at h1
        · rename_i v' hv
          simp only [Option.some.injEq, Prod.mk.injEq] at h1; obtain ⟨rfl, rfl⟩ := h1
          exact binE_ok hv (hk _ _ _ h2)
        · cases h1
      · split at h
        · exact eqOf_ok (ng := false) h hr hk
        · exact eqOf_ok (ng := true) h hr hk
        · cases h
  -- not
  · simp only [Option.bind_eq_some_iff, Option.some.injEq] at h
    obtain ⟨x, hx, rfl⟩ := h
    obtain ⟨v, S', h1, h2⟩ := hr
    simp only [ropE] at h1
    simp only [ho, rsR_ev hx]
    split at h1
    · rename_i hv
      simp only [Option.some.injEq, Prod.mk.injEq] at h1; obtain ⟨rfl, rfl⟩ := h1
      simp only [hv]; exact hk _ _ _ h2
    · cases h1
  · simp only [Option.bind_eq_some_iff, Option.some.injEq] at h
    obtain ⟨x, hx, rfl⟩ := h
    obtain ⟨v, S', h1, h2⟩ := hr
    simp only [ropE] at h1
    simp only [ho, rsR_ev hx]
    split at h1
    · rename_i hv
      simp only [Option.some.injEq, Prod.mk.injEq] at h1; obtain ⟨rfl, rfl⟩ := h1
      simp only [hv]; exact hk _ _ _ h2
    · cases h1
  -- convert
  · simp only [Option.bind_eq_some_iff] at h
    obtain ⟨x, hx, h⟩ := h
    simp only [ho, rsR_ev hx]
    split at h
    · rename_i hsd
      rw [if_pos hsd]
      split at h
      · rename_i hty
        simp only [Option.some.injEq] at h; subst h
        obtain ⟨v, S', h1, h2⟩ := hr
        simp only [ropE] at h1
        split at h1
        · rename_i hv
          split at h1
          · rename_i hlv
            simp only [Option.some.injEq, Prod.mk.injEq] at h1; obtain ⟨rfl, rfl⟩ := h1
            simp only [hv, frzA]; exact ⟨Option.bind_eq_some_iff.2 hty, hlv, hk _ _ _ h2⟩
          · cases h1
        · cases h1
      · cases h
    rename_i hsd
    rw [if_neg hsd]
    split at h
    · rename_i k hi
      split at h
      · rename_i hs
        simp only [Option.some.injEq] at h; subst h
        obtain ⟨v, S', h1, h2⟩ := hr
        simp only [ropE] at h1
        split at h1
        · rename_i hv
          simp only [Option.some.injEq, Prod.mk.injEq] at h1; obtain ⟨rfl, rfl⟩ := h1
          simp only [hv, convA, hi]; exact ⟨hs, hk _ _ _ h2⟩
        · cases h1
      · cases h
    · split at h
      · rename_i hs hd
        simp only [Option.some.injEq] at h; subst h
        obtain ⟨v, S', h1, h2⟩ := hr
        simp only [ropE] at h1
        split at h1
        · rename_i hv
          simp only [Option.some.injEq, Prod.mk.injEq] at h1; obtain ⟨rfl, rfl⟩ := h1
          simp only [hv, convA, hs, hd]; exact hk _ _ _ h2
        · cases h1
      · rename_i hs hd
        simp only [Option.bind_eq_some_iff] at h
        obtain ⟨e, he, h⟩ := h
        split at h
        · rename_i hu
          simp only [Option.some.injEq] at h; subst h
          obtain ⟨v, S', h1, h2⟩ := hr
          simp only [ropE] at h1
          split at h1
          · rename_i hv
            simp only [Option.some.injEq, Prod.mk.injEq] at h1; obtain ⟨rfl, rfl⟩ := h1
            simp only [hv, convA, hs, hd, he]; exact ⟨hu, hk _ _ _ h2⟩
          · cases h1
        · cases h
      · rename_i hs hd
        simp only [Option.bind_eq_some_iff] at h
        obtain ⟨e, he, h⟩ := h
        split at h
        · rename_i hu
          simp only [Option.some.injEq] at h; subst h
          obtain ⟨v, S', h1, h2⟩ := hr
          simp only [ropE] at h1
          split at h1
          · rename_i hv
            split at h1
            · rename_i hc
              simp only [Option.some.injEq, Prod.mk.injEq] at h1; obtain ⟨rfl, rfl⟩ := h1
              simp only [hv, convA, hd, he]
              exact ⟨hu, hc.1.imp id (fun h => by simpa using h), rdB_iff.1 hc.2.1, hc.2.2, hk _ _ _ h2⟩
            · cases h1
          · cases h1
        · cases h
      · cases h
  -- makeInterface
  · split at h
    · rename_i hi
      simp only [Option.bind_eq_some_iff, Option.some.injEq] at h
      obtain ⟨x, hx, rfl⟩ := h
      obtain ⟨v, S', h1, h2⟩ := hr
      simp only [ropE, Option.some.injEq, Prod.mk.injEq] at h1; obtain ⟨rfl, rfl⟩ := h1
      simp only [ho, rsR_ev hx]; exact ⟨hi, hk _ _ _ h2⟩
    · cases h
  -- slice
  · simp only [Option.bind_eq_some_iff] at h
    obtain ⟨x, hx, lo, hlo, hi, hhi, h⟩ := h
    simp only [ho, rsR_ev hx]
    split at h
    · rename_i e he
      simp only [Option.bind_eq_some_iff, Option.some.injEq] at h
      obtain ⟨sz, hsz, rfl⟩ := h
      obtain ⟨v, S', h1, h2⟩ := hr
      simp only [ropE] at h1
      split at h1
      · rename_i ow sz1 xs hv
        split at h1
        · rename_i hc
          split at h1
          · rename_i l hh hl1 hh1
            split at h1
            · rename_i hb
              simp only [Option.some.injEq, Prod.mk.injEq] at h1; obtain ⟨rfl, rfl⟩ := h1
              simp only [hv, sliceA, he, hsz]
              refine ⟨?_, rdB_iff.1 hc.2, rfl, ?_⟩
              · rcases hc.1 with rfl | hc1
                · exact .inl rfl
                · exact .inr (by simpa using hc1)
              · refine rsQ_opt hlo hl1 (rsQ_opt hhi hh1 ⟨hb, ?_⟩)
                rw [rsQ_sub hlo]; exact hk _ _ _ h2
            · cases h1
          · cases h1
        · cases h1
      · cases h1
    · split at h
      · rename_i hs
        simp only [Option.some.injEq] at h; subst h
        obtain ⟨v, S', h1, h2⟩ := hr
        simp only [ropE] at h1
        split at h1
        · rename_i s hv
          split at h1
          · rename_i l hh hl1 hh1
            split at h1
            · rename_i hb
              simp only [Option.some.injEq, Prod.mk.injEq] at h1; obtain ⟨rfl, rfl⟩ := h1
              simp only [hv, sliceA]
              exact ⟨hs, rsQ_opt hlo hl1 (rsQ_opt hhi hh1 ⟨hb, hk _ _ _ h2⟩)⟩
            · cases h1
          · cases h1
        · cases h1
      · cases h
  -- fieldAddr
  · simp only [Option.bind_eq_some_iff, Option.some.injEq] at h
    obtain ⟨off, hoff, x, hx, rfl⟩ := h
    obtain ⟨v, S', h1, h2⟩ := hr
    simp only [ropE] at h1
    simp only [ho, hoff, rsR_ev hx]
    split at h1
    · rename_i hv
      simp only [Option.some.injEq, Prod.mk.injEq] at h1; obtain ⟨rfl, rfl⟩ := h1
      simp only [hv]; exact hk _ _ _ h2
    · rename_i hv
      split at h1
      · rename_i hc
        simp only [Option.some.injEq, Prod.mk.injEq] at h1; obtain ⟨rfl, rfl⟩ := h1
        simp only [hv]; exact ⟨rdB_iff.1 hc, hk _ _ _ h2⟩
      · cases h1
    · cases h1
  -- indexAddr
  · simp only [Option.bind_eq_some_iff] at h
    obtain ⟨x, hx, i, hi, h⟩ := h
    simp only [ho, rsR_ev hx, rsR_ev hi, idxA]
    split at h
    · rename_i e he
      simp only [Option.bind_eq_some_iff, Option.some.injEq] at h
      obtain ⟨sz, hsz, rfl⟩ := h
      obtain ⟨v, S', h1, h2⟩ := hr
      simp only [ropE] at h1
      split at h1
      · rename_i ow sz1 xs k m hv hw
        split at h1
        · rename_i hc
          simp only [Option.some.injEq, Prod.mk.injEq] at h1; obtain ⟨rfl, rfl⟩ := h1
          simp only [hv, hw, he]
          exact ⟨by rw [hsz, hc.1], rdB_iff.1 hc.2.1, hc.2.2, hk _ _ _ h2⟩
        · cases h1
      · cases h1
    · simp only [Option.bind_eq_some_iff, Option.some.injEq] at h
      obtain ⟨⟨m, e⟩, hme, s, hs, rfl⟩ := h
      obtain ⟨v, S', h1, h2⟩ := hr
      simp only at hs
      simp only [ropE] at h1
      split at h1
      · rename_i hv hw
        split at h1
        · rename_i hc
          simp only [Option.some.injEq, Prod.mk.injEq] at h1; obtain ⟨rfl, rfl⟩ := h1
          simp only [hv, hw, hme, hs]
          exact ⟨hc, hk _ _ _ h2⟩
        · cases h1
      · rename_i hv hw
        split at h1
        · rename_i hc
          simp only [Option.some.injEq, Prod.mk.injEq] at h1; obtain ⟨rfl, rfl⟩ := h1
          simp only [hv, hw, hme, hs]
          exact ⟨hc.2, rdB_iff.1 hc.1, hk _ _ _ h2⟩
        · cases h1
      · cases h1
  -- index
  · simp only [Option.bind_eq_some_iff] at h
    obtain ⟨x, hx, i, hi, h⟩ := h
    simp only [ho, rsR_ev hx, rsR_ev hi, ixA]
    split at h
    · rename_i m e hme
      split at h
      · rename_i hc0
        simp only [Option.some.injEq] at h; subst h
        obtain ⟨v, S', h1, h2⟩ := hr
        simp only [ropE] at h1
        split at h1
        · rename_i hv hw
          split at h1
          · rename_i hc
            simp only [Option.some.injEq, Prod.mk.injEq] at h1; obtain ⟨rfl, rfl⟩ := h1
            simp only [hv, hw, hme]
            exact ⟨hc0.1, hc0.2, ⟨hc.1, hc.2.1⟩, hc.2.2, hk _ _ _ h2⟩
          · cases h1
        · cases h1
      · cases h
    · split at h
      · rename_i hs
        simp only [Option.some.injEq] at h; subst h
        obtain ⟨v, S', h1, h2⟩ := hr
        simp only [ropE] at h1
        split at h1
        · rename_i hv hw
          split at h1
          · rename_i hc
            simp only [Option.some.injEq, Prod.mk.injEq] at h1; obtain ⟨rfl, rfl⟩ := h1
            simp only [hv, hw]
            exact ⟨hs, hc, hk _ _ _ h2⟩
          · cases h1
        · cases h1
      · cases h
  -- extract
  · simp only [Option.bind_eq_some_iff, Option.some.injEq] at h
    obtain ⟨x, hx, rfl⟩ := h
    obtain ⟨v, S', h1, h2⟩ := hr
    simp only [ropE] at h1
    simp only [ho, rsR_ev hx]
    split at h1
    · rename_i vs hv
      simp only [st1] at h1
      split at h1
      · rename_i v' hv'
        simp only [Option.some.injEq, Prod.mk.injEq] at h1; obtain ⟨rfl, rfl⟩ := h1
        simp only [hv, hv']; exact hk _ _ _ h2
      · cases h1
    · cases h1
  -- call
  · simp only [ho]; exact rsCall_ok h hk hr
  · cases h
end
end Go.Proofs.Ythpomdoaiibnfaa.Abs
