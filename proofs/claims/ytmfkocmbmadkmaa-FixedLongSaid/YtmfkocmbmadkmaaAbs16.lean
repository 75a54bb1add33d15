/- A region that draws its order: whatever order is drawn, it does what its reading in one order says. -/
import Derived.Test.YtmfkocmbmadkmaaAbs15
namespace Go.Proofs.Ytmfkocmbmadkmaa.Abs
open Go Go.RowKit
set_option linter.unusedVariables false
set_option linter.unusedSimpArgs false

/-! ### what goes before what -/
theorem testBit_fold (f : Nat → Nat) (b : Nat) : ∀ (l : List Nat) (s : Nat), (l.foldl (fun s j => s ||| 2 ^ j ||| f j) s).testBit b = true → s.testBit b = true ∨ ∃ j ∈ l, b = j ∨ (f j).testBit b = true
  | [], s, h => .inl h
  | j :: l, s, h => by
    simp only [List.foldl_cons] at h
    rcases testBit_fold f b l _ h with h | ⟨k, hk, h⟩
    · rw [Nat.testBit_or, Nat.testBit_or, Bool.or_eq_true, Bool.or_eq_true] at h
      rcases h with (h | h) | h
      · exact .inl h
      · rw [Nat.testBit_two_pow] at h
        exact .inr ⟨j, by simp, .inl (by have := of_decide_eq_true h; exact this.symm)⟩
      · exact .inr ⟨j, by simp, .inr h⟩
    · exact .inr ⟨k, by simp [hk], h⟩

theorem preL_keep : ∀ (rest : List Oper) (acc : List Nat) (i : Nat), i < acc.length → (preL rest acc).getD i 0 = acc.getD i 0
  | [], acc, i, h => rfl
  | o :: rest, acc, i, h => by
    simp only [preL]
    rw [preL_keep rest _ i (by simp; omega)]
    simp [List.getD, List.getElem?_append_left h]

theorem preL_spec : ∀ (rest : List Oper) (acc : List Nat) (k : Nat) (o : Oper), rest[k]? = some o → ∀ b, ((preL rest acc).getD (acc.length + k) 0).testBit b = true →
    b ∈ edgesOf o ∨ ∃ m ∈ edgesOf o, m < acc.length + k ∧ ((preL rest acc).getD m 0).testBit b = true
  | [], acc, k, o, h, _, _ => by simp at h
  | p :: rest, acc, 0, o, h, b, hb => by
    simp only [List.getElem?_cons_zero, Option.some.injEq] at h
    subst h
    simp only [preL, Nat.add_zero] at hb ⊢
    rw [preL_keep rest _ acc.length (by simp)] at hb
    have e : (acc ++ [(edgesOf p).foldl (fun s j => s ||| 2 ^ j ||| acc.getD j 0) 0]).getD acc.length 0 = (edgesOf p).foldl (fun s j => s ||| 2 ^ j ||| acc.getD j 0) 0 := by simp [List.getD]
    rw [e] at hb
    rcases testBit_fold (fun j => acc.getD j 0) b _ _ hb with h | ⟨j, hj, h⟩
    · simp at h
    · rcases h with h | h
      · subst h; exact .inl hj
      · by_cases hlt : j < acc.length
        · refine .inr ⟨j, hj, hlt, ?_⟩
          rw [preL_keep rest _ j (by simp; omega)]
          simpa [List.getD, List.getElem?_append_left hlt] using h
        · simp [List.getD, hlt] at h
  | p :: rest, acc, k + 1, o, h, b, hb => by
    simp only [preL] at hb ⊢
    have := preL_spec rest (acc ++ [(edgesOf p).foldl (fun s j => s ||| 2 ^ j ||| acc.getD j 0) 0]) k o (by simpa using h) b
      (by simp only [List.length_append, List.length_singleton]; rwa [show acc.length + 1 + k = acc.length + (k + 1) by omega])
    simp only [List.length_append, List.length_singleton] at this
    rwa [show acc.length + 1 + k = acc.length + (k + 1) by omega] at this

structure DrawFacts (P : Program) (M : Modes) (ops : List Oper) (ord : List Nat) : Prop where
  follows : P.follows .mixedOrders = true
  all : ∀ i, i < ops.length → i ∈ ord
  lt : ∀ i, i ∈ ord → i < ops.length
  edge : ∀ i o, ops[i]? = some o → ∀ j ∈ edgesOf o, j < i
  ordB : ordB M ops (preL ops []) ord = true
  dst : ∀ i o, ops[i]? = some o → ∀ t, o.dst = some t → ∀ j p, ops[j]? = some p → t ∈ names ops p →
    (i = j ∧ t ∉ looks ops p) ∨ ((preL ops []).getD j 0).testBit i = true ∨ (effOp M o = true ∧ ((preL ops []).getD i 0).testBit j = true) ∨ (effOp M o = true ∧ i = j)

theorem drawFacts {P : Program} {M : Modes} {ops : List Oper} {ord : List Nat} (h : drawOk P M ops ord = true) : DrawFacts P M ops ord := by
  unfold drawOk at h
  simp only [Bool.and_eq_true, List.all_eq_true, decide_eq_true_eq] at h
  obtain ⟨⟨⟨⟨⟨h1, h2⟩, h3⟩, h4⟩, h5⟩, h6⟩ := h
  refine ⟨h1, fun i hi => by have := h2 i (by simpa using hi); simpa using this, h3, fun i o ho j hj => ?_, h5, fun i o ho t ht j p hp hn => ?_⟩
  · exact h4 (o, i) (List.mem_zipIdx_iff_getElem?.2 ho) j hj
  · have := h6 (o, i) (List.mem_zipIdx_iff_getElem?.2 ho)
    simp only [ht, List.all_eq_true] at this
    have := this (p, j) (List.mem_zipIdx_iff_getElem?.2 hp)
    simp only [Bool.or_eq_true, Bool.and_eq_true, beq_iff_eq, Bool.not_eq_true', List.contains_eq_mem, decide_eq_false_iff_not] at this
    rcases this with ((h | h) | h) | (h | h)
    · exact .inl h
    · exact absurd hn h
    · exact .inr (.inl h)
    · exact .inr (.inr (.inl h))
    · exact .inr (.inr (.inr h))

theorem ordB_split {M : Modes} {ops : List Oper} {pre : List Nat} : ∀ (C : List Nat) (i : Nat) (rest : List Nat), ordB M ops pre (C ++ i :: rest) = true →
    (∀ j ∈ C, (pre.getD j 0).testBit i = false ∧ j ≠ i) ∧ (∀ j ∈ rest, (∀ o, ops[i]? = some o → effOp M o = true → (pre.getD j 0).testBit i = true) ∧ i ≠ j)
  | [], i, rest, h => by
    simp only [List.nil_append, ordB, Bool.and_eq_true, Bool.or_eq_true, List.all_eq_true, Bool.not_eq_true', beq_eq_false_iff_ne] at h
    obtain ⟨⟨h1, h2⟩, _⟩ := h
    refine ⟨by simp, fun j hj => ⟨fun o ho he => ?_, (h2 j hj).2⟩⟩
    rcases h1 with h1 | h1
    · rw [ho] at h1; simp [he] at h1
    · exact h1 j hj
  | c :: C, i, rest, h => by
    simp only [List.cons_append, ordB, Bool.and_eq_true] at h
    obtain ⟨⟨h1, h2⟩, h3⟩ := h
    obtain ⟨a1, a2⟩ := ordB_split C i rest h3
    refine ⟨fun j hj => ?_, a2⟩
    rcases List.mem_cons.1 hj with rfl | hj
    · have := (List.all_eq_true.1 h2) i (by simp)
      simp only [Bool.and_eq_true, Bool.not_eq_true', beq_eq_false_iff_ne] at this
      exact this
    · exact a1 j hj

section
variable {P : Program} {M : Modes} {ops : List Oper} {ord : List Nat}

theorem pre_lt (hf : DrawFacts P M ops ord) : ∀ (i : Nat) (o : Oper), ops[i]? = some o → ∀ b, ((preL ops []).getD i 0).testBit b = true → b < i := by
  intro i
  induction i using Nat.strongRecOn with
  | _ i ih =>
    intro o ho b hb
    have := preL_spec ops [] i o ho b (by simpa using hb)
    simp only [List.length_nil, Nat.zero_add] at this
    rcases this with h | ⟨m, hm, hlt, h⟩
    · exact hf.edge i o ho b h
    · have hil : i < ops.length := (List.getElem?_eq_some_iff.1 ho).1
      have := ih m hlt ops[m] (List.getElem?_eq_getElem (by omega)) b h
      omega

/-- A set that holds, with each operation, all that goes before it at once, holds all that goes before it. -/
theorem pre_sub (hf : DrawFacts P M ops ord) {D : Nat → Prop} (hD : ∀ i o, ops[i]? = some o → D i → ∀ j ∈ edgesOf o, D j) :
    ∀ (i : Nat) (o : Oper), ops[i]? = some o → (∀ j ∈ edgesOf o, D j) → ∀ b, ((preL ops []).getD i 0).testBit b = true → D b := by
  intro i
  induction i using Nat.strongRecOn with
  | _ i ih =>
    intro o ho he b hb
    have := preL_spec ops [] i o ho b (by simpa using hb)
    simp only [List.length_nil, Nat.zero_add] at this
    rcases this with h | ⟨m, hm, hlt, h⟩
    · exact he b h
    · have hil : i < ops.length := (List.getElem?_eq_some_iff.1 ho).1
      have hom : ops[m]? = some ops[m] := List.getElem?_eq_getElem (by omega)
      exact ih m hlt ops[m] hom (hD m _ hom (he m hm)) b h
end

/-! ### frames that differ where an operation does not look -/
theorem getD_setO_ne {F : List AV} {d : Option Tmp} {v : AV} {t : Nat} (h : d ≠ some t) : (setO F d v).getD t .top = F.getD t .top := by
  cases d with
  | none => rfl
  | some d =>
    have : d ≠ t := fun e => h (by rw [e])
    simp [setO, List.getD, List.getElem?_set_ne this]

theorem ev_agree {F F1 : List AV} {ops : List Oper} {o : Oper} (h : ∀ t ∈ looks ops o, F.getD t .top = F1.getD t .top) : ∀ x ∈ o.op.operands, ev F x = ev F1 x := by
  intro x hx
  cases x with
  | tmp t =>
    refine h t ?_
    unfold looks
    refine List.mem_append_left _ ?_
    exact List.mem_filterMap.2 ⟨.tmp t, Array.mem_toList_iff.2 hx, rfl⟩
  | _ => rfl

theorem want_agree {F F1 : List AV} {ops : List Oper} {o : Oper} (h : ∀ t ∈ looks ops o, F.getD t .top = F1.getD t .top) : wantA ops o F = wantA ops o F1 := by
  unfold wantA
  split
  · rfl
  · rename_i j want hg
    split
    · rename_i d hd
      have : d ∈ looks ops o := by
        unfold looks
        refine List.mem_append_right _ ?_
        simp [hg, hd]
      rw [h d this]
    · rfl

def Cand (P : Program) (M : Modes) (ops : List Oper) (F : List AV) (S : ASt) (o : Oper) : Prop :=
  (wantA ops o F = some false ∧ ∀ d, o.dst = some d → d < F.length → F.getD d .top = .tuple []) ∨
  (wantA ops o F = some true ∧ opG P M.own o (ev F) S (fun v S' => S' = S ∧ ∀ d, o.dst = some d → d < F.length → v = F.getD d .top))

theorem Cand.agree {P : Program} {M : Modes} {ops : List Oper} {F F1 : List AV} {S : ASt} {o : Oper} (h : ∀ t ∈ names ops o, F.getD t .top = F1.getD t .top) (hl : F.length = F1.length) (hc : Cand P M ops F S o) : Cand P M ops F1 S o := by
  have hlk : ∀ t ∈ looks ops o, F.getD t .top = F1.getD t .top := fun t ht => h t (List.mem_append_left _ ht)
  have hds : ∀ d, o.dst = some d → F.getD d .top = F1.getD d .top := fun d hd => h d (List.mem_append_right _ (by simp [hd]))
  rcases hc with ⟨h1, h2⟩ | ⟨h1, h2⟩
  · exact .inl ⟨by rw [← want_agree hlk]; exact h1, fun d hd hlt => by rw [← hds d hd]; exact h2 d hd (hl.symm ▸ hlt)⟩
  · refine .inr ⟨by rw [← want_agree hlk]; exact h1, ?_⟩
    have := opG_congr (ev_agree hlk) h2
    have he : (fun (v : AV) (S' : ASt) => S' = S ∧ ∀ d, o.dst = some d → d < F.length → v = F.getD d .top) = (fun (v : AV) (S' : ASt) => S' = S ∧ ∀ d, o.dst = some d → d < F1.length → v = F1.getD d .top) := by
      funext v S'
      apply propext
      constructor
      · rintro ⟨a, b⟩; exact ⟨a, fun d hd hlt => by rw [← hds d hd]; exact b d hd (hl.symm ▸ hlt)⟩
      · rintro ⟨a, b⟩; exact ⟨a, fun d hd hlt => by rw [hds d hd]; exact b d hd (hl ▸ hlt)⟩
    rwa [he] at this

def Dn (listed : Array Bool) (i : Nat) : Prop := listed.getD i false = true

structure Inv (P : Program) (M : Modes) (ops : List Oper) (ord : List Nat) (E0 : Env) (S0 : ASt) (w0 : World) (n0 : Nat) (K : List AV → ASt → Prop) (C rest L : List Nat) (E : Env) (S : ASt) (F : List AV) (D : Nat → Prop) (a : Act) (w : World) : Prop where
  ev : Evolves E0 S0 w0 E S w
  rel : Rel E S w
  len : F.length = a.tmps.size
  len0 : F.length = n0
  defers : a.defers = []
  ordq : ord = C ++ rest
  sub : ∀ i, D i → i ∈ C
  effs : ∀ i o, i ∈ C → ops[i]? = some o → effOp M o = true → D i
  frame : ∀ s, (∀ j o, j ∈ C → ¬ D j → ops[j]? = some o → o.dst ≠ some s) → VRel E S w (F.getD s .top) (a.tmps.getD s undef)
  pend : ∀ j o, j ∈ C → ¬ D j → ops[j]? = some o → Cand P M ops F S o ∧ (pureOp o = true ∨ j ∈ L ∨ wantA ops o F = some false)
  cont : drawGo P M ops (preL ops []) rest L F S K

def Stop (M : Modes) (ops : List Oper) (rest : List Nat) : Prop := rest = [] ∨ ∃ e rest' o, rest = e :: rest' ∧ ops[e]? = some o ∧ effOp M o = true

theorem advance {P : Program} {M : Modes} {ops : List Oper} {ord : List Nat} (hf : DrawFacts P M ops ord) {E0 : Env} {S0 : ASt} {w0 : World} {n0 : Nat} {K : List AV → ASt → Prop} {E : Env} {S : ASt} {D : Nat → Prop} {a : Act} {w : World} :
    ∀ (rest C L : List Nat) (F : List AV), Inv P M ops ord E0 S0 w0 n0 K C rest L E S F D a w → ∃ C' rest' L' F', Inv P M ops ord E0 S0 w0 n0 K C' rest' L' E S F' D a w ∧ Stop M ops rest'
  | [], C, L, F, h => ⟨C, [], L, F, h, .inl rfl⟩
  | i :: rest, C, L, F, h => by
    have hc := h.cont
    simp only [drawGo] at hc
    cases ho : ops[i]? with
    | none => rw [ho] at hc; exact hc.elim
    | some o =>
      rw [ho] at hc
      simp only at hc
      by_cases he : effOp M o = true
      · exact ⟨C, i :: rest, L, F, h, .inr ⟨i, rest, o, rfl, ho, he⟩⟩
      have he' : effOp M o = false := by simpa using he
      obtain ⟨oC, oR⟩ := ordB_split C i rest (h.ordq ▸ hf.ordB)
      have hiC : i ∉ C := fun hi => (oC i hi).2 rfl
      have hiD : ¬ D i := fun hi => hiC (h.sub i hi)
      -- the new frame differs at the operation's own slot alone
      have key : ∀ v L', (∀ x, x ∈ L → x ∈ L') → drawGo P M ops (preL ops []) rest L' (setO F o.dst v) S K →
          (Cand P M ops (setO F o.dst v) S o ∧ (pureOp o = true ∨ i ∈ L' ∨ wantA ops o (setO F o.dst v) = some false)) →
          Inv P M ops ord E0 S0 w0 n0 K (C ++ [i]) rest L' E S (setO F o.dst v) D a w := by
        intro v L' hL hcont hp
        have old : ∀ j p, j ∈ C → ops[j]? = some p → ∀ t ∈ names ops p, F.getD t .top = (setO F o.dst v).getD t .top := by
          intro j p hj hpj t ht
          refine (getD_setO_ne ?_).symm
          intro hd
          rcases hf.dst i o ho t hd j p hpj ht with ⟨e, _⟩ | h1 | ⟨h1, _⟩ | ⟨h1, _⟩
          · exact hiC (e ▸ hj)
          · have := (oC j hj).1; rw [h1] at this; cases this
          · exact he h1
          · exact he h1
        refine ⟨h.ev, h.rel, by rw [setO_length]; exact h.len, by rw [setO_length]; exact h.len0, h.defers, by rw [h.ordq]; simp, fun j hj => List.mem_append_left _ (h.sub j hj), ?_, ?_, ?_, hcont⟩
        · intro j p hj hpj hep
          rcases List.mem_append.1 hj with hj | hj
          · exact h.effs j p hj hpj hep
          · have hji : j = i := by simpa using hj
            subst hji; rw [ho] at hpj; cases hpj; exact absurd hep he
        · intro s hs
          have hds : o.dst ≠ some s := hs i o (by simp) hiD ho
          rw [getD_setO_ne hds]
          exact h.frame s (fun j p hj hd hpj => hs j p (List.mem_append_left _ hj) hd hpj)
        · intro j p hj hd hpj
          rcases List.mem_append.1 hj with hj | hj
          · obtain ⟨c1, c2⟩ := h.pend j p hj hd hpj
            refine ⟨c1.agree (old j p hj hpj) (setO_length _ _).symm, ?_⟩
            rcases c2 with c2 | c2 | c2
            · exact .inl c2
            · exact .inr (.inl (hL _ c2))
            · exact .inr (.inr (by rw [← want_agree (fun t ht => old j p hj hpj t (List.mem_append_left _ ht))]; exact c2))
          · have hji : j = i := by simpa using hj
            subst hji; rw [ho] at hpj; cases hpj; exact hp
      -- the operation does not look at its own slot
      have own : ∀ v, ∀ t ∈ looks ops o, F.getD t .top = (setO F o.dst v).getD t .top := by
        intro v t ht
        refine (getD_setO_ne ?_).symm
        intro hd
        rcases hf.dst i o ho t hd i o ho (List.mem_append_left _ ht) with ⟨_, h1⟩ | h1 | ⟨h1, _⟩ | ⟨h1, _⟩
        · exact h1 ht
        · exact absurd (pre_lt hf i o ho i h1) (Nat.lt_irrefl _)
        · exact he h1
        · exact he h1
      have atd : ∀ v, ∀ d, o.dst = some d → d < (setO F o.dst v).length → (setO F o.dst v).getD d .top = v := by
        intro v d hd hlt
        rw [setO_length] at hlt
        rw [hd]
        simp [setO, List.getD, hlt]
      split at hc
      · exact hc.elim
      · rename_i hw
        exact advance hf rest (C ++ [i]) L _ (key _ L (fun _ h => h) hc
          ⟨.inl ⟨by rw [← want_agree (own _)]; exact hw, fun d hd hlt => atd _ d hd hlt⟩, .inr (.inr (by rw [← want_agree (own _)]; exact hw))⟩)
      · rename_i hw
        rw [if_neg he] at hc
        rw [opA_M0] at hc
        obtain ⟨v, hv, hdet⟩ := quiet_det he' hc
        refine advance hf rest (C ++ [i]) (if pureOp o then L else i :: L) _ (key v _ ?_ hv ⟨.inr ⟨by rw [← want_agree (own _)]; exact hw, ?_⟩, ?_⟩)
        · intro x hx; split; exact hx; exact List.mem_cons_of_mem _ hx
        · exact opG_congr (ev_agree (own v)) (hdet _ ⟨rfl, fun d hd hlt => (atd v d hd hlt).symm⟩)
        · by_cases hp : pureOp o = true
          · exact .inl hp
          · exact .inr (.inl (by rw [if_neg hp]; simp))
end Go.Proofs.Ytmfkocmbmadkmaa.Abs
