/- Calls on plain values: from whatever state they answer the same, and nothing that was there has changed. A table of code, a table of what is known. -/
import Derived.Test.YthpomdoaiibnfaaVc6
namespace Go.Proofs.Ythpomdoaiibnfaa.Abs
open Go Go.RowKit
set_option linter.unusedVariables false
set_option linter.unusedSimpArgs false

/-! ### values compared -/
def AV.same : Nat → AV → AV → Bool
  | 0, _, _ => false
  | n + 1, a, b =>
    match a, b with
    | .bool a, .bool b => a == b
    | .int k a, .int k' b => decide (k = k') && decide (a = b)
    | .str a, .str b => decide (a = b)
    | .ptr a, .ptr b => decide (a = b)
    | .agg a, .agg b => Nat.beq a.length b.length && (a.zip b).all fun p => AV.same n p.1 p.2
    | .sl o s a, .sl o' s' b => decide (o = o') && Nat.beq s s' && Nat.beq a.length b.length && (a.zip b).all fun p => AV.same n p.1 p.2
    | .eptr o s a i j, .eptr o' s' b i' j' => decide (o = o') && Nat.beq s s' && Nat.beq i i' && Nat.beq j j' && Nat.beq a.length b.length && (a.zip b).all fun p => AV.same n p.1 p.2
    | .nilIface, .nilIface => true
    | _, _ => false
theorem all_zip {n : Nat} (ih : ∀ a b, AV.same n a b = true → a = b) : ∀ (xs ys : List AV), xs.length = ys.length → ((xs.zip ys).all fun p => AV.same n p.1 p.2) = true → xs = ys
  | [], [], _, _ => rfl
  | x :: xs, y :: ys, hl, h => by
    simp only [List.zip_cons_cons, List.all_cons, Bool.and_eq_true] at h
    rw [ih _ _ h.1, all_zip ih xs ys (by simpa using hl) h.2]
  | [], _ :: _, hl, _ => by simp at hl
  | _ :: _, [], hl, _ => by simp at hl
theorem AV.same_eq : ∀ (n : Nat) (a b : AV), AV.same n a b = true → a = b
  | 0, a, b, h => by simp [AV.same] at h
  | n + 1, a, b, h => by
    have ih := AV.same_eq n
    unfold AV.same at h
    split at h
    · simpa using h
    · simp only [Bool.and_eq_true, decide_eq_true_eq] at h; rw [h.1, h.2]
    · simpa using h
    · simpa using h
    · simp only [Bool.and_eq_true, Nat.beq_eq] at h; rw [all_zip ih _ _ h.1 h.2]
    · simp only [Bool.and_eq_true, Nat.beq_eq, decide_eq_true_eq] at h
      obtain ⟨⟨⟨h1, h2⟩, h3⟩, h4⟩ := h
      rw [h1, h2, all_zip ih _ _ h3 h4]
    · simp only [Bool.and_eq_true, Nat.beq_eq, decide_eq_true_eq] at h
      obtain ⟨⟨⟨⟨⟨h1, h2⟩, h5⟩, h6⟩, h3⟩, h4⟩ := h
      rw [h1, h2, h5, h6, all_zip ih _ _ h3 h4]
    · rfl
    · cases h

def sameOB (F : Fr) (d : Option Nat) (v : AV) : Bool :=
  match d with
  | some d => AV.same 8 v (look F d)
  | none => true

/-! ### what was there stays -/
/-- A value that leans on no token and no object. -/
inductive Plain : AV → Prop
  | bool (b : Bool) : Plain (.bool b)
  | int (k : IntKind) (n : Int) : Plain (.int k n)
  | str (l : List UInt8) : Plain (.str l)
  | agg (cs : List AV) (h : ∀ u ∈ cs, Plain u) : Plain (.agg cs)
def S00 : ASt := { objs := [], live := fun _ => false, next := 0 }
theorem Plain.rel {E E' : Env} {S S' : ASt} {w w' : World} {u : AV} {v : Value} (hp : Plain u) (h : VRel E S w u v) : VRel E' S' w' u v := by
  induction hp generalizing v with
  | bool b => cases h; exact .bool _
  | int k n => cases h; exact .int _ _
  | str l => cases h; exact .str _
  | agg cs hcs ih =>
    cases h with
    | agg _ vs hl h1 hr => exact .agg cs vs hl h1 (fun i u hi => ih u (List.mem_of_getElem? hi) (hr i u hi))
/-- A call on plain values, run from a state without anything, that answers a plain value: from whatever state it answers the same, and nothing has changed. -/
theorem closed {P : Program} {f : FuncId} {args : List AV} {v : AV} (ha : ∀ u ∈ args, Plain u) (hv : Plain v) (h : ACalls P f args S00 (fun u _ => u = v)) (S : ASt) :
    ACalls P f args S (fun u S' => u = v ∧ S' = S) := by
  refine ⟨h.1, fun E w cargs hR hA => ?_⟩
  have hR0 : Rel E S00 w := ⟨hR.ro_lt, fun o cs ho => by simp [S00] at ho, fun o ho => by simp [S00] at ho, fun o o' ho => by simp [S00] at ho, fun t b hl => by simp [S00] at hl,
    fun t t' b hl => by simp [S00] at hl, fun t hl => by simp [S00] at hl⟩
  have hA0 : ArgsRel E S00 w args cargs := ⟨hA.1, fun i hi => by
    have hm : args.getD i .top ∈ args := by
      rw [List.getD_eq_getElem?_getD, List.getElem?_eq_getElem hi]; exact List.getElem_mem hi
    exact (ha _ hm).rel (hA.2 i hi)⟩
  refine (h.2 E w cargs hR0 hA0).mono ?_
  rintro e w' ⟨u, cv, E', S', rfl, ev, hR', hu, rfl⟩
  have hold : ∀ b, b < w.heap.size → w'.heap[b]? = w.heap[b]? := by
    intro b hb
    rcases ev.old b hb with h | ⟨o, ho, _⟩ | ⟨t, ht, _⟩
    · exact h
    · simp [S00] at ho
    · simp [S00] at ht
  have hmu : ∀ o cs, S.objs[o]? = some cs → E.mu o < w.heap.size := by
    intro o cs ho
    obtain ⟨cur, e, hcur, _⟩ := hR.obj o cs ho
    exact (Array.getElem?_eq_some_iff.1 hcur).1
  have ev2 : Evolves E S w E S w' := ⟨ev.os, ev.tape, ev.output, ev.size, fun b hb => ⟨hb, hold b (hR.ro_lt b hb)⟩, Nat.le_refl _, fun _ _ => rfl, Nat.le_refl _,
    fun t ht hl => ⟨hl, ⟨rfl, rfl⟩, fun b hb => hold b (hR.tok t b hl hb).1⟩, fun o h1 h2 => absurd h1 (by omega), fun t b h1 hl => absurd (hR.live_lt t hl) (by omega), fun b hb => .inl (hold b hb)⟩
  have hR2 : Rel E S w' := by
    refine ⟨fun b hb => Nat.lt_of_lt_of_le (hR.ro_lt b hb) ev.size, ?_, hR.obj_ro, hR.obj_inj, fun t b hl hb => ?_, hR.tok_inj, hR.live_lt⟩
    · intro o cs ho
      obtain ⟨cur, e, hcur, h2, h3⟩ := hR.obj o cs ho
      refine ⟨cur, e, ?_, h2, fun i u hi => ⟨(h3 i u hi).1, (h3 i u hi).2.mono ev2⟩⟩
      rw [hold _ (hmu o cs ho)]; exact hcur
    · obtain ⟨h1, h2, h3⟩ := hR.tok t b hl hb
      exact ⟨Nat.lt_of_lt_of_le h1 ev.size, h2, h3⟩
  exact ⟨u, cv, E, S, rfl, ev2, hR2, hv.rel hu, rfl, rfl⟩
/-! ### the code as a table -/
abbrev CT := List (FuncId × (RC × List Rs × Nat))
def lookC {α : Type} : List (FuncId × α) → FuncId → Option α
  | [], _ => none
  | (g, x) :: r, f => cond (Nat.beq g f) (some x) (lookC r f)
inductive CodeOk (P : Program) : CT → Prop
  | nil : CodeOk P []
  | cons {f : FuncId} {rc : RC} {rr : List Rs} {n : Nat} {r : CT} (h : ∀ {args : List AV} {K : AV → ASt → Prop} {S : ASt}, args.length ≤ n → wpR P rc (bodyQ rr K) (argF 0 args) S → ACalls P f args S K) (hr : CodeOk P r) : CodeOk P ((f, (rc, rr, n)) :: r)
theorem CodeOk.look {P : Program} {l : CT} (h : CodeOk P l) : ∀ f rc rr n, lookC l f = some (rc, rr, n) → ∀ (args : List AV) (K : AV → ASt → Prop) (S : ASt), args.length ≤ n → wpR P rc (bodyQ rr K) (argF 0 args) S → ACalls P f args S K := by
  induction h with
  | nil => intro f rc rr n h; cases h
  | @cons g rc0 rr0 n0 r hg hr ih =>
    intro f rc rr n h
    unfold lookC at h
    cases hb : Nat.beq g f with
    | true =>
      rw [hb] at h
      simp only [cond_true, Option.some.injEq, Prod.mk.injEq] at h
      obtain ⟨rfl, rfl, rfl⟩ := h
      have := Nat.eq_of_beq_eq_true hb
      subst this
      exact fun args K S hl hw => hg hl hw
    | false => rw [hb] at h; exact ih f rc rr n h
inductive KnOk (P : Program) : List (FuncId × AV) → Prop
  | nil : KnOk P []
  | cons {f : FuncId} {v : AV} {r : List (FuncId × AV)} (h : ∀ S, ACalls P f [] S (fun u T => u = v ∧ T = S)) (hr : KnOk P r) : KnOk P ((f, v) :: r)
theorem KnOk.look {P : Program} {l : List (FuncId × AV)} (h : KnOk P l) : ∀ f v, lookC l f = some v → ∀ S, ACalls P f [] S (fun u T => u = v ∧ T = S) := by
  induction h with
  | nil => intro f v h; cases h
  | @cons g v0 r hg hr ih =>
    intro f v h
    unfold lookC at h
    cases hb : Nat.beq g f with
    | true =>
      rw [hb] at h
      simp only [cond_true, Option.some.injEq] at h
      subst h
      have := Nat.eq_of_beq_eq_true hb
      subst this
      exact hg
    | false => rw [hb] at h; exact ih f v h
end Go.Proofs.Ythpomdoaiibnfaa.Abs
