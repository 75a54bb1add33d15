/- What stays of a state but for some owners; a byte slice that its object owns. -/
import Derived.Test.YthpomdoaiibnfaaLibC
namespace Go.Proofs.Ythpomdoaiibnfaa.Abs
open Go Go.Proofs
set_option linter.unusedVariables false

def Own.ts : Own → List Nat
  | .own t => [t]
  | .sub t => [t]
  | _ => []
theorem Own.ts_mem {o : Own} {t : Nat} : t ∈ o.ts ↔ o.tok = some t := by
  cases o <;> simp [Own.ts, Own.tok, eq_comm]
/-- What stays of a state: what is read but for some owners' own, and objects but for some. -/
structure StayX (S S' : ASt) (os ts : List Nat) : Prop where
  objs : S.objs.length ≤ S'.objs.length
  obj : ∀ o, o < S.objs.length → o ∉ os → S'.objs[o]? = S.objs[o]?
  next : S.next ≤ S'.next
  live : ∀ t, t < S.next → t ∉ ts → S.live t = true → S'.live t = true
/-- Two owners that are not one. -/
def Apart (o o2 : Own) : Prop := ∀ t, o.tok = some t → o2.tok ≠ some t
/-- An owner is as it was, or new. -/
def OwnNew (S : ASt) (o o' : Own) : Prop := o' = o ∨ ∀ t, o'.tok = some t → S.next ≤ t
section
variable {S S' S0 : ASt} {o o2 o3 ob ob' : Own} {os os' ts ts' : List Nat} {t b : Nat} {cs cs' : List AV}
theorem Apart.symm (h : Apart o o2) : Apart o2 o := fun t h1 h2 => h t h2 h1
theorem Apart.nil : Apart .nil o := fun t h => by cases h
theorem Apart.ro : Apart .ro o := fun t h => by cases h
theorem Apart.nilR : Apart o .nil := fun t h h2 => by cases h2
theorem Apart.roR : Apart o .ro := fun t h h2 => by cases h2
theorem Apart.lt (h : Rd S o) (h2 : ∀ t, o2.tok = some t → S.next ≤ t) : Apart o o2 := fun t h1 h3 => by
  have := h.2 t h1
  have := h2 t h3
  omega
theorem Apart.new (h : Apart o ob) (hr : Rd S o) (hn : OwnNew S ob ob') : Apart o ob' := by
  rcases hn with rfl | hn
  · exact h
  · exact Apart.lt hr hn
theorem Apart.own {t : Nat} (h : Apart o ob) : ∀ t, o = .own t → ob.tok ≠ some t := fun t h1 => h t (by rw [h1]; rfl)
theorem OwnNew.refl : OwnNew S o o := .inl rfl
theorem OwnNew.nil : OwnNew S o .nil := .inr fun t h => by cases h
theorem OwnNew.ge (h : S.next ≤ t) : OwnNew S o (.own t) := .inr fun u hu => by cases hu; exact h
theorem OwnNew.trans (h : OwnNew S o o2) (hs : S.next ≤ S'.next) (h2 : OwnNew S' o2 o3) : OwnNew S o o3 := by
  rcases h2 with rfl | h2
  · exact h
  · exact .inr fun t ht => Nat.le_trans hs (h2 t ht)
theorem StayX.of (h : Stays S S' os) : StayX S S' os ts := ⟨h.objs, h.obj, h.next, fun t ht _ hl => h.live t ht hl⟩
theorem StayX.stays (h : StayX S S' os []) : Stays S S' os := ⟨h.objs, h.obj, h.next, fun t ht hl => h.live t ht (by simp) hl⟩
theorem StayX.refl (S : ASt) (os ts : List Nat) : StayX S S os ts := StayX.of (Stays.refl _ _)
theorem StayX.fresh (h : StayX S0 S os ts) : StayX S0 S.fresh os ts := ⟨h.objs, h.obj, Nat.le_succ_of_le h.next, fun t ht hn hl => live_fresh (h.live t ht hn hl)⟩
theorem StayX.kill (h : StayX S0 S os ts) (hn : t ∈ ts ∨ S0.next ≤ t) : StayX S0 (S.kill t) os ts :=
  ⟨h.objs, h.obj, h.next, fun u hu hm hl => live_kill (h.live u hu hm hl) (by intro e; subst e; rcases hn with hn | hn; exact hm hn; omega)⟩
theorem StayX.app (h : StayX S0 S os ts) (hn : ∀ t, o = .own t → t ∈ ts ∨ S0.next ≤ t) : StayX S0 (appS S o) os ts := by
  cases o with
  | own t => exact (h.kill (hn t rfl)).fresh
  | _ => exact h.fresh
theorem StayX.appN (h : StayX S0 S os ts) (hn : ∀ t, o = .own t → S0.next ≤ t) : StayX S0 (appS S o) os ts := h.app fun t ht => .inr (hn t ht)
theorem StayX.push (h : StayX S0 S os ts) : StayX S0 (S.push cs) os ts :=
  ⟨by rw [Ob.len_push]; have := h.objs; omega, fun o ho hn => by
    show (S.objs ++ [cs])[o]? = _
    rw [List.getElem?_append_left (Nat.lt_of_lt_of_le ho h.objs)]; exact h.obj o ho hn, h.next, h.live⟩
theorem StayX.put (h : StayX S0 S os ts) (hb : b ∈ os ∨ S0.objs.length ≤ b) : StayX S0 (S.put b cs) os ts :=
  ⟨by rw [Ob.len_put]; exact h.objs, fun o ho hn => by
    show (S.objs.set b cs)[o]? = _
    rw [List.getElem?_set_ne (fun e => by subst e; rcases hb with hb | hb; exact hn hb; omega)]; exact h.obj o ho hn, h.next, h.live⟩
theorem StayX.then (h : StayX S0 S os ts) (k : StayX S S' os' ts') (h2 : ∀ o ∈ os', o ∈ os ∨ S0.objs.length ≤ o) (h3 : ∀ t ∈ ts', t ∈ ts ∨ S0.next ≤ t) : StayX S0 S' os ts :=
  ⟨Nat.le_trans h.objs k.objs, fun o ho hn => (k.obj o (Nat.lt_of_lt_of_le ho h.objs) (fun hm => (h2 o hm).elim hn (fun h => by omega))).trans (h.obj o ho hn), Nat.le_trans h.next k.next,
    fun t ht hn hl => k.live t (Nat.lt_of_lt_of_le ht h.next) (fun hm => (h3 t hm).elim hn (fun h => by omega)) (h.live t ht hn hl)⟩
theorem StayX.thenS (h : StayX S0 S os ts) (k : Stays S S' os') (h2 : ∀ o ∈ os', o ∈ os ∨ S0.objs.length ≤ o) : StayX S0 S' os ts := h.then (ts' := []) (StayX.of k) h2 (fun t ht => by cases ht)
theorem StayX.then0 (h : StayX S0 S os ts) (k : Stays S S' []) : StayX S0 S' os ts := h.thenS k (fun o ho => by cases ho)
/-- The owner that may be written is the object's. -/
theorem new_ts (h : OwnNew S ob ob') : ∀ t ∈ ob'.ts, t ∈ ob.ts ∨ S.next ≤ t := by
  intro t ht
  rcases h with rfl | h
  · exact .inl ht
  · exact .inr (h t (Own.ts_mem.1 ht))
theorem new_own (h : OwnNew S ob ob') : ∀ t, ob' = .own t → t ∈ ob.ts ∨ S.next ≤ t := fun t ht => new_ts h t (by rw [ht]; simp [Own.ts])
theorem Rd.stayx (h : Rd S o) (hs : StayX S S' os ts) (hn : ∀ t, o.tok = some t → t ∉ ts) : Rd S' o :=
  Rd.of fun t ht => ⟨hs.live t (h.tok ht).2 (hn t ht) (h.tok ht).1, Nat.lt_of_lt_of_le (h.tok ht).2 hs.next⟩
theorem Rd.stayo (h : Rd S o) (hs : StayX S S' os ob.ts) (hn : Apart o ob) : Rd S' o := h.stayx hs fun t ht hm => hn t ht (Own.ts_mem.1 hm)
theorem App.stayo {sz sz1 n : Nat} (h : App S o sz sz1 n) (hs : StayX S S' os ob.ts) (hn : Apart o ob) : App S' o sz sz1 n := by
  rcases h with h | ⟨t, rfl, h1, h2, h3⟩
  · exact .inl h
  · exact .inr ⟨t, rfl, hs.live t h2 (fun hm => hn t rfl (Own.ts_mem.1 hm)) h1, Nat.lt_of_lt_of_le h2 hs.next, h3⟩
theorem Ob.stayx (h : S.objs[b]? = some cs) (hs : StayX S S' os ts) (hn : b ∉ os) : S'.objs[b]? = some cs := by rw [hs.obj b (Ob.lt h) hn]; exact h
theorem App.tok {sz sz1 n : Nat} (h : App S o sz sz1 n) : ∀ t, o.tok = Option.some t → o = .own t := by
  intro t ht
  rcases h with ⟨rfl, _⟩ | ⟨u, rfl, _⟩
  · cases ht
  · cases ht; rfl
theorem App.len {sz sz1 n m : Nat} (h : App S o sz sz1 n) (e : m = n) : App S o sz sz1 m := by rw [e]; exact h
theorem App.kill {sz sz1 n : Nat} (h : App S o sz sz1 n) (hn : o.tok ≠ Option.some b) : App (S.kill b) o sz sz1 n := by
  rcases h with h | ⟨t, rfl, h1, h2, h3⟩
  · exact .inl h
  · exact .inr ⟨t, rfl, live_kill h1 (fun e => hn (by rw [e]; rfl)), h2, h3⟩
theorem App.app {sz sz1 n : Nat} (h : App S o sz sz1 n) (hn : Apart o o2) : App (appS S o2) o sz sz1 n := by
  cases o2 with
  | own t => exact (h.kill (fun e => hn t e rfl)).fresh
  | _ => exact h.fresh
end
theorem i_frz {P : Program} {F : Fr} {S : ASt} {r : List RI} {K : Fr → ASt → Prop} {d t sz : Nat} {a : RO} {x : AV} {xs : List AV} (hx : ro F a = .sl (.own t) sz (x :: xs)) (hl : S.live t = true) (k : wpI P r K ((d, .sl (.sub S.next) sz (x :: xs)) :: F) (S.kill t).fresh) :
    wpI P (⟨false, none, .frz a, some d⟩ :: r) K F S := by
  refine ⟨.sl (.sub S.next) sz (x :: xs), (S.kill t).fresh, ?_, k⟩
  simp only [ropE, hx]
  rw [if_pos hl]
theorem Rd.newS {S : ASt} : Rd S.fresh (.sub S.next) := ⟨live_new, fun t ht => by cases ht; exact Nat.lt_succ_self _⟩
theorem Stays.frz {S0 S : ASt} {os : List Nat} (h : Stays S0 S os) : Stays S0 ((S.fresh).kill S.next).fresh os := (h.fresh.kill h.next).fresh
theorem Rd.frz {S : ASt} : Rd ((S.fresh).kill S.next).fresh (.sub (S.fresh).next) := Rd.newS (S := (S.fresh).kill S.next)
end Go.Proofs.Ythpomdoaiibnfaa.Abs
