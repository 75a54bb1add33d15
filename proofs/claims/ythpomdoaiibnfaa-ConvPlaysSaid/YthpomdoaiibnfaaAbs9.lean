/- An abstract reading of values and worlds: what a slice, a pointer, a struct reads as, and that such a reading lasts while nothing that it leans on is written. The steps by which an abstract state and a world go on together: a new block, a new object, a store, an append. What each operation does to an abstract frame and state. Each operation of the model does what its abstract reading says. Each operation of the model does what its abstract reading says: addresses, numbers, strings, slicing. Each operation of the model does what its abstract reading says: conversions. Each operation of the model does what its abstract reading says: slicing, two operands, literals. Each operation of the model does what its abstract reading says: comparisons of structs and arrays; operators; literals. Each operation of the model does what its abstract reading says: literals and stores. -/
import Derived.WalkKit
import Derived.Lib.ConvBytes
import Derived.ChangeKeysEq
namespace Go.Proofs.Ythpomdoaiibnfaa.Abs
open Go Go.RowKit
set_option linter.unusedVariables false

/-- Whose a slice is: nobody's (nil); written by nobody; the token's own, from the token's first place on; a part of the token's. -/
inductive Own where
  | nil
  | ro
  | own (t : Nat)
  | sub (t : Nat)
  deriving DecidableEq

def Own.tok : Own → Option Nat
  | .own t => some t
  | .sub t => some t
  | _ => none

inductive AV where
  | top
  | bool (b : Bool)
  | int (k : IntKind) (n : Int)
  | str (l : List UInt8)
  | ptr (p : Option (Nat × Nat))
  | sl (o : Own) (sz : Nat) (xs : List AV)
  | eptr (o : Own) (sz : Nat) (xs : List AV) (i off : Nat)
  | agg (cs : List AV)
  | tuple (vs : List AV)
  | func (f : FuncId)
  | nilFunc
  | iface (t : TypeId) (v : AV)
  | nilIface

instance : Inhabited AV := ⟨.top⟩

def AV.cells : AV → List AV
  | .agg cs => cs
  | v => [v]
def AV.one : AV → Bool
  | .agg _ | .tuple _ | .top => false
  | _ => true
def AV.known : AV → Bool
  | .top => false
  | _ => true
def flat (xs : List AV) : List AV := xs.flatMap AV.cells

structure ASt where
  objs : List (List AV)
  live : Nat → Bool
  next : Nat

structure Env where
  ro : Nat → Prop
  be : Nat → Option Nat
  off : Nat → Nat
  mu : Nat → Nat

def Acc (E : Env) (S : ASt) : Own → Nat → Prop
  | .nil, _ => False
  | .ro, b => E.ro b
  | .own t, b => t < S.next ∧ S.live t = true ∧ E.be t = some b
  | .sub t, b => t < S.next ∧ S.live t = true ∧ E.be t = some b

inductive VRel (E : Env) (S : ASt) (w : World) : AV → Value → Prop
  | top (v : Value) : VRel E S w .top v
  | bool (b : Bool) : VRel E S w (.bool b) (.bool b)
  | int (k : IntKind) (n : Int) : VRel E S w (.int k n) (.int k n)
  | str (l : List UInt8) : VRel E S w (.str l) (.string ⟨l.toArray⟩)
  | pnil : VRel E S w (.ptr none) (.pointer none)
  | ptr (o i : Nat) (h : o < S.objs.length) : VRel E S w (.ptr (some (o, i))) (.pointer (some ⟨E.mu o, i, none⟩))
  | sl_nil (sz : Nat) : VRel E S w (.sl .nil sz []) (.slice none 0 0)
  | sl_emp (sz : Nat) (a : Option Addr) (c : Nat) : VRel E S w (.sl .ro sz []) (.slice a 0 c)
  | sl_mem (o : Own) (sz : Nat) (xs : List AV) (b off c : Nat) (vs : Nat → Value) (hacc : Acc E S o b) (hc : xs.length ≤ c)
      (hsz : ∀ x ∈ xs, x.cells.length = sz) (h1 : ∀ u ∈ flat xs, u.one = true)
      (hv : ∀ j u, (flat xs)[j]? = some u → w.cell? ⟨b, off + j, none⟩ = some (vs j))
      (hr : ∀ j u, (flat xs)[j]? = some u → VRel E S w u (vs j))
      (hroom : ∀ t, o = .own t → off = E.off t ∧ ∃ cur e, w.heap[b]? = some (.cells cur e (0, 0)) ∧ off + c * sz ≤ cur.size) :
      VRel E S w (.sl o sz xs) (.slice (some ⟨b, off, none⟩) xs.length c)
  | sl_own_nil (t sz : Nat) (ht : t < S.next) : VRel E S w (.sl (.own t) sz []) (.slice none 0 0)
  | sl_sub_emp (t sz : Nat) (a : Option Addr) (c : Nat) (ht : t < S.next) : VRel E S w (.sl (.sub t) sz []) (.slice a 0 c)
  | sl_dead (o : Own) (t sz : Nat) (xs : List AV) (a : Option Addr) (c : Nat) (ho : o.tok = some t) (ht : t < S.next) (hd : S.live t = false) :
      VRel E S w (.sl o sz xs) (.slice a xs.length c)
  | ep_mem (o : Own) (sz : Nat) (xs : List AV) (i k b off : Nat) (vs : Nat → Value) (hacc : Acc E S o b) (hi : i < xs.length)
      (hsz : ∀ x ∈ xs, x.cells.length = sz) (h1 : ∀ u ∈ flat xs, u.one = true)
      (hv : ∀ j u, (flat xs)[j]? = some u → w.cell? ⟨b, off + j, none⟩ = some (vs j))
      (hr : ∀ j u, (flat xs)[j]? = some u → VRel E S w u (vs j))
      (hroom : ∀ t, o = .own t → off = E.off t ∧ ∃ cur e, w.heap[b]? = some (.cells cur e (0, 0))) :
      VRel E S w (.eptr o sz xs i k) (.pointer (some ⟨b, off + i * sz + k, none⟩))
  | ep_dead (o : Own) (t sz : Nat) (xs : List AV) (i k : Nat) (a : Addr) (ho : o.tok = some t) (ht : t < S.next) (hd : S.live t = false) :
      VRel E S w (.eptr o sz xs i k) (.pointer (some a))
  | agg (cs : List AV) (vs : Array Value) (hl : vs.size = cs.length) (h1 : ∀ u ∈ cs, u.one = true)
      (hr : ∀ i u, cs[i]? = some u → VRel E S w u (vs.getD i undef)) : VRel E S w (.agg cs) (.agg vs)
  | tuple (cs : List AV) (vs : Array Value) (hl : vs.size = cs.length)
      (hr : ∀ i u, cs[i]? = some u → VRel E S w u (vs.getD i undef)) : VRel E S w (.tuple cs) (.tuple vs)
  | func (f : FuncId) : VRel E S w (.func f) (.func (.func f) #[] #[])
  | nilFunc : VRel E S w .nilFunc .nilFunc
  | iface (t : TypeId) (v : AV) (cv : Value) (h : VRel E S w v cv) : VRel E S w (.iface t v) (.iface t cv)
  | nilIface : VRel E S w .nilIface .nilIface

structure Rel (E : Env) (S : ASt) (w : World) : Prop where
  ro_lt : ∀ b, E.ro b → b < w.heap.size
  obj : ∀ o cs, S.objs[o]? = some cs → ∃ cur e, w.heap[E.mu o]? = some (.cells cur e (0, 0)) ∧ cur.size = cs.length ∧
    ∀ i u, cs[i]? = some u → u.one = true ∧ VRel E S w u (cur.getD i undef)
  obj_ro : ∀ o, o < S.objs.length → ¬ E.ro (E.mu o)
  obj_inj : ∀ o o', o < S.objs.length → o' < S.objs.length → E.mu o = E.mu o' → o = o'
  tok : ∀ t b, S.live t = true → E.be t = some b → b < w.heap.size ∧ ¬ E.ro b ∧ ∀ o, o < S.objs.length → E.mu o ≠ b
  tok_inj : ∀ t t' b, S.live t = true → S.live t' = true → E.be t = some b → E.be t' = some b → t = t'
  live_lt : ∀ t, S.live t = true → t < S.next

structure Evolves (E : Env) (S : ASt) (w : World) (E' : Env) (S' : ASt) (w' : World) : Prop where
  os : w'.os = w.os
  tape : w'.tape = w.tape
  output : w'.output = w.output
  size : w.heap.size ≤ w'.heap.size
  ro : ∀ b, E.ro b → E'.ro b ∧ w'.heap[b]? = w.heap[b]?
  objs : S.objs.length ≤ S'.objs.length
  mu : ∀ o, o < S.objs.length → E'.mu o = E.mu o
  next : S.next ≤ S'.next
  tok : ∀ t, t < S.next → S'.live t = true → S.live t = true ∧ (E'.be t = E.be t ∧ E'.off t = E.off t) ∧ ∀ b, E.be t = some b → w'.heap[b]? = w.heap[b]?
  newobj : ∀ o, S.objs.length ≤ o → o < S'.objs.length → w.heap.size ≤ E'.mu o
  newtok : ∀ t b, S.next ≤ t → S'.live t = true → E'.be t = some b → w.heap.size ≤ b ∨ ∃ t0, S.live t0 = true ∧ E.be t0 = some b
  old : ∀ b, b < w.heap.size → w'.heap[b]? = w.heap[b]? ∨ (∃ o, o < S.objs.length ∧ E.mu o = b) ∨ (∃ t, S.live t = true ∧ E.be t = some b)

theorem Evolves.refl {E : Env} {S : ASt} {w : World} (h : Rel E S w) : Evolves E S w E S w :=
  ⟨rfl, rfl, rfl, Nat.le_refl _, fun _ h => ⟨h, rfl⟩, Nat.le_refl _, fun _ _ => rfl, Nat.le_refl _, fun _ _ h => ⟨h, ⟨rfl, rfl⟩, fun _ _ => rfl⟩,
    fun _ h1 h2 => absurd h1 (by omega), fun t _ h1 h2 => absurd (h.live_lt t h2) (by omega), fun _ _ => .inl rfl⟩

theorem Evolves.trans {E E' E'' : Env} {S S' S'' : ASt} {w w' w'' : World} (h : Evolves E S w E' S' w') (k : Evolves E' S' w' E'' S'' w'') :
    Evolves E S w E'' S'' w'' := by
  refine ⟨k.os.trans h.os, k.tape.trans h.tape, k.output.trans h.output, Nat.le_trans h.size k.size, ?_, Nat.le_trans h.objs k.objs, ?_, Nat.le_trans h.next k.next, ?_, ?_, ?_, ?_⟩
  · intro b hb
    have h1 := h.ro b hb
    have h2 := k.ro b h1.1
    exact ⟨h2.1, h2.2.trans h1.2⟩
  · intro o ho
    rw [k.mu o (Nat.lt_of_lt_of_le ho h.objs), h.mu o ho]
  · intro t ht hl
    obtain ⟨a1, a2, a3⟩ := k.tok t (Nat.lt_of_lt_of_le ht h.next) hl
    obtain ⟨b1, b2, b3⟩ := h.tok t ht a1
    refine ⟨b1, ⟨a2.1.trans b2.1, a2.2.trans b2.2⟩, fun b hb => ?_⟩
    rw [a3 b (by rw [b2.1]; exact hb), b3 b hb]
  · intro o h1 h2
    by_cases ho : o < S'.objs.length
    · rw [k.mu o ho]; exact h.newobj o h1 ho
    · exact Nat.le_trans h.size (k.newobj o (by omega) h2)
  · intro t b h1 h2 h3
    by_cases ht : t < S'.next
    · obtain ⟨a1, a2, _⟩ := k.tok t ht h2
      exact h.newtok t b h1 a1 (by rw [← a2.1]; exact h3)
    · rcases k.newtok t b (by omega) h2 h3 with hb | ⟨t0, c1, c2⟩
      · exact .inl (Nat.le_trans h.size hb)
      · by_cases ht0 : t0 < S.next
        · obtain ⟨d1, d2, _⟩ := h.tok t0 ht0 c1
          exact .inr ⟨t0, d1, by rw [← d2.1]; exact c2⟩
        · exact h.newtok t0 b (by omega) c1 c2
  · intro b hb
    have hb' := Nat.lt_of_lt_of_le hb h.size
    rcases h.old b hb with e1 | e1
    · rcases k.old b hb' with e2 | ⟨o, ho, hm⟩ | ⟨t, ht, hbe⟩
      · exact .inl (e2.trans e1)
      · by_cases ho' : o < S.objs.length
        · exact .inr (.inl ⟨o, ho', by rw [← h.mu o ho']; exact hm⟩)
        · have := h.newobj o (by omega) ho; omega
      · by_cases ht' : t < S.next
        · obtain ⟨d1, d2, _⟩ := h.tok t ht' ht
          exact .inr (.inr ⟨t, d1, by rw [← d2.1]; exact hbe⟩)
        · rcases h.newtok t b (by omega) ht hbe with c | ⟨t0, c1, c2⟩
          · omega
          · exact .inr (.inr ⟨t0, c1, c2⟩)
    · exact .inr e1

theorem VRel.mono {E E' : Env} {S S' : ASt} {w w' : World} (h : Evolves E S w E' S' w') {u : AV} {v : Value} (hv : VRel E S w u v) : VRel E' S' w' u v := by
  induction hv with
  | top v => exact .top v
  | bool b => exact .bool b
  | int k n => exact .int k n
  | str l => exact .str l
  | pnil => exact .pnil
  | ptr o i ho => rw [← h.mu o ho]; exact .ptr o i (Nat.lt_of_lt_of_le ho h.objs)
  | sl_nil sz => exact .sl_nil sz
  | sl_emp sz a c => exact .sl_emp sz a c
  | sl_mem o sz xs b off c vs hacc hc hsz h1 hv hr hroom ih =>
    cases o with
    | nil => exact hacc.elim
    | ro =>
      obtain ⟨r1, r2⟩ := h.ro b hacc
      exact .sl_mem .ro sz xs b off c vs r1 hc hsz h1 (fun j u hj => (World.cell?_of_block (a := ⟨b, off + j, none⟩) r2).trans (hv j u hj)) ih (fun t ht => by cases ht)
    | own t =>
      obtain ⟨a1, a2, a3⟩ := hacc
      by_cases hl : S'.live t = true
      · obtain ⟨b1, b2, b3⟩ := h.tok t a1 hl
        have hb := b3 b a3
        obtain ⟨hoff, cur, e, hcur, hfit⟩ := hroom t rfl
        exact .sl_mem (.own t) sz xs b off c vs ⟨Nat.lt_of_lt_of_le a1 h.next, hl, b2.1.trans a3⟩ hc hsz h1
          (fun j u hj => (World.cell?_of_block (a := ⟨b, off + j, none⟩) hb).trans (hv j u hj)) ih (fun t' ht => by cases ht; exact ⟨hoff.trans b2.2.symm, cur, e, hb.trans hcur, hfit⟩)
      · exact .sl_dead (.own t) t sz xs _ c rfl (Nat.lt_of_lt_of_le a1 h.next) (by simpa using hl)
    | sub t =>
      obtain ⟨a1, a2, a3⟩ := hacc
      by_cases hl : S'.live t = true
      · obtain ⟨b1, b2, b3⟩ := h.tok t a1 hl
        have hb := b3 b a3
        exact .sl_mem (.sub t) sz xs b off c vs ⟨Nat.lt_of_lt_of_le a1 h.next, hl, b2.1.trans a3⟩ hc hsz h1
          (fun j u hj => (World.cell?_of_block (a := ⟨b, off + j, none⟩) hb).trans (hv j u hj)) ih (fun t' ht => by cases ht)
      · exact .sl_dead (.sub t) t sz xs _ c rfl (Nat.lt_of_lt_of_le a1 h.next) (by simpa using hl)
  | sl_own_nil t sz ht => exact .sl_own_nil t sz (Nat.lt_of_lt_of_le ht h.next)
  | sl_sub_emp t sz a c ht => exact .sl_sub_emp t sz a c (Nat.lt_of_lt_of_le ht h.next)
  | sl_dead o t sz xs a c ho ht hd =>
    refine .sl_dead o t sz xs a c ho (Nat.lt_of_lt_of_le ht h.next) ?_
    by_cases hl : S'.live t = true
    · have := (h.tok t ht hl).1; rw [hd] at this; cases this
    · simpa using hl
  | ep_mem o sz xs i k b off vs hacc hi hsz h1 hv hr hroom ih =>
    cases o with
    | nil => exact hacc.elim
    | ro =>
      obtain ⟨r1, r2⟩ := h.ro b hacc
      exact .ep_mem .ro sz xs i k b off vs r1 hi hsz h1 (fun j u hj => (World.cell?_of_block (a := ⟨b, off + j, none⟩) r2).trans (hv j u hj)) ih (fun t ht => by cases ht)
    | own t =>
      obtain ⟨a1, a2, a3⟩ := hacc
      by_cases hl : S'.live t = true
      · obtain ⟨b1, b2, b3⟩ := h.tok t a1 hl
        have hb := b3 b a3
        obtain ⟨hoff, cur, e, hcur⟩ := hroom t rfl
        exact .ep_mem (.own t) sz xs i k b off vs ⟨Nat.lt_of_lt_of_le a1 h.next, hl, b2.1.trans a3⟩ hi hsz h1
          (fun j u hj => (World.cell?_of_block (a := ⟨b, off + j, none⟩) hb).trans (hv j u hj)) ih (fun t' ht => by cases ht; exact ⟨hoff.trans b2.2.symm, cur, e, hb.trans hcur⟩)
      · exact .ep_dead (.own t) t sz xs i k _ rfl (Nat.lt_of_lt_of_le a1 h.next) (by simpa using hl)
    | sub t =>
      obtain ⟨a1, a2, a3⟩ := hacc
      by_cases hl : S'.live t = true
      · obtain ⟨b1, b2, b3⟩ := h.tok t a1 hl
        have hb := b3 b a3
        exact .ep_mem (.sub t) sz xs i k b off vs ⟨Nat.lt_of_lt_of_le a1 h.next, hl, b2.1.trans a3⟩ hi hsz h1
          (fun j u hj => (World.cell?_of_block (a := ⟨b, off + j, none⟩) hb).trans (hv j u hj)) ih (fun t' ht => by cases ht)
      · exact .ep_dead (.sub t) t sz xs i k _ rfl (Nat.lt_of_lt_of_le a1 h.next) (by simpa using hl)
  | ep_dead o t sz xs i k a ho ht hd =>
    refine .ep_dead o t sz xs i k a ho (Nat.lt_of_lt_of_le ht h.next) ?_
    by_cases hl : S'.live t = true
    · have := (h.tok t ht hl).1; rw [hd] at this; cases this
    · simpa using hl
  | agg cs vs hl h1 hr ih => exact .agg cs vs hl h1 ih
  | tuple cs vs hl hr ih => exact .tuple cs vs hl ih
  | func f => exact .func f
  | nilFunc => exact .nilFunc
  | iface t v cv hv ih => exact .iface t v cv ih
  | nilIface => exact .nilIface

theorem VRel.one {E : Env} {S : ASt} {w : World} {u : AV} {v : Value} (h : VRel E S w u v) (h1 : u.one = true) : v.oneCell' = true := by
  cases h <;> first | rfl | (simp [AV.one] at h1)

/-- The cells of a related value. -/
theorem VRel.cells {E : Env} {S : ASt} {w : World} {u : AV} {v : Value} (h : VRel E S w u v) (hk : u.known = true) :
    v.cells.size = u.cells.length ∧ ∀ i x, u.cells[i]? = some x → VRel E S w x (v.cells.getD i undef) := by
  cases h with
  | top v => simp [AV.known] at hk
  | agg cs vs hl h1 hr => exact ⟨hl, hr⟩
  | _ =>
    refine ⟨rfl, fun i x hx => ?_⟩
    cases i with
    | zero =>
      simp only [AV.cells, List.getElem?_cons_zero, Option.some.injEq] at hx
      subst hx
      simp only [Value.cells, Array.getD, List.size_toArray, List.length_cons, List.length_nil, Nat.zero_add, Nat.lt_add_one, ↓reduceDIte]
      constructor <;> assumption
    | succ i => simp [AV.cells] at hx
end Go.Proofs.Ythpomdoaiibnfaa.Abs

namespace Go.Proofs.Ythpomdoaiibnfaa.Abs
open Go Go.RowKit
set_option linter.unusedVariables false

def ASt.push (S : ASt) (cs : List AV) : ASt := { S with objs := S.objs ++ [cs] }
def ASt.put (S : ASt) (o : Nat) (cs : List AV) : ASt := { S with objs := S.objs.set o cs }
def ASt.kill (S : ASt) (t : Nat) : ASt := { S with live := fun x => if x = t then false else S.live x }
def ASt.fresh (S : ASt) : ASt := { S with live := fun x => if x = S.next then true else S.live x, next := S.next + 1 }

theorem heap_of_alloc_new (w : World) (o : Obj) : (w.alloc o).heap[w.heap.size]? = some o := by
  show (w.heap.push o)[w.heap.size]? = some o
  simp
theorem heap_of_alloc_old (w : World) (o : Obj) (b : Nat) (h : b < w.heap.size) : (w.alloc o).heap[b]? = w.heap[b]? := by
  show (w.heap.push o)[b]? = w.heap[b]?
  rw [Array.getElem?_push, if_neg (Nat.ne_of_lt h)]

/-- A world with the same blocks. -/
theorem step_same {E : Env} {S : ASt} {w w' : World} (h : Rel E S w) (hh : w'.heap = w.heap) (ho : w'.os = w.os) (ht : w'.tape = w.tape) (hp : w'.output = w.output) :
    Evolves E S w E S w' ∧ Rel E S w' := by
  have ev : Evolves E S w E S w' := ⟨ho, ht, hp, by rw [hh]; exact Nat.le_refl _, fun _ hb => ⟨hb, by rw [hh]⟩, Nat.le_refl _, fun _ _ => rfl, Nat.le_refl _,
    fun _ _ hl => ⟨hl, ⟨rfl, rfl⟩, fun _ _ => by rw [hh]⟩, fun _ h1 h2 => absurd h1 (by omega), fun t _ h1 h2 => absurd (h.live_lt t h2) (by omega), fun _ _ => .inl (by rw [hh])⟩
  refine ⟨ev, ⟨?_, ?_, h.obj_ro, h.obj_inj, ?_, h.tok_inj, h.live_lt⟩⟩
  · intro b hb; rw [hh]; exact h.ro_lt b hb
  · intro o cs hcs
    obtain ⟨cur, e, h1, h2, h3⟩ := h.obj o cs hcs
    exact ⟨cur, e, by rw [hh]; exact h1, h2, fun i u hu => ⟨(h3 i u hu).1, (h3 i u hu).2.mono ev⟩⟩
  · intro t b hl hb; rw [hh]; exact h.tok t b hl hb

theorem step_drew {E : Env} {S : ASt} {w : World} (h : Rel E S w) : Evolves E S w E S w.drew ∧ Rel E S w.drew := step_same h rfl rfl rfl rfl

def Env.addRo (E : Env) (b : Nat) : Env := { E with ro := fun x => E.ro x ∨ x = b }
def Env.addObj (E : Env) (o b : Nat) : Env := { E with mu := fun x => if x = o then b else E.mu x }
def Env.addTok (E : Env) (t : Nat) (b : Option Nat) (off : Nat) : Env := { E with be := fun x => if x = t then b else E.be x, off := fun x => if x = t then off else E.off x }

/-- A new block that nobody will write. -/
theorem step_ro' {E : Env} {S : ASt} {w w' : World} (h : Rel E S w) (hos : w'.os = w.os) (htp : w'.tape = w.tape) (hout : w'.output = w.output)
    (hs : w'.heap.size = w.heap.size + 1) (hold : ∀ b, b < w.heap.size → w'.heap[b]? = w.heap[b]?) :
    Evolves E S w (E.addRo w.heap.size) S w' ∧ Rel (E.addRo w.heap.size) S w' := by
  have ev : Evolves E S w (E.addRo w.heap.size) S w' :=
    ⟨hos, htp, hout, by omega, fun b hb => ⟨.inl hb, hold _ (h.ro_lt b hb)⟩, Nat.le_refl _, fun _ _ => rfl, Nat.le_refl _,
      fun t _ hl => ⟨hl, ⟨rfl, rfl⟩, fun b hb => hold _ (h.tok t b hl hb).1⟩, fun _ h1 h2 => absurd h1 (by omega),
      fun t _ h1 h2 => absurd (h.live_lt t h2) (by omega), fun b hb => .inl (hold _ hb)⟩
  have hobj : ∀ o', o' < S.objs.length → E.mu o' < w.heap.size := by
    intro o' ho'
    obtain ⟨cur, e, h1, _⟩ := h.obj o' _ (List.getElem?_eq_getElem ho')
    exact (Array.getElem?_eq_some_iff.1 h1).1
  refine ⟨ev, ⟨?_, ?_, ?_, h.obj_inj, ?_, h.tok_inj, h.live_lt⟩⟩
  · rintro b (hb | rfl)
    · have := h.ro_lt b hb; omega
    · omega
  · intro o' cs hcs
    obtain ⟨cur, e, h1, h2, h3⟩ := h.obj o' cs hcs
    refine ⟨cur, e, ?_, h2, fun i u hu => ⟨(h3 i u hu).1, (h3 i u hu).2.mono ev⟩⟩
    show w'.heap[E.mu o']? = _
    rw [hold _ (Array.getElem?_eq_some_iff.1 h1).1]; exact h1
  · intro o' ho' hx
    rcases hx with hx | hx
    · exact h.obj_ro o' ho' hx
    · have := hobj o' ho'; have hx' : E.mu o' = w.heap.size := hx; omega
  · intro t b hl hb
    obtain ⟨a1, a2, a3⟩ := h.tok t b hl hb
    refine ⟨by omega, ?_, a3⟩
    rintro (hx | hx)
    · exact a2 hx
    · omega

theorem step_ro {E : Env} {S : ASt} {w : World} (h : Rel E S w) (o : Obj) :
    Evolves E S w (E.addRo w.heap.size) S (w.alloc o) ∧ Rel (E.addRo w.heap.size) S (w.alloc o) :=
  step_ro' h rfl rfl rfl (by simp) (fun b hb => heap_of_alloc_old w o b hb)

theorem Rel.mu_lt {E : Env} {S : ASt} {w : World} (h : Rel E S w) {o : Nat} (ho : o < S.objs.length) : E.mu o < w.heap.size := by
  obtain ⟨cur, e, h1, _⟩ := h.obj o _ (List.getElem?_eq_getElem ho)
  exact (Array.getElem?_eq_some_iff.1 h1).1

/-- A new object. -/
theorem step_obj {E : Env} {S : ASt} {w : World} (h : Rel E S w) (cs : List AV) (cur : Array Value) (e : TypeId) (hl : cur.size = cs.length)
    (hc : ∀ i u, cs[i]? = some u → u.one = true ∧ VRel E S w u (cur.getD i undef)) :
    Evolves E S w (E.addObj S.objs.length w.heap.size) (S.push cs) (w.alloc (.cells cur e)) ∧
      Rel (E.addObj S.objs.length w.heap.size) (S.push cs) (w.alloc (.cells cur e)) := by
  have hmu : ∀ o, o < S.objs.length → (E.addObj S.objs.length w.heap.size).mu o = E.mu o := fun o ho => by
    show (if o = S.objs.length then w.heap.size else E.mu o) = E.mu o
    rw [if_neg (by omega)]
  have hmun : (E.addObj S.objs.length w.heap.size).mu S.objs.length = w.heap.size := by
    show (if S.objs.length = S.objs.length then w.heap.size else E.mu S.objs.length) = _
    rw [if_pos rfl]
  have ev : Evolves E S w (E.addObj S.objs.length w.heap.size) (S.push cs) (w.alloc (.cells cur e)) :=
    ⟨rfl, rfl, rfl, by simp, fun b hb => ⟨hb, heap_of_alloc_old _ _ _ (h.ro_lt b hb)⟩, by simp [ASt.push], hmu, Nat.le_refl _,
      fun t _ hl => ⟨hl, ⟨rfl, rfl⟩, fun b hb => heap_of_alloc_old _ _ _ (h.tok t b hl hb).1⟩,
      fun o h1 h2 => by
        have : o = S.objs.length := by simp [ASt.push] at h2; omega
        subst this; rw [hmun]; exact Nat.le_refl _,
      fun t _ h1 h2 => absurd (h.live_lt t h2) (by omega), fun b hb => .inl (heap_of_alloc_old _ _ _ hb)⟩
  refine ⟨ev, ⟨?_, ?_, ?_, ?_, ?_, h.tok_inj, h.live_lt⟩⟩
  · intro b hb; have := h.ro_lt b hb; simp; omega
  · intro o cs' hcs'
    by_cases ho : o < S.objs.length
    · have : S.objs[o]? = some cs' := by
        have hq : (S.objs ++ [cs])[o]? = some cs' := hcs'
        rwa [List.getElem?_append_left ho] at hq
      obtain ⟨cur', e', h1, h2, h3⟩ := h.obj o cs' this
      refine ⟨cur', e', ?_, h2, fun i u hu => ⟨(h3 i u hu).1, (h3 i u hu).2.mono ev⟩⟩
      rw [hmu o ho, heap_of_alloc_old _ _ _ (Array.getElem?_eq_some_iff.1 h1).1]; exact h1
    · have ho' : o = S.objs.length := by
        have hq := (List.getElem?_eq_some_iff.1 hcs').1
        simp [ASt.push] at hq; omega
      subst ho'
      have : cs' = cs := by
        have hq : (S.objs ++ [cs])[S.objs.length]? = some cs' := hcs'
        simp at hq; exact hq.symm
      subst this
      refine ⟨cur, e, ?_, hl, fun i u hu => ⟨(hc i u hu).1, (hc i u hu).2.mono ev⟩⟩
      rw [hmun]; exact heap_of_alloc_new _ _
  · intro o ho hro
    by_cases ho' : o < S.objs.length
    · rw [hmu o ho'] at hro; exact h.obj_ro o ho' hro
    · have : o = S.objs.length := by simp [ASt.push] at ho; omega
      subst this; rw [hmun] at hro
      have := h.ro_lt _ hro; omega
  · intro o o' ho ho' hm
    by_cases h1 : o < S.objs.length <;> by_cases h2 : o' < S.objs.length
    · rw [hmu o h1, hmu o' h2] at hm; exact h.obj_inj o o' h1 h2 hm
    · have : o' = S.objs.length := by simp [ASt.push] at ho'; omega
      subst this; rw [hmu o h1, hmun] at hm; have := h.mu_lt h1; omega
    · have : o = S.objs.length := by simp [ASt.push] at ho; omega
      subst this; rw [hmu o' h2, hmun] at hm; have := h.mu_lt h2; omega
    · simp [ASt.push] at ho ho'; omega
  · intro t b hl' hb
    obtain ⟨a1, a2, a3⟩ := h.tok t b hl' hb
    refine ⟨by simp; omega, a2, fun o ho => ?_⟩
    by_cases ho' : o < S.objs.length
    · rw [hmu o ho']; exact a3 o ho'
    · have : o = S.objs.length := by simp [ASt.push] at ho; omega
      subst this; rw [hmun]; omega

/-- A token for a new block, or for none. -/
theorem step_tok {E : Env} {S : ASt} {w : World} (h : Rel E S w) (o : Obj) :
    Evolves E S w (E.addTok S.next (some w.heap.size) 0) S.fresh (w.alloc o) ∧ Rel (E.addTok S.next (some w.heap.size) 0) S.fresh (w.alloc o) := by
  have hbe : ∀ t, t ≠ S.next → (E.addTok S.next (some w.heap.size) 0).be t = E.be t := fun t ht => by
    show (if t = S.next then _ else E.be t) = _; rw [if_neg ht]
  have hof : ∀ t, t ≠ S.next → (E.addTok S.next (some w.heap.size) 0).off t = E.off t := fun t ht => by
    show (if t = S.next then _ else E.off t) = _; rw [if_neg ht]
  have hben : (E.addTok S.next (some w.heap.size) 0).be S.next = some w.heap.size := by
    show (if S.next = S.next then _ else _) = _; rw [if_pos rfl]
  have hlv : ∀ t, t ≠ S.next → S.fresh.live t = S.live t := fun t ht => by
    show (if t = S.next then true else S.live t) = _; rw [if_neg ht]
  have ev : Evolves E S w (E.addTok S.next (some w.heap.size) 0) S.fresh (w.alloc o) :=
    ⟨rfl, rfl, rfl, by simp, fun b hb => ⟨hb, heap_of_alloc_old _ _ _ (h.ro_lt b hb)⟩, Nat.le_refl _, fun _ _ => rfl, Nat.le_succ _,
      fun t ht hl => by
        have hl' : S.live t = true := by rw [← hlv t (by omega)]; exact hl
        exact ⟨hl', ⟨hbe t (by omega), hof t (by omega)⟩, fun b hb => heap_of_alloc_old _ _ _ (h.tok t b hl' hb).1⟩,
      fun _ h1 h2 => absurd h1 (by have : S.fresh.objs.length = S.objs.length := rfl; omega),
      fun t b h1 h2 h3 => by
        by_cases ht : t = S.next
        · subst ht; rw [hben] at h3; cases h3; exact .inl (Nat.le_refl _)
        · rw [hlv t ht] at h2; exact absurd (h.live_lt t h2) (by omega),
      fun b hb => .inl (heap_of_alloc_old _ _ _ hb)⟩
  refine ⟨ev, ⟨?_, ?_, h.obj_ro, h.obj_inj, ?_, ?_, ?_⟩⟩
  · intro b hb; have := h.ro_lt b hb; simp; omega
  · intro o' cs hcs
    obtain ⟨cur, e, h1, h2, h3⟩ := h.obj o' cs hcs
    refine ⟨cur, e, ?_, h2, fun i u hu => ⟨(h3 i u hu).1, (h3 i u hu).2.mono ev⟩⟩
    show (w.alloc o).heap[E.mu o']? = _
    rw [heap_of_alloc_old _ _ _ (Array.getElem?_eq_some_iff.1 h1).1]; exact h1
  · intro t b hl hb
    by_cases ht : t = S.next
    · subst ht; rw [hben] at hb; cases hb
      refine ⟨by simp, fun hro => ?_, fun o' ho' => ?_⟩
      · have := h.ro_lt _ hro; omega
      · have := h.mu_lt (o := o') ho'
        show E.mu o' ≠ _
        omega
    · rw [hlv t ht] at hl; rw [hbe t ht] at hb
      obtain ⟨a1, a2, a3⟩ := h.tok t b hl hb
      exact ⟨by simp; omega, a2, a3⟩
  · intro t t' b hl hl' hb hb'
    by_cases ht : t = S.next <;> by_cases ht' : t' = S.next
    · omega
    · subst ht; rw [hben] at hb; cases hb; rw [hlv t' ht'] at hl'; rw [hbe t' ht'] at hb'
      have := (h.tok t' _ hl' hb').1; omega
    · subst ht'; rw [hben] at hb'; cases hb'; rw [hlv t ht] at hl; rw [hbe t ht] at hb
      have := (h.tok t _ hl hb).1; omega
    · rw [hlv t ht] at hl; rw [hlv t' ht'] at hl'; rw [hbe t ht] at hb; rw [hbe t' ht'] at hb'
      exact h.tok_inj t t' b hl hl' hb hb'
  · intro t hl
    by_cases ht : t = S.next
    · subst ht; exact Nat.lt_succ_self _
    · rw [hlv t ht] at hl; exact Nat.lt_succ_of_lt (h.live_lt t hl)

/-- A token for no block at all. -/
theorem step_tok_nil {E : Env} {S : ASt} {w : World} (h : Rel E S w) :
    Evolves E S w (E.addTok S.next none 0) S.fresh w ∧ Rel (E.addTok S.next none 0) S.fresh w := by
  have hbe : ∀ t, t ≠ S.next → (E.addTok S.next none 0).be t = E.be t := fun t ht => by
    show (if t = S.next then _ else E.be t) = _; rw [if_neg ht]
  have hof : ∀ t, t ≠ S.next → (E.addTok S.next none 0).off t = E.off t := fun t ht => by
    show (if t = S.next then _ else E.off t) = _; rw [if_neg ht]
  have hben : (E.addTok S.next none 0).be S.next = none := by
    show (if S.next = S.next then _ else _) = _; rw [if_pos rfl]
  have hlv : ∀ t, t ≠ S.next → S.fresh.live t = S.live t := fun t ht => by
    show (if t = S.next then true else S.live t) = _; rw [if_neg ht]
  have ev : Evolves E S w (E.addTok S.next none 0) S.fresh w :=
    ⟨rfl, rfl, rfl, Nat.le_refl _, fun b hb => ⟨hb, rfl⟩, Nat.le_refl _, fun _ _ => rfl, Nat.le_succ _,
      fun t ht hl => by
        have hl' : S.live t = true := by rw [← hlv t (by omega)]; exact hl
        exact ⟨hl', ⟨hbe t (by omega), hof t (by omega)⟩, fun b hb => rfl⟩,
      fun _ h1 h2 => absurd h1 (by have : S.fresh.objs.length = S.objs.length := rfl; omega),
      fun t b h1 h2 h3 => by
        by_cases ht : t = S.next
        · subst ht; rw [hben] at h3; cases h3
        · rw [hlv t ht] at h2; exact absurd (h.live_lt t h2) (by omega),
      fun b hb => .inl rfl⟩
  refine ⟨ev, ⟨h.ro_lt, ?_, h.obj_ro, h.obj_inj, ?_, ?_, ?_⟩⟩
  · intro o' cs hcs
    obtain ⟨cur, e, h1, h2, h3⟩ := h.obj o' cs hcs
    exact ⟨cur, e, h1, h2, fun i u hu => ⟨(h3 i u hu).1, (h3 i u hu).2.mono ev⟩⟩
  · intro t b hl hb
    by_cases ht : t = S.next
    · subst ht; rw [hben] at hb; cases hb
    · rw [hlv t ht] at hl; rw [hbe t ht] at hb
      exact h.tok t b hl hb
  · intro t t' b hl hl' hb hb'
    by_cases ht : t = S.next
    · subst ht; rw [hben] at hb; cases hb
    · by_cases ht' : t' = S.next
      · subst ht'; rw [hben] at hb'; cases hb'
      · rw [hlv t ht] at hl; rw [hlv t' ht'] at hl'; rw [hbe t ht] at hb; rw [hbe t' ht'] at hb'
        exact h.tok_inj t t' b hl hl' hb hb'
  · intro t hl
    by_cases ht : t = S.next
    · subst ht; exact Nat.lt_succ_self _
    · rw [hlv t ht] at hl; exact Nat.lt_succ_of_lt (h.live_lt t hl)

theorem kill_live {S : ASt} {t x : Nat} (h : (S.kill t).live x = true) : x ≠ t ∧ S.live x = true := by
  have h' : (if x = t then false else S.live x) = true := h
  by_cases hx : x = t
  · rw [if_pos hx] at h'; cases h'
  · rw [if_neg hx] at h'; exact ⟨hx, h'⟩

/-- A token is given up, and its block may be written. -/
theorem step_kill {E : Env} {S : ASt} {w w' : World} (h : Rel E S w) (t : Nat) (ht : S.live t = true)
    (ho : w'.os = w.os) (htp : w'.tape = w.tape) (hp : w'.output = w.output) (hs : w'.heap.size = w.heap.size)
    (hb : ∀ b, E.be t ≠ some b → w'.heap[b]? = w.heap[b]?) :
    Evolves E S w E (S.kill t) w' ∧ Rel E (S.kill t) w' := by
  have hro : ∀ b, E.ro b → w'.heap[b]? = w.heap[b]? := fun b hr => hb b (fun he => (h.tok t b ht he).2.1 hr)
  have hobj : ∀ o, o < S.objs.length → w'.heap[E.mu o]? = w.heap[E.mu o]? := fun o hol => hb _ (fun he => (h.tok t _ ht he).2.2 o hol rfl)
  have ev : Evolves E S w E (S.kill t) w' :=
    ⟨ho, htp, hp, by omega, fun b hr => ⟨hr, hro b hr⟩, Nat.le_refl _, fun _ _ => rfl, Nat.le_refl _,
      fun t' _ hl => by
        obtain ⟨h1, h2⟩ := kill_live hl
        exact ⟨h2, ⟨rfl, rfl⟩, fun b hbb => hb b (fun he => h1 (h.tok_inj t' t b h2 ht hbb he))⟩,
      fun _ h1 h2 => absurd h1 (by have : (S.kill t).objs.length = S.objs.length := rfl; omega),
      fun t' _ h1 h2 => absurd (h.live_lt t' (kill_live h2).2) (by omega),
      fun b _ => by
        by_cases he : E.be t = some b
        · exact .inr (.inr ⟨t, ht, he⟩)
        · exact .inl (hb b he)⟩
  refine ⟨ev, ⟨?_, ?_, h.obj_ro, h.obj_inj, ?_, ?_, ?_⟩⟩
  · intro b hr; rw [hs]; exact h.ro_lt b hr
  · intro o' cs hcs
    obtain ⟨cur, e, h1, h2, h3⟩ := h.obj o' cs hcs
    exact ⟨cur, e, (hobj o' (List.getElem?_eq_some_iff.1 hcs).1).trans h1, h2, fun i u hu => ⟨(h3 i u hu).1, (h3 i u hu).2.mono ev⟩⟩
  · intro t' b hl hbb; rw [hs]; exact h.tok t' b (kill_live hl).2 hbb
  · intro t1 t2 b h1 h2 hb1 hb2; exact h.tok_inj t1 t2 b (kill_live h1).2 (kill_live h2).2 hb1 hb2
  · intro t' hl; exact h.live_lt t' (kill_live hl).2

/-- A token is given up, its block written, and a fresh token takes the block over. -/
theorem step_pass {E : Env} {S : ASt} {w w' : World} (h : Rel E S w) (t : Nat) (ht : S.live t = true)
    (ho : w'.os = w.os) (htp : w'.tape = w.tape) (hp : w'.output = w.output) (hs : w'.heap.size = w.heap.size)
    (hb : ∀ b, E.be t ≠ some b → w'.heap[b]? = w.heap[b]?) :
    Evolves E S w (E.addTok S.next (E.be t) (E.off t)) (S.kill t).fresh w' ∧ Rel (E.addTok S.next (E.be t) (E.off t)) (S.kill t).fresh w' := by
  obtain ⟨ev1, h1⟩ := step_kill h t ht ho htp hp hs hb
  have hnx : (S.kill t).next = S.next := rfl
  have hbe : ∀ x, x ≠ S.next → (E.addTok S.next (E.be t) (E.off t)).be x = E.be x := fun x hx => by
    show (if x = S.next then _ else E.be x) = _; rw [if_neg hx]
  have hof : ∀ x, x ≠ S.next → (E.addTok S.next (E.be t) (E.off t)).off x = E.off x := fun x hx => by
    show (if x = S.next then _ else E.off x) = _; rw [if_neg hx]
  have hben : (E.addTok S.next (E.be t) (E.off t)).be S.next = E.be t := by
    show (if S.next = S.next then _ else _) = _; rw [if_pos rfl]
  have hlv : ∀ x, x ≠ S.next → (S.kill t).fresh.live x = (S.kill t).live x := fun x hx => by
    show (if x = (S.kill t).next then true else (S.kill t).live x) = _; rw [if_neg (by rw [hnx]; exact hx)]
  have ev : Evolves E S w (E.addTok S.next (E.be t) (E.off t)) (S.kill t).fresh w' :=
    ⟨ho, htp, hp, by omega, fun b hr => ⟨hr, (ev1.ro b hr).2⟩, Nat.le_refl _, fun _ _ => rfl, Nat.le_succ _,
      fun x hx hl => by
        have hl' : (S.kill t).live x = true := by rw [← hlv x (by omega)]; exact hl
        obtain ⟨a1, a2, a3⟩ := ev1.tok x hx hl'
        exact ⟨a1, ⟨hbe x (by omega), hof x (by omega)⟩, a3⟩,
      fun _ h1 h2 => absurd h1 (by have : (S.kill t).fresh.objs.length = S.objs.length := rfl; omega),
      fun x b hx hl hb' => by
        by_cases he : x = S.next
        · subst he; rw [hben] at hb'; exact .inr ⟨t, ht, hb'⟩
        · rw [hlv x he] at hl; exact absurd (h.live_lt x (kill_live hl).2) (by omega),
      fun b hb' => ev1.old b hb'⟩
  refine ⟨ev, ⟨h1.ro_lt, ?_, h.obj_ro, h.obj_inj, ?_, ?_, ?_⟩⟩
  · intro o' cs hcs
    obtain ⟨cur, e, g1, g2, g3⟩ := h.obj o' cs hcs
    refine ⟨cur, e, ?_, g2, fun i u hu => ⟨(g3 i u hu).1, (g3 i u hu).2.mono ev⟩⟩
    show w'.heap[E.mu o']? = _
    rw [hb _ (fun he => (h.tok t _ ht he).2.2 o' (List.getElem?_eq_some_iff.1 hcs).1 rfl)]; exact g1
  · intro x b hl hb'
    by_cases he : x = S.next
    · subst he; rw [hben] at hb'
      obtain ⟨a1, a2, a3⟩ := h.tok t b ht hb'
      exact ⟨by omega, a2, a3⟩
    · rw [hlv x he] at hl; rw [hbe x he] at hb'
      exact h1.tok x b hl hb'
  · intro x y b hx hy hbx hby
    by_cases ex : x = S.next <;> by_cases ey : y = S.next
    · omega
    · subst ex; rw [hben] at hbx; rw [hlv y ey] at hy; rw [hbe y ey] at hby
      exact absurd (h.tok_inj y t b (kill_live hy).2 ht hby hbx) (kill_live hy).1
    · subst ey; rw [hben] at hby; rw [hlv x ex] at hx; rw [hbe x ex] at hbx
      exact absurd (h.tok_inj x t b (kill_live hx).2 ht hbx hby) (kill_live hx).1
    · rw [hlv x ex] at hx; rw [hlv y ey] at hy; rw [hbe x ex] at hbx; rw [hbe y ey] at hby
      exact h1.tok_inj x y b hx hy hbx hby
  · intro x hl
    by_cases he : x = S.next
    · subst he; exact Nat.lt_succ_self _
    · rw [hlv x he] at hl; exact Nat.lt_succ_of_lt (h.live_lt x (kill_live hl).2)

/-- An object is written. -/
theorem step_put {E : Env} {S : ASt} {w : World} (h : Rel E S w) (o : Nat) (cs cs' : List AV) (cur cur' : Array Value) (e : TypeId)
    (ho : S.objs[o]? = some cs) (hc : w.heap[E.mu o]? = some (.cells cur e (0, 0))) (hl : cs'.length = cs.length) (hl' : cur'.size = cs'.length)
    (hv : ∀ i u, cs'[i]? = some u → u.one = true ∧ VRel E S w u (cur'.getD i undef)) :
    Evolves E S w E (S.put o cs') (w.setRow (E.mu o) cur') ∧ Rel E (S.put o cs') (w.setRow (E.mu o) cur') := by
  have hol : o < S.objs.length := (List.getElem?_eq_some_iff.1 ho).1
  have hlen : (S.put o cs').objs.length = S.objs.length := by simp [ASt.put]
  have hne : ∀ b, b ≠ E.mu o → (w.setRow (E.mu o) cur').heap[b]? = w.heap[b]? := fun b hb => setRow_other w _ b _ hb
  have ev : Evolves E S w E (S.put o cs') (w.setRow (E.mu o) cur') :=
    ⟨rfl, rfl, rfl, by simp, fun b hr => ⟨hr, hne b (fun he => h.obj_ro o hol (he ▸ hr))⟩, by omega, fun _ _ => rfl, Nat.le_refl _,
      fun t _ hl => ⟨hl, ⟨rfl, rfl⟩, fun b hb => hne b (fun he => (h.tok t b hl hb).2.2 o hol he.symm)⟩,
      fun _ h1 h2 => absurd h1 (by omega), fun t _ h1 h2 => absurd (h.live_lt t h2) (by omega),
      fun b _ => by
        by_cases he : b = E.mu o
        · exact .inr (.inl ⟨o, hol, he.symm⟩)
        · exact .inl (hne b he)⟩
  refine ⟨ev, ⟨?_, ?_, ?_, ?_, ?_, h.tok_inj, h.live_lt⟩⟩
  · intro b hr; have := h.ro_lt b hr; simpa using this
  · intro o' ds hds
    have hds' : (S.objs.set o cs')[o']? = some ds := hds
    by_cases he : o' = o
    · subst he
      rw [List.getElem?_set_self hol] at hds'
      cases hds'
      exact ⟨cur', e, setRow_heap w _ cur cur' e (0, 0) hc, hl', fun i u hu => ⟨(hv i u hu).1, (hv i u hu).2.mono ev⟩⟩
    · rw [List.getElem?_set_ne (Ne.symm he)] at hds'
      obtain ⟨c1, e1, g1, g2, g3⟩ := h.obj o' ds hds'
      have hol' := (List.getElem?_eq_some_iff.1 hds').1
      refine ⟨c1, e1, ?_, g2, fun i u hu => ⟨(g3 i u hu).1, (g3 i u hu).2.mono ev⟩⟩
      rw [hne _ (fun hm => he (h.obj_inj o' o hol' hol hm))]; exact g1
  · intro o' ho'; exact h.obj_ro o' (by omega)
  · intro o1 o2 h1 h2; exact h.obj_inj o1 o2 (by omega) (by omega)
  · intro t b hl hb
    obtain ⟨a1, a2, a3⟩ := h.tok t b hl hb
    exact ⟨by simpa using a1, a2, fun o' ho' => a3 o' (by omega)⟩
end Go.Proofs.Ythpomdoaiibnfaa.Abs

namespace Go.Proofs.Ythpomdoaiibnfaa.Abs
open Go Go.RowKit
set_option linter.unusedVariables false

def ofV1 : Value → AV
  | .bool b => .bool b
  | .int k n => .int k n
  | .string s => .str s.data.toList
  | .pointer none => .ptr none
  | .slice none 0 0 => .sl .nil 0 []
  | .nilFunc => .nilFunc
  | .nilIface => .nilIface
  | _ => .top
def ofV : Value → AV
  | .agg cs => if cs.toList.all (fun c => (ofV1 c).one) then .agg (cs.toList.map ofV1) else .top
  | v => ofV1 v
def ev (F : List AV) : Operand → AV
  | .tmp t => F.getD t .top
  | .const v => ofV v
  | .global _ => .top
  | .func f => .func f

def FRel (E : Env) (S : ASt) (w : World) (F : List AV) (tmps : Array Value) : Prop :=
  F.length = tmps.size ∧ ∀ i, VRel E S w (F.getD i .top) (tmps.getD i undef)

theorem FRel.mono {E E' : Env} {S S' : ASt} {w w' : World} (h : Evolves E S w E' S' w') {F : List AV} {tmps : Array Value} (hF : FRel E S w F tmps) : FRel E' S' w' F tmps :=
  ⟨hF.1, fun i => (hF.2 i).mono h⟩

theorem FRel.set {E : Env} {S : ASt} {w : World} {F : List AV} {tmps : Array Value} (hF : FRel E S w F tmps) (d : Nat) {v : AV} {cv : Value} (h : VRel E S w v cv) :
    FRel E S w (F.set d v) (tmps.setIfInBounds d cv) := by
  refine ⟨by simp [hF.1], fun i => ?_⟩
  have hi := hF.2 i
  by_cases hd : d = i
  · subst hd
    by_cases hlt : d < F.length
    · have hlt' : d < tmps.size := hF.1 ▸ hlt
      simpa [List.getD, hlt, Array.getD, hlt'] using h
    · have hlt' : ¬ d < tmps.size := hF.1 ▸ hlt
      have e1 : F.set d v = F := List.set_eq_of_length_le (by omega)
      have e2 : tmps.setIfInBounds d cv = tmps := by simp [Array.setIfInBounds, hlt']
      rw [e1, e2]; exact hi
  · have e1 : (F.set d v).getD i .top = F.getD i .top := by simp [List.getD, List.getElem?_set_ne hd]
    have e2 : (tmps.setIfInBounds d cv).getD i undef = tmps.getD i undef := by
      simp only [Array.getD_eq_getD_getElem?, Array.getElem?_setIfInBounds, hd, if_false]
    rw [e1, e2]; exact hi

theorem ofV1_rel (E : Env) (S : ASt) (w : World) (v : Value) : VRel E S w (ofV1 v) v := by
  unfold ofV1
  split
  · exact .bool _
  · exact .int _ _
  · rename_i s
    have := VRel.str (E := E) (S := S) (w := w) s.data.toList
    simpa using this
  · exact .pnil
  · exact .sl_nil 0
  · exact .nilFunc
  · exact .nilIface
  · exact .top _

theorem ofV_rel (E : Env) (S : ASt) (w : World) (v : Value) : VRel E S w (ofV v) v := by
  unfold ofV
  split
  · rename_i cs
    split
    · rename_i h
      have h' : ∀ x, x ∈ cs.toList → (ofV1 x).one = true := by
        intro x hx; exact (List.all_eq_true.1 h) x hx
      refine .agg _ _ (by simp) ?_ ?_
      · intro u hu
        obtain ⟨x, hx, rfl⟩ := List.mem_map.1 hu
        exact h' x hx
      · intro i u hu
        rw [List.getElem?_map] at hu
        cases hq : cs.toList[i]? with
        | none => rw [hq] at hu; simp at hu
        | some x =>
          rw [hq] at hu
          simp only [Option.map_some, Option.some.injEq] at hu
          subst hu
          have : cs.getD i undef = x := by
            simp only [Array.getD_eq_getD_getElem?]
            rw [← Array.getElem?_toList, hq]; rfl
          rw [this]; exact ofV1_rel E S w x
    · exact .top _
  · exact ofV1_rel E S w v

theorem ev_rel {E : Env} {S : ASt} {w : World} {F : List AV} {a : Act} (hF : FRel E S w F a.tmps) (x : Operand) : VRel E S w (ev F x) (a.eval x) := by
  cases x with
  | tmp t => exact hF.2 t
  | const v => exact ofV_rel E S w v
  | global g => exact .top _
  | func f => exact .func f

/-! ### closed facts of a program -/
def szA (P : Program) (t : TypeId) : Option Nat := (P.info? t).map (·.size)
def byA (P : Program) (t : TypeId) : Option Nat := (P.info? t).map (·.bytes)
def zeroA (P : Program) (t : TypeId) : Option (List AV) :=
  match P.info? t with
  | some i =>
    match i.zero with
    | some z =>
      let cs := z.cells.toList.map ofV1
      if cs.all AV.one && cs.length == i.size then some cs else none
    | none => none
  | none => none
def aggT (P : Program) (t : TypeId) : Option Bool :=
  match P.underlying t with
  | some (.struct _) => some true
  | some (.array _ _) => some true
  | some _ => some false
  | none => none
def fieldA (P : Program) (s : TypeId) (f : Nat) : Option Nat :=
  match P.underlying s with
  | some (.struct fs) =>
    match fs[f]? with
    | some fl =>
      match P.info? fl.type with
      | some i => if i.size = 0 then none else some fl.offset
      | none => none
    | none => none
  | _ => none
def placesA (P : Program) (t : TypeId) : Option (List (Nat × Nat)) :=
  match P.underlying t with
  | some (.struct fs) => fs.toList.mapM (fun f => (P.info? f.type).map fun i => (f.offset, i.size))
  | _ => none
def sliceT (P : Program) (t : TypeId) : Option TypeId :=
  match P.underlying t with
  | some (.slice e) => some e
  | _ => none
def arrT (P : Program) (t : TypeId) : Option (Nat × TypeId) :=
  match P.underlying t with
  | some (.array n e) => some (n, e)
  | _ => none
def intT (P : Program) (t : TypeId) : Option IntKind :=
  match P.underlying t with
  | some (.int k) => some k
  | _ => none
def isStrT (P : Program) (t : TypeId) : Bool :=
  match P.underlying t with
  | some .string => true
  | _ => false
def isBoolT (P : Program) (t : TypeId) : Bool :=
  match P.underlying t with
  | some .bool => true
  | _ => false
def isPtrT (P : Program) (t : TypeId) : Bool :=
  match P.underlying t with
  | some (.pointer _) => true
  | _ => false
def isIfaceT (P : Program) (t : TypeId) : Option Bool :=
  match P.underlying t with
  | some (.interface _) => some true
  | some _ => some false
  | none => none
def methA (P : Program) (t : TypeId) (name : String) : Option FuncId :=
  match P.info? t with
  | some i =>
    match i.methods.find? (·.name == name) with
    | some m =>
      if m.path.isEmpty then
        match m.func with
        | some (f, pr) => if pr == isPtrT P t && (P.underlying t).isSome then some f else none
        | none => none
      else none
    | none => none
  | none => none
def enterA (P : Program) (f : FuncId) : Bool :=
  match P.funcs[f]? with
  | some fn => fn.body.isSome && !(fn.name == "runtime.NumGoroutine")
  | none => false
/-- A struct or an array of plain one-cell parts: bools, integers, strings. -/
def plainT (P : Program) (t : TypeId) : Bool := isBoolT P t || (intT P t).isSome || isStrT P t

/-! ### calls -/
def ArgsRel (E : Env) (S : ASt) (w : World) (args : List AV) (cargs : Array Value) : Prop :=
  cargs.size = args.length ∧ ∀ i, i < args.length → VRel E S w (args.getD i .top) (cargs.getD i undef)

def CallPost (E : Env) (S : ASt) (w : World) (K : AV → ASt → Prop) (e : Ending) (w' : World) : Prop :=
  ∃ v cv E' S', e = .returned cv ∧ Evolves E S w E' S' w' ∧ Rel E' S' w' ∧ VRel E' S' w' v cv ∧ K v S'

def ACalls (P : Program) (f : FuncId) (args : List AV) (S : ASt) (K : AV → ASt → Prop) : Prop :=
  enterA P f = true ∧ ∀ E w cargs, Rel E S w → ArgsRel E S w args cargs → Calls P f cargs w (CallPost E S w K)

theorem ACalls.mono {P : Program} {f : FuncId} {args : List AV} {S : ASt} {K K' : AV → ASt → Prop} (h : ACalls P f args S K) (hk : ∀ v S', K v S' → K' v S') :
    ACalls P f args S K' :=
  ⟨h.1, fun E w cargs hR hA => (h.2 E w cargs hR hA).mono fun e w' ⟨v, cv, E', S', h1, h2, h3, h4, h5⟩ => ⟨v, cv, E', S', h1, h2, h3, h4, hk v S' h5⟩⟩

/-! ### operations -/
structure Modes where
  own : Nat → Bool := fun _ => false
  rb : Nat → Option Nat := fun _ => none
  ord : Nat → List Nat := fun _ => []

def rdA (S : ASt) : Own → Prop
  | .nil => True
  | .ro => True
  | .own t => S.live t = true
  | .sub t => S.live t = true
def AV.cell : AV → Nat → AV
  | .agg cs, j => cs.getD j .top
  | v, _ => v
def AV.putCell : AV → Nat → AV → AV
  | .agg cs, j, v => .agg (cs.set j v)
  | _, _, v => v
def AV.box : AV → Bool
  | .agg _ => true
  | v => v.one
def AV.isU8 : AV → Bool
  | .int .u8 _ => true
  | _ => false
def AV.byte : AV → UInt8
  | .int _ n => UInt8.ofNat n.toNat
  | _ => 0
def setA (cs : List AV) (i : Nat) (vs : List AV) : List AV :=
  if vs.length = 1 then cs.set i (vs.getD 0 .top) else cs.take i ++ vs ++ cs.drop (i + vs.length)
def fillA (places : List (Nat × Nat)) : List AV → List (Nat × AV) → Option (List AV)
  | cs, [] => some cs
  | cs, (i, v) :: rest =>
    match places[i]? with
    | some (off, size) =>
      if v.box && (v.cells.length == size && decide (off + size ≤ cs.length)) then fillA places (cs.take off ++ v.cells ++ cs.drop (off + size)) rest else none
    | none => none
def fillS (sz : Nat) : List AV → List (Nat × AV) → Option (List AV)
  | xs, [] => some xs
  | xs, (i, v) :: rest => if v.box && (v.cells.length == sz && decide (i < xs.length)) then fillS sz (xs.set i v) rest else none
def elemA (ag : Bool) (z : List AV) : AV := if ag then .agg z else z.getD 0 .top
def AV.eq1 : AV → AV → Bool
  | .bool a, .bool b => a == b
  | .int _ a, .int _ b => a == b
  | .str a, .str b => a == b
  | _, _ => false
def AV.sort : AV → Nat
  | .bool _ => 1
  | .int .i8 _ => 2 | .int .i16 _ => 3 | .int .i32 _ => 4 | .int .i64 _ => 5 | .int .u8 _ => 6 | .int .u16 _ => 7 | .int .u32 _ => 8 | .int .u64 _ => 9
  | .str _ => 10
  | _ => 0
def eqL : List AV → List AV → Bool
  | x :: xs, y :: ys => x.eq1 y && eqL xs ys
  | [], [] => true
  | _, _ => false

def intA (op : BinOp) (k k' : IntKind) (x y : Int) (K : AV → Prop) : Prop :=
  match op with
  | .shl => 0 ≤ y ∧ K (.int k (k.wrap (x * 2 ^ (min y.toNat k.bits))))
  | .shr => 0 ≤ y ∧ K (.int k (x.fdiv (2 ^ (min y.toNat k.bits))))
  | .add => k = k' ∧ K (.int k (k.wrap (x + y)))
  | .sub => k = k' ∧ K (.int k (k.wrap (x - y)))
  | .mul => k = k' ∧ K (.int k (k.wrap (x * y)))
  | .quo => k = k' ∧ y ≠ 0 ∧ K (.int k (k.wrap (x.tdiv y)))
  | .rem => k = k' ∧ y ≠ 0 ∧ K (.int k (x.tmod y))
  | .and => k = k' ∧ K (.int k (k.wrap (BitVec.ofInt k.bits x &&& BitVec.ofInt k.bits y).toNat))
  | .or => k = k' ∧ K (.int k (k.wrap (BitVec.ofInt k.bits x ||| BitVec.ofInt k.bits y).toNat))
  | .xor => k = k' ∧ K (.int k (k.wrap (BitVec.ofInt k.bits x ^^^ BitVec.ofInt k.bits y).toNat))
  | .eql => k = k' ∧ K (.bool (x == y))
  | .neq => k = k' ∧ K (.bool (x != y))
  | .lss => k = k' ∧ K (.bool (decide (x < y)))
  | .leq => k = k' ∧ K (.bool (decide (x ≤ y)))
  | .gtr => k = k' ∧ K (.bool (decide (y < x)))
  | .geq => k = k' ∧ K (.bool (decide (y ≤ x)))
  | _ => False

def strA (op : BinOp) (x y : List UInt8) (K : AV → Prop) : Prop :=
  match op with
  | .add => x.length + y.length ≤ 1073741824 ∧ K (.str (x ++ y))
  | .eql => K (.bool (x == y))
  | .neq => K (.bool (!(x == y)))
  | _ => False

def nilSlA (S : ASt) (o : Own) (xs : List AV) (K : Bool → Prop) : Prop :=
  match o, xs with
  | .nil, _ => K true
  | _, _ :: _ => rdA S o ∧ K false
  | _, _ => K true ∧ K false

/-- Field types of a flat struct, or of an array. -/
def flatT (P : Program) (t : TypeId) : Option (List (Nat × TypeId)) :=
  match P.underlying t with
  | some (.struct fs) =>
    if fs.toList.all (fun f => plainT P f.type && !(f.name == "_")) && !P.stoodInHeld t && !P.eqGuardType P.depth t then some (fs.toList.map fun f => (f.offset, f.type)) else none
  | some (.array n e) =>
    if plainT P e && szA P e == some 1 && !P.eqGuardType P.depth t then some ((List.range n).map fun i => (i, e)) else none
  | _ => none
def sortT (P : Program) (t : TypeId) : Nat :=
  match P.underlying t with
  | some .bool => 1
  | some (.int .i8) => 2 | some (.int .i16) => 3 | some (.int .i32) => 4 | some (.int .i64) => 5 | some (.int .u8) => 6 | some (.int .u16) => 7 | some (.int .u32) => 8 | some (.int .u64) => 9
  | some .string => 10
  | _ => 0
def sortsA (P : Program) (t : TypeId) : Option (List Nat) :=
  match flatT P t with
  | some l => if l.map (·.1) == List.range l.length then some (l.map fun x => sortT P x.2) else none
  | none => none

def binA (P : Program) (op : BinOp) (t : TypeId) (a b : AV) (K : AV → Prop) : Prop :=
  match op, a, b with
  | op, .int k x, .int k' y => intA op k k' x y K
  | op, .str x, .str y => strA op x y K
  | .eql, .bool x, .bool y => isBoolT P t = true ∧ K (.bool (x == y))
  | .neq, .bool x, .bool y => isBoolT P t = true ∧ K (.bool (!(x == y)))
  | .eql, .ptr p, .ptr none => isPtrT P t = true ∧ K (.bool p.isNone)
  | .neq, .ptr p, .ptr none => isPtrT P t = true ∧ K (.bool (!p.isNone))
  | .eql, .agg xs, .agg ys => sortsA P t = some (xs.map AV.sort) ∧ xs.map AV.sort = ys.map AV.sort ∧ K (.bool (eqL xs ys))
  | .neq, .agg xs, .agg ys => sortsA P t = some (xs.map AV.sort) ∧ xs.map AV.sort = ys.map AV.sort ∧ K (.bool (!eqL xs ys))
  | _, _, _ => False

def isNilC : Operand → Bool
  | .const (.slice none 0 0) => true
  | _ => false
def nilA (P : Program) (op : BinOp) (t : TypeId) (a : AV) (S : ASt) (K : AV → Prop) : Prop :=
  match op, a with
  | .eql, .sl o _ xs => (sliceT P t).isSome = true ∧ nilSlA S o xs (fun b => K (.bool b))
  | .neq, .sl o _ xs => (sliceT P t).isSome = true ∧ nilSlA S o xs (fun b => K (.bool (!b)))
  | _, _ => False

def convA (P : Program) (src dst : TypeId) (x : AV) (S : ASt) (K : AV → Prop) : Prop :=
  match x with
  | .int _ n => match intT P dst with
    | some k => (P.underlying src).isSome = true ∧ K (.int k (k.wrap n))
    | none => False
  | .str l =>
    match isStrT P src, isStrT P dst, sliceT P dst with
    | true, true, _ => K (.str l)
    | true, false, some e => intT P e = some .u8 ∧ K (.sl .ro 1 (l.map fun b => .int .u8 b.toNat))
    | _, _, _ => False
  | .sl o sz xs =>
    match sliceT P src, isStrT P dst with
    | some e, true => intT P e = some .u8 ∧ (sz = 1 ∨ xs = []) ∧ rdA S o ∧ xs.all AV.isU8 = true ∧ K (.str (xs.map AV.byte))
    | _, _ => False
  | _ => False

/-- A byte slice turned to its own type: its row's mark is set behind its last cell. -/
def frzA (P : Program) (t : TypeId) (x : AV) (S : ASt) (K : AV → ASt → Prop) : Prop :=
  match x with
  | .sl (.own tk) sz (x :: xs) => (sliceT P t).bind (intT P) = some .u8 ∧ S.live tk = true ∧ K (.sl (.sub S.next) sz (x :: xs)) (S.kill tk).fresh
  | _ => False
def bndA (x : AV) (K : Int → Prop) : Prop := match x with | .int _ n => K n | _ => False
def optA (F : List AV) (x : Option Operand) (d : Int) (K : Int → Prop) : Prop :=
  match x with
  | none => K d
  | some x => bndA (ev F x) K

def subA (lo : Option Operand) : Own → Own
  | .own t => if lo.isSome then .sub t else .own t
  | o => o
def sliceA (P : Program) (F : List AV) (t : TypeId) (x : AV) (lo hi : Option Operand) (S : ASt) (K : AV → Prop) : Prop :=
  match x with
  | .sl o sz xs =>
    match sliceT P t with
    | some e => (szA P e = some sz ∨ xs = []) ∧ rdA S o ∧ (szA P e).isSome = true ∧
      optA F lo 0 fun l => optA F hi xs.length fun h => (0 ≤ l ∧ l ≤ h ∧ h ≤ xs.length) ∧ K (.sl (subA lo o) sz ((xs.take h.toNat).drop l.toNat))
    | none => False
  | .str s => isStrT P t = true ∧
      optA F lo 0 fun l => optA F hi s.length fun h => (0 ≤ l ∧ l ≤ h ∧ h ≤ s.length) ∧ K (.str ((s.take h.toNat).drop l.toNat))
  | _ => False

def appendA (P : Program) (t u : TypeId) (s x : AV) (S : ASt) (K : AV → ASt → Prop) : Prop :=
  match sliceT P t with
  | none => False
  | some e =>
    match szA P e, byA P e, zeroA P e with
    | some sz, some by_, some z => 0 < sz ∧ by_ ≤ 65536 ∧
      match s, x with
      | .sl o sz1 xs, .sl o2 sz2 ys =>
        (sliceT P u).isSome = true ∧ xs.length + ys.length ≤ 1073741824 ∧ rdA S o2 ∧ (sz2 = sz ∨ ys = []) ∧
          match o with
          | .nil => K (.sl (.own S.next) sz ys) S.fresh
          | .own tk => sz1 = sz ∧ S.live tk = true ∧ K (.sl (.own S.next) sz (xs ++ ys)) (S.kill tk).fresh
          | _ => False
      | .sl .nil _ _, .int _ n => (intT P u).isSome = true ∧ sz = 1 ∧ 0 < n ∧ n ≤ 1073741824 ∧ K (.sl (.own S.next) sz (List.replicate n.toNat (z.getD 0 .top))) S.fresh
      | _, _ => False
    | _, _, _ => False

def callA (P : Program) (M : Modes) (c : Call) (F : List AV) (S : ASt) (K : AV → ASt → Prop) : Prop :=
  match c.callee with
  | .value f =>
    match ev F f with
    | .func g => ACalls P g (c.args.toList.map (ev F)) S K
    | _ => False
  | .invoke r name =>
    match ev F r with
    | .iface t v =>
      match methA P t name with
      | some g => ACalls P g (v :: c.args.toList.map (ev F)) S K
      | none => False
    | _ => False
  | .builtin .len =>
    match c.args.toList.map (ev F), c.argTypes.toList with
    | [.sl _ _ xs], [t] => (sliceT P t).isSome = true ∧ K (.int .i64 xs.length) S
    | [.str l], [t] => isStrT P t = true ∧ K (.int .i64 l.length) S
    | _, _ => False
  | .builtin .cap =>
    match c.args.toList.map (ev F), c.argTypes.toList with
    | [.sl .nil _ _], [t] => (sliceT P t).isSome = true ∧ K (.int .i64 0) S
    | _, _ => False
  | .builtin .min =>
    match c.args.toList.map (ev F) with
    | [.int k x, .int k' y] => K (.int k (if y < x then y else x)) S
    | _ => False
  | .builtin .max =>
    match c.args.toList.map (ev F) with
    | [.int k x, .int k' y] => K (.int k (if x < y then y else x)) S
    | _ => False
  | .builtin .append =>
    match c.args.toList.map (ev F), c.argTypes.toList with
    | [s, x], [t, u] => appendA P t u s x S K
    | _, _ => False
  | _ => False

def loadA (P : Program) (t : TypeId) (a : AV) (S : ASt) (K : AV → Prop) : Prop :=
  match a with
  | .ptr (some (o, i)) =>
    match S.objs[o]? with
    | some cs =>
      match aggT P t with
      | some false => match cs[i]? with
        | some v => K v
        | none => False
      | some true => match szA P t with
        | some n => i + n ≤ cs.length ∧ K (.agg ((cs.drop i).take n))
        | none => False
      | none => False
    | none => False
  | .eptr o sz xs i k =>
    match aggT P t with
    | some false => k < sz ∧ rdA S o ∧ K ((xs.getD i .top).cell k)
    | some true => match szA P t with
      | some n => k + n ≤ sz ∧ rdA S o ∧ K (.agg (((xs.getD i .top).cells.drop k).take n))
      | none => False
    | none => False
  | _ => False

def storeA (P : Program) (M : Modes) (t : TypeId) (ad : Operand) (v : AV) (F : List AV) (S : ASt) (K : AV → List AV → ASt → Prop) : Prop :=
  match ev F ad with
  | .ptr (some (o, i)) =>
    match S.objs[o]? with
    | some cs => v.box = true ∧ szA P t = some v.cells.length ∧ i + v.cells.length ≤ cs.length ∧ K .top F (S.put o (setA cs i v.cells))
    | none => False
  | .eptr (.own tk) sz xs i k =>
    match ad with
    | .tmp d => match M.rb d with
      | some s => F.getD s .top = .sl (.own tk) sz xs ∧ S.live tk = true ∧ v.one = true ∧ szA P t = some 1 ∧ k < sz ∧
          K .top (F.set s (.sl (.own S.next) sz (xs.set i ((xs.getD i .top).putCell k v)))) (S.kill tk).fresh
      | none => False
    | _ => False
  | _ => False

def idxA (P : Program) (t : TypeId) (x ix : AV) (S : ASt) (K : AV → Prop) : Prop :=
  match ix with
  | .int _ i =>
    match x with
    | .sl o sz xs => match sliceT P t with
      | some e => szA P e = some sz ∧ rdA S o ∧ (0 ≤ i ∧ i < xs.length) ∧ K (.eptr o sz xs i.toNat 0)
      | none => False
    | .ptr (some (o, j)) => match arrT P t with
      | some (n, e) => match szA P e with
        | some s => (0 ≤ i ∧ i < n) ∧ K (.ptr (some (o, j + i.toNat * s)))
        | none => False
      | none => False
    | .eptr o sz xs a k => match arrT P t with
      | some (n, e) => match szA P e with
        | some s => (0 ≤ i ∧ i < n) ∧ rdA S o ∧ K (.eptr o sz xs a (k + i.toNat * s))
        | none => False
      | none => False
    | _ => False
  | _ => False

def ixA (P : Program) (t : TypeId) (x ix : AV) (K : AV → Prop) : Prop :=
  match ix with
  | .int _ i =>
    match x with
    | .agg cs => match arrT P t with
      | some (n, e) => szA P e = some 1 ∧ aggT P e = some false ∧ (0 ≤ i ∧ i < n) ∧ n ≤ cs.length ∧ K (cs.getD i.toNat .top)
      | none => False
    | .str l => isStrT P t = true ∧ (0 ≤ i ∧ i < l.length) ∧ K (.int .u8 (l.getD i.toNat 0).toNat)
    | _ => False
  | _ => False

def opA (P : Program) (M : Modes) (o : Oper) (F : List AV) (S : ASt) (K : AV → List AV → ASt → Prop) : Prop :=
  match o.op with
  | .move x => K (ev F x) F S
  | .assign x => K (ev F x) F S
  | .pick c a b => match ev F c with
    | .bool x => K (if x then ev F a else ev F b) F S
    | _ => False
  | .alloc e => match zeroA P e with
    | some cs => K (.ptr (some (S.objs.length, 0))) F (S.push cs)
    | none => False
  | .box e x => (ev F x).box = true ∧ K (.ptr (some (S.objs.length, 0))) F (S.push (ev F x).cells)
  | .build t parts =>
    match zeroA P t, placesA P t with
    | some z, some pl => match fillA pl z (parts.toList.map fun p => (p.1, ev F p.2)) with
      | some cs => K (.agg cs) F S
      | none => False
    | _, _ => False
  | .buildSlice t n parts =>
    match sliceT P t with
    | some e => match szA P e, zeroA P e, aggT P e with
      | some sz, some z, some ag => n * sz ≤ 16777216 ∧ 0 < sz ∧ (ag = true ∨ sz = 1) ∧ match fillS sz (List.replicate n (elemA ag z)) (parts.toList.map fun p => (p.1, ev F p.2)) with
        | some xs => match o.dst with
          | some d => if M.own d then K (.sl (.own S.next) sz xs) F S.fresh else K (.sl .ro sz xs) F S
          | none => False
        | none => False
      | _, _, _ => False
    | none => False
  | .load t a => loadA P t (ev F a) S (fun v => K v F S)
  | .store t a x => storeA P M t a (ev F x) F S K
  | .nilCheck x => match ev F x with
    | .ptr (some p) => K (.ptr (some p)) F S
    | .iface t v => K (.iface t v) F S
    | _ => False
  | .binOp op t x y _ => if isNilC y then nilA P op t (ev F x) S (fun v => K v F S) else binA P op t (ev F x) (ev F y) (fun v => K v F S)
  | .unOp op _ x => match op, ev F x with
    | .not, .bool b => K (.bool (!b)) F S
    | .neg, .int k n => K (.int k (k.wrap (0 - n))) F S
    | _, _ => False
  | .convert s d x => if s = d then frzA P s (ev F x) S (fun v S' => K v F S') else convA P s d (ev F x) S (fun v => K v F S)
  | .makeInterface t x => isIfaceT P t = some false ∧ K (.iface t (ev F x)) F S
  | .slice t x lo hi none => sliceA P F t (ev F x) lo hi S (fun v => K v F S)
  | .fieldAddr s x f => match fieldA P s f with
    | some off => match ev F x with
      | .ptr (some (o, i)) => K (.ptr (some (o, i + off))) F S
      | .eptr o sz xs i k => rdA S o ∧ K (.eptr o sz xs i (k + off)) F S
      | _ => False
    | none => False
  | .indexAddr t x ix => idxA P t (ev F x) (ev F ix) S (fun v => K v F S)
  | .index t x ix => ixA P t (ev F x) (ev F ix) (fun v => K v F S)
  | .extract x i => match ev F x with
    | .tuple vs => match vs[i]? with
      | some v => K v F S
      | none => False
    | _ => False
  | .call c => callA P M c F S (fun v S' => K v F S')
  | _ => False
end Go.Proofs.Ythpomdoaiibnfaa.Abs

namespace Go.Proofs.Ythpomdoaiibnfaa.Abs
open Go Go.RowKit
set_option linter.unusedVariables false
set_option linter.unusedSimpArgs false

def Cont (E : Env) (S : ASt) (w : World) (o : Oper) (a : Act) (next : Act → World → Prop) (K : AV → List AV → ASt → Prop) : Prop :=
  ∀ E' S' w' v cv F', Evolves E S w E' S' w' → Rel E' S' w' → VRel E' S' w' v cv → FRel E' S' w' F' a.tmps → K v F' S' → next (a.put o.dst cv) w'

section
variable {P : Program} {M : Modes} {E : Env} {S : ASt} {w : World} {o : Oper} {a : Act} {next : Act → World → Prop} {Q : Exit → Act → World → Prop} {F : List AV} {K : AV → List AV → ASt → Prop}

theorem wp_val {v : Value} {w' : World} (hrun : (execOp a.eval o).run P w = .ok (.value v) w') (h : next (a.put o.dst v) w') : o.wp P a w next Q := by
  unfold Oper.wp; rw [hrun]; exact h
theorem wp_skp {w' : World} (hrun : (execOp a.eval o).run P w = .ok .skip w') (h : next (a.put o.dst undef) w') : o.wp P a w next Q := by
  unfold Oper.wp; rw [hrun]; exact h

theorem Cont.same (hR : Rel E S w) (hF : FRel E S w F a.tmps) (hn : Cont E S w o a next K) {v : AV} {cv : Value} (hv : VRel E S w v cv) (hk : K v F S) :
    next (a.put o.dst cv) w := hn E S w v cv F (Evolves.refl hR) hR hv hF hk

theorem snd_move {x : Operand} (ho : o.op = .move x ∨ o.op = .assign x) (hR : Rel E S w) (hF : FRel E S w F a.tmps) (h : K (ev F x) F S) (hn : Cont E S w o a next K) : o.wp P a w next Q := by
  refine wp_val (v := a.eval x) (w' := w) ?_ (hn.same hR hF (ev_rel hF x) h)
  rcases ho with ho | ho <;> simp [execOp, ho]

theorem snd_pick {c x y : Operand} {b : Bool} (ho : o.op = .pick c x y) (hc : ev F c = .bool b) (hR : Rel E S w) (hF : FRel E S w F a.tmps) (h : K (if b then ev F x else ev F y) F S)
    (hn : Cont E S w o a next K) : o.wp P a w next Q := by
  have hcr := ev_rel hF c
  rw [hc] at hcr
  have he : a.eval c = .bool b := by cases hq : a.eval c <;> rw [hq] at hcr <;> cases hcr <;> rfl
  refine wp_val (v := if b then a.eval x else a.eval y) (w' := w) (by simp [execOp, ho, he, asBool]) (hn.same hR hF ?_ h)
  cases b
  · exact ev_rel hF y
  · exact ev_rel hF x

theorem zeroA_some {t : TypeId} {cs : List AV} (h : zeroA P t = some cs) :
    ∃ i z, P.info? t = some i ∧ i.zero = some z ∧ cs = z.cells.toList.map ofV1 ∧ (∀ u ∈ cs, u.one = true) ∧ cs.length = i.size ∧ z.cells.size = i.size := by
  unfold zeroA at h
  split at h
  · rename_i i hi
    split at h
    · rename_i z hz
      dsimp only at h
      split at h
      · rename_i hc
        simp only [Bool.and_eq_true, List.all_eq_true, beq_iff_eq] at hc
        cases h
        refine ⟨i, z, hi, hz, rfl, hc.1, hc.2, ?_⟩
        have := hc.2; simpa using this
      · cases h
    · cases h
  · cases h

theorem zeroCells_rel {z : Value} (E : Env) (S : ASt) (w : World) : ∀ i u, (z.cells.toList.map ofV1)[i]? = some u → VRel E S w u (z.cells.getD i undef) := by
  intro i u hu
  rw [List.getElem?_map] at hu
  cases hq : z.cells.toList[i]? with
  | none => rw [hq] at hu; simp at hu
  | some x =>
    rw [hq] at hu
    simp only [Option.map_some, Option.some.injEq] at hu
    subst hu
    have : z.cells.getD i undef = x := by
      simp only [Array.getD_eq_getD_getElem?]
      rw [← Array.getElem?_toList, hq]; rfl
    rw [this]; exact ofV1_rel E S w x

theorem snd_alloc {e : TypeId} {cs : List AV} (ho : o.op = .alloc e) (hz : zeroA P e = some cs) (hR : Rel E S w) (hF : FRel E S w F a.tmps)
    (h : K (.ptr (some (S.objs.length, 0))) F (S.push cs)) (hn : Cont E S w o a next K) : o.wp P a w next Q := by
  obtain ⟨i, z, hi, hzz, rfl, h1, hl, hzs⟩ := zeroA_some hz
  obtain ⟨ev1, hR1⟩ := step_obj hR (z.cells.toList.map ofV1) z.cells e (by simp) (fun i u hu => ⟨h1 u (List.mem_of_getElem? hu), zeroCells_rel E S w i u hu⟩)
  have hp : VRel (E.addObj S.objs.length w.heap.size) (S.push (z.cells.toList.map ofV1)) (w.alloc (.cells z.cells e)) (.ptr (some (S.objs.length, 0))) (.pointer (some ⟨w.heap.size, 0, none⟩)) := by
    have := VRel.ptr (E := E.addObj S.objs.length w.heap.size) (S := S.push (z.cells.toList.map ofV1)) (w := w.alloc (.cells z.cells e)) S.objs.length 0 (by simp [ASt.push])
    have hm : (E.addObj S.objs.length w.heap.size).mu S.objs.length = w.heap.size := by
      show (if S.objs.length = S.objs.length then w.heap.size else E.mu S.objs.length) = _
      rw [if_pos rfl]
    rwa [hm] at this
  refine wp_val ?_ (hn _ _ _ _ _ F ev1 hR1 hp (hF.mono ev1) h)
  simp [execOp, ho, Instr.alloc, zeroValue, typeInfo, hi, hzz, newVar, newRow]

theorem box_cells {u : AV} {v : Value} (h : VRel E S w u v) (hb : u.box = true) :
    u.known = true ∧ v.cells.size = u.cells.length ∧ (∀ i x, u.cells[i]? = some x → x.one = true ∧ VRel E S w x (v.cells.getD i undef)) := by
  have hk : u.known = true := by cases u <;> simp [AV.box, AV.one] at hb <;> rfl
  obtain ⟨h1, h2⟩ := h.cells hk
  refine ⟨hk, h1, fun i x hx => ⟨?_, h2 i x hx⟩⟩
  cases h with
  | agg cs vs hl h1' hr => exact h1' x (List.mem_of_getElem? hx)
  | _ =>
    cases i with
    | zero =>
      simp only [AV.cells, List.getElem?_cons_zero, Option.some.injEq] at hx
      subst hx
      first | exact hb | (simp [AV.box, AV.one] at hb)
    | succ i => simp [AV.cells] at hx

theorem snd_box {e : TypeId} {x : Operand} (ho : o.op = .box e x) (hb : (ev F x).box = true) (hR : Rel E S w) (hF : FRel E S w F a.tmps)
    (h : K (.ptr (some (S.objs.length, 0))) F (S.push (ev F x).cells)) (hn : Cont E S w o a next K) : o.wp P a w next Q := by
  obtain ⟨hk, hs, hc⟩ := box_cells (ev_rel hF x) hb
  obtain ⟨ev1, hR1⟩ := step_obj hR (ev F x).cells (a.eval x).cells e hs hc
  have hp : VRel (E.addObj S.objs.length w.heap.size) (S.push (ev F x).cells) (w.alloc (.cells (a.eval x).cells e)) (.ptr (some (S.objs.length, 0))) (.pointer (some ⟨w.heap.size, 0, none⟩)) := by
    have := VRel.ptr (E := E.addObj S.objs.length w.heap.size) (S := S.push (ev F x).cells) (w := w.alloc (.cells (a.eval x).cells e)) S.objs.length 0 (by simp [ASt.push])
    have hm : (E.addObj S.objs.length w.heap.size).mu S.objs.length = w.heap.size := by
      show (if S.objs.length = S.objs.length then w.heap.size else E.mu S.objs.length) = _
      rw [if_pos rfl]
    rwa [hm] at this
  refine wp_val ?_ (hn _ _ _ _ _ F ev1 hR1 hp (hF.mono ev1) h)
  simp [execOp, ho, Instr.box, newVar, newRow]

/-! ### cells of a slice -/
theorem flat_getElem {sz : Nat} : ∀ (xs : List AV) (i k : Nat), (∀ x ∈ xs, x.cells.length = sz) → i < xs.length → k < sz →
    (flat xs)[i * sz + k]? = (xs.getD i .top).cells[k]?
  | [], i, k, _, hi, _ => by simp at hi
  | x :: xs, 0, k, hs, _, hk => by
    have hx : x.cells.length = sz := hs x (by simp)
    simp only [flat, List.flatMap_cons, Nat.zero_mul, Nat.zero_add, List.getD_cons_zero]
    rw [List.getElem?_append_left (by omega)]
  | x :: xs, i + 1, k, hs, hi, hk => by
    have hx : x.cells.length = sz := hs x (by simp)
    have ih := flat_getElem xs i k (fun y hy => hs y (by simp [hy])) (by simpa using hi) hk
    simp only [flat, List.flatMap_cons, List.getD_cons_succ] at ih ⊢
    rw [List.getElem?_append_right (by rw [hx]; have : (i + 1) * sz = i * sz + sz := by rw [Nat.add_mul, Nat.one_mul]
                                       omega), hx]
    have : (i + 1) * sz + k - sz = i * sz + k := by rw [Nat.add_mul, Nat.one_mul]; omega
    rw [this]; exact ih

theorem flat_length {sz : Nat} : ∀ (xs : List AV), (∀ x ∈ xs, x.cells.length = sz) → (flat xs).length = xs.length * sz
  | [], _ => by simp [flat]
  | x :: xs, hs => by
    have hx : x.cells.length = sz := hs x (by simp)
    have ih := flat_length xs (fun y hy => hs y (by simp [hy]))
    simp only [flat, List.flatMap_cons, List.length_append, List.length_cons] at ih ⊢
    rw [hx, ih, Nat.add_mul, Nat.one_mul]; omega

theorem flat_append (xs ys : List AV) : flat (xs ++ ys) = flat xs ++ flat ys := by simp [flat]

theorem cell_of_cells {x : AV} {k : Nat} (h : k < x.cells.length) : x.cells[k]? = some (x.cell k) := by
  cases x with
  | agg cs => simp only [AV.cells] at h ⊢; simp [AV.cell, List.getD, List.getElem?_eq_getElem h]
  | _ =>
    have h0 : k = 0 := by simp [AV.cells] at h; omega
    subst h0; simp [AV.cells, AV.cell]

theorem getD_mem {xs : List AV} {i : Nat} (h : i < xs.length) : xs.getD i .top ∈ xs := by
  simp only [List.getD, List.getElem?_eq_getElem h, Option.getD_some]; exact List.getElem_mem h

theorem rd_tok {ow : Own} {t : Nat} (h : rdA S ow) (he : ow.tok = some t) : S.live t = true := by
  cases ow <;> simp [Own.tok] at he <;> subst he <;> exact h

/-- Loading through a pointer into a slice. -/
theorem ep_cells {ow : Own} {sz i k : Nat} {xs : List AV} {v : Value} (h : VRel E S w (.eptr ow sz xs i k) v) (hrd : rdA S ow) (n : Nat) (hk : k + n ≤ sz) :
    ∃ ad : Addr, v = .pointer (some ad) ∧ i < xs.length ∧ (xs.getD i .top).cells.length = sz ∧ (∀ u ∈ (xs.getD i .top).cells, u.one = true) ∧ ∃ vs : Nat → Value,
      ∀ j u, ((xs.getD i .top).cells.drop k)[j]? = some u → j < n → w.cell? (ad.add j) = some (vs j) ∧ VRel E S w u (vs j) := by
  cases h with
  | ep_dead o' t sz xs i k a' ho ht hd => have := rd_tok hrd ho; rw [hd] at this; cases this
  | ep_mem o' sz' xs' i' k' b off vs hacc hi hsz h1 hv hr hroom =>
    have hlen : (xs.getD i .top).cells.length = sz := hsz _ (getD_mem hi)
    refine ⟨_, rfl, hi, hlen, ?_, fun j => vs (i * sz + (k + j)), ?_⟩
    · intro u hu
      obtain ⟨j, hj⟩ := List.mem_iff_getElem?.1 hu
      have hj' : j < sz := by rw [← hlen]; exact (List.getElem?_eq_some_iff.1 hj).1
      exact h1 u (List.mem_of_getElem? (by rw [flat_getElem xs i j hsz hi hj']; exact hj))
    · intro j u hu hjn
      rw [List.getElem?_drop] at hu
      have hj' : k + j < sz := by omega
      have hfl := flat_getElem xs i (k + j) hsz hi hj'
      rw [hu] at hfl
      have e1 := hv _ _ hfl
      refine ⟨?_, hr _ _ hfl⟩
      rw [Addr.add_lit, ← e1]
      congr 2; omega

theorem run_isAgg {t : TypeId} {b : Bool} (h : aggT P t = some b) (w : World) : (isAgg t).run P w = .ok b w := by
  unfold aggT at h
  unfold isAgg
  split at h
  · rename_i fs hu; cases h; simp [run_underlying hu]
  · rename_i n e hu; cases h; simp [run_underlying hu]
  · rename_i d hns hna hu
    cases h
    simp only [Sem.run_bind, run_underlying hu, Result.andThen_ok]
    rfl
  · cases h

theorem run_sizeOf {t : TypeId} {n : Nat} (h : szA P t = some n) (w : World) : (sizeOf t).run P w = .ok n w := by
  unfold szA at h
  cases hi : P.info? t with
  | none => rw [hi] at h; cases h
  | some i => rw [hi] at h; simp only [Option.map_some, Option.some.injEq] at h; simp [sizeOf, typeInfo, hi, h]

theorem run_loadVar_one {t : TypeId} {ad : Addr} {v : Value} (h : aggT P t = some false) (hc : w.cell? ad = some v) : (loadVar t ad).run P w = .ok v w := by
  simp [loadVar, run_isAgg h, hc]

theorem run_loadVar_agg {t : TypeId} {ad : Addr} {n : Nat} {f : Nat → Value} (h : aggT P t = some true) (hs : szA P t = some n) (hc : ∀ j, j < n → w.cell? (ad.add j) = some (f j)) :
    (loadVar t ad).run P w = .ok (.agg ((List.range n).map f).toArray) w := by
  simp [loadVar, run_isAgg h, run_sizeOf hs, run_loadCells w ad n f hc]

theorem snd_load {t : TypeId} {x : Operand} (ho : o.op = .load t x) (hR : Rel E S w) (hF : FRel E S w F a.tmps) (h : loadA P t (ev F x) S (fun v => K v F S))
    (hn : Cont E S w o a next K) : o.wp P a w next Q := by
  have hx := ev_rel hF x
  unfold loadA at h
  split at h
  · rename_i ob i hev
    rw [hev] at hx
    cases hq : a.eval x <;> rw [hq] at hx <;> cases hx
    rename_i hol
    split at h
    · rename_i cs hcs
      obtain ⟨cur, e, g1, g2, g3⟩ := hR.obj ob cs hcs
      have hcell : ∀ j u, cs[j]? = some u → w.cell? ⟨E.mu ob, j, none⟩ = some (cur.getD j undef) := by
        intro j u hu
        have hj : j < cur.size := by rw [g2]; exact (List.getElem?_eq_some_iff.1 hu).1
        rw [cell_of_row w _ _ cur e (0, 0) g1]
        simp [Array.getD, hj]
      split at h
      · rename_i hag
        split at h
        · rename_i v hv
          refine wp_val (v := cur.getD i undef) (w' := w) ?_ (hn.same hR hF (g3 i v hv).2 h)
          simp [execOp, ho, hq, Instr.loadAt, Instr.sureAddr, run_loadVar_one hag (hcell i v hv)]
        · exact h.elim
      · rename_i hag
        split at h
        · rename_i n hsz
          obtain ⟨hle, hk⟩ := h
          have hc : ∀ j, j < n → w.cell? ((⟨E.mu ob, i, none⟩ : Addr).add j) = some (cur.getD (i + j) undef) := by
            intro j hj
            rw [Addr.add_lit]
            exact hcell (i + j) _ (List.getElem?_eq_getElem (by omega))
          refine wp_val (v := .agg ((List.range n).map fun j => cur.getD (i + j) undef).toArray) (w' := w) ?_ (hn.same hR hF ?_ hk)
          · simp [execOp, ho, hq, Instr.loadAt, Instr.sureAddr, run_loadVar_agg hag hsz hc]
          · refine .agg _ _ (by simp; omega) ?_ ?_
            · intro u hu
              obtain ⟨j, hj⟩ := List.mem_iff_getElem?.1 hu
              rw [List.getElem?_take] at hj
              split at hj
              · rw [List.getElem?_drop] at hj; exact (g3 _ u hj).1
              · cases hj
            · intro j u hj
              rw [List.getElem?_take] at hj
              split at hj
              · rename_i hjn
                rw [List.getElem?_drop] at hj
                have := (g3 _ u hj).2
                simpa [Array.getD, hjn] using this
              · cases hj
        · exact h.elim
      · exact h.elim
    · exact h.elim
  · rename_i ow sz xs i k hev
    rw [hev] at hx
    split at h
    · rename_i hag
      obtain ⟨hk, hrd, hK⟩ := h
      obtain ⟨ad, hq, hi, hlen, h1, vs, hvs⟩ := ep_cells hx hrd 1 (by omega)
      have hc0 : ((xs.getD i .top).cells.drop k)[0]? = some ((xs.getD i .top).cell k) := by
        rw [List.getElem?_drop, Nat.add_zero]; exact cell_of_cells (by omega)
      obtain ⟨e1, e2⟩ := hvs 0 _ hc0 (by omega)
      have e1' : w.cell? ad = some (vs 0) := by simpa [Addr.add] using e1
      refine wp_val (v := vs 0) (w' := w) ?_ (hn.same hR hF e2 hK)
      simp [execOp, ho, hq, Instr.loadAt, Instr.sureAddr, run_loadVar_one hag e1']
    · rename_i hag
      split at h
      · rename_i n hsz
        obtain ⟨hk, hrd, hK⟩ := h
        obtain ⟨ad, hq, hi, hlen, h1, vs, hvs⟩ := ep_cells hx hrd n hk
        have hlt : ∀ j, j < n → ∃ u, ((xs.getD i .top).cells.drop k)[j]? = some u := fun j hj => ⟨_, List.getElem?_eq_getElem (by rw [List.length_drop]; omega)⟩
        have hc : ∀ j, j < n → w.cell? (ad.add j) = some (vs j) := by
          intro j hj
          obtain ⟨u, hu⟩ := hlt j hj
          exact (hvs j u hu hj).1
        refine wp_val (v := .agg ((List.range n).map vs).toArray) (w' := w) ?_ (hn.same hR hF ?_ hK)
        · simp [execOp, ho, hq, Instr.loadAt, Instr.sureAddr, run_loadVar_agg hag hsz hc]
        · refine .agg _ _ (by rw [List.length_take, List.length_drop]; simp only [List.size_toArray, List.length_map, List.length_range]; omega) ?_ ?_
          · intro u hu
            exact h1 u (List.mem_of_mem_drop (List.mem_of_mem_take hu))
          · intro j u hj
            rw [List.getElem?_take] at hj
            split at hj
            · rename_i hjn
              have := (hvs j u hj hjn).2
              simpa [Array.getD, hjn] using this
            · cases hj
      · exact h.elim
    · exact h.elim
  · exact h.elim
end
end Go.Proofs.Ythpomdoaiibnfaa.Abs

namespace Go.Proofs.Ythpomdoaiibnfaa.Abs
open Go Go.RowKit
set_option linter.unusedVariables false
set_option linter.unusedSimpArgs false

section
variable {P : Program} {M : Modes} {E : Env} {S : ASt} {w : World} {o : Oper} {a : Act} {next : Act → World → Prop} {Q : Exit → Act → World → Prop} {F : List AV} {K : AV → List AV → ASt → Prop}

theorem snd_nilCheck {x : Operand} (ho : o.op = .nilCheck x) (hR : Rel E S w) (hF : FRel E S w F a.tmps)
    (h : match ev F x with | .ptr (some p) => K (.ptr (some p)) F S | .iface t v => K (.iface t v) F S | _ => False) (hn : Cont E S w o a next K) : o.wp P a w next Q := by
  have hx := ev_rel hF x
  split at h
  · rename_i p hev
    rw [hev] at hx
    refine wp_val (v := a.eval x) (w' := w) ?_ (hn.same hR hF hx h)
    cases hq : a.eval x <;> rw [hq] at hx <;> cases hx
    simp [execOp, ho, hq]
  · rename_i t v hev
    rw [hev] at hx
    refine wp_val (v := a.eval x) (w' := w) ?_ (hn.same hR hF hx h)
    cases hq : a.eval x <;> rw [hq] at hx <;> cases hx
    simp [execOp, ho, hq]
  · exact h.elim

theorem fieldA_some {s f off : Nat} (h : fieldA P s f = some off) : ∃ fs fl i, P.underlying s = some (.struct fs) ∧ fs[f]? = some fl ∧ P.info? fl.type = some i ∧ i.size ≠ 0 ∧ fl.offset = off := by
  unfold fieldA at h
  split at h
  · rename_i fs hu
    split at h
    · rename_i fl hf
      split at h
      · rename_i i hi
        split at h
        · cases h
        · rename_i hs; cases h; exact ⟨fs, fl, i, hu, hf, hi, hs, rfl⟩
      · cases h
    · cases h
  · cases h

theorem run_fieldAt {s f off : Nat} (h : fieldA P s f = some off) (w : World) (ad : Addr) : (Instr.fieldAt s (.pointer (some ad)) f).run P w = .ok (.pointer (some (ad.add off))) w := by
  obtain ⟨fs, fl, i, h1, h2, h3, h4, rfl⟩ := fieldA_some h
  simp [Instr.fieldAt, run_underlying h1, h2, Instr.sureAddr, fieldPlace, sizeOf, typeInfo, h3, h4]

theorem ep_add {ow : Own} {sz i k d : Nat} {xs : List AV} {v : Value} (h : VRel E S w (.eptr ow sz xs i k) v) : ∃ ad : Addr, v = .pointer (some ad) ∧ VRel E S w (.eptr ow sz xs i (k + d)) (.pointer (some (ad.add d))) := by
  cases h with
  | ep_dead o' t sz xs i k a' ho ht hd => exact ⟨_, rfl, .ep_dead ow t sz xs i (k + d) _ ho ht hd⟩
  | ep_mem o' sz' xs' i' k' b off vs hacc hi hsz h1 hv hr hroom =>
    refine ⟨_, rfl, ?_⟩
    rw [Addr.add_lit]
    have := VRel.ep_mem ow sz xs i (k + d) b off vs hacc hi hsz h1 hv hr hroom
    rwa [show off + i * sz + (k + d) = off + i * sz + k + d by omega] at this

theorem snd_fieldAddr {s f off : Nat} {x : Operand} (ho : o.op = .fieldAddr s x f) (hfa : fieldA P s f = some off) (hR : Rel E S w) (hF : FRel E S w F a.tmps)
    (h : match ev F x with | .ptr (some (ob, i)) => K (.ptr (some (ob, i + off))) F S | .eptr ow sz xs i k => rdA S ow ∧ K (.eptr ow sz xs i (k + off)) F S | _ => False)
    (hn : Cont E S w o a next K) : o.wp P a w next Q := by
  have hx := ev_rel hF x
  split at h
  · rename_i ob i hev
    rw [hev] at hx
    cases hq : a.eval x <;> rw [hq] at hx <;> cases hx
    rename_i hol
    refine wp_val ?_ (hn.same hR hF (cv := .pointer (some ⟨E.mu ob, i + off, none⟩)) (.ptr ob (i + off) hol) h)
    simp [execOp, ho, hq, run_fieldAt hfa, Addr.add_lit]
  · rename_i ow sz xs i k hev
    rw [hev] at hx
    obtain ⟨ad, hq, hr⟩ := ep_add (d := off) hx
    refine wp_val ?_ (hn.same hR hF hr h.2)
    simp [execOp, ho, hq, run_fieldAt hfa]
  · exact h.elim

theorem sliceT_some {t e : TypeId} (h : sliceT P t = some e) : P.underlying t = some (.slice e) := by
  unfold sliceT at h; split at h
  · rename_i e' hu; cases h; exact hu
  · cases h
theorem arrT_some {t e : TypeId} {n : Nat} (h : arrT P t = some (n, e)) : P.underlying t = some (.array n e) := by
  unfold arrT at h; split at h
  · rename_i n' e' hu; cases h; exact hu
  · cases h
theorem intT_some {t : TypeId} {k : IntKind} (h : intT P t = some k) : P.underlying t = some (.int k) := by
  unfold intT at h; split at h
  · rename_i k' hu; cases h; exact hu
  · cases h
theorem isStrT_true {t : TypeId} (h : isStrT P t = true) : P.underlying t = some .string := by
  unfold isStrT at h; split at h
  · assumption
  · cases h
theorem isBoolT_true {t : TypeId} (h : isBoolT P t = true) : P.underlying t = some .bool := by
  unfold isBoolT at h; split at h
  · assumption
  · cases h
theorem isPtrT_true {t : TypeId} (h : isPtrT P t = true) : ∃ e, P.underlying t = some (.pointer e) := by
  unfold isPtrT at h; split at h
  · rename_i e hu; exact ⟨e, hu⟩
  · cases h

/-- A pointer to an element of a slice. -/
theorem sl_elem {ow : Own} {sz : Nat} {xs : List AV} {v : Value} (h : VRel E S w (.sl ow sz xs) v) (hrd : rdA S ow) {i : Nat} (hi : i < xs.length) :
    ∃ ad c, v = .slice (some ad) xs.length c ∧ VRel E S w (.eptr ow sz xs i 0) (.pointer (some (ad.add (i * sz)))) := by
  cases h with
  | sl_nil sz => simp at hi
  | sl_emp sz a c => simp at hi
  | sl_own_nil t sz ht => simp at hi
  | sl_sub_emp t sz a c ht => simp at hi
  | sl_dead o' t sz xs a c ho ht hd => have := rd_tok hrd ho; rw [hd] at this; cases this
  | sl_mem o' sz' xs' b off c vs hacc hc hsz h1 hv hr hroom =>
    refine ⟨_, c, rfl, ?_⟩
    rw [Addr.add_lit]
    exact VRel.ep_mem ow sz xs i 0 b off vs hacc hi hsz h1 hv hr (fun t ht => let ⟨h0, cur, e, h1, _⟩ := hroom t ht; ⟨h0, cur, e, h1⟩)

theorem snd_indexAddr {t : TypeId} {x ix : Operand} (ho : o.op = .indexAddr t x ix) (hR : Rel E S w) (hF : FRel E S w F a.tmps)
    (h : idxA P t (ev F x) (ev F ix) S (fun v => K v F S)) (hn : Cont E S w o a next K) : o.wp P a w next Q := by
  have hx := ev_rel hF x
  have hix := ev_rel hF ix
  unfold idxA at h
  split at h
  · rename_i kk i hevi
    rw [hevi] at hix
    have hqi : a.eval ix = .int kk i := by cases hq : a.eval ix <;> rw [hq] at hix <;> cases hix <;> rfl
    split at h
    · rename_i ow sz xs hev
      rw [hev] at hx
      split at h
      · rename_i e hse
        obtain ⟨hsz, hrd, hi, hK⟩ := h
        obtain ⟨ad, c, hq, hr⟩ := sl_elem hx hrd (i := i.toNat) (by omega)
        refine wp_val ?_ (hn.same hR hF hr hK)
        simp [execOp, ho, hq, hqi, Instr.indexAt, asIntOf, run_underlying (sliceT_some hse), hi, run_sizeOf hsz]
      · exact h.elim
    · rename_i ob j hev
      rw [hev] at hx
      cases hq : a.eval x <;> rw [hq] at hx <;> cases hx
      rename_i hol
      split at h
      · rename_i n e hae
        split at h
        · rename_i s hs
          obtain ⟨hi, hK⟩ := h
          refine wp_val ?_ (hn.same hR hF (cv := .pointer (some ⟨E.mu ob, j + i.toNat * s, none⟩)) (.ptr ob _ hol) hK)
          simp [execOp, ho, hq, hqi, Instr.indexAt, asIntOf, run_underlying (arrT_some hae), hi, run_sizeOf hs, Instr.sureAddr, Addr.add_lit]
        · exact h.elim
      · exact h.elim
    · rename_i ow sz xs aa k hev
      rw [hev] at hx
      split at h
      · rename_i n e hae
        split at h
        · rename_i s hs
          obtain ⟨hi, hrd, hK⟩ := h
          obtain ⟨ad, hq, hr⟩ := ep_add (d := i.toNat * s) hx
          refine wp_val ?_ (hn.same hR hF hr hK)
          simp [execOp, ho, hq, hqi, Instr.indexAt, asIntOf, run_underlying (arrT_some hae), hi, run_sizeOf hs, Instr.sureAddr]
        · exact h.elim
      · exact h.elim
    · exact h.elim
  · exact h.elim

theorem arr_get {vs : Array Value} {i : Nat} (h : i < vs.size) : ∃ cv, vs[i]? = some cv ∧ vs.getD i undef = cv :=
  ⟨vs[i], by simp [h], by simp [Array.getD, h]⟩

theorem snd_index {t : TypeId} {x ix : Operand} (ho : o.op = .index t x ix) (hR : Rel E S w) (hF : FRel E S w F a.tmps)
    (h : ixA P t (ev F x) (ev F ix) (fun v => K v F S)) (hn : Cont E S w o a next K) : o.wp P a w next Q := by
  have hx := ev_rel hF x
  have hix := ev_rel hF ix
  unfold ixA at h
  split at h
  · rename_i kk i hevi
    rw [hevi] at hix
    have hqi : a.eval ix = .int kk i := by cases hq : a.eval ix <;> rw [hq] at hix <;> cases hix <;> rfl
    split at h
    · rename_i cs hev
      rw [hev] at hx
      split at h
      · rename_i n e hae
        obtain ⟨hsz, hag, hi, hn', hK⟩ := h
        cases hq : a.eval x <;> rw [hq] at hx <;> cases hx
        rename_i vs hl h1 hr
        have hlt : i.toNat < vs.size := by omega
        have hcs : cs[i.toNat]? = some (cs.getD i.toNat .top) := by
          have : i.toNat < cs.length := by omega
          simp [List.getD, List.getElem?_eq_getElem this]
        obtain ⟨cv, hg, hgd⟩ := arr_get hlt
        refine wp_val (v := cv) (w' := w) ?_ (hn.same hR hF (hgd ▸ hr _ _ hcs) hK)
        simp [execOp, ho, hq, hqi, Instr.index, asIntOf, run_underlying (arrT_some hae), hi, run_sizeOf hsz, part, run_isAgg hag, hg]
      · exact h.elim
    · rename_i l hev
      rw [hev] at hx
      obtain ⟨hst, hi, hK⟩ := h
      cases hq : a.eval x <;> rw [hq] at hx <;> cases hx
      have hlt : i.toNat < l.length := by omega
      refine wp_val ?_ (hn.same hR hF (VRel.int .u8 _) hK)
      simp only [execOp, ho, hq, hqi, Instr.index, asIntOf, Sem.run_bind, Sem.run_pure, Result.andThen_ok, run_underlying (isStrT_true hst), hi.1, if_true]
      have h1 : i.toNat < (⟨l.toArray⟩ : ByteArray).size := by simpa [ByteArray.size] using hlt
      have h2 : (⟨l.toArray⟩ : ByteArray)[i.toNat]? = some (l.getD i.toNat 0) := by
        rw [getElem?_pos (⟨l.toArray⟩ : ByteArray) i.toNat h1]
        simp [List.getD, List.getElem?_eq_getElem hlt]
        rfl
      rw [h2]
      rfl
    · exact h.elim
  · exact h.elim

theorem snd_extract {x : Operand} {i : Nat} {vs : List AV} {v : AV} (ho : o.op = .extract x i) (hev : ev F x = .tuple vs) (hv : vs[i]? = some v) (hR : Rel E S w) (hF : FRel E S w F a.tmps)
    (h : K v F S) (hn : Cont E S w o a next K) : o.wp P a w next Q := by
  have hx := ev_rel hF x
  rw [hev] at hx
  cases hq : a.eval x <;> rw [hq] at hx <;> cases hx
  rename_i cvs hl hr
  have hlt : i < cvs.size := by rw [hl]; exact (List.getElem?_eq_some_iff.1 hv).1
  obtain ⟨cv, hg, hgd⟩ := arr_get hlt
  refine wp_val (v := cv) (w' := w) ?_ (hn.same hR hF (hgd ▸ hr _ _ hv) h)
  simp [execOp, ho, hq, Instr.extract, hg]

theorem snd_not {t : TypeId} {x : Operand} {b : Bool} (ho : o.op = .unOp .not t x) (hev : ev F x = .bool b) (hR : Rel E S w) (hF : FRel E S w F a.tmps)
    (h : K (.bool (!b)) F S) (hn : Cont E S w o a next K) : o.wp P a w next Q := by
  have hx := ev_rel hF x
  rw [hev] at hx
  have hq : a.eval x = .bool b := by cases hq : a.eval x <;> rw [hq] at hx <;> cases hx <;> rfl
  exact wp_val (by simp [execOp, ho, hq, Op.unary]) (hn.same hR hF (.bool _) h)

theorem snd_neg {t : TypeId} {x : Operand} {k : IntKind} {n : Int} (ho : o.op = .unOp .neg t x) (hev : ev F x = .int k n) (hR : Rel E S w) (hF : FRel E S w F a.tmps)
    (h : K (.int k (k.wrap (0 - n))) F S) (hn : Cont E S w o a next K) : o.wp P a w next Q := by
  have hx := ev_rel hF x
  rw [hev] at hx
  have hq : a.eval x = .int k n := by cases hq : a.eval x <;> rw [hq] at hx <;> cases hx <;> rfl
  exact wp_val (v := .int k (k.wrap (0 - n))) (w' := w) (by simp [execOp, ho, hq, Op.unary, Op.intArith]) (hn.same hR hF (.int _ _) h)

theorem snd_makeInterface {t : TypeId} {x : Operand} (ho : o.op = .makeInterface t x) (ht : isIfaceT P t = some false) (hR : Rel E S w) (hF : FRel E S w F a.tmps)
    (h : K (.iface t (ev F x)) F S) (hn : Cont E S w o a next K) : o.wp P a w next Q := by
  have hx := ev_rel hF x
  refine wp_val ?_ (hn.same hR hF (.iface t _ _ hx) h)
  unfold isIfaceT at ht
  split at ht
  · cases ht
  · rename_i d hd hu
    simp only [execOp, ho, Instr.makeInterface, Sem.run_bind, run_underlying hu, Result.andThen_ok]
    rfl
  · cases ht

theorem str_eq (x y : List UInt8) : ((⟨x.toArray⟩ : ByteArray).toList == (⟨y.toArray⟩ : ByteArray).toList) = (x == y) := by
  rw [ByteArray.toList_mk, ByteArray.toList_mk]

theorem run_intA {op : BinOp} {k k' : IntKind} {x y : Int} {K : AV → Prop} (t : TypeId) (w : World) (h : intA op k k' x y K) :
    ∃ v cv, (binOp op t (.int k x) (.int k' y)).run P w = .ok cv w ∧ (∀ E S, VRel E S w v cv) ∧ K v := by
  unfold intA at h
  split at h
  · exact ⟨_, _, by simp [binOp, Op.shift, Int.not_lt.2 h.1], fun _ _ => .int _ _, h.2⟩
  · exact ⟨_, _, by simp [binOp, Op.shift, Int.not_lt.2 h.1], fun _ _ => .int _ _, h.2⟩
  · obtain ⟨rfl, h⟩ := h; exact ⟨_, _, by simp [binOp, Op.intArith], fun _ _ => .int _ _, h⟩
  · obtain ⟨rfl, h⟩ := h; exact ⟨_, _, by simp [binOp, Op.intArith], fun _ _ => .int _ _, h⟩
  · obtain ⟨rfl, h⟩ := h; exact ⟨_, _, by simp [binOp, Op.intArith], fun _ _ => .int _ _, h⟩
  · obtain ⟨rfl, h0, h⟩ := h; exact ⟨_, _, by simp [binOp, Op.intDiv, h0], fun _ _ => .int _ _, h⟩
  · obtain ⟨rfl, h0, h⟩ := h; exact ⟨_, _, by simp [binOp, Op.intDiv, h0], fun _ _ => .int _ _, h⟩
  · obtain ⟨rfl, h⟩ := h; exact ⟨_, _, by simp [binOp, Op.intBits], fun _ _ => .int _ _, h⟩
  · obtain ⟨rfl, h⟩ := h; exact ⟨_, _, by simp [binOp, Op.intBits], fun _ _ => .int _ _, h⟩
  · obtain ⟨rfl, h⟩ := h; exact ⟨_, _, by simp [binOp, Op.intBits], fun _ _ => .int _ _, h⟩
  · obtain ⟨rfl, h⟩ := h; exact ⟨_, _, by simp [binOp, Op.intCmp], fun _ _ => .bool _, h⟩
  · obtain ⟨rfl, h⟩ := h; exact ⟨_, _, by simp [binOp, Op.intCmp], fun _ _ => .bool _, h⟩
  · obtain ⟨rfl, h⟩ := h; exact ⟨_, _, by simp [binOp, Op.intCmp], fun _ _ => .bool _, h⟩
  · obtain ⟨rfl, h⟩ := h; exact ⟨_, _, by simp [binOp, Op.intCmp], fun _ _ => .bool _, h⟩
  · obtain ⟨rfl, h⟩ := h; exact ⟨_, _, by simp [binOp, Op.intCmp], fun _ _ => .bool _, h⟩
  · obtain ⟨rfl, h⟩ := h; exact ⟨_, _, by simp [binOp, Op.intCmp], fun _ _ => .bool _, h⟩
  · exact h.elim

theorem run_strA {op : BinOp} {x y : List UInt8} {K : AV → Prop} (t : TypeId) (w : World) (h : strA op x y K) :
    ∃ v cv, (binOp op t (.string ⟨x.toArray⟩) (.string ⟨y.toArray⟩)).run P w = .ok cv w ∧ (∀ E S, VRel E S w v cv) ∧ K v := by
  unfold strA at h
  split at h
  · refine ⟨_, .string ⟨(x ++ y).toArray⟩, ?_, fun _ _ => .str _, h.2⟩
    have hs : ¬ (((⟨x.toArray⟩ : ByteArray).size + (⟨y.toArray⟩ : ByteArray).size : Nat) : Int) > IntKind.i64.max := by
      have h1 : (⟨x.toArray⟩ : ByteArray).size = x.length := by simp [ByteArray.size]
      have h2 : (⟨y.toArray⟩ : ByteArray).size = y.length := by simp [ByteArray.size]
      rw [h1, h2]
      have := h.1
      simp [IntKind.max, IntKind.signed, IntKind.bits]; omega
    have he : (⟨x.toArray⟩ : ByteArray) ++ ⟨y.toArray⟩ = ⟨(x ++ y).toArray⟩ := by
      apply ByteArray.ext
      rw [ByteArray.data_append]
      simp
    simp only [binOp, Op.stringOp, if_neg hs, Sem.run_pure, he]
  · exact ⟨_, _, by simp only [binOp, Op.stringOp, Sem.run_pure, str_eq], fun _ _ => .bool _, h⟩
  · exact ⟨_, _, by simp only [binOp, Op.stringOp, Sem.run_pure, str_eq], fun _ _ => .bool _, h⟩
  · exact h.elim

theorem nilSl {ow : Own} {sz : Nat} {xs : List AV} {v : Value} {K : Bool → Prop} (hx : VRel E S w (.sl ow sz xs) v) (h : nilSlA S ow xs K) :
    ∃ a n c, v = .slice a n c ∧ K a.isNone := by
  unfold nilSlA at h
  cases hx with
  | sl_nil sz => exact ⟨_, _, _, rfl, h⟩
  | sl_emp sz a c => exact ⟨_, _, _, rfl, by cases a; exact h.1; exact h.2⟩
  | sl_own_nil t sz ht => exact ⟨_, _, _, rfl, h.1⟩
  | sl_sub_emp t sz a c ht => exact ⟨_, _, _, rfl, by cases a; exact h.1; exact h.2⟩
  | sl_dead o' t sz xs a c ho ht hd =>
    cases ow with
    | nil => cases ho
    | ro => cases ho
    | own u =>
      cases ho
      cases xs with
      | nil => exact ⟨_, _, _, rfl, by cases a; exact h.1; exact h.2⟩
      | cons x xs => have := h.1; simp only [rdA] at this; rw [hd] at this; cases this
    | sub u =>
      cases ho
      cases xs with
      | nil => exact ⟨_, _, _, rfl, by cases a; exact h.1; exact h.2⟩
      | cons x xs => have := h.1; simp only [rdA] at this; rw [hd] at this; cases this
  | sl_mem o' sz' xs' b off c vs hacc hc hsz h1 hv hr hroom =>
    refine ⟨_, _, _, rfl, ?_⟩
    cases ow with
    | nil => exact hacc.elim
    | ro => cases xs with
      | nil => exact h.2
      | cons x xs => exact h.2
    | own t => cases xs with
      | nil => exact h.2
      | cons x xs => exact h.2
    | sub t => cases xs with
      | nil => exact h.2
      | cons x xs => exact h.2

end
end Go.Proofs.Ythpomdoaiibnfaa.Abs

namespace Go.Proofs.Ythpomdoaiibnfaa.Abs
open Go Go.RowKit
set_option linter.unusedVariables false
set_option linter.unusedSimpArgs false

section
variable {P : Program} {M : Modes} {E : Env} {S : ASt} {w : World} {o : Oper} {a : Act} {next : Act → World → Prop} {Q : Exit → Act → World → Prop} {F : List AV} {K : AV → List AV → ASt → Prop}

theorem snd_convert {s d : TypeId} {x : Operand} (ho : o.op = .convert s d x) (hR : Rel E S w) (hF : FRel E S w F a.tmps)
    (h : convA P s d (ev F x) S (fun v => K v F S)) (hn : Cont E S w o a next K) : o.wp P a w next Q := by
  have hx := ev_rel hF x
  unfold convA at h
  split at h
  · rename_i k0 n hev
    rw [hev] at hx
    have hq : a.eval x = .int k0 n := by cases hq : a.eval x <;> rw [hq] at hx <;> cases hx <;> rfl
    split at h
    · rename_i k hk
      obtain ⟨hs, hK⟩ := h
      obtain ⟨ds, hds⟩ := Option.isSome_iff_exists.1 hs
      refine wp_val ?_ (hn.same hR hF (.int _ _) hK)
      simp only [execOp, ho, hq, convert, Sem.run_bind, run_underlying hds, run_underlying (intT_some hk), Result.andThen_ok]
      simp [Conv.intToInt]
    · exact h.elim
  · rename_i l hev
    rw [hev] at hx
    have hq : a.eval x = .string ⟨l.toArray⟩ := by cases hq : a.eval x <;> rw [hq] at hx <;> cases hx <;> rfl
    split at h
    · rename_i hs hd
      refine wp_val ?_ (hn.same hR hF (.str _) h)
      simp only [execOp, ho, hq, convert, Sem.run_bind, run_underlying (isStrT_true hs), run_underlying (isStrT_true hd), Result.andThen_ok]
      simp
    · rename_i e hs hd hse
      obtain ⟨hu8, hK⟩ := h
      have hsz : (⟨l.toArray⟩ : ByteArray).size = l.length := by simp [ByteArray.size]
      have hrun := Lib.run_convert_string_bytes (P := P) w s d e ⟨l.toArray⟩ (isStrT_true hs) (sliceT_some hse) (intT_some hu8)
      rw [hsz] at hrun
      obtain ⟨ev1, hR1⟩ := step_ro' (w' := Lib.bytesWorld w e ⟨l.toArray⟩) hR rfl rfl rfl (Lib.bytesWorld_size _ _ _) (fun b hb => Lib.bytesWorld_at_old w e _ b hb)
      refine wp_val (v := .slice (some ⟨w.heap.size, 0, none⟩) l.length (grownCap w l.length 0 e)) (w' := Lib.bytesWorld w e ⟨l.toArray⟩) ?_ ?_
      · simp only [execOp, ho, hq, Sem.run_bind, hrun, Result.andThen_ok, Sem.run_pure]
      · refine hn _ _ _ (.sl .ro 1 (l.map fun b => .int .u8 b.toNat)) _ F ev1 hR1 ?_ (hF.mono ev1) hK
        have hfl : ∀ l : List UInt8, flat (l.map fun b => AV.int .u8 b.toNat) = l.map fun b => AV.int .u8 b.toNat := by
          intro l
          induction l with
          | nil => rfl
          | cons b l ih => simp only [flat, List.map_cons, List.flatMap_cons, AV.cells, List.singleton_append] at ih ⊢; rw [ih]
        have := VRel.sl_mem (E := E.addRo w.heap.size) (S := S) (w := Lib.bytesWorld w e ⟨l.toArray⟩) .ro 1 (l.map fun b => .int .u8 b.toNat) w.heap.size 0 (grownCap w l.length 0 e)
          (fun j => .int .u8 (l.getD j 0).toNat) (.inr rfl) (by simpa using grownCap_ge w l.length 0 e) (by simp [AV.cells]) (by rw [hfl]; simp [AV.one]) ?_ ?_ (fun t ht => by cases ht)
        · simpa using this
        · intro j u hj
          rw [hfl] at hj
          have hjl : j < l.length := by have := (List.getElem?_eq_some_iff.1 hj).1; simpa using this
          rw [Nat.zero_add]
          exact Lib.bytesWorld_cell w e ⟨l.toArray⟩ j (by rw [hsz]; exact hjl)
        · intro j u hj
          rw [hfl] at hj
          have hjl : j < l.length := by have := (List.getElem?_eq_some_iff.1 hj).1; simpa using this
          have : u = .int .u8 (l.getD j 0).toNat := by
            rw [List.getElem?_map, List.getElem?_eq_getElem hjl] at hj
            simp only [Option.map_some, Option.some.injEq] at hj
            simp [List.getD, List.getElem?_eq_getElem hjl, ← hj]
          subst this
          exact .int _ _
    · exact h.elim
  · rename_i ow sz xs hev
    rw [hev] at hx
    split at h
    · rename_i e hse hd
      obtain ⟨hu8, hsz, hrd, hall, hK⟩ := h
      have hb : ∀ u ∈ xs, ∃ n, u = .int .u8 n := by
        intro u hu
        have := (List.all_eq_true.1 hall) u hu
        unfold AV.isU8 at this
        split at this
        · exact ⟨_, rfl⟩
        · cases this
      have fin : ∀ a' c, (xs = [] ∨ ∃ ad, a' = some ad ∧ ∀ j u, xs[j]? = some u → ∃ n, u = .int .u8 n ∧ w.cell? (ad.add j) = some (.int .u8 n)) → a.eval x = .slice a' xs.length c →
          o.wp P a w next Q := by
        intro a' c hcase hq
        refine wp_val (v := .string ⟨(xs.map AV.byte).toArray⟩) (w' := w) ?_ (hn.same hR hF (.str _) hK)
        simp only [execOp, ho, hq, Sem.run_bind, run_convert_bytes_string w s d e a' xs.length c (sliceT_some hse) (intT_some hu8) (isStrT_true hd)]
        rcases hcase with rfl | ⟨ad, rfl, hcell⟩
        · cases a' with
          | none => simp [Conv.bytesToString]; rfl
          | some ad =>
            have := run_bytesToString (P := P) w ad 0 c [] (by simp [loadCells, loadCellsFrom])
            simp only [List.length_nil, this]; rfl
        · have hload : (loadCells ad xs.length).run P w = .ok ((xs.map fun u => match u with | .int _ n => n | _ => 0).map (Value.int .u8)).toArray w := by
            have := run_loadCells_list (P := P) w ad ((xs.map fun u => match u with | .int _ n => n | _ => 0).map (Value.int .u8)) ?_
            · simpa using this
            · intro j v hv
              rw [List.getElem?_map, List.getElem?_map] at hv
              cases hxj : xs[j]? with
              | none => rw [hxj] at hv; simp at hv
              | some u =>
                obtain ⟨n, rfl, hc⟩ := hcell j u hxj
                rw [hxj] at hv
                simp only [Option.map_some, Option.some.injEq] at hv
                rw [← hv]; exact hc
          rw [run_bytesToString (P := P) w ad xs.length c _ hload, foldl_push_bytes]
          have : (xs.map fun u => match u with | .int _ n => n | _ => 0).map (fun n => UInt8.ofNat n.toNat) = xs.map AV.byte := by
            rw [List.map_map]
            apply List.map_congr_left
            intro u hu
            obtain ⟨n, rfl⟩ := hb u hu
            rfl
          rw [this]
          simp
      generalize hq : a.eval x = cv at hx
      cases hx with
      | sl_nil sz => exact fin none 0 (.inl rfl) hq
      | sl_emp sz a' c => exact fin a' c (.inl rfl) hq
      | sl_own_nil t sz ht => exact fin none 0 (.inl rfl) hq
      | sl_sub_emp t sz a' c ht => exact fin a' c (.inl rfl) hq
      | sl_dead o' t sz xs a' c ho ht hd' => have := rd_tok hrd ho; rw [hd'] at this; cases this
      | sl_mem ow' sz' xs' b off c vs hacc hc hsz' h1 hv hr hroom =>
        refine fin _ c ?_ hq
        by_cases he : xs = []
        · exact .inl he
        · right
          refine ⟨_, rfl, fun j u hj => ?_⟩
          have hfl : flat xs = xs := by
            have : ∀ (ys : List AV), (∀ u ∈ ys, ∃ n, u = .int .u8 n) → flat ys = ys := by
              intro ys hys
              induction ys with
              | nil => rfl
              | cons y ys ih =>
                obtain ⟨n, rfl⟩ := hys y (by simp)
                have ih' := ih (fun u hu => hys u (by simp [hu]))
                simp only [flat, List.flatMap_cons, AV.cells, List.singleton_append] at ih' ⊢
                rw [ih']
            exact this xs hb
          obtain ⟨n, rfl⟩ := hb u (List.mem_of_getElem? hj)
          have hj' : (flat xs)[j]? = some (.int .u8 n) := by rw [hfl]; exact hj
          have e1 := hv j _ hj'
          have e2 := hr j _ hj'
          cases hvj : vs j <;> rw [hvj] at e2 <;> cases e2
          rw [hvj] at e1
          exact ⟨n, rfl, by rw [Addr.add_lit]; exact e1⟩
    · exact h.elim
  · exact h.elim
end
end Go.Proofs.Ythpomdoaiibnfaa.Abs

namespace Go.Proofs.Ythpomdoaiibnfaa.Abs
open Go Go.RowKit
set_option linter.unusedVariables false
set_option linter.unusedSimpArgs false

section
variable {P : Program} {M : Modes} {E : Env} {S : ASt} {w : World} {o : Oper} {a : Act} {next : Act → World → Prop} {Q : Exit → Act → World → Prop} {F : List AV} {K : AV → List AV → ASt → Prop}

theorem bnd_int {x : AV} {K : Int → Prop} (h : bndA x K) : ∃ k n, x = .int k n ∧ K n := by
  unfold bndA at h; split at h
  · exact ⟨_, _, rfl, h⟩
  · exact h.elim

theorem opt_int {x : Option Operand} {d : Int} {K : Int → Prop} (hF : FRel E S w F a.tmps) (h : optA F x d K) :
    (x = none ∧ K d) ∨ ∃ y k n, x = some y ∧ a.eval y = .int k n ∧ K n := by
  unfold optA at h
  cases x with
  | none => exact .inl ⟨rfl, h⟩
  | some y =>
    obtain ⟨k, n, he, hk⟩ := bnd_int h
    have hy := ev_rel hF y
    rw [he] at hy
    refine .inr ⟨y, k, n, rfl, ?_, hk⟩
    cases hq : a.eval y <;> rw [hq] at hy <;> cases hy <;> rfl

theorem run_sliceBound {k : IntKind} {i : Int} {y : Nat} {c : BoundsCode} (h : 0 ≤ i ∧ i ≤ y) : (Instr.sliceBound (.int k i) y c).run P w = .ok i.toNat w := by
  simp [Instr.sliceBound, asIntOf, h]

theorem run_bounds {b : Bool} {len cap : Nat} {lo hi : Option Value} {l h : Int} (hl : (lo = none ∧ l = 0) ∨ ∃ k, lo = some (.int k l))
    (hh : (hi = none ∧ h = len) ∨ ∃ k, hi = some (.int k h)) (hb : 0 ≤ l ∧ l ≤ h ∧ h ≤ cap) :
    (Instr.sliceBounds b len cap lo hi none).run P w = .ok (l.toNat, h.toNat, cap) w := by
  have e1 : ∀ c, (Instr.sliceBound (.int .i64 0) 0 c).run P w = .ok 0 w := fun c => by simp [Instr.sliceBound, asIntOf]
  rcases hl with ⟨rfl, rfl⟩ | ⟨k, rfl⟩ <;> rcases hh with ⟨rfl, rfl⟩ | ⟨k', rfl⟩
  · simp [Instr.sliceBounds]
  · have : ∀ c, (Instr.sliceBound (.int k' h) cap c).run P w = .ok h.toNat w := fun c => run_sliceBound ⟨by omega, by omega⟩
    simp [Instr.sliceBounds, this]
  · have : ∀ c, (Instr.sliceBound (.int k l) len c).run P w = .ok l.toNat w := fun c => run_sliceBound ⟨by omega, by omega⟩
    simp [Instr.sliceBounds, this]
  · have h1 : ∀ c, (Instr.sliceBound (.int k' h) cap c).run P w = .ok h.toNat w := fun c => run_sliceBound ⟨by omega, by omega⟩
    have h2 : ∀ c, (Instr.sliceBound (.int k l) h.toNat c).run P w = .ok l.toNat w := fun c => run_sliceBound ⟨by omega, by omega⟩
    simp [Instr.sliceBounds, h1, h2]

theorem flat_cut {sz : Nat} (xs : List AV) (hs : ∀ x ∈ xs, x.cells.length = sz) (l h : Nat) : ∀ j u, (flat ((xs.take h).drop l))[j]? = some u → (flat xs)[l * sz + j]? = some u := by
  intro j u hu
  have h1 : flat xs = flat (xs.take h) ++ flat (xs.drop h) := by rw [← flat_append, List.take_append_drop]
  have h2 : flat (xs.take h) = flat ((xs.take h).take l) ++ flat ((xs.take h).drop l) := by rw [← flat_append, List.take_append_drop]
  by_cases hl : l ≤ (xs.take h).length
  · have hlen : (flat ((xs.take h).take l)).length = l * sz := by
      rw [flat_length _ (fun x hx => hs x (List.mem_of_mem_take (List.mem_of_mem_take hx)))]
      rw [List.length_take, Nat.min_eq_left hl]
    have hj := (List.getElem?_eq_some_iff.1 hu).1
    rw [h1, List.getElem?_append_left (by rw [h2, List.length_append, hlen]; omega), h2, List.getElem?_append_right (by omega), hlen]
    rw [show l * sz + j - l * sz = j by omega]; exact hu
  · rw [List.drop_of_length_le (by omega)] at hu
    simp [flat] at hu

theorem snd_slice {t : TypeId} {x : Operand} {lo hi : Option Operand} (ho : o.op = .slice t x lo hi none) (hR : Rel E S w) (hF : FRel E S w F a.tmps)
    (h : sliceA P F t (ev F x) lo hi S (fun v => K v F S)) (hn : Cont E S w o a next K) : o.wp P a w next Q := by
  have hx := ev_rel hF x
  unfold sliceA at h
  split at h
  · rename_i ow sz xs hev
    rw [hev] at hx
    split at h
    · rename_i e hse
      obtain ⟨hsz, hrd, hsome, h⟩ := h
      obtain ⟨sz', hsz'⟩ := Option.isSome_iff_exists.1 hsome
      -- the bounds
      obtain ⟨l, hl, h⟩ : ∃ l : Int, ((lo.map a.eval = none ∧ l = 0) ∨ ∃ k, lo.map a.eval = some (.int k l)) ∧ optA F hi xs.length fun h => (0 ≤ l ∧ l ≤ h ∧ h ≤ xs.length) ∧ K (.sl (subA lo ow) sz ((xs.take h.toNat).drop l.toNat)) F S := by
        rcases opt_int hF h with ⟨rfl, h⟩ | ⟨y, k, n, rfl, hy, h⟩
        · exact ⟨0, .inl ⟨rfl, rfl⟩, h⟩
        · exact ⟨n, .inr ⟨k, by simp [hy]⟩, h⟩
      obtain ⟨hh, hhh, hb, hK⟩ : ∃ hh : Int, ((hi.map a.eval = none ∧ hh = xs.length) ∨ ∃ k, hi.map a.eval = some (.int k hh)) ∧ (0 ≤ l ∧ l ≤ hh ∧ hh ≤ xs.length) ∧ K (.sl (subA lo ow) sz ((xs.take hh.toNat).drop l.toNat)) F S := by
        rcases opt_int hF h with ⟨rfl, h⟩ | ⟨y, k, n, rfl, hy, h⟩
        · exact ⟨xs.length, .inl ⟨rfl, rfl⟩, h.1, h.2⟩
        · exact ⟨n, .inr ⟨k, by simp [hy]⟩, h.1, h.2⟩
      have run : ∀ (ad : Option Addr) (c : Nat), xs.length ≤ c → a.eval x = .slice ad xs.length c →
          (execOp a.eval o).run P w = .ok (.value (.slice (if c = l.toNat then ad else ad.map (·.add (l.toNat * sz'))) (hh.toNat - l.toNat) (c - l.toNat))) w := by
        intro ad c hc hq
        have hbd := run_bounds (P := P) (w := w) (b := true) (len := xs.length) (cap := c) hl hhh ⟨hb.1, hb.2.1, by omega⟩
        simp only [execOp, ho, hq, Instr.sliceAt, Sem.run_bind, run_underlying (sliceT_some hse), Result.andThen_ok, Instr.slice, Option.map_none, hbd, run_sizeOf hsz', Sem.run_pure]
      have hlen : ((xs.take hh.toNat).drop l.toNat).length = hh.toNat - l.toNat := by
        rw [List.length_drop, List.length_take, Nat.min_eq_left (by omega)]
      generalize hq : a.eval x = cv at hx
      cases hx with
      | sl_nil sz =>
        have hl0 : l = 0 := by simp at hb; omega
        have hh0 : hh = 0 := by simp at hb; omega
        subst hl0; subst hh0
        refine wp_val (run none 0 (Nat.le_refl _) hq) (hn.same hR hF ?_ hK)
        simpa [subA] using VRel.sl_nil sz
      | sl_emp sz a' c =>
        have hl0 : l = 0 := by simp at hb; omega
        have hh0 : hh = 0 := by simp at hb; omega
        subst hl0; subst hh0
        refine wp_val (run a' c (Nat.zero_le _) hq) (hn.same hR hF ?_ hK)
        simpa [subA] using VRel.sl_emp sz _ c
      | sl_own_nil t sz ht =>
        have hl0 : l = 0 := by simp at hb; omega
        have hh0 : hh = 0 := by simp at hb; omega
        subst hl0; subst hh0
        refine wp_val (run none 0 (Nat.le_refl _) hq) (hn.same hR hF ?_ hK)
        cases lo with
        | none => simpa [subA] using VRel.sl_own_nil t sz ht
        | some lo => simpa [subA] using VRel.sl_sub_emp t sz none 0 ht
      | sl_sub_emp t sz a' c ht =>
        have hl0 : l = 0 := by simp at hb; omega
        have hh0 : hh = 0 := by simp at hb; omega
        subst hl0; subst hh0
        refine wp_val (run a' c (Nat.zero_le _) hq) (hn.same hR hF ?_ hK)
        simpa [subA] using VRel.sl_sub_emp t sz _ c ht
      | sl_dead o' t sz xs a' c ho ht hd' => have := rd_tok hrd ho; rw [hd'] at this; cases this
      | sl_mem ow' sz0 xs' b off c vs hacc hc hsz0 h1 hv hr hroom =>
        refine wp_val (run _ c hc hq) (hn.same hR hF ?_ hK)
        rw [← hlen]
        have hacc' : Acc E S (subA lo ow) b := by
          cases ow with
          | own t => cases lo <;> exact hacc
          | _ => exact hacc
        have hown : ∀ t, subA lo ow = .own t → ow = .own t ∧ l = 0 := by
          intro t ht
          cases ow with
          | own t' =>
            cases lo with
            | none =>
              refine ⟨ht, ?_⟩
              rcases hl with ⟨_, h0⟩ | ⟨k, hk⟩
              · exact h0
              · cases hk
            | some lo => cases ht
          | nil => cases ht
          | ro => cases ht
          | sub t' => cases ht
        by_cases he : xs = []
        · subst he
          have hl0 : l = 0 := by simp at hb; omega
          have hh0 : hh = 0 := by simp at hb; omega
          subst hl0; subst hh0
          have := VRel.sl_mem (E := E) (S := S) (w := w) (subA lo ow) sz [] b off c vs hacc' hc hsz0 h1 hv hr (fun t ht => hroom t (hown t ht).1)
          simpa [Addr.add] using this
        have hszz : sz' = sz := by
          rcases hsz with hsz | hsz
          · rw [hsz'] at hsz; exact (Option.some.inj hsz)
          · exact absurd hsz he
        subst hszz
        by_cases hcl : c = l.toNat
        · rw [if_pos hcl]
          have hnil : (xs.take hh.toNat).drop l.toNat = [] := List.eq_nil_of_length_eq_zero (by rw [hlen]; omega)
          rw [hnil]
          exact VRel.sl_mem (subA lo ow) sz' [] b off (c - l.toNat) vs hacc' (Nat.zero_le _) (by simp) (by simp [flat]) (by simp [flat]) (by simp [flat])
            (fun t ht => by
              obtain ⟨g0, cur, e', g1, g2⟩ := hroom t (hown t ht).1
              exact ⟨g0, cur, e', g1, by rw [hcl]; simp; exact Nat.le_trans (Nat.le_add_right _ _) g2⟩)
        · rw [if_neg hcl]
          simp only [Option.map_some, Addr.add_lit]
          refine VRel.sl_mem (subA lo ow) sz' _ b (off + l.toNat * sz') (c - l.toNat) (fun j => vs (l.toNat * sz' + j)) hacc' (by rw [hlen]; omega) ?_ ?_ ?_ ?_ ?_
          · intro y hy; exact hsz0 y (List.mem_of_mem_take (List.mem_of_mem_drop hy))
          · intro u hu
            obtain ⟨j, hj⟩ := List.mem_iff_getElem?.1 hu
            exact h1 u (List.mem_of_getElem? (flat_cut xs hsz0 _ _ j u hj))
          · intro j u hj
            have := hv _ u (flat_cut xs hsz0 _ _ j u hj)
            rwa [← Nat.add_assoc] at this
          · intro j u hj; exact hr _ u (flat_cut xs hsz0 _ _ j u hj)
          · intro t ht
            obtain ⟨ht', hl0⟩ := hown t ht
            obtain ⟨g0, cur, e', g1, g2⟩ := hroom t ht'
            subst hl0
            exact ⟨by simpa using g0, cur, e', g1, by simpa using g2⟩
    · exact h.elim
  · rename_i s hev
    rw [hev] at hx
    obtain ⟨hst, h⟩ := h
    have hq : a.eval x = .string ⟨s.toArray⟩ := by cases hq : a.eval x <;> rw [hq] at hx <;> cases hx <;> rfl
    obtain ⟨l, hl, h⟩ : ∃ l : Int, ((lo.map a.eval = none ∧ l = 0) ∨ ∃ k, lo.map a.eval = some (.int k l)) ∧ optA F hi s.length fun h => (0 ≤ l ∧ l ≤ h ∧ h ≤ s.length) ∧ K (.str ((s.take h.toNat).drop l.toNat)) F S := by
      rcases opt_int hF h with ⟨rfl, h⟩ | ⟨y, k, n, rfl, hy, h⟩
      · exact ⟨0, .inl ⟨rfl, rfl⟩, h⟩
      · exact ⟨n, .inr ⟨k, by simp [hy]⟩, h⟩
    obtain ⟨hh, hhh, hb, hK⟩ : ∃ hh : Int, ((hi.map a.eval = none ∧ hh = s.length) ∨ ∃ k, hi.map a.eval = some (.int k hh)) ∧ (0 ≤ l ∧ l ≤ hh ∧ hh ≤ s.length) ∧ K (.str ((s.take hh.toNat).drop l.toNat)) F S := by
      rcases opt_int hF h with ⟨rfl, h⟩ | ⟨y, k, n, rfl, hy, h⟩
      · exact ⟨s.length, .inl ⟨rfl, rfl⟩, h.1, h.2⟩
      · exact ⟨n, .inr ⟨k, by simp [hy]⟩, h.1, h.2⟩
    have hsz : (⟨s.toArray⟩ : ByteArray).size = s.length := by simp [ByteArray.size]
    have hbd := run_bounds (P := P) (w := w) (b := false) (len := s.length) (cap := s.length) hl hhh hb
    refine wp_val (v := .string ⟨((s.take hh.toNat).drop l.toNat).toArray⟩) (w' := w) ?_ (hn.same hR hF (.str _) hK)
    have hex : (⟨s.toArray⟩ : ByteArray).extract l.toNat hh.toNat = ⟨((s.take hh.toNat).drop l.toNat).toArray⟩ := by
      apply ByteArray.ext
      rw [ByteArray.data_extract]
      apply Array.ext'
      simp [Array.toList_extract]
      rw [List.drop_take]
    simp only [execOp, ho, hq, Instr.sliceAt, Sem.run_bind, run_underlying (isStrT_true hst), Result.andThen_ok, Instr.slice, Option.map_none, Option.isSome_none, Bool.false_eq_true, if_false, hsz, hbd, Sem.run_pure, hex]
  · exact h.elim
end
end Go.Proofs.Ythpomdoaiibnfaa.Abs

namespace Go.Proofs.Ythpomdoaiibnfaa.Abs
open Go Go.RowKit
set_option linter.unusedVariables false
set_option linter.unusedSimpArgs false

section
variable {P : Program} {M : Modes} {E : Env} {S : ASt} {w : World} {o : Oper} {a : Act} {next : Act → World → Prop} {Q : Exit → Act → World → Prop} {F : List AV} {K : AV → List AV → ASt → Prop}

theorem plain_notAgg {t : TypeId} (h : plainT P t = true) : aggT P t = some false := by
  unfold plainT isBoolT intT isStrT at h
  unfold aggT
  cases hu : P.underlying t with
  | none => rw [hu] at h; simp at h
  | some d => rw [hu] at h; cases d <;> simp at h <;> rfl

theorem eq_one {t : TypeId} (hp : plainT P t = true) {x y : AV} {cx cy : Value} (hx : VRel E S w x cx) (hy : VRel E S w y cy) (sx : x.sort = sortT P t) (sy : y.sort = sortT P t) (d : Nat) :
    (Op.equalIn (d + 1) t cx cy).run P w = .ok (x.eq1 y) w := by
  unfold plainT isBoolT intT isStrT at hp
  unfold sortT at sx sy
  cases hu : P.underlying t with
  | none => rw [hu] at hp; simp at hp
  | some ds =>
    rw [hu] at hp sx sy
    cases ds with
    | bool =>
      cases x <;> simp [AV.sort] at sx
      case bool b1 =>
        cases y <;> simp [AV.sort] at sy
        case bool b2 => cases hx; cases hy; exact run_equalIn_bool' w d t _ _ hu
        case int k n => cases k <;> simp at sy
      case int k n => cases k <;> simp at sx
    | string =>
      cases x <;> simp [AV.sort] at sx
      case str b1 =>
        cases y <;> simp [AV.sort] at sy
        case str b2 =>
          cases hx; cases hy
          rw [run_equalIn_string w d t _ _ hu, str_eq]; rfl
        case int k n => cases k <;> simp at sy
      case int k n => cases k <;> simp at sx
    | int k =>
      have key : ∀ (k1 k2 : IntKind) (n1 n2 : Int), k1 = k → k2 = k → x = .int k1 n1 → y = .int k2 n2 → (Op.equalIn (d + 1) t cx cy).run P w = .ok (x.eq1 y) w := by
        rintro k1 k2 n1 n2 rfl rfl rfl rfl
        cases hx; cases hy
        exact run_equalIn_int w d t _ _ _ _ hu
      cases x <;> (try (cases k <;> simp [AV.sort] at sx; done))
      case int k1 n1 =>
        cases y <;> (try (cases k <;> simp [AV.sort] at sy; done))
        case int k2 n2 =>
          refine key k1 k2 n1 n2 ?_ ?_ rfl rfl
          · cases k <;> cases k1 <;> simp [AV.sort] at sx <;> rfl
          · cases k <;> cases k2 <;> simp [AV.sort] at sy <;> rfl
    | _ => simp at hp

theorem part_one {t : TypeId} (hp : plainT P t = true) {cs : List AV} {vs : Array Value} (hl : vs.size = cs.length) {off : Nat} (ho : off < cs.length) :
    (part t vs off).run P w = .ok (vs.getD off undef) w := by
  obtain ⟨cv, h1, h2⟩ := arr_get (vs := vs) (i := off) (by omega)
  rw [h2]; simp [part, run_isAgg (plain_notAgg hp), h1]

def eqAt (l : List Nat) (xs ys : List AV) : Bool := l.all fun i => (xs.getD i .top).eq1 (ys.getD i .top)

theorem eqAt_range : ∀ (xs ys : List AV), xs.length = ys.length → eqAt (List.range xs.length) xs ys = eqL xs ys
  | [], [], _ => rfl
  | x :: xs, y :: ys, h => by
    have ih := eqAt_range xs ys (by simpa using h)
    simp only [eqAt, List.length_cons, List.range_succ_eq_map, List.all_cons, List.getD_cons_zero, eqL, List.all_map] at ih ⊢
    rw [← ih]
    congr 1
  | [], y :: ys, h => by simp at h
  | x :: xs, [], h => by simp at h

theorem run_fields {xs ys : List AV} {cx cy : Array Value} (hx : cx.size = xs.length) (hy : cy.size = ys.length)
    (rx : ∀ i u, xs[i]? = some u → VRel E S w u (cx.getD i undef)) (ry : ∀ i u, ys[i]? = some u → VRel E S w u (cy.getD i undef)) (d : Nat) :
    ∀ (fs : List Field), (∀ f ∈ fs, plainT P f.type = true ∧ (f.name == "_") = false ∧ f.offset < xs.length ∧ f.offset < ys.length ∧ (xs.getD f.offset .top).sort = sortT P f.type ∧ (ys.getD f.offset .top).sort = sortT P f.type) →
      (Op.eqFields (d + 1) cx cy fs).run P w = .ok (eqAt (fs.map (·.offset)) xs ys) w
  | [], _ => by simp [Op.eqFields, eqAt]
  | f :: fs, h => by
    obtain ⟨h1, h2, h3, h4, h5, h6⟩ := h f (by simp)
    have ih := run_fields hx hy rx ry d fs (fun g hg => h g (by simp [hg]))
    have hname : f.name ≠ "_" := by simpa using h2
    have vx := rx f.offset (xs.getD f.offset .top) (by simp [List.getD, List.getElem?_eq_getElem h3])
    have vy := ry f.offset (ys.getD f.offset .top) (by simp [List.getD, List.getElem?_eq_getElem h4])
    simp only [Op.eqFields, if_pos hname, Sem.run_bind, part_one (w := w) h1 hx h3, part_one (w := w) h1 hy h4, Result.andThen_ok, eq_one h1 vx vy h5 h6]
    simp only [eqAt, List.map_cons, List.all_cons] at ih ⊢
    cases hb : (xs.getD f.offset .top).eq1 (ys.getD f.offset .top)
    · simp
    · simpa using ih

theorem run_items {xs ys : List AV} {cx cy : Array Value} (hx : cx.size = xs.length) (hy : cy.size = ys.length)
    (rx : ∀ i u, xs[i]? = some u → VRel E S w u (cx.getD i undef)) (ry : ∀ i u, ys[i]? = some u → VRel E S w u (cy.getD i undef)) (d : Nat) (e : TypeId) (he : plainT P e = true) :
    ∀ (is : List Nat), (∀ i ∈ is, i < xs.length ∧ i < ys.length ∧ (xs.getD i .top).sort = sortT P e ∧ (ys.getD i .top).sort = sortT P e) →
      (Op.eqItems (d + 1) e 1 cx cy is).run P w = .ok (eqAt is xs ys) w
  | [], _ => by simp [Op.eqItems, eqAt]
  | i :: is, h => by
    obtain ⟨h3, h4, h5, h6⟩ := h i (by simp)
    have ih := run_items hx hy rx ry d e he is (fun g hg => h g (by simp [hg]))
    have vx := rx i (xs.getD i .top) (by simp [List.getD, List.getElem?_eq_getElem h3])
    have vy := ry i (ys.getD i .top) (by simp [List.getD, List.getElem?_eq_getElem h4])
    simp only [Op.eqItems, Nat.mul_one, Sem.run_bind, part_one (w := w) he hx h3, part_one (w := w) he hy h4, Result.andThen_ok, eq_one he vx vy h5 h6]
    simp only [eqAt, List.all_cons] at ih ⊢
    cases hb : (xs.getD i .top).eq1 (ys.getD i .top)
    · simp
    · simpa using ih

theorem sortsA_some {t : TypeId} {ss : List Nat} (h : sortsA P t = some ss) :
    P.eqGuardType P.depth t = false ∧ ((∃ fs, P.underlying t = some (.struct fs) ∧ P.stoodInHeld t = false ∧ (∀ f ∈ fs.toList, plainT P f.type = true ∧ (f.name == "_") = false) ∧
        fs.toList.map (·.offset) = List.range ss.length ∧ ss = fs.toList.map (fun f => sortT P f.type)) ∨
      (∃ n e, P.underlying t = some (.array n e) ∧ plainT P e = true ∧ szA P e = some 1 ∧ ss = List.replicate n (sortT P e))) := by
  unfold sortsA at h
  split at h
  · rename_i l hl
    split at h
    · rename_i hr
      have hr' : l.map (·.1) = List.range l.length := by simpa using hr
      cases h
      unfold flatT at hl
      split at hl
      · rename_i fs hu
        split at hl
        · rename_i hc
          simp only [Bool.and_eq_true, List.all_eq_true, Bool.not_eq_true'] at hc
          cases hl
          refine ⟨hc.2, .inl ⟨fs, hu, hc.1.2, hc.1.1, ?_, by simp⟩⟩
          have h2 := hr'
          rw [List.map_map, List.length_map] at h2
          simpa [Function.comp_def] using h2
        · cases hl
      · rename_i n e hu
        split at hl
        · rename_i hc
          simp only [Bool.and_eq_true, beq_iff_eq, Bool.not_eq_true'] at hc
          cases hl
          refine ⟨hc.2, .inr ⟨n, e, hu, hc.1.1, hc.1.2, ?_⟩⟩
          rw [List.map_map]
          exact List.eq_replicate_iff.2 ⟨by simp, by simp⟩
        · cases hl
      · cases hl
    · cases h
  · cases h

theorem run_eqAgg {t : TypeId} {xs ys : List AV} {cx cy : Array Value} (h : sortsA P t = some (xs.map AV.sort)) (hss : xs.map AV.sort = ys.map AV.sort)
    (hx : cx.size = xs.length) (hy : cy.size = ys.length)
    (rx : ∀ i u, xs[i]? = some u → VRel E S w u (cx.getD i undef)) (ry : ∀ i u, ys[i]? = some u → VRel E S w u (cy.getD i undef)) :
    (Op.equalIn 10000 t (.agg cx) (.agg cy)).run P w = .ok (eqL xs ys) w := by
  have hlen : xs.length = ys.length := by have := congrArg List.length hss; simpa using this
  have hsort : ∀ i, i < xs.length → (xs.getD i .top).sort = (xs.map AV.sort).getD i 0 ∧ (ys.getD i .top).sort = (xs.map AV.sort).getD i 0 := by
    intro i hi
    constructor
    · simp [List.getD, List.getElem?_eq_getElem hi]
    · rw [hss]; simp [List.getD, List.getElem?_eq_getElem (show i < ys.length by omega)]
  obtain ⟨hg, h⟩ := sortsA_some h
  rcases h with ⟨fs, hu, hst, hpl, hoff, hs⟩ | ⟨n, e, hu, hpl, hsz, hs⟩
  · have hfo : P.fieldsOf t = fs := by unfold Program.fieldsOf; rw [hu]
    rw [run_equalIn_struct w 9999 t cx cy (by rw [hfo]; exact hu) hst, hfo]
    have hflen : fs.toList.length = xs.length := by have := congrArg List.length hs; simpa using this.symm
    rw [run_fields hx hy rx ry 9998 fs.toList]
    · rw [hoff, List.length_map, eqAt_range xs ys hlen]
    · intro f hf
      obtain ⟨j, hj⟩ := List.mem_iff_getElem?.1 hf
      have hjl : j < fs.toList.length := (List.getElem?_eq_some_iff.1 hj).1
      have ho : f.offset = j := by
        have h1 : (fs.toList.map (·.offset))[j]? = some f.offset := by rw [List.getElem?_map, hj]; rfl
        rw [hoff, List.getElem?_range (by rw [List.length_map]; omega)] at h1
        exact (Option.some.inj h1).symm
      have hjx : j < xs.length := by omega
      have hst' : (xs.map AV.sort).getD j 0 = sortT P f.type := by
        rw [hs]
        simp [List.getD, hj]
      obtain ⟨s1, s2⟩ := hsort j hjx
      rw [ho]
      exact ⟨(hpl f hf).1, (hpl f hf).2, hjx, by omega, s1.trans hst', s2.trans hst'⟩
  · obtain ⟨i, hi⟩ : ∃ i, P.info? e = some i := by
      unfold szA at hsz; cases hq : P.info? e with
      | none => rw [hq] at hsz; cases hsz
      | some i => exact ⟨i, rfl⟩
    have hc : P.cellsOf e = 1 := by unfold Program.cellsOf; unfold szA at hsz; rw [hsz]; rfl
    have hn : n = xs.length := by have := congrArg List.length hs; simpa using this.symm
    rw [run_equalIn_array w 9999 cx cy hu hi, hc, run_items hx hy rx ry 9998 e hpl]
    · rw [hn, eqAt_range xs ys hlen]
    · intro i hi
      have hix : i < xs.length := by rw [← hn]; simpa using hi
      have hst' : (xs.map AV.sort).getD i 0 = sortT P e := by
        rw [hs]; simp [List.getD, hn, hix]
      obtain ⟨s1, s2⟩ := hsort i hix
      exact ⟨hix, by omega, s1.trans hst', s2.trans hst'⟩

theorem guard_agg {op : BinOp} {t : TypeId} {x y : Operand} {cx cy : Array Value} (hg : P.eqGuardType P.depth t = false) :
    (eqGuard op t x y (.agg cx) (.agg cy)).run P w = .ok () w := run_eqGuard_agg w op t x y cx cy hg

theorem guard_other {op : BinOp} {t : TypeId} {x y : Operand} {u v : Value} (h1 : ∀ cs, u ≠ .agg cs) (h2 : u ≠ .nilIface) : (eqGuard op t x y u v).run P w = .ok () w := by
  cases u <;> first
    | (exfalso; exact h1 _ rfl)
    | (exfalso; exact h2 rfl)
    | (cases op <;> simp [eqGuard])

theorem run_eq_ptr {t e : TypeId} (he : P.underlying t = some (.pointer e)) (d : Nat) (p : Option Addr) : (Op.equalIn (d + 1) t (.pointer p) (.pointer none)).run P w = .ok p.isNone w := by
  cases p <;> simp [Op.equalIn, run_underlying he]
theorem run_eq_nilSl {t e : TypeId} (he : P.underlying t = some (.slice e)) (d : Nat) (p : Option Addr) (n c : Nat) : (Op.equalIn (d + 1) t (.slice p n c) (.slice none 0 0)).run P w = .ok p.isNone w := by
  cases p <;> simp [Op.equalIn, run_underlying he]
theorem run_eql_of {t : TypeId} {x y : Value} {b : Bool} (hd : binOp .eql t x y = do pure (.bool (← Op.equal t x y))) (h : (Op.equalIn (9999 + 1) t x y).run P w = .ok b w) : (binOp .eql t x y).run P w = .ok (.bool b) w := by
  have e : Op.equal t x y = Op.equalIn (9999 + 1) t x y := rfl
  rw [hd, e, Sem.run_bind, h]; rfl
theorem run_neq_of {t : TypeId} {x y : Value} {b : Bool} (hd : binOp .neq t x y = do pure (.bool (!(← Op.equal t x y)))) (h : (Op.equalIn (9999 + 1) t x y).run P w = .ok b w) : (binOp .neq t x y).run P w = .ok (.bool (!b)) w := by
  have e : Op.equal t x y = Op.equalIn (9999 + 1) t x y := rfl
  rw [hd, e, Sem.run_bind, h]; rfl

theorem snd_binOp {op : BinOp} {t yt : TypeId} {x y : Operand} (ho : o.op = .binOp op t x y yt) (hR : Rel E S w) (hF : FRel E S w F a.tmps)
    (h : binA P op t (ev F x) (ev F y) (fun v => K v F S)) (hn : Cont E S w o a next K) : o.wp P a w next Q := by
  have hx := ev_rel hF x
  have hy := ev_rel hF y
  have fin : ∀ v cv, (binOp op t (a.eval x) (a.eval y)).run P w = .ok cv w → (eqGuard op t x y (a.eval x) (a.eval y)).run P w = .ok () w → VRel E S w v cv → K v F S → o.wp P a w next Q := by
    intro v cv h1 h2 h3 h4
    refine wp_val (v := cv) (w' := w) ?_ (hn.same hR hF h3 h4)
    simp only [execOp, ho, Sem.run_bind, h2, Result.andThen_ok, h1, Sem.run_pure]
  unfold binA at h
  generalize hqx : a.eval x = cvx at hx fin
  generalize hqy : a.eval y = cvy at hy fin
  split at h
  · rename_i op' k m k' n h1 h2
    rw [h1] at hx; rw [h2] at hy
    cases hx; cases hy
    obtain ⟨v, cv, e1, e2, e3⟩ := run_intA t w h
    exact fin v cv e1 (guard_other (by intro cs; simp) (by simp)) (e2 E S) e3
  · rename_i op' m n h1 h2
    rw [h1] at hx; rw [h2] at hy
    cases hx; cases hy
    obtain ⟨v, cv, e1, e2, e3⟩ := run_strA t w h
    exact fin v cv e1 (guard_other (by intro cs; simp) (by simp)) (e2 E S) e3
  · rename_i m n h1 h2
    rw [h1] at hx; rw [h2] at hy
    cases hx; cases hy
    exact fin (.bool (m == n)) (.bool (m == n)) (run_eql_of rfl (run_equalIn_bool' w 9999 t m n (isBoolT_true h.1))) (guard_other (by intro cs; simp) (by simp)) (.bool _) h.2
  · rename_i m n h1 h2
    rw [h1] at hx; rw [h2] at hy
    cases hx; cases hy
    exact fin (.bool (!(m == n))) (.bool (!(m == n))) (run_neq_of rfl (run_equalIn_bool' w 9999 t m n (isBoolT_true h.1))) (guard_other (by intro cs; simp) (by simp)) (.bool _) h.2
  · rename_i p h1 h2
    rw [h1] at hx; rw [h2] at hy
    obtain ⟨e, he⟩ := isPtrT_true h.1
    cases hx <;> cases hy
    · exact fin _ (.bool true) (run_eql_of rfl (run_eq_ptr he _ _)) (guard_other (by intro cs; simp) (by simp)) (.bool _) h.2
    · exact fin _ (.bool false) (run_eql_of rfl (run_eq_ptr he _ _)) (guard_other (by intro cs; simp) (by simp)) (.bool _) h.2
  · rename_i p h1 h2
    rw [h1] at hx; rw [h2] at hy
    obtain ⟨e, he⟩ := isPtrT_true h.1
    cases hx <;> cases hy
    · exact fin _ (.bool false) (run_neq_of rfl (run_eq_ptr he _ _)) (guard_other (by intro cs; simp) (by simp)) (.bool _) h.2
    · exact fin _ (.bool true) (run_neq_of rfl (run_eq_ptr he _ _)) (guard_other (by intro cs; simp) (by simp)) (.bool _) h.2
  · rename_i xs ys h1 h2
    rw [h1] at hx; rw [h2] at hy
    cases hx with
    | agg cs vs hl hone hr =>
      cases hy with
      | agg cs' vs' hl' hone' hr' =>
        have := run_eqAgg h.1 h.2.1 hl hl' hr hr'
        exact fin _ (.bool (eqL xs ys)) (by rw [run_eql_struct, this]; rfl) (guard_agg (sortsA_some h.1).1) (.bool _) h.2.2
  · rename_i xs ys h1 h2
    rw [h1] at hx; rw [h2] at hy
    cases hx with
    | agg cs vs hl hone hr =>
      cases hy with
      | agg cs' vs' hl' hone' hr' =>
        have := run_eqAgg h.1 h.2.1 hl hl' hr hr'
        exact fin _ (.bool (!eqL xs ys)) (by rw [run_neq_struct, this]; rfl) (guard_agg (sortsA_some h.1).1) (.bool _) h.2.2
  · exact h.elim

theorem snd_nilcmp {op : BinOp} {t yt : TypeId} {x y : Operand} (ho : o.op = .binOp op t x y yt) (hc : isNilC y = true) (hR : Rel E S w) (hF : FRel E S w F a.tmps)
    (h : nilA P op t (ev F x) S (fun v => K v F S)) (hn : Cont E S w o a next K) : o.wp P a w next Q := by
  have hx := ev_rel hF x
  have hqy : a.eval y = .slice none 0 0 := by
    unfold isNilC at hc
    split at hc
    · rfl
    · cases hc
  have fin : ∀ v cv, (binOp op t (a.eval x) (a.eval y)).run P w = .ok cv w → (eqGuard op t x y (a.eval x) (a.eval y)).run P w = .ok () w → VRel E S w v cv → K v F S → o.wp P a w next Q := by
    intro v cv h1 h2 h3 h4
    refine wp_val (v := cv) (w' := w) ?_ (hn.same hR hF h3 h4)
    simp only [execOp, ho, Sem.run_bind, h2, Result.andThen_ok, h1, Sem.run_pure]
  unfold nilA at h
  generalize hqx : a.eval x = cvx at hx fin
  rw [hqy] at fin
  split at h
  · rename_i ow sz xs h1
    rw [h1] at hx
    obtain ⟨hs, h⟩ := h
    obtain ⟨e, he⟩ := Option.isSome_iff_exists.1 hs
    obtain ⟨aa, n, c, rfl, hk⟩ := nilSl hx h
    exact fin _ (.bool aa.isNone) (run_eql_of rfl (run_eq_nilSl (sliceT_some he) _ _ _ _)) (guard_other (by intro cs; simp) (by simp)) (.bool _) hk
  · rename_i ow sz xs h1
    rw [h1] at hx
    obtain ⟨hs, h⟩ := h
    obtain ⟨e, he⟩ := Option.isSome_iff_exists.1 hs
    obtain ⟨aa, n, c, rfl, hk⟩ := nilSl hx h
    exact fin _ (.bool (!aa.isNone)) (run_neq_of rfl (run_eq_nilSl (sliceT_some he) _ _ _ _)) (guard_other (by intro cs; simp) (by simp)) (.bool _) hk
  · exact h.elim
end
end Go.Proofs.Ythpomdoaiibnfaa.Abs

namespace Go.Proofs.Ythpomdoaiibnfaa.Abs
open Go Go.RowKit
set_option linter.unusedVariables false
set_option linter.unusedSimpArgs false

def CRel (E : Env) (S : ASt) (w : World) (cs : List AV) (cur : Array Value) : Prop :=
  cur.size = cs.length ∧ ∀ i u, cs[i]? = some u → u.one = true ∧ VRel E S w u (cur.getD i undef)

section
variable {P : Program} {M : Modes} {E : Env} {S : ASt} {w : World} {o : Oper} {a : Act} {next : Act → World → Prop} {Q : Exit → Act → World → Prop} {F : List AV} {K : AV → List AV → ASt → Prop}

theorem foldl_put (off : Nat) : ∀ (vs : List Value) (k : Nat) (cs : Array Value), ((vs.zipIdx k).foldl (fun cs (p : Value × Nat) => cs.setIfInBounds (off + p.2) p.1) cs).size = cs.size ∧
    ∀ i, off + k + vs.length ≤ cs.size → ((vs.zipIdx k).foldl (fun cs (p : Value × Nat) => cs.setIfInBounds (off + p.2) p.1) cs).getD i undef =
      if off + k ≤ i ∧ i < off + k + vs.length then vs.getD (i - (off + k)) undef else cs.getD i undef
  | [], k, cs => by simp; intro i _ h1 h2; omega
  | v :: vs, k, cs => by
    obtain ⟨h1, h2⟩ := foldl_put off vs (k + 1) (cs.setIfInBounds (off + k) v)
    simp only [List.zipIdx_cons, List.foldl_cons]
    refine ⟨by rw [h1]; simp, fun i hle => ?_⟩
    simp only [List.length_cons] at hle
    rw [h2 i (by simp; omega)]
    by_cases hi : i = off + k
    · subst hi
      rw [if_neg (by omega), if_pos ⟨Nat.le_refl _, by simp⟩]
      simp only [Nat.sub_self, List.getD_cons_zero]
      have : off + k < cs.size := by omega
      simp [Array.getD, this]
    · by_cases hr : off + (k + 1) ≤ i ∧ i < off + (k + 1) + vs.length
      · rw [if_pos hr, if_pos ⟨by omega, by simp; omega⟩]
        rw [show i - (off + k) = (i - (off + (k + 1))) + 1 by omega, List.getD_cons_succ]
      · rw [if_neg hr, if_neg (by simp; omega)]
        simp only [Array.getD_eq_getD_getElem?, Array.getElem?_setIfInBounds, if_neg (Ne.symm hi)]

theorem fold_cells (off : Nat) (v : Value) (cs : Array Value) : (v.cells.zipIdx.foldl (fun cs (c, j) => cs.setIfInBounds (off + j) c) cs) =
    (v.cells.toList.zipIdx 0).foldl (fun cs (p : Value × Nat) => cs.setIfInBounds (off + p.2) p.1) cs := by
  rw [← Array.foldl_toList, Array.toList_zipIdx]

theorem CRel.put {cs : List AV} {cur : Array Value} (h : CRel E S w cs cur) {off : Nat} {u : AV} {v : Value} (hv : VRel E S w u v) (hb : u.box = true) (hle : off + u.cells.length ≤ cs.length) :
    CRel E S w (cs.take off ++ u.cells ++ cs.drop (off + u.cells.length)) (v.cells.zipIdx.foldl (fun cs (c, j) => cs.setIfInBounds (off + j) c) cur) := by
  obtain ⟨hk, hs, hc⟩ := box_cells hv hb
  rw [fold_cells]
  obtain ⟨h1, h2⟩ := foldl_put off v.cells.toList 0 cur
  have hsl : v.cells.toList.length = u.cells.length := by simpa using hs
  refine ⟨by rw [h1, h.1]; simp; omega, fun i x hx => ?_⟩
  rw [h2 i (by rw [hsl, h.1]; omega), hsl]
  simp only [Nat.add_zero]
  by_cases hi : off ≤ i ∧ i < off + u.cells.length
  · rw [if_pos hi]
    rw [List.append_assoc, List.getElem?_append_right (by simp; omega), List.length_take, Nat.min_eq_left (by omega), List.getElem?_append_left (by omega)] at hx
    have := hc _ x hx
    have e : v.cells.toList.getD (i - off) undef = v.cells.getD (i - off) undef := by
      simp [Array.getD_eq_getD_getElem?, List.getD]
    rw [e]; exact this
  · rw [if_neg hi]
    apply h.2
    by_cases hlt : i < off
    · rw [List.append_assoc, List.getElem?_append_left (by simp; omega), List.getElem?_take, if_pos hlt] at hx
      exact hx
    · rw [List.getElem?_append_right (by simp; omega), List.getElem?_drop] at hx
      rw [← hx]; congr 1
      simp only [List.length_append, List.length_take, Nat.min_eq_left (show off ≤ cs.length by omega)]
      omega

theorem fill_rel {pl : List (Nat × Nat)} : ∀ (parts : List (Nat × AV)) (cparts : List (Nat × Value)) (cs : List AV) (cur : Array Value) (cs' : List AV),
    (cparts.length = parts.length) → (∀ (j : Nat) (p : Nat × AV), parts[j]? = some p → ∃ q : Nat × Value, cparts[j]? = some q ∧ q.1 = p.1 ∧ VRel E S w p.2 q.2) → CRel E S w cs cur → fillA pl cs parts = some cs' →
    ∃ cur', Instr.fill (pl[·]?) cur cparts = some cur' ∧ CRel E S w cs' cur'
  | [], cparts, cs, cur, cs', hl, _, hc, h => by
    have : cparts = [] := List.eq_nil_of_length_eq_zero (by simpa using hl)
    subst this
    simp only [fillA, Option.some.injEq] at h; subst h
    exact ⟨cur, rfl, hc⟩
  | (i, v) :: rest, cparts, cs, cur, cs', hl, hp, hc, h => by
    cases cparts with
    | nil => simp at hl
    | cons q crest =>
      obtain ⟨q', hq, h1, h2⟩ := hp 0 (i, v) rfl
      simp only [List.getElem?_cons_zero, Option.some.injEq] at hq
      subst hq
      obtain ⟨qi, qv⟩ := q
      dsimp only at h1 h2
      subst h1
      simp only [fillA] at h
      split at h
      · rename_i off size hpl
        split at h
        · rename_i hcond
          simp only [Bool.and_eq_true, beq_iff_eq, decide_eq_true_eq] at hcond
          obtain ⟨hbx, hsz, hle⟩ := hcond
          obtain ⟨hk, hs, _⟩ := box_cells h2 hbx
          subst hsz
          have hput := hc.put (off := off) h2 hbx hle
          obtain ⟨cur', e1, e2⟩ := fill_rel rest crest _ _ cs' (by simpa using hl) (fun j p hj => hp (j + 1) p hj) hput h
          refine ⟨cur', ?_, e2⟩
          simp only [Instr.fill, hpl]
          rw [if_neg, e1]
          have := hc.1
          rw [Bool.or_eq_true, decide_eq_true_eq, decide_eq_true_eq]
          omega
        · cases h
      · cases h

theorem args_rel (hF : FRel E S w F a.tmps) (parts : Array (Nat × Operand)) :
    ((parts.map fun (i, x) => (i, a.eval x)).toList.length = (parts.toList.map fun p => (p.1, ev F p.2)).length) ∧
    ∀ (j : Nat) (p : Nat × AV), (parts.toList.map fun p => (p.1, ev F p.2))[j]? = some p → ∃ q : Nat × Value, (parts.map fun (i, x) => (i, a.eval x)).toList[j]? = some q ∧ q.1 = p.1 ∧ VRel E S w p.2 q.2 := by
  refine ⟨by simp, fun j p hj => ?_⟩
  rw [List.getElem?_map] at hj
  cases hq : parts.toList[j]? with
  | none => rw [hq] at hj; simp at hj
  | some q =>
    rw [hq] at hj
    simp only [Option.map_some, Option.some.injEq] at hj
    subst hj
    refine ⟨(q.1, a.eval q.2), ?_, rfl, ev_rel hF q.2⟩
    rw [Array.toList_map, List.getElem?_map, hq]; rfl

theorem snd_build {t : TypeId} {parts : Array (Nat × Operand)} {z : List AV} {pl : List (Nat × Nat)} {cs : List AV} (ho : o.op = .build t parts) (hz : zeroA P t = some z) (hpl : placesA P t = some pl)
    (hf : fillA pl z (parts.toList.map fun p => (p.1, ev F p.2)) = some cs) (hR : Rel E S w) (hF : FRel E S w F a.tmps)
    (h : K (.agg cs) F S) (hn : Cont E S w o a next K) : o.wp P a w next Q := by
  obtain ⟨i, zv, hi, hzz, rfl, h1, hl, hzs⟩ := zeroA_some hz
  obtain ⟨hl', hp'⟩ := args_rel hF parts
  obtain ⟨cur', e1, e2⟩ := fill_rel _ _ (zv.cells.toList.map ofV1) zv.cells cs hl' hp'
    ⟨by simp, fun j u hu => ⟨h1 u (List.mem_of_getElem? hu), zeroCells_rel E S w j u hu⟩⟩ hf
  unfold placesA at hpl
  split at hpl
  · rename_i fs hu
    have hb : P.built t (parts.map fun (i, x) => (i, a.eval x)).toList = some cur' := by
      unfold Program.built
      simp only [hi, hu, hzz, hpl]
      simpa using e1
    refine wp_val (v := .agg cur') (w' := w) ?_ (hn.same hR hF (.agg _ _ e2.1 (fun u hu => ?_) (fun j u hj => (e2.2 j u hj).2)) h)
    · simp only [execOp, ho, Sem.run_bind, run_build w t _ cur' hb, Result.andThen_ok, Sem.run_pure]
    · obtain ⟨j, hj⟩ := List.mem_iff_getElem?.1 hu
      exact (e2.2 j u hj).1
  · cases hpl

/-! ### stores -/
theorem setA_length {cs vs : List AV} {i : Nat} (h : i + vs.length ≤ cs.length) : (setA cs i vs).length = cs.length := by
  unfold setA; split
  · simp
  · simp; omega

theorem setA_eq {cs vs : List AV} {i : Nat} (h : i + vs.length ≤ cs.length) : setA cs i vs = cs.take i ++ vs ++ cs.drop (i + vs.length) := by
  unfold setA; split
  · rename_i h1
    match vs, h1 with
    | [v], _ =>
      simp only [List.length_singleton, List.getD_cons_zero] at h ⊢
      rw [List.set_eq_take_append_cons_drop, if_pos (by omega)]
      simp
  · rfl

theorem getD_toArray (l : List Value) (i : Nat) : l.toArray.getD i undef = l.getD i undef := by
  simp [Array.getD_eq_getD_getElem?, List.getD]

theorem snd_store_obj {t : TypeId} {ad x : Operand} {ob i : Nat} {cs : List AV} (ho : o.op = .store t ad x) (had : ev F ad = .ptr (some (ob, i))) (hcs : S.objs[ob]? = some cs)
    (hb : (ev F x).box = true) (hsz : szA P t = some (ev F x).cells.length) (hle : i + (ev F x).cells.length ≤ cs.length) (hR : Rel E S w) (hF : FRel E S w F a.tmps)
    (h : K .top F (S.put ob (setA cs i (ev F x).cells))) (hn : Cont E S w o a next K) : o.wp P a w next Q := by
  have hx := ev_rel hF x
  have hadr := ev_rel hF ad
  rw [had] at hadr
  have hqa : a.eval ad = .pointer (some ⟨E.mu ob, i, none⟩) := by cases hq : a.eval ad <;> rw [hq] at hadr <;> cases hadr <;> rfl
  obtain ⟨hk, hs, hc⟩ := box_cells hx hb
  obtain ⟨cur, e, g1, g2, g3⟩ := hR.obj ob cs hcs
  have hone : ∀ v ∈ (a.eval x).cells.toList, v.oneCell' = true := by
    intro v hv
    obtain ⟨j, hj⟩ := List.mem_iff_getElem?.1 hv
    have hjl : j < (ev F x).cells.length := by
      rw [← hs]; have := (List.getElem?_eq_some_iff.1 hj).1; simpa using this
    obtain ⟨h1, h2⟩ := hc j _ (List.getElem?_eq_getElem hjl)
    have : (a.eval x).cells.getD j undef = v := by
      rw [Array.getD_eq_getD_getElem?, ← Array.getElem?_toList, hj]; rfl
    rw [this] at h2
    exact h2.one h1
  have hvl : (a.eval x).cells.toList.length = (ev F x).cells.length := by simpa using hs
  have hrun := run_storeCells_at P (E.mu ob) i e (a.eval x).cells.toList 0 cur w g1 (by rw [hvl, g2]; omega) hone
  simp only [Nat.add_zero] at hrun
  obtain ⟨ev1, hR1⟩ := step_put hR ob cs (setA cs i (ev F x).cells) cur (cur.toList.take i ++ (a.eval x).cells.toList ++ cur.toList.drop (i + (a.eval x).cells.toList.length)).toArray e hcs g1
    (setA_length hle) (by rw [setA_length hle]; simp; omega) (by
      intro j u hj
      rw [setA_eq hle] at hj
      rw [getD_toArray]
      by_cases h1 : j < i
      · rw [List.append_assoc, List.getElem?_append_left (by simp; omega), List.getElem?_take, if_pos h1] at hj
        have e1 : (cur.toList.take i ++ (a.eval x).cells.toList ++ cur.toList.drop (i + (a.eval x).cells.toList.length)).getD j undef = cur.getD j undef := by
          simp only [List.getD]
          rw [List.append_assoc, List.getElem?_append_left (by simp; omega), List.getElem?_take, if_pos h1, Array.getElem?_toList, Array.getD_eq_getD_getElem?]
        rw [e1]; exact g3 j u hj
      · by_cases h2 : j < i + (ev F x).cells.length
        · rw [List.append_assoc, List.getElem?_append_right (by simp; omega), List.length_take, Nat.min_eq_left (by omega), List.getElem?_append_left (by omega)] at hj
          have e1 : (cur.toList.take i ++ (a.eval x).cells.toList ++ cur.toList.drop (i + (a.eval x).cells.toList.length)).getD j undef = (a.eval x).cells.getD (j - i) undef := by
            simp only [List.getD]
            rw [List.append_assoc, List.getElem?_append_right (by simp; omega), List.length_take, Nat.min_eq_left (by simp; omega), List.getElem?_append_left (by omega), Array.getElem?_toList, Array.getD_eq_getD_getElem?]
          rw [e1]; exact hc _ u hj
        · rw [List.getElem?_append_right (by simp; omega), List.getElem?_drop] at hj
          have e1 : (cur.toList.take i ++ (a.eval x).cells.toList ++ cur.toList.drop (i + (a.eval x).cells.toList.length)).getD j undef = cur.getD j undef := by
            simp only [List.getD]
            rw [List.getElem?_append_right (by simp; omega), List.getElem?_drop, Array.getD_eq_getD_getElem?, ← Array.getElem?_toList]
            congr 2
            simp only [List.length_append, List.length_take, Array.length_toList]
            rw [Nat.min_eq_left (by omega)]
            simp only [Array.length_toList] at hvl
            omega
          rw [e1]
          apply g3 j u
          rw [← hj]; congr 1
          simp only [List.length_append, List.length_take]
          rw [Nat.min_eq_left (by omega)]
          omega)
  refine wp_skp (w' := w.setRow (E.mu ob) (cur.toList.take i ++ (a.eval x).cells.toList ++ cur.toList.drop (i + (a.eval x).cells.toList.length)).toArray) ?_ (hn _ _ _ _ _ F ev1 hR1 (.top undef) (hF.mono ev1) h)
  have hszv : (a.eval x).cells.size = (ev F x).cells.length := hs
  simp only [execOp, ho, hqa, Instr.storeAt, Instr.sureAddr, storeVar, Sem.run_bind, Sem.run_pure, Result.andThen_ok, run_sizeOf hsz, hszv, ne_eq, not_true_eq_false, if_false, hrun]
end
end Go.Proofs.Ythpomdoaiibnfaa.Abs
