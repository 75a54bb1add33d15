/- An abstract reading of values and worlds: what a slice, a pointer, a struct reads as, and that such a reading lasts while nothing that it leans on is written. -/
import Derived.WalkKit
namespace Go.Proofs.Ytmfkocmbmadkmaa.Abs
open Go Go.RowKit
set_option linter.unusedVariables false

/-- Whose a slice is: nobody's (nil); written by nobody; the token's own, from the token's first place on; a part of the token's. -/
inductive Own where
  | nil
  | ro
  | own (t : Nat)
  | sub (t : Nat)
  deriving DecidableEq

def Own.tok : Own → Option Nat
  | .own t => some t
  | .sub t => some t
  | _ => none

inductive AV where
  | top
  | bool (b : Bool)
  | int (k : IntKind) (n : Int)
  | str (l : List UInt8)
  | ptr (p : Option (Nat × Nat))
  | sl (o : Own) (sz : Nat) (xs : List AV)
  | eptr (o : Own) (sz : Nat) (xs : List AV) (i off : Nat)
  | agg (cs : List AV)
  | tuple (vs : List AV)
  | func (f : FuncId)
  | nilFunc
  | iface (t : TypeId) (v : AV)
  | nilIface

instance : Inhabited AV := ⟨.top⟩

def AV.cells : AV → List AV
  | .agg cs => cs
  | v => [v]
def AV.one : AV → Bool
  | .agg _ | .tuple _ | .top => false
  | _ => true
def AV.known : AV → Bool
  | .top => false
  | _ => true
def flat (xs : List AV) : List AV := xs.flatMap AV.cells

structure ASt where
  objs : List (List AV)
  live : Nat → Bool
  next : Nat

structure Env where
  ro : Nat → Prop
  be : Nat → Option Nat
  off : Nat → Nat
  mu : Nat → Nat

def Acc (E : Env) (S : ASt) : Own → Nat → Prop
  | .nil, _ => False
  | .ro, b => E.ro b
  | .own t, b => t < S.next ∧ S.live t = true ∧ E.be t = some b
  | .sub t, b => t < S.next ∧ S.live t = true ∧ E.be t = some b

inductive VRel (E : Env) (S : ASt) (w : World) : AV → Value → Prop
  | top (v : Value) : VRel E S w .top v
  | bool (b : Bool) : VRel E S w (.bool b) (.bool b)
  | int (k : IntKind) (n : Int) : VRel E S w (.int k n) (.int k n)
  | str (l : List UInt8) : VRel E S w (.str l) (.string ⟨l.toArray⟩)
  | pnil : VRel E S w (.ptr none) (.pointer none)
  | ptr (o i : Nat) (h : o < S.objs.length) : VRel E S w (.ptr (some (o, i))) (.pointer (some ⟨E.mu o, i, none⟩))
  | sl_nil (sz : Nat) : VRel E S w (.sl .nil sz []) (.slice none 0 0)
  | sl_emp (sz : Nat) (a : Option Addr) (c : Nat) : VRel E S w (.sl .ro sz []) (.slice a 0 c)
  | sl_mem (o : Own) (sz : Nat) (xs : List AV) (b off c : Nat) (vs : Nat → Value) (hacc : Acc E S o b) (hc : xs.length ≤ c)
      (hsz : ∀ x ∈ xs, x.cells.length = sz) (h1 : ∀ u ∈ flat xs, u.one = true)
      (hv : ∀ j u, (flat xs)[j]? = some u → w.cell? ⟨b, off + j, none⟩ = some (vs j))
      (hr : ∀ j u, (flat xs)[j]? = some u → VRel E S w u (vs j))
      (hroom : ∀ t, o = .own t → off = E.off t ∧ ∃ cur e, w.heap[b]? = some (.cells cur e (0, 0)) ∧ off + c * sz ≤ cur.size) :
      VRel E S w (.sl o sz xs) (.slice (some ⟨b, off, none⟩) xs.length c)
  | sl_own_nil (t sz : Nat) (ht : t < S.next) : VRel E S w (.sl (.own t) sz []) (.slice none 0 0)
  | sl_sub_emp (t sz : Nat) (a : Option Addr) (c : Nat) (ht : t < S.next) : VRel E S w (.sl (.sub t) sz []) (.slice a 0 c)
  | sl_dead (o : Own) (t sz : Nat) (xs : List AV) (a : Option Addr) (c : Nat) (ho : o.tok = some t) (ht : t < S.next) (hd : S.live t = false) :
      VRel E S w (.sl o sz xs) (.slice a xs.length c)
  | ep_mem (o : Own) (sz : Nat) (xs : List AV) (i k b off : Nat) (vs : Nat → Value) (hacc : Acc E S o b) (hi : i < xs.length)
      (hsz : ∀ x ∈ xs, x.cells.length = sz) (h1 : ∀ u ∈ flat xs, u.one = true)
      (hv : ∀ j u, (flat xs)[j]? = some u → w.cell? ⟨b, off + j, none⟩ = some (vs j))
      (hr : ∀ j u, (flat xs)[j]? = some u → VRel E S w u (vs j))
      (hroom : ∀ t, o = .own t → off = E.off t ∧ ∃ cur e, w.heap[b]? = some (.cells cur e (0, 0))) :
      VRel E S w (.eptr o sz xs i k) (.pointer (some ⟨b, off + i * sz + k, none⟩))
  | ep_dead (o : Own) (t sz : Nat) (xs : List AV) (i k : Nat) (a : Addr) (ho : o.tok = some t) (ht : t < S.next) (hd : S.live t = false) :
      VRel E S w (.eptr o sz xs i k) (.pointer (some a))
  | agg (cs : List AV) (vs : Array Value) (hl : vs.size = cs.length) (h1 : ∀ u ∈ cs, u.one = true)
      (hr : ∀ i u, cs[i]? = some u → VRel E S w u (vs.getD i undef)) : VRel E S w (.agg cs) (.agg vs)
  | tuple (cs : List AV) (vs : Array Value) (hl : vs.size = cs.length)
      (hr : ∀ i u, cs[i]? = some u → VRel E S w u (vs.getD i undef)) : VRel E S w (.tuple cs) (.tuple vs)
  | func (f : FuncId) : VRel E S w (.func f) (.func (.func f) #[] #[])
  | nilFunc : VRel E S w .nilFunc .nilFunc
  | iface (t : TypeId) (v : AV) (cv : Value) (h : VRel E S w v cv) : VRel E S w (.iface t v) (.iface t cv)
  | nilIface : VRel E S w .nilIface .nilIface

structure Rel (E : Env) (S : ASt) (w : World) : Prop where
  ro_lt : ∀ b, E.ro b → b < w.heap.size
  obj : ∀ o cs, S.objs[o]? = some cs → ∃ cur e, w.heap[E.mu o]? = some (.cells cur e (0, 0)) ∧ cur.size = cs.length ∧
    ∀ i u, cs[i]? = some u → u.one = true ∧ VRel E S w u (cur.getD i undef)
  obj_ro : ∀ o, o < S.objs.length → ¬ E.ro (E.mu o)
  obj_inj : ∀ o o', o < S.objs.length → o' < S.objs.length → E.mu o = E.mu o' → o = o'
  tok : ∀ t b, S.live t = true → E.be t = some b → b < w.heap.size ∧ ¬ E.ro b ∧ ∀ o, o < S.objs.length → E.mu o ≠ b
  tok_inj : ∀ t t' b, S.live t = true → S.live t' = true → E.be t = some b → E.be t' = some b → t = t'
  live_lt : ∀ t, S.live t = true → t < S.next

structure Evolves (E : Env) (S : ASt) (w : World) (E' : Env) (S' : ASt) (w' : World) : Prop where
  os : w'.os = w.os
  tape : w'.tape = w.tape
  output : w'.output = w.output
  size : w.heap.size ≤ w'.heap.size
  ro : ∀ b, E.ro b → E'.ro b ∧ w'.heap[b]? = w.heap[b]?
  objs : S.objs.length ≤ S'.objs.length
  mu : ∀ o, o < S.objs.length → E'.mu o = E.mu o
  next : S.next ≤ S'.next
  tok : ∀ t, t < S.next → S'.live t = true → S.live t = true ∧ (E'.be t = E.be t ∧ E'.off t = E.off t) ∧ ∀ b, E.be t = some b → w'.heap[b]? = w.heap[b]?
  newobj : ∀ o, S.objs.length ≤ o → o < S'.objs.length → w.heap.size ≤ E'.mu o
  newtok : ∀ t b, S.next ≤ t → S'.live t = true → E'.be t = some b → w.heap.size ≤ b ∨ ∃ t0, S.live t0 = true ∧ E.be t0 = some b
  old : ∀ b, b < w.heap.size → w'.heap[b]? = w.heap[b]? ∨ (∃ o, o < S.objs.length ∧ E.mu o = b) ∨ (∃ t, S.live t = true ∧ E.be t = some b)

theorem Evolves.refl {E : Env} {S : ASt} {w : World} (h : Rel E S w) : Evolves E S w E S w :=
  ⟨rfl, rfl, rfl, Nat.le_refl _, fun _ h => ⟨h, rfl⟩, Nat.le_refl _, fun _ _ => rfl, Nat.le_refl _, fun _ _ h => ⟨h, ⟨rfl, rfl⟩, fun _ _ => rfl⟩,
    fun _ h1 h2 => absurd h1 (by omega), fun t _ h1 h2 => absurd (h.live_lt t h2) (by omega), fun _ _ => .inl rfl⟩

theorem Evolves.trans {E E' E'' : Env} {S S' S'' : ASt} {w w' w'' : World} (h : Evolves E S w E' S' w') (k : Evolves E' S' w' E'' S'' w'') :
    Evolves E S w E'' S'' w'' := by
  refine ⟨k.os.trans h.os, k.tape.trans h.tape, k.output.trans h.output, Nat.le_trans h.size k.size, ?_, Nat.le_trans h.objs k.objs, ?_, Nat.le_trans h.next k.next, ?_, ?_, ?_, ?_⟩
  · intro b hb
    have h1 := h.ro b hb
    have h2 := k.ro b h1.1
    exact ⟨h2.1, h2.2.trans h1.2⟩
  · intro o ho
    rw [k.mu o (Nat.lt_of_lt_of_le ho h.objs), h.mu o ho]
  · intro t ht hl
    obtain ⟨a1, a2, a3⟩ := k.tok t (Nat.lt_of_lt_of_le ht h.next) hl
    obtain ⟨b1, b2, b3⟩ := h.tok t ht a1
    refine ⟨b1, ⟨a2.1.trans b2.1, a2.2.trans b2.2⟩, fun b hb => ?_⟩
    rw [a3 b (by rw [b2.1]; exact hb), b3 b hb]
  · intro o h1 h2
    by_cases ho : o < S'.objs.length
    · rw [k.mu o ho]; exact h.newobj o h1 ho
    · exact Nat.le_trans h.size (k.newobj o (by omega) h2)
  · intro t b h1 h2 h3
    by_cases ht : t < S'.next
    · obtain ⟨a1, a2, _⟩ := k.tok t ht h2
      exact h.newtok t b h1 a1 (by rw [← a2.1]; exact h3)
    · rcases k.newtok t b (by omega) h2 h3 with hb | ⟨t0, c1, c2⟩
      · exact .inl (Nat.le_trans h.size hb)
      · by_cases ht0 : t0 < S.next
        · obtain ⟨d1, d2, _⟩ := h.tok t0 ht0 c1
          exact .inr ⟨t0, d1, by rw [← d2.1]; exact c2⟩
        · exact h.newtok t0 b (by omega) c1 c2
  · intro b hb
    have hb' := Nat.lt_of_lt_of_le hb h.size
    rcases h.old b hb with e1 | e1
    · rcases k.old b hb' with e2 | ⟨o, ho, hm⟩ | ⟨t, ht, hbe⟩
      · exact .inl (e2.trans e1)
      · by_cases ho' : o < S.objs.length
        · exact .inr (.inl ⟨o, ho', by rw [← h.mu o ho']; exact hm⟩)
        · have := h.newobj o (by omega) ho; omega
      · by_cases ht' : t < S.next
        · obtain ⟨d1, d2, _⟩ := h.tok t ht' ht
          exact .inr (.inr ⟨t, d1, by rw [← d2.1]; exact hbe⟩)
        · rcases h.newtok t b (by omega) ht hbe with c | ⟨t0, c1, c2⟩
          · omega
          · exact .inr (.inr ⟨t0, c1, c2⟩)
    · exact .inr e1

theorem VRel.mono {E E' : Env} {S S' : ASt} {w w' : World} (h : Evolves E S w E' S' w') {u : AV} {v : Value} (hv : VRel E S w u v) : VRel E' S' w' u v := by
  induction hv with
  | top v => exact .top v
  | bool b => exact .bool b
  | int k n => exact .int k n
  | str l => exact .str l
  | pnil => exact .pnil
  | ptr o i ho => rw [← h.mu o ho]; exact .ptr o i (Nat.lt_of_lt_of_le ho h.objs)
  | sl_nil sz => exact .sl_nil sz
  | sl_emp sz a c => exact .sl_emp sz a c
  | sl_mem o sz xs b off c vs hacc hc hsz h1 hv hr hroom ih =>
    cases o with
    | nil => exact hacc.elim
    | ro =>
      obtain ⟨r1, r2⟩ := h.ro b hacc
      exact .sl_mem .ro sz xs b off c vs r1 hc hsz h1 (fun j u hj => (World.cell?_of_block (a := ⟨b, off + j, none⟩) r2).trans (hv j u hj)) ih (fun t ht => by cases ht)
    | own t =>
      obtain ⟨a1, a2, a3⟩ := hacc
      by_cases hl : S'.live t = true
      · obtain ⟨b1, b2, b3⟩ := h.tok t a1 hl
        have hb := b3 b a3
        obtain ⟨hoff, cur, e, hcur, hfit⟩ := hroom t rfl
        exact .sl_mem (.own t) sz xs b off c vs ⟨Nat.lt_of_lt_of_le a1 h.next, hl, b2.1.trans a3⟩ hc hsz h1
          (fun j u hj => (World.cell?_of_block (a := ⟨b, off + j, none⟩) hb).trans (hv j u hj)) ih (fun t' ht => by cases ht; exact ⟨hoff.trans b2.2.symm, cur, e, hb.trans hcur, hfit⟩)
      · exact .sl_dead (.own t) t sz xs _ c rfl (Nat.lt_of_lt_of_le a1 h.next) (by simpa using hl)
    | sub t =>
      obtain ⟨a1, a2, a3⟩ := hacc
      by_cases hl : S'.live t = true
      · obtain ⟨b1, b2, b3⟩ := h.tok t a1 hl
        have hb := b3 b a3
        exact .sl_mem (.sub t) sz xs b off c vs ⟨Nat.lt_of_lt_of_le a1 h.next, hl, b2.1.trans a3⟩ hc hsz h1
          (fun j u hj => (World.cell?_of_block (a := ⟨b, off + j, none⟩) hb).trans (hv j u hj)) ih (fun t' ht => by cases ht)
      · exact .sl_dead (.sub t) t sz xs _ c rfl (Nat.lt_of_lt_of_le a1 h.next) (by simpa using hl)
  | sl_own_nil t sz ht => exact .sl_own_nil t sz (Nat.lt_of_lt_of_le ht h.next)
  | sl_sub_emp t sz a c ht => exact .sl_sub_emp t sz a c (Nat.lt_of_lt_of_le ht h.next)
  | sl_dead o t sz xs a c ho ht hd =>
    refine .sl_dead o t sz xs a c ho (Nat.lt_of_lt_of_le ht h.next) ?_
    by_cases hl : S'.live t = true
    · have := (h.tok t ht hl).1; rw [hd] at this; cases this
    · simpa using hl
  | ep_mem o sz xs i k b off vs hacc hi hsz h1 hv hr hroom ih =>
    cases o with
    | nil => exact hacc.elim
    | ro =>
      obtain ⟨r1, r2⟩ := h.ro b hacc
      exact .ep_mem .ro sz xs i k b off vs r1 hi hsz h1 (fun j u hj => (World.cell?_of_block (a := ⟨b, off + j, none⟩) r2).trans (hv j u hj)) ih (fun t ht => by cases ht)
    | own t =>
      obtain ⟨a1, a2, a3⟩ := hacc
      by_cases hl : S'.live t = true
      · obtain ⟨b1, b2, b3⟩ := h.tok t a1 hl
        have hb := b3 b a3
        obtain ⟨hoff, cur, e, hcur⟩ := hroom t rfl
        exact .ep_mem (.own t) sz xs i k b off vs ⟨Nat.lt_of_lt_of_le a1 h.next, hl, b2.1.trans a3⟩ hi hsz h1
          (fun j u hj => (World.cell?_of_block (a := ⟨b, off + j, none⟩) hb).trans (hv j u hj)) ih (fun t' ht => by cases ht; exact ⟨hoff.trans b2.2.symm, cur, e, hb.trans hcur⟩)
      · exact .ep_dead (.own t) t sz xs i k _ rfl (Nat.lt_of_lt_of_le a1 h.next) (by simpa using hl)
    | sub t =>
      obtain ⟨a1, a2, a3⟩ := hacc
      by_cases hl : S'.live t = true
      · obtain ⟨b1, b2, b3⟩ := h.tok t a1 hl
        have hb := b3 b a3
        exact .ep_mem (.sub t) sz xs i k b off vs ⟨Nat.lt_of_lt_of_le a1 h.next, hl, b2.1.trans a3⟩ hi hsz h1
          (fun j u hj => (World.cell?_of_block (a := ⟨b, off + j, none⟩) hb).trans (hv j u hj)) ih (fun t' ht => by cases ht)
      · exact .ep_dead (.sub t) t sz xs i k _ rfl (Nat.lt_of_lt_of_le a1 h.next) (by simpa using hl)
  | ep_dead o t sz xs i k a ho ht hd =>
    refine .ep_dead o t sz xs i k a ho (Nat.lt_of_lt_of_le ht h.next) ?_
    by_cases hl : S'.live t = true
    · have := (h.tok t ht hl).1; rw [hd] at this; cases this
    · simpa using hl
  | agg cs vs hl h1 hr ih => exact .agg cs vs hl h1 ih
  | tuple cs vs hl hr ih => exact .tuple cs vs hl ih
  | func f => exact .func f
  | nilFunc => exact .nilFunc
  | iface t v cv hv ih => exact .iface t v cv ih
  | nilIface => exact .nilIface

theorem VRel.one {E : Env} {S : ASt} {w : World} {u : AV} {v : Value} (h : VRel E S w u v) (h1 : u.one = true) : v.oneCell' = true := by
  cases h <;> first | rfl | (simp [AV.one] at h1)

/-- The cells of a related value. -/
theorem VRel.cells {E : Env} {S : ASt} {w : World} {u : AV} {v : Value} (h : VRel E S w u v) (hk : u.known = true) :
    v.cells.size = u.cells.length ∧ ∀ i x, u.cells[i]? = some x → VRel E S w x (v.cells.getD i undef) := by
  cases h with
  | top v => simp [AV.known] at hk
  | agg cs vs hl h1 hr => exact ⟨hl, hr⟩
  | _ =>
    refine ⟨rfl, fun i x hx => ?_⟩
    cases i with
    | zero =>
      simp only [AV.cells, List.getElem?_cons_zero, Option.some.injEq] at hx
      subst hx
      simp only [Value.cells, Array.getD, List.size_toArray, List.length_cons, List.length_nil, Nat.zero_add, Nat.lt_add_one, ↓reduceDIte]
      constructor <;> assumption
    | succ i => simp [AV.cells] at hx
end Go.Proofs.Ytmfkocmbmadkmaa.Abs
