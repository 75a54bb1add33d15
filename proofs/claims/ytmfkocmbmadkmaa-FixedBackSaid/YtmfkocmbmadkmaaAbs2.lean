/- The steps by which an abstract state and a world go on together: a new block, a new object, a store, an append. -/
import Derived.Test.YtmfkocmbmadkmaaAbs1
namespace Go.Proofs.Ytmfkocmbmadkmaa.Abs
open Go Go.RowKit
set_option linter.unusedVariables false

def ASt.push (S : ASt) (cs : List AV) : ASt := { S with objs := S.objs ++ [cs] }
def ASt.put (S : ASt) (o : Nat) (cs : List AV) : ASt := { S with objs := S.objs.set o cs }
def ASt.kill (S : ASt) (t : Nat) : ASt := { S with live := fun x => if x = t then false else S.live x }
def ASt.fresh (S : ASt) : ASt := { S with live := fun x => if x = S.next then true else S.live x, next := S.next + 1 }

theorem heap_of_alloc_new (w : World) (o : Obj) : (w.alloc o).heap[w.heap.size]? = some o := by
  show (w.heap.push o)[w.heap.size]? = some o
  simp
theorem heap_of_alloc_old (w : World) (o : Obj) (b : Nat) (h : b < w.heap.size) : (w.alloc o).heap[b]? = w.heap[b]? := by
  show (w.heap.push o)[b]? = w.heap[b]?
  rw [Array.getElem?_push, if_neg (Nat.ne_of_lt h)]

/-- A world with the same blocks. -/
theorem step_same {E : Env} {S : ASt} {w w' : World} (h : Rel E S w) (hh : w'.heap = w.heap) (ho : w'.os = w.os) (ht : w'.tape = w.tape) (hp : w'.output = w.output) :
    Evolves E S w E S w' ∧ Rel E S w' := by
  have ev : Evolves E S w E S w' := ⟨ho, ht, hp, by rw [hh]; exact Nat.le_refl _, fun _ hb => ⟨hb, by rw [hh]⟩, Nat.le_refl _, fun _ _ => rfl, Nat.le_refl _,
    fun _ _ hl => ⟨hl, ⟨rfl, rfl⟩, fun _ _ => by rw [hh]⟩, fun _ h1 h2 => absurd h1 (by omega), fun t _ h1 h2 => absurd (h.live_lt t h2) (by omega), fun _ _ => .inl (by rw [hh])⟩
  refine ⟨ev, ⟨?_, ?_, h.obj_ro, h.obj_inj, ?_, h.tok_inj, h.live_lt⟩⟩
  · intro b hb; rw [hh]; exact h.ro_lt b hb
  · intro o cs hcs
    obtain ⟨cur, e, h1, h2, h3⟩ := h.obj o cs hcs
    exact ⟨cur, e, by rw [hh]; exact h1, h2, fun i u hu => ⟨(h3 i u hu).1, (h3 i u hu).2.mono ev⟩⟩
  · intro t b hl hb; rw [hh]; exact h.tok t b hl hb

theorem step_drew {E : Env} {S : ASt} {w : World} (h : Rel E S w) : Evolves E S w E S w.drew ∧ Rel E S w.drew := step_same h rfl rfl rfl rfl

def Env.addRo (E : Env) (b : Nat) : Env := { E with ro := fun x => E.ro x ∨ x = b }
def Env.addObj (E : Env) (o b : Nat) : Env := { E with mu := fun x => if x = o then b else E.mu x }
def Env.addTok (E : Env) (t : Nat) (b : Option Nat) (off : Nat) : Env := { E with be := fun x => if x = t then b else E.be x, off := fun x => if x = t then off else E.off x }

/-- A new block that nobody will write. -/
theorem step_ro' {E : Env} {S : ASt} {w w' : World} (h : Rel E S w) (hos : w'.os = w.os) (htp : w'.tape = w.tape) (hout : w'.output = w.output)
    (hs : w'.heap.size = w.heap.size + 1) (hold : ∀ b, b < w.heap.size → w'.heap[b]? = w.heap[b]?) :
    Evolves E S w (E.addRo w.heap.size) S w' ∧ Rel (E.addRo w.heap.size) S w' := by
  have ev : Evolves E S w (E.addRo w.heap.size) S w' :=
    ⟨hos, htp, hout, by omega, fun b hb => ⟨.inl hb, hold _ (h.ro_lt b hb)⟩, Nat.le_refl _, fun _ _ => rfl, Nat.le_refl _,
      fun t _ hl => ⟨hl, ⟨rfl, rfl⟩, fun b hb => hold _ (h.tok t b hl hb).1⟩, fun _ h1 h2 => absurd h1 (by omega),
      fun t _ h1 h2 => absurd (h.live_lt t h2) (by omega), fun b hb => .inl (hold _ hb)⟩
  have hobj : ∀ o', o' < S.objs.length → E.mu o' < w.heap.size := by
    intro o' ho'
    obtain ⟨cur, e, h1, _⟩ := h.obj o' _ (List.getElem?_eq_getElem ho')
    exact (Array.getElem?_eq_some_iff.1 h1).1
  refine ⟨ev, ⟨?_, ?_, ?_, h.obj_inj, ?_, h.tok_inj, h.live_lt⟩⟩
  · rintro b (hb | rfl)
    · have := h.ro_lt b hb; omega
    · omega
  · intro o' cs hcs
    obtain ⟨cur, e, h1, h2, h3⟩ := h.obj o' cs hcs
    refine ⟨cur, e, ?_, h2, fun i u hu => ⟨(h3 i u hu).1, (h3 i u hu).2.mono ev⟩⟩
    show w'.heap[E.mu o']? = _
    rw [hold _ (Array.getElem?_eq_some_iff.1 h1).1]; exact h1
  · intro o' ho' hx
    rcases hx with hx | hx
    · exact h.obj_ro o' ho' hx
    · have := hobj o' ho'; have hx' : E.mu o' = w.heap.size := hx; omega
  · intro t b hl hb
    obtain ⟨a1, a2, a3⟩ := h.tok t b hl hb
    refine ⟨by omega, ?_, a3⟩
    rintro (hx | hx)
    · exact a2 hx
    · omega

theorem step_ro {E : Env} {S : ASt} {w : World} (h : Rel E S w) (o : Obj) :
    Evolves E S w (E.addRo w.heap.size) S (w.alloc o) ∧ Rel (E.addRo w.heap.size) S (w.alloc o) :=
  step_ro' h rfl rfl rfl (by simp) (fun b hb => heap_of_alloc_old w o b hb)

theorem Rel.mu_lt {E : Env} {S : ASt} {w : World} (h : Rel E S w) {o : Nat} (ho : o < S.objs.length) : E.mu o < w.heap.size := by
  obtain ⟨cur, e, h1, _⟩ := h.obj o _ (List.getElem?_eq_getElem ho)
  exact (Array.getElem?_eq_some_iff.1 h1).1

/-- A new object. -/
theorem step_obj {E : Env} {S : ASt} {w : World} (h : Rel E S w) (cs : List AV) (cur : Array Value) (e : TypeId) (hl : cur.size = cs.length)
    (hc : ∀ i u, cs[i]? = some u → u.one = true ∧ VRel E S w u (cur.getD i undef)) :
    Evolves E S w (E.addObj S.objs.length w.heap.size) (S.push cs) (w.alloc (.cells cur e)) ∧
      Rel (E.addObj S.objs.length w.heap.size) (S.push cs) (w.alloc (.cells cur e)) := by
  have hmu : ∀ o, o < S.objs.length → (E.addObj S.objs.length w.heap.size).mu o = E.mu o := fun o ho => by
    show (if o = S.objs.length then w.heap.size else E.mu o) = E.mu o
    rw [if_neg (by omega)]
  have hmun : (E.addObj S.objs.length w.heap.size).mu S.objs.length = w.heap.size := by
    show (if S.objs.length = S.objs.length then w.heap.size else E.mu S.objs.length) = _
    rw [if_pos rfl]
  have ev : Evolves E S w (E.addObj S.objs.length w.heap.size) (S.push cs) (w.alloc (.cells cur e)) :=
    ⟨rfl, rfl, rfl, by simp, fun b hb => ⟨hb, heap_of_alloc_old _ _ _ (h.ro_lt b hb)⟩, by simp [ASt.push], hmu, Nat.le_refl _,
      fun t _ hl => ⟨hl, ⟨rfl, rfl⟩, fun b hb => heap_of_alloc_old _ _ _ (h.tok t b hl hb).1⟩,
      fun o h1 h2 => by
        have : o = S.objs.length := by simp [ASt.push] at h2; omega
        subst this; rw [hmun]; exact Nat.le_refl _,
      fun t _ h1 h2 => absurd (h.live_lt t h2) (by omega), fun b hb => .inl (heap_of_alloc_old _ _ _ hb)⟩
  refine ⟨ev, ⟨?_, ?_, ?_, ?_, ?_, h.tok_inj, h.live_lt⟩⟩
  · intro b hb; have := h.ro_lt b hb; simp; omega
  · intro o cs' hcs'
    by_cases ho : o < S.objs.length
    · have : S.objs[o]? = some cs' := by
        have hq : (S.objs ++ [cs])[o]? = some cs' := hcs'
        rwa [List.getElem?_append_left ho] at hq
      obtain ⟨cur', e', h1, h2, h3⟩ := h.obj o cs' this
      refine ⟨cur', e', ?_, h2, fun i u hu => ⟨(h3 i u hu).1, (h3 i u hu).2.mono ev⟩⟩
      rw [hmu o ho, heap_of_alloc_old _ _ _ (Array.getElem?_eq_some_iff.1 h1).1]; exact h1
    · have ho' : o = S.objs.length := by
        have hq := (List.getElem?_eq_some_iff.1 hcs').1
        simp [ASt.push] at hq; omega
      subst ho'
      have : cs' = cs := by
        have hq : (S.objs ++ [cs])[S.objs.length]? = some cs' := hcs'
        simp at hq; exact hq.symm
      subst this
      refine ⟨cur, e, ?_, hl, fun i u hu => ⟨(hc i u hu).1, (hc i u hu).2.mono ev⟩⟩
      rw [hmun]; exact heap_of_alloc_new _ _
  · intro o ho hro
    by_cases ho' : o < S.objs.length
    · rw [hmu o ho'] at hro; exact h.obj_ro o ho' hro
    · have : o = S.objs.length := by simp [ASt.push] at ho; omega
      subst this; rw [hmun] at hro
      have := h.ro_lt _ hro; omega
  · intro o o' ho ho' hm
    by_cases h1 : o < S.objs.length <;> by_cases h2 : o' < S.objs.length
    · rw [hmu o h1, hmu o' h2] at hm; exact h.obj_inj o o' h1 h2 hm
    · have : o' = S.objs.length := by simp [ASt.push] at ho'; omega
      subst this; rw [hmu o h1, hmun] at hm; have := h.mu_lt h1; omega
    · have : o = S.objs.length := by simp [ASt.push] at ho; omega
      subst this; rw [hmu o' h2, hmun] at hm; have := h.mu_lt h2; omega
    · simp [ASt.push] at ho ho'; omega
  · intro t b hl' hb
    obtain ⟨a1, a2, a3⟩ := h.tok t b hl' hb
    refine ⟨by simp; omega, a2, fun o ho => ?_⟩
    by_cases ho' : o < S.objs.length
    · rw [hmu o ho']; exact a3 o ho'
    · have : o = S.objs.length := by simp [ASt.push] at ho; omega
      subst this; rw [hmun]; omega

/-- A token for a new block, or for none. -/
theorem step_tok {E : Env} {S : ASt} {w : World} (h : Rel E S w) (o : Obj) :
    Evolves E S w (E.addTok S.next (some w.heap.size) 0) S.fresh (w.alloc o) ∧ Rel (E.addTok S.next (some w.heap.size) 0) S.fresh (w.alloc o) := by
  have hbe : ∀ t, t ≠ S.next → (E.addTok S.next (some w.heap.size) 0).be t = E.be t := fun t ht => by
    show (if t = S.next then _ else E.be t) = _; rw [if_neg ht]
  have hof : ∀ t, t ≠ S.next → (E.addTok S.next (some w.heap.size) 0).off t = E.off t := fun t ht => by
    show (if t = S.next then _ else E.off t) = _; rw [if_neg ht]
  have hben : (E.addTok S.next (some w.heap.size) 0).be S.next = some w.heap.size := by
    show (if S.next = S.next then _ else _) = _; rw [if_pos rfl]
  have hlv : ∀ t, t ≠ S.next → S.fresh.live t = S.live t := fun t ht => by
    show (if t = S.next then true else S.live t) = _; rw [if_neg ht]
  have ev : Evolves E S w (E.addTok S.next (some w.heap.size) 0) S.fresh (w.alloc o) :=
    ⟨rfl, rfl, rfl, by simp, fun b hb => ⟨hb, heap_of_alloc_old _ _ _ (h.ro_lt b hb)⟩, Nat.le_refl _, fun _ _ => rfl, Nat.le_succ _,
      fun t ht hl => by
        have hl' : S.live t = true := by rw [← hlv t (by omega)]; exact hl
        exact ⟨hl', ⟨hbe t (by omega), hof t (by omega)⟩, fun b hb => heap_of_alloc_old _ _ _ (h.tok t b hl' hb).1⟩,
      fun _ h1 h2 => absurd h1 (by have : S.fresh.objs.length = S.objs.length := rfl; omega),
      fun t b h1 h2 h3 => by
        by_cases ht : t = S.next
        · subst ht; rw [hben] at h3; cases h3; exact .inl (Nat.le_refl _)
        · rw [hlv t ht] at h2; exact absurd (h.live_lt t h2) (by omega),
      fun b hb => .inl (heap_of_alloc_old _ _ _ hb)⟩
  refine ⟨ev, ⟨?_, ?_, h.obj_ro, h.obj_inj, ?_, ?_, ?_⟩⟩
  · intro b hb; have := h.ro_lt b hb; simp; omega
  · intro o' cs hcs
    obtain ⟨cur, e, h1, h2, h3⟩ := h.obj o' cs hcs
    refine ⟨cur, e, ?_, h2, fun i u hu => ⟨(h3 i u hu).1, (h3 i u hu).2.mono ev⟩⟩
    show (w.alloc o).heap[E.mu o']? = _
    rw [heap_of_alloc_old _ _ _ (Array.getElem?_eq_some_iff.1 h1).1]; exact h1
  · intro t b hl hb
    by_cases ht : t = S.next
    · subst ht; rw [hben] at hb; cases hb
      refine ⟨by simp, fun hro => ?_, fun o' ho' => ?_⟩
      · have := h.ro_lt _ hro; omega
      · have := h.mu_lt (o := o') ho'
        show E.mu o' ≠ _
        omega
    · rw [hlv t ht] at hl; rw [hbe t ht] at hb
      obtain ⟨a1, a2, a3⟩ := h.tok t b hl hb
      exact ⟨by simp; omega, a2, a3⟩
  · intro t t' b hl hl' hb hb'
    by_cases ht : t = S.next <;> by_cases ht' : t' = S.next
    · omega
    · subst ht; rw [hben] at hb; cases hb; rw [hlv t' ht'] at hl'; rw [hbe t' ht'] at hb'
      have := (h.tok t' _ hl' hb').1; omega
    · subst ht'; rw [hben] at hb'; cases hb'; rw [hlv t ht] at hl; rw [hbe t ht] at hb
      have := (h.tok t _ hl hb).1; omega
    · rw [hlv t ht] at hl; rw [hlv t' ht'] at hl'; rw [hbe t ht] at hb; rw [hbe t' ht'] at hb'
      exact h.tok_inj t t' b hl hl' hb hb'
  · intro t hl
    by_cases ht : t = S.next
    · subst ht; exact Nat.lt_succ_self _
    · rw [hlv t ht] at hl; exact Nat.lt_succ_of_lt (h.live_lt t hl)

/-- A token for no block at all. -/
theorem step_tok_nil {E : Env} {S : ASt} {w : World} (h : Rel E S w) :
    Evolves E S w (E.addTok S.next none 0) S.fresh w ∧ Rel (E.addTok S.next none 0) S.fresh w := by
  have hbe : ∀ t, t ≠ S.next → (E.addTok S.next none 0).be t = E.be t := fun t ht => by
    show (if t = S.next then _ else E.be t) = _; rw [if_neg ht]
  have hof : ∀ t, t ≠ S.next → (E.addTok S.next none 0).off t = E.off t := fun t ht => by
    show (if t = S.next then _ else E.off t) = _; rw [if_neg ht]
  have hben : (E.addTok S.next none 0).be S.next = none := by
    show (if S.next = S.next then _ else _) = _; rw [if_pos rfl]
  have hlv : ∀ t, t ≠ S.next → S.fresh.live t = S.live t := fun t ht => by
    show (if t = S.next then true else S.live t) = _; rw [if_neg ht]
  have ev : Evolves E S w (E.addTok S.next none 0) S.fresh w :=
    ⟨rfl, rfl, rfl, Nat.le_refl _, fun b hb => ⟨hb, rfl⟩, Nat.le_refl _, fun _ _ => rfl, Nat.le_succ _,
      fun t ht hl => by
        have hl' : S.live t = true := by rw [← hlv t (by omega)]; exact hl
        exact ⟨hl', ⟨hbe t (by omega), hof t (by omega)⟩, fun b hb => rfl⟩,
      fun _ h1 h2 => absurd h1 (by have : S.fresh.objs.length = S.objs.length := rfl; omega),
      fun t b h1 h2 h3 => by
        by_cases ht : t = S.next
        · subst ht; rw [hben] at h3; cases h3
        · rw [hlv t ht] at h2; exact absurd (h.live_lt t h2) (by omega),
      fun b hb => .inl rfl⟩
  refine ⟨ev, ⟨h.ro_lt, ?_, h.obj_ro, h.obj_inj, ?_, ?_, ?_⟩⟩
  · intro o' cs hcs
    obtain ⟨cur, e, h1, h2, h3⟩ := h.obj o' cs hcs
    exact ⟨cur, e, h1, h2, fun i u hu => ⟨(h3 i u hu).1, (h3 i u hu).2.mono ev⟩⟩
  · intro t b hl hb
    by_cases ht : t = S.next
    · subst ht; rw [hben] at hb; cases hb
    · rw [hlv t ht] at hl; rw [hbe t ht] at hb
      exact h.tok t b hl hb
  · intro t t' b hl hl' hb hb'
    by_cases ht : t = S.next
    · subst ht; rw [hben] at hb; cases hb
    · by_cases ht' : t' = S.next
      · subst ht'; rw [hben] at hb'; cases hb'
      · rw [hlv t ht] at hl; rw [hlv t' ht'] at hl'; rw [hbe t ht] at hb; rw [hbe t' ht'] at hb'
        exact h.tok_inj t t' b hl hl' hb hb'
  · intro t hl
    by_cases ht : t = S.next
    · subst ht; exact Nat.lt_succ_self _
    · rw [hlv t ht] at hl; exact Nat.lt_succ_of_lt (h.live_lt t hl)

theorem kill_live {S : ASt} {t x : Nat} (h : (S.kill t).live x = true) : x ≠ t ∧ S.live x = true := by
  have h' : (if x = t then false else S.live x) = true := h
  by_cases hx : x = t
  · rw [if_pos hx] at h'; cases h'
  · rw [if_neg hx] at h'; exact ⟨hx, h'⟩

/-- A token is given up, and its block may be written. -/
theorem step_kill {E : Env} {S : ASt} {w w' : World} (h : Rel E S w) (t : Nat) (ht : S.live t = true)
    (ho : w'.os = w.os) (htp : w'.tape = w.tape) (hp : w'.output = w.output) (hs : w'.heap.size = w.heap.size)
    (hb : ∀ b, E.be t ≠ some b → w'.heap[b]? = w.heap[b]?) :
    Evolves E S w E (S.kill t) w' ∧ Rel E (S.kill t) w' := by
  have hro : ∀ b, E.ro b → w'.heap[b]? = w.heap[b]? := fun b hr => hb b (fun he => (h.tok t b ht he).2.1 hr)
  have hobj : ∀ o, o < S.objs.length → w'.heap[E.mu o]? = w.heap[E.mu o]? := fun o hol => hb _ (fun he => (h.tok t _ ht he).2.2 o hol rfl)
  have ev : Evolves E S w E (S.kill t) w' :=
    ⟨ho, htp, hp, by omega, fun b hr => ⟨hr, hro b hr⟩, Nat.le_refl _, fun _ _ => rfl, Nat.le_refl _,
      fun t' _ hl => by
        obtain ⟨h1, h2⟩ := kill_live hl
        exact ⟨h2, ⟨rfl, rfl⟩, fun b hbb => hb b (fun he => h1 (h.tok_inj t' t b h2 ht hbb he))⟩,
      fun _ h1 h2 => absurd h1 (by have : (S.kill t).objs.length = S.objs.length := rfl; omega),
      fun t' _ h1 h2 => absurd (h.live_lt t' (kill_live h2).2) (by omega),
      fun b _ => by
        by_cases he : E.be t = some b
        · exact .inr (.inr ⟨t, ht, he⟩)
        · exact .inl (hb b he)⟩
  refine ⟨ev, ⟨?_, ?_, h.obj_ro, h.obj_inj, ?_, ?_, ?_⟩⟩
  · intro b hr; rw [hs]; exact h.ro_lt b hr
  · intro o' cs hcs
    obtain ⟨cur, e, h1, h2, h3⟩ := h.obj o' cs hcs
    exact ⟨cur, e, (hobj o' (List.getElem?_eq_some_iff.1 hcs).1).trans h1, h2, fun i u hu => ⟨(h3 i u hu).1, (h3 i u hu).2.mono ev⟩⟩
  · intro t' b hl hbb; rw [hs]; exact h.tok t' b (kill_live hl).2 hbb
  · intro t1 t2 b h1 h2 hb1 hb2; exact h.tok_inj t1 t2 b (kill_live h1).2 (kill_live h2).2 hb1 hb2
  · intro t' hl; exact h.live_lt t' (kill_live hl).2

/-- A token is given up, its block written, and a fresh token takes the block over. -/
theorem step_pass {E : Env} {S : ASt} {w w' : World} (h : Rel E S w) (t : Nat) (ht : S.live t = true)
    (ho : w'.os = w.os) (htp : w'.tape = w.tape) (hp : w'.output = w.output) (hs : w'.heap.size = w.heap.size)
    (hb : ∀ b, E.be t ≠ some b → w'.heap[b]? = w.heap[b]?) :
    Evolves E S w (E.addTok S.next (E.be t) (E.off t)) (S.kill t).fresh w' ∧ Rel (E.addTok S.next (E.be t) (E.off t)) (S.kill t).fresh w' := by
  obtain ⟨ev1, h1⟩ := step_kill h t ht ho htp hp hs hb
  have hnx : (S.kill t).next = S.next := rfl
  have hbe : ∀ x, x ≠ S.next → (E.addTok S.next (E.be t) (E.off t)).be x = E.be x := fun x hx => by
    show (if x = S.next then _ else E.be x) = _; rw [if_neg hx]
  have hof : ∀ x, x ≠ S.next → (E.addTok S.next (E.be t) (E.off t)).off x = E.off x := fun x hx => by
    show (if x = S.next then _ else E.off x) = _; rw [if_neg hx]
  have hben : (E.addTok S.next (E.be t) (E.off t)).be S.next = E.be t := by
    show (if S.next = S.next then _ else _) = _; rw [if_pos rfl]
  have hlv : ∀ x, x ≠ S.next → (S.kill t).fresh.live x = (S.kill t).live x := fun x hx => by
    show (if x = (S.kill t).next then true else (S.kill t).live x) = _; rw [if_neg (by rw [hnx]; exact hx)]
  have ev : Evolves E S w (E.addTok S.next (E.be t) (E.off t)) (S.kill t).fresh w' :=
    ⟨ho, htp, hp, by omega, fun b hr => ⟨hr, (ev1.ro b hr).2⟩, Nat.le_refl _, fun _ _ => rfl, Nat.le_succ _,
      fun x hx hl => by
        have hl' : (S.kill t).live x = true := by rw [← hlv x (by omega)]; exact hl
        obtain ⟨a1, a2, a3⟩ := ev1.tok x hx hl'
        exact ⟨a1, ⟨hbe x (by omega), hof x (by omega)⟩, a3⟩,
      fun _ h1 h2 => absurd h1 (by have : (S.kill t).fresh.objs.length = S.objs.length := rfl; omega),
      fun x b hx hl hb' => by
        by_cases he : x = S.next
        · subst he; rw [hben] at hb'; exact .inr ⟨t, ht, hb'⟩
        · rw [hlv x he] at hl; exact absurd (h.live_lt x (kill_live hl).2) (by omega),
      fun b hb' => ev1.old b hb'⟩
  refine ⟨ev, ⟨h1.ro_lt, ?_, h.obj_ro, h.obj_inj, ?_, ?_, ?_⟩⟩
  · intro o' cs hcs
    obtain ⟨cur, e, g1, g2, g3⟩ := h.obj o' cs hcs
    refine ⟨cur, e, ?_, g2, fun i u hu => ⟨(g3 i u hu).1, (g3 i u hu).2.mono ev⟩⟩
    show w'.heap[E.mu o']? = _
    rw [hb _ (fun he => (h.tok t _ ht he).2.2 o' (List.getElem?_eq_some_iff.1 hcs).1 rfl)]; exact g1
  · intro x b hl hb'
    by_cases he : x = S.next
    · subst he; rw [hben] at hb'
      obtain ⟨a1, a2, a3⟩ := h.tok t b ht hb'
      exact ⟨by omega, a2, a3⟩
    · rw [hlv x he] at hl; rw [hbe x he] at hb'
      exact h1.tok x b hl hb'
  · intro x y b hx hy hbx hby
    by_cases ex : x = S.next <;> by_cases ey : y = S.next
    · omega
    · subst ex; rw [hben] at hbx; rw [hlv y ey] at hy; rw [hbe y ey] at hby
      exact absurd (h.tok_inj y t b (kill_live hy).2 ht hby hbx) (kill_live hy).1
    · subst ey; rw [hben] at hby; rw [hlv x ex] at hx; rw [hbe x ex] at hbx
      exact absurd (h.tok_inj x t b (kill_live hx).2 ht hbx hby) (kill_live hx).1
    · rw [hlv x ex] at hx; rw [hlv y ey] at hy; rw [hbe x ex] at hbx; rw [hbe y ey] at hby
      exact h1.tok_inj x y b hx hy hbx hby
  · intro x hl
    by_cases he : x = S.next
    · subst he; exact Nat.lt_succ_self _
    · rw [hlv x he] at hl; exact Nat.lt_succ_of_lt (h.live_lt x (kill_live hl).2)

/-- An object is written. -/
theorem step_put {E : Env} {S : ASt} {w : World} (h : Rel E S w) (o : Nat) (cs cs' : List AV) (cur cur' : Array Value) (e : TypeId)
    (ho : S.objs[o]? = some cs) (hc : w.heap[E.mu o]? = some (.cells cur e (0, 0))) (hl : cs'.length = cs.length) (hl' : cur'.size = cs'.length)
    (hv : ∀ i u, cs'[i]? = some u → u.one = true ∧ VRel E S w u (cur'.getD i undef)) :
    Evolves E S w E (S.put o cs') (w.setRow (E.mu o) cur') ∧ Rel E (S.put o cs') (w.setRow (E.mu o) cur') := by
  have hol : o < S.objs.length := (List.getElem?_eq_some_iff.1 ho).1
  have hlen : (S.put o cs').objs.length = S.objs.length := by simp [ASt.put]
  have hne : ∀ b, b ≠ E.mu o → (w.setRow (E.mu o) cur').heap[b]? = w.heap[b]? := fun b hb => setRow_other w _ b _ hb
  have ev : Evolves E S w E (S.put o cs') (w.setRow (E.mu o) cur') :=
    ⟨rfl, rfl, rfl, by simp, fun b hr => ⟨hr, hne b (fun he => h.obj_ro o hol (he ▸ hr))⟩, by omega, fun _ _ => rfl, Nat.le_refl _,
      fun t _ hl => ⟨hl, ⟨rfl, rfl⟩, fun b hb => hne b (fun he => (h.tok t b hl hb).2.2 o hol he.symm)⟩,
      fun _ h1 h2 => absurd h1 (by omega), fun t _ h1 h2 => absurd (h.live_lt t h2) (by omega),
      fun b _ => by
        by_cases he : b = E.mu o
        · exact .inr (.inl ⟨o, hol, he.symm⟩)
        · exact .inl (hne b he)⟩
  refine ⟨ev, ⟨?_, ?_, ?_, ?_, ?_, h.tok_inj, h.live_lt⟩⟩
  · intro b hr; have := h.ro_lt b hr; simpa using this
  · intro o' ds hds
    have hds' : (S.objs.set o cs')[o']? = some ds := hds
    by_cases he : o' = o
    · subst he
      rw [List.getElem?_set_self hol] at hds'
      cases hds'
      exact ⟨cur', e, setRow_heap w _ cur cur' e (0, 0) hc, hl', fun i u hu => ⟨(hv i u hu).1, (hv i u hu).2.mono ev⟩⟩
    · rw [List.getElem?_set_ne (Ne.symm he)] at hds'
      obtain ⟨c1, e1, g1, g2, g3⟩ := h.obj o' ds hds'
      have hol' := (List.getElem?_eq_some_iff.1 hds').1
      refine ⟨c1, e1, ?_, g2, fun i u hu => ⟨(g3 i u hu).1, (g3 i u hu).2.mono ev⟩⟩
      rw [hne _ (fun hm => he (h.obj_inj o' o hol' hol hm))]; exact g1
  · intro o' ho'; exact h.obj_ro o' (by omega)
  · intro o1 o2 h1 h2; exact h.obj_inj o1 o2 (by omega) (by omega)
  · intro t b hl hb
    obtain ⟨a1, a2, a3⟩ := h.tok t b hl hb
    exact ⟨by simpa using a1, a2, fun o' ho' => a3 o' (by omega)⟩
end Go.Proofs.Ytmfkocmbmadkmaa.Abs
