/- Step by step: one law for each kind of operation. -/
import Derived.Test.YthpomdoaiibnfaaVc5
namespace Go.Proofs.Ythpomdoaiibnfaa.Abs
open Go Go.RowKit
set_option linter.unusedVariables false
set_option linter.unusedSimpArgs false

/-! ### bytes -/
abbrev u8 (b : UInt8) : AV := .int .u8 b.toNat
abbrev u8s (l : List UInt8) : List AV := l.map u8
theorem u8s_all (l : List UInt8) : (u8s l).all AV.isU8 = true := by simp [AV.isU8]
theorem u8s_byte (l : List UInt8) : (u8s l).map AV.byte = l := by
  simp only [u8s, List.map_map]
  conv => rhs; rw [← List.map_id l]
  apply List.map_congr_left
  intro b _
  simp [AV.byte]
theorem map_getD {α : Type} {f : α → AV} {l : List α} {i : Nat} (h : i < l.length) : (l.map f).getD i .top = f l[i] := by simp [List.getD, h]
theorem map_get {α : Type} {f : α → AV} {l : List α} {i : Nat} (h : i < l.length) : (l.map f)[i]? = some (f l[i]) := by simp [h]
theorem u8s_emp (l : List UInt8) : (u8s l).isEmpty = true ↔ l = [] := by cases l <;> simp

/-! ### what a value looks like -/
section
variable {a : AV}
theorem tI {k : IntKind} {n : Int} (h : a = .int k n) : a = .int k n := h
theorem tS0 (h : a = .sl .nil 0 (u8s [])) : a = .sl .nil 0 (u8s []) := h
theorem tS {o : Own} {sz : Nat} {xs : List AV} (h : a = .sl o sz xs) : a = .sl o sz xs := h
theorem tB {b : Bool} (h : a = .bool b) : a = .bool b := h
theorem tP {p : Option (Nat × Nat)} (h : a = .ptr p) : a = .ptr p := h
theorem tC {l : List UInt8} (h : a = .str l) : a = .str l := h
theorem tA {cs : List AV} (h : a = .agg cs) : a = .agg cs := h
theorem tT {cs : List AV} (h : a = .tuple cs) : a = .tuple cs := h
theorem tF {t : TypeId} {v : AV} (h : a = .iface t v) : a = .iface t v := h
theorem tN (h : a = .nilIface) : a = .nilIface := h
theorem tE {o : Own} {sz i k : Nat} {xs : List AV} (h : a = .eptr o sz xs i k) : a = .eptr o sz xs i k := h
end
theorem int_eq {k : IntKind} {a b : Int} (h : a = b) : AV.int k a = AV.int k b := by rw [h]

/-! ### states -/
/-- What stays of a state: what is read, and objects but for some. -/
structure Stays (S S' : ASt) (os : List Nat) : Prop where
  objs : S.objs.length ≤ S'.objs.length
  obj : ∀ o, o < S.objs.length → o ∉ os → S'.objs[o]? = S.objs[o]?
  next : S.next ≤ S'.next
  live : ∀ t, t < S.next → S.live t = true → S'.live t = true
/-- A slice that is read, and whose owner is older than what is made next. -/
def Rd (S : ASt) (o : Own) : Prop := rdA S o ∧ ∀ t, o.tok = some t → t < S.next
/-- A slice that more can be put behind: nothing yet, or an owner's own. -/
def App (S : ASt) (o : Own) (sz sz1 n : Nat) : Prop := (o = .nil ∧ n = 0) ∨ ∃ t, o = .own t ∧ S.live t = true ∧ t < S.next ∧ sz1 = sz
def appS (S : ASt) (o : Own) : ASt :=
  match o with
  | .own t => (S.kill t).fresh
  | _ => S.fresh
section
variable {S S' S0 : ASt} {o o2 : Own} {os os' : List Nat} {t b : Nat} {cs cs' : List AV}
theorem live_fresh (h : S.live t = true) : S.fresh.live t = true := by
  show (if t = S.next then true else S.live t) = true
  split
  · rfl
  · exact h
theorem live_new : S.fresh.live S.next = true := by simp [ASt.fresh]
theorem live_kill {u : Nat} (h : S.live t = true) (hne : t ≠ u) : (S.kill u).live t = true := by
  show (if t = u then false else S.live t) = true
  rw [if_neg hne]; exact h
theorem Rd.rd (h : Rd S o) : rdA S o := h.1
theorem Rd.ro : Rd S .ro := ⟨trivial, fun t h => by cases h⟩
theorem Rd.nil : Rd S .nil := ⟨trivial, fun t h => by cases h⟩
theorem Rd.own (h : Rd S (.own t)) : S.live t = true := h.1
theorem Rd.lt (h : Rd S (.own t)) : t < S.next := h.2 t rfl
theorem Rd.of (h : ∀ t, o.tok = some t → S.live t = true ∧ t < S.next) : Rd S o := by
  refine ⟨?_, fun t ht => (h t ht).2⟩
  cases o with
  | own t => exact (h t rfl).1
  | sub t => exact (h t rfl).1
  | _ => trivial
theorem Rd.tok (h : Rd S o) (ht : o.tok = some t) : S.live t = true ∧ t < S.next := ⟨rd_tok h.1 ht, h.2 t ht⟩
theorem Rd.stays (h : Rd S o) (hs : Stays S S' os) : Rd S' o :=
  Rd.of fun t ht => ⟨hs.live t (h.tok ht).2 (h.tok ht).1, Nat.lt_of_lt_of_le (h.tok ht).2 hs.next⟩
theorem Rd.fresh (h : Rd S o) : Rd S.fresh o := Rd.of fun t ht => ⟨live_fresh (h.tok ht).1, Nat.lt_succ_of_lt (h.tok ht).2⟩
theorem Rd.new : Rd S.fresh (.own S.next) := ⟨live_new, fun t ht => by cases ht; exact Nat.lt_succ_self _⟩
theorem Rd.newK : Rd (S.kill t).fresh (.own S.next) := Rd.new (S := S.kill t)
theorem Rd.kill (h : Rd S o) (hne : o.tok ≠ some b) : Rd (S.kill b) o := Rd.of fun t ht => ⟨live_kill (h.tok ht).1 (fun e => hne (by rw [ht, e])), (h.tok ht).2⟩
theorem Rd.push (h : Rd S o) : Rd (S.push cs) o := Rd.of fun t ht => ⟨(h.tok ht).1, (h.tok ht).2⟩
theorem Rd.put (h : Rd S o) : Rd (S.put b cs) o := Rd.of fun t ht => ⟨(h.tok ht).1, (h.tok ht).2⟩
theorem Rd.sub {lo : Option RO} (h : Rd S o) : Rd S (subB lo o) := by
  refine Rd.of fun t ht => h.tok (t := t) ?_
  cases o with
  | own u => cases lo <;> exact ht
  | _ => exact ht
theorem next_fresh : S.fresh.next = S.next + 1 := rfl
theorem next_kill : (S.kill t).next = S.next := rfl
theorem next_push : (S.push cs).next = S.next := rfl
theorem next_put : (S.put b cs).next = S.next := rfl
theorem objs_fresh : S.fresh.objs = S.objs := rfl
theorem objs_kill : (S.kill t).objs = S.objs := rfl
theorem appS_next : (appS S o).next = S.next + 1 := by cases o <;> rfl
theorem appS_objs : (appS S o).objs = S.objs := by cases o <;> rfl
theorem Rd.app (h : Rd S o2) (hne : ∀ t, o = .own t → o2.tok ≠ some t) : Rd (appS S o) o2 := by
  cases o with
  | own t => exact (h.kill (hne t rfl)).fresh
  | _ => exact h.fresh
theorem Rd.appN : Rd (appS S o) (.own S.next) := by
  cases o with
  | own t => exact Rd.new (S := S.kill t)
  | _ => exact Rd.new
theorem App.none {sz sz1 : Nat} : App S .nil sz sz1 0 := .inl ⟨rfl, rfl⟩
theorem App.some {sz n : Nat} (h : Rd S (.own t)) : App S (.own t) sz sz n := .inr ⟨t, rfl, h.1, h.2 t rfl, rfl⟩
theorem App.new {sz n : Nat} : App (appS S o) (.own S.next) sz sz n := App.some Rd.appN
theorem App.rd {sz sz1 n : Nat} (h : App S o sz sz1 n) : Rd S o := by
  rcases h with ⟨rfl, _⟩ | ⟨t, rfl, h1, h2, _⟩
  · exact Rd.nil
  · exact ⟨h1, fun u hu => by cases hu; exact h2⟩
theorem App.sz {sz sz1 n : Nat} (h : App S o sz sz1 n) : sz1 = sz ∨ n = 0 := by
  rcases h with ⟨_, h⟩ | ⟨t, _, _, _, h⟩
  · exact .inr h
  · exact .inl h
theorem App.stays {sz sz1 n : Nat} (h : App S o sz sz1 n) (hs : Stays S S' os) : App S' o sz sz1 n := by
  rcases h with h | ⟨t, rfl, h1, h2, h3⟩
  · exact .inl h
  · exact .inr ⟨t, rfl, hs.live t h2 h1, Nat.lt_of_lt_of_le h2 hs.next, h3⟩
theorem Stays.refl (S : ASt) (os : List Nat) : Stays S S os := ⟨Nat.le_refl _, fun _ _ _ => rfl, Nat.le_refl _, fun _ _ h => h⟩
theorem Stays.trans (h : Stays S0 S os) (k : Stays S S' os) : Stays S0 S' os :=
  ⟨Nat.le_trans h.objs k.objs, fun o ho hn => (k.obj o (Nat.lt_of_lt_of_le ho h.objs) hn).trans (h.obj o ho hn), Nat.le_trans h.next k.next,
    fun t ht hl => k.live t (Nat.lt_of_lt_of_le ht h.next) (h.live t ht hl)⟩
theorem Stays.mono (h : Stays S S' os) (h2 : ∀ o ∈ os, o ∈ os' ∨ S.objs.length ≤ o) : Stays S S' os' :=
  ⟨h.objs, fun o ho hn => h.obj o ho (fun hm => (h2 o hm).elim hn (fun h => by omega)), h.next, h.live⟩
/-- Behind a call that leaves old objects but for some. -/
theorem Stays.then (h : Stays S0 S os) (k : Stays S S' os') (h2 : ∀ o ∈ os', o ∈ os ∨ S0.objs.length ≤ o) : Stays S0 S' os :=
  ⟨Nat.le_trans h.objs k.objs, fun o ho hn => (k.obj o (Nat.lt_of_lt_of_le ho h.objs) (fun hm => (h2 o hm).elim hn (fun h => by omega))).trans (h.obj o ho hn), Nat.le_trans h.next k.next,
    fun t ht hl => k.live t (Nat.lt_of_lt_of_le ht h.next) (h.live t ht hl)⟩
theorem Stays.then0 (h : Stays S0 S os) (k : Stays S S' []) : Stays S0 S' os := h.then k (fun o ho => by cases ho)
theorem Stays.fresh (h : Stays S0 S os) : Stays S0 S.fresh os := ⟨h.objs, h.obj, Nat.le_succ_of_le h.next, fun t ht hl => live_fresh (h.live t ht hl)⟩
theorem Stays.kill (h : Stays S0 S os) (hn : S0.next ≤ t) : Stays S0 (S.kill t) os := ⟨h.objs, h.obj, h.next, fun u hu hl => live_kill (h.live u hu hl) (by omega)⟩
theorem Stays.app (h : Stays S0 S os) (hn : ∀ t, o = .own t → S0.next ≤ t) : Stays S0 (appS S o) os := by
  cases o with
  | own t => exact (h.kill (hn t rfl)).fresh
  | _ => exact h.fresh
theorem Stays.push (h : Stays S0 S os) : Stays S0 (S.push cs) os :=
  ⟨by show _ ≤ (S.objs ++ [cs]).length; simp; have := h.objs; omega, fun o ho hn => by
    show (S.objs ++ [cs])[o]? = _
    rw [List.getElem?_append_left (Nat.lt_of_lt_of_le ho h.objs)]; exact h.obj o ho hn, h.next, h.live⟩
theorem Stays.put (h : Stays S0 S os) (hb : b ∈ os ∨ S0.objs.length ≤ b) : Stays S0 (S.put b cs) os :=
  ⟨by show _ ≤ (S.objs.set b cs).length; simpa using h.objs, fun o ho hn => by
    show (S.objs.set b cs)[o]? = _
    rw [List.getElem?_set_ne (fun e => by subst e; rcases hb with hb | hb; exact hn hb; omega)]; exact h.obj o ho hn, h.next, h.live⟩
/-- An object and its cells. -/
theorem App.put {sz sz1 n : Nat} (h : App S o sz sz1 n) : App (S.put b cs) o sz sz1 n := h
theorem App.push {sz sz1 n : Nat} (h : App S o sz sz1 n) : App (S.push cs) o sz sz1 n := h
theorem App.fresh {sz sz1 n : Nat} (h : App S o sz sz1 n) : App S.fresh o sz sz1 n := by
  rcases h with h | ⟨t, rfl, h1, h2, h3⟩
  · exact .inl h
  · exact .inr ⟨t, rfl, live_fresh h1, Nat.lt_succ_of_lt h2, h3⟩
theorem Ob.lt (h : S.objs[b]? = some cs) : b < S.objs.length := (List.getElem?_eq_some_iff.1 h).1
theorem Ob.fresh (h : S.objs[b]? = some cs) : S.fresh.objs[b]? = some cs := h
theorem Ob.kill (h : S.objs[b]? = some cs) : (S.kill t).objs[b]? = some cs := h
theorem Ob.app (h : S.objs[b]? = some cs) : (appS S o).objs[b]? = some cs := by rw [appS_objs]; exact h
theorem Ob.new : (S.push cs).objs[S.objs.length]? = some cs := by show (S.objs ++ [cs])[S.objs.length]? = _; simp
theorem Ob.push (h : S.objs[b]? = some cs) : (S.push cs').objs[b]? = some cs := by
  show (S.objs ++ [cs'])[b]? = _
  rw [List.getElem?_append_left (Ob.lt h)]; exact h
theorem Ob.put (h : b < S.objs.length) : (S.put b cs).objs[b]? = some cs := by show (S.objs.set b cs)[b]? = _; simp [h]
theorem Ob.put' {cs0 : List AV} (h : S.objs[b]? = some cs0) : (S.put b cs).objs[b]? = some cs := Ob.put (Ob.lt h)
theorem Ob.putNe {u : Nat} (h : S.objs[b]? = some cs) (hne : u ≠ b) : (S.put u cs').objs[b]? = some cs := by
  show (S.objs.set u cs')[b]? = _
  rw [List.getElem?_set_ne hne]; exact h
theorem Ob.stays (h : S.objs[b]? = some cs) (hs : Stays S S' os) (hn : b ∉ os) : S'.objs[b]? = some cs := by rw [hs.obj b (Ob.lt h) hn]; exact h
theorem Ob.stays0 (h : S.objs[b]? = some cs) (hs : Stays S S' []) : S'.objs[b]? = some cs := Ob.stays h hs (by simp)
theorem Ob.putNe' {u : Nat} (hne : u ≠ b) (h : S.objs[b]? = some cs) : (S.put u cs').objs[b]? = some cs := Ob.putNe h hne
theorem Ob.stays' (hs : Stays S S' os) (hn : b ∉ os) (h : S.objs[b]? = some cs) : S'.objs[b]? = some cs := Ob.stays h hs hn
theorem Ob.stays0' (hs : Stays S S' []) (h : S.objs[b]? = some cs) : S'.objs[b]? = some cs := Ob.stays0 h hs
theorem Ob.len_push : (S.push cs).objs.length = S.objs.length + 1 := by show (S.objs ++ [cs]).length = _; simp
theorem Ob.len_put : (S.put b cs).objs.length = S.objs.length := by show (S.objs.set b cs).length = _; simp
end

section
variable {P : Program} {F : Fr} {S : ASt} {k : RC} {r : List RI} {K : Fr → ASt → Prop} {Q : Ex → Fr → ASt → Prop} {d : Nat} {x y i a c : RO}

/-! ### code -/
theorem r_reg {l : List RI} (h : wpI P l (wpR P k Q) F S) : wpR P (.reg l k) Q F S := h
theorem i_nil (h : wpR P k Q F S) : wpI P [] (wpR P k Q) F S := h
theorem r_condT {x y : RC} (hc : ro F c = .bool true) (h : wpR P x (kQ (wpR P k Q) Q) F S) : wpR P (.cond c x y k) Q F S :=
  ⟨wpR P k Q, fun _ _ h => h, by rw [hc]; exact wpR_k h⟩
theorem r_condF {x y : RC} (hc : ro F c = .bool false) (h : wpR P y (kQ (wpR P k Q) Q) F S) : wpR P (.cond c x y k) Q F S :=
  ⟨wpR P k Q, fun _ _ h => h, by rw [hc]; exact wpR_k h⟩
theorem r_cond {x y : RC} {b : Bool} (hc : ro F c = .bool b) (h1 : b = true → wpR P x (kQ (wpR P k Q) Q) F S) (h2 : b = false → wpR P y (kQ (wpR P k Q) Q) F S) : wpR P (.cond c x y k) Q F S := by
  cases b
  · exact r_condF hc (h2 rfl)
  · exact r_condT hc (h1 rfl)
/-- Both ways meet again in R. -/
theorem r_join {x y : RC} {b : Bool} (R : Fr → ASt → Prop) (hc : ro F c = .bool b) (hk : ∀ G S, R G S → wpR P k Q G S) (h1 : b = true → wpR P x (kQ (fun F S => ∃ G, SubL F G ∧ R G S) Q) F S) (h2 : b = false → wpR P y (kQ (fun F S => ∃ G, SubL F G ∧ R G S) Q) F S) :
    wpR P (.cond c x y k) Q F S := by
  refine ⟨R, hk, ?_⟩
  rw [hc]
  have key : ∀ {z : RC}, wpR P z (kQ (fun F S => ∃ G, SubL F G ∧ R G S) Q) F S → wpR P z (jQ R Q) F S := by
    intro z h
    refine wpR_mono ?_ h
    intro e F S h
    cases e with
    | normal => obtain ⟨G, hg, hr⟩ := h; exact ⟨G, hg.sub, hr⟩
    | exit j => exact h
    | ret => exact h
  cases b
  · exact key (h2 rfl)
  · exact key (h1 rfl)
theorem r_block {id : Nat} {c : RC} (h : wpR P c (bQ id (wpR P k Q) Q) F S) : wpR P (.block id c k) Q F S := h
def lR (R : Nat → Fr → ASt → Prop) (m : Nat) (Q : Ex → Fr → ASt → Prop) : Ex → Fr → ASt → Prop
  | .normal, F, S => ∃ m', m' < m ∧ ∃ G, SubL F G ∧ R m' G S
  | e, F, S => Q e F S
theorem r_loop {lv : List Nat} {c : RC} (R : Nat → Fr → ASt → Prop) (h0 : ∃ m G, SubL F G ∧ R m G S) (h : ∀ m G S, R m G S → wpR P c (lR R m Q) G S) : wpR P (.loop lv c) Q F S := by
  obtain ⟨m, G, hg, hr⟩ := h0
  refine ⟨R, ⟨m, G, hg.sub, hr⟩, fun m G S hr => wpR_mono ?_ (h m G S hr)⟩
  intro e F S h
  cases e with
  | normal => obtain ⟨m', hlt, G, hg, hr⟩ := h; exact ⟨m', hlt, G, hg.sub, hr⟩
  | exit j => exact h
  | ret => exact h
theorem r_nop (h : Q .normal F S) : wpR P .nop Q F S := h
theorem r_exit {j : Nat} (h : Q (.exit j) F S) : wpR P (.exit j) Q F S := h
theorem r_ret (h : Q .ret F S) : wpR P .ret Q F S := h
theorem q_k {A : Fr → ASt → Prop} (h : A F S) : kQ A Q .normal F S := h
theorem q_kx {A : Fr → ASt → Prop} {j : Nat} (h : Q (.exit j) F S) : kQ A Q (.exit j) F S := h
theorem q_kr {A : Fr → ASt → Prop} (h : Q .ret F S) : kQ A Q .ret F S := h
theorem q_b {A : Fr → ASt → Prop} {id : Nat} (h : A F S) : bQ id A Q .normal F S := h
theorem q_bx {A : Fr → ASt → Prop} {id : Nat} (h : A F S) : bQ id A Q (.exit id) F S := by simpa [bQ] using h
theorem q_by {A : Fr → ASt → Prop} {id j : Nat} (hj : Nat.beq j id = false) (h : Q (.exit j) F S) : bQ id A Q (.exit j) F S := by
  have : j ≠ id := fun e => by subst e; simp at hj
  simpa [bQ, this] using h
theorem q_br {A : Fr → ASt → Prop} {id : Nat} (h : Q .ret F S) : bQ id A Q .ret F S := h
theorem q_lx {R : Nat → Fr → ASt → Prop} {m j : Nat} (h : Q (.exit j) F S) : lR R m Q (.exit j) F S := h
theorem q_lr {R : Nat → Fr → ASt → Prop} {m : Nat} (h : Q .ret F S) : lR R m Q .ret F S := h
theorem q_l {R : Nat → Fr → ASt → Prop} {m m' : Nat} {G : Fr} (hr : R m' G S) (hlt : m' < m) (hg : SubL F G) : lR R m Q .normal F S := ⟨m', hlt, G, hg, hr⟩
def pick (F : Fr) : List Nat → Fr
  | [] => []
  | i :: r => (i, look F i) :: pick F r
theorem pick_sub (F : Fr) : ∀ l, SubL F (pick F l)
  | [] => trivial
  | i :: r => ⟨rfl, pick_sub F r⟩
theorem q_lp {R : Nat → Fr → ASt → Prop} {m m' : Nat} (lv : List Nat) (hr : R m' (pick F lv) S) (hlt : m' < m) : lR R m Q .normal F S := ⟨m', hlt, _, pick_sub F lv, hr⟩
theorem r_loopP {lv : List Nat} {c : RC} (lw : List Nat) (R : Nat → Fr → ASt → Prop) (h0 : ∃ m, R m (pick F lw) S) (h : ∀ m G S, R m G S → wpR P c (lR R m Q) G S) : wpR P (.loop lv c) Q F S := by
  obtain ⟨m, hr⟩ := h0
  exact r_loop R ⟨m, _, pick_sub F lw, hr⟩ h
theorem q_ret1 {KK : AV → ASt → Prop} {t : Nat} {v : AV} (hv : look F t = v) (h : KK v S) : bodyQ [.t t] KK .ret F S := ⟨[v], by simp [resE, hv], h⟩
theorem q_ret2 {KK : AV → ASt → Prop} {t u : Nat} {v w : AV} (hv : look F t = v) (hw : look F u = w) (h : KK (.tuple [v, w]) S) : bodyQ [.t t, .t u] KK .ret F S := ⟨[v, w], by simp [resE, hv, hw], h⟩
theorem q_ret0 {KK : AV → ASt → Prop} (h : KK (.tuple []) S) : bodyQ [] KK .ret F S := ⟨[], rfl, h⟩
theorem q_end0 {KK : AV → ASt → Prop} (h : KK (.tuple []) S) : bodyQ [] KK .normal F S := ⟨[], rfl, h⟩
theorem q_retN {KK : AV → ASt → Prop} {t o n : Nat} {cs : List AV} (hv : look F t = .ptr (some (o, 0))) (ho : S.objs[o]? = some cs) (hn : cs.length = n) (h : KK (.agg cs) S) : bodyQ [.cellN t n] KK .ret F S :=
  ⟨[.agg cs], by simp [resE, hv, cellNE, loadNE, ho, ← hn], h⟩

/-! ### guards -/
theorem i_gT {re : Bool} {op : ROp} {dd : Option Nat} {t : Nat} {w : Bool} (hg : look F t = .bool w) (h : wpI P (⟨re, none, op, dd⟩ :: r) K F S) : wpI P (⟨re, some (t, w), op, dd⟩ :: r) K F S := by
  simp only [wpI, hg, gK3, if_true]; exact h
theorem i_gF {op : ROp} {t : Nat} {w b : Bool} (hg : look F t = .bool b) (hb : (b == w) = false) (h : wpI P r K ((d, .tuple []) :: F) S) : wpI P (⟨false, some (t, w), op, some d⟩ :: r) K F S := by
  have hb' : b ≠ w := by simpa using hb
  simp only [wpI, hg, gK3, if_neg hb']; exact h
theorem i_gFn {op : ROp} {t : Nat} {w b : Bool} (hg : look F t = .bool b) (hb : (b == w) = false) (h : wpI P r K F S) : wpI P (⟨false, some (t, w), op, none⟩ :: r) K F S := by
  have hb' : b ≠ w := by simpa using hb
  simp only [wpI, hg, gK3, if_neg hb']; exact h
theorem i_gR {op : ROp} {dd : Option Nat} {t : Nat} {w b : Bool} (hg : look F t = .bool b) (hb : (b == w) = false) (h : wpI P r K F S) : wpI P (⟨true, some (t, w), op, dd⟩ :: r) K F S := by
  have hb' : b ≠ w := by simpa using hb
  simp only [wpI, hg, gK3, if_neg hb']; exact h
theorem i_gU {op : ROp} {t : Nat} {w : Bool} {vs : List AV} (hg : look F t = .tuple vs) (h : wpI P r K ((d, .tuple []) :: F) S) : wpI P (⟨false, some (t, w), op, some d⟩ :: r) K F S := by
  simp only [wpI, hg, gK3]; exact h
theorem i_gUr {op : ROp} {dd : Option Nat} {t : Nat} {w : Bool} {vs : List AV} (hg : look F t = .tuple vs) (h : wpI P r K F S) : wpI P (⟨true, some (t, w), op, dd⟩ :: r) K F S := by
  simp only [wpI, hg, gK3]; exact h

theorem g_bin {op : BinOp} {dd : Option Nat} (h : wpI P (⟨false, none, .bin op x y, dd⟩ :: r) K F S) : wpI P (⟨false, none, .bin op x y, dd⟩ :: r) K F S := h
theorem g_run {op : ROp} {dd : Option Nat} (h : wpI P (⟨false, none, op, dd⟩ :: r) K F S) : wpI P (⟨false, none, op, dd⟩ :: r) K F S := h
theorem g_grd {re : Bool} {g : Nat × Bool} {op : ROp} {dd : Option Nat} (h : wpI P (⟨re, some g, op, dd⟩ :: r) K F S) : wpI P (⟨re, some g, op, dd⟩ :: r) K F S := h
theorem i_op {op : ROp} {dd : Option Nat} (h : ropK P op F S fun v F' S' => wpI P r K (putO F' dd v) S') : wpI P (⟨false, none, op, dd⟩ :: r) K F S := h
/-! ### operations that answer a value -/
theorem i_mov {v : AV} (h : ro F x = v) (k : wpI P r K ((d, v) :: F) S) : wpI P (⟨false, none, .mov x, some d⟩ :: r) K F S := ⟨v, S, by rw [← h]; rfl, k⟩
theorem i_pickT {b : RO} {v : AV} (hc : ro F c = .bool true) (h : ro F a = v) (k : wpI P r K ((d, v) :: F) S) : wpI P (⟨false, none, .pick c a b, some d⟩ :: r) K F S := ⟨v, S, by simp [ropE, hc, h], k⟩
theorem i_pickF {b : RO} {v : AV} (hc : ro F c = .bool false) (h : ro F b = v) (k : wpI P r K ((d, v) :: F) S) : wpI P (⟨false, none, .pick c a b, some d⟩ :: r) K F S := ⟨v, S, by simp [ropE, hc, h], k⟩
theorem i_alloc {cs : List AV} (k : wpI P r K ((d, .ptr (some (S.objs.length, 0))) :: F) (S.push cs)) : wpI P (⟨false, none, .alloc cs, some d⟩ :: r) K F S := ⟨_, _, rfl, k⟩
theorem i_box {v : AV} (h : ro F x = v) (hb : v.box = true) (k : wpI P r K ((d, .ptr (some (S.objs.length, 0))) :: F) (S.push v.cells)) : wpI P (⟨false, none, .box x, some d⟩ :: r) K F S :=
  ⟨_, _, by simp [ropE, h, hb], k⟩
theorem i_boxA {cs : List AV} (h : ro F x = .agg cs) (k : wpI P r K ((d, .ptr (some (S.objs.length, 0))) :: F) (S.push cs)) : wpI P (⟨false, none, .box x, some d⟩ :: r) K F S := i_box h rfl k
theorem i_build {z cs : List AV} {pl : List (Nat × Nat)} {ps : List (Nat × RO)} (h : fillA pl z (roP F ps) = some cs) (k : wpI P r K ((d, .agg cs) :: F) S) : wpI P (⟨false, none, .build z pl ps, some d⟩ :: r) K F S :=
  ⟨_, _, by simp [ropE, h], k⟩
theorem i_mkR {sz n : Nat} {z : AV} {ps : List (Nat × RO)} {xs : List AV} (h : fillS sz (List.replicate n z) (roP F ps) = some xs) (k : wpI P r K ((d, .sl .ro sz xs) :: F) S) :
    wpI P (⟨false, none, .mkSl false sz n z ps, some d⟩ :: r) K F S := ⟨_, _, by simp [ropE, h], k⟩
theorem i_mkO {sz n : Nat} {z : AV} {ps : List (Nat × RO)} {xs : List AV} (h : fillS sz (List.replicate n z) (roP F ps) = some xs) (k : wpI P r K ((d, .sl (.own S.next) sz xs) :: F) S.fresh) :
    wpI P (⟨false, none, .mkSl true sz n z ps, some d⟩ :: r) K F S := ⟨_, _, by simp [ropE, h], k⟩
theorem i_mk0 {sz : Nat} {z : AV} (k : wpI P r K ((d, .sl .ro sz []) :: F) S) : wpI P (⟨false, none, .mkSl false sz 0 z [], some d⟩ :: r) K F S := i_mkR rfl k
theorem i_mk0O {sz : Nat} {z : AV} (k : wpI P r K ((d, .sl (.own S.next) sz []) :: F) S.fresh) : wpI P (⟨false, none, .mkSl true sz 0 z [], some d⟩ :: r) K F S := i_mkO rfl k
theorem i_mk1 {sz : Nat} {z v : AV} (h : ro F x = v) (hb : (v.box && v.cells.length == sz) = true) (k : wpI P r K ((d, .sl .ro sz [v]) :: F) S) : wpI P (⟨false, none, .mkSl false sz 1 z [(0, x)], some d⟩ :: r) K F S := by
  refine i_mkR (xs := [v]) ?_ k
  simp only [Bool.and_eq_true, beq_iff_eq] at hb
  simp [roP, h, fillS, hb.1, hb.2]
theorem i_mk2 {sz : Nat} {z v w : AV} (h : ro F x = v) (h2 : ro F y = w) (hb : (v.box && v.cells.length == sz) = true) (hb2 : (w.box && w.cells.length == sz) = true) (k : wpI P r K ((d, .sl .ro sz [v, w]) :: F) S) :
    wpI P (⟨false, none, .mkSl false sz 2 z [(0, x), (1, y)], some d⟩ :: r) K F S := by
  refine i_mkR (xs := [v, w]) ?_ k
  simp only [Bool.and_eq_true, beq_iff_eq] at hb hb2
  simp [roP, h, h2, fillS, hb.1, hb.2, hb2.1, hb2.2]
theorem i_load {o j : Nat} {cs : List AV} {v : AV} (ha : ro F a = .ptr (some (o, j))) (ho : S.objs[o]? = some cs) (hv : cs[j]? = some v) (k : wpI P r K ((d, v) :: F) S) : wpI P (⟨false, none, .load a, some d⟩ :: r) K F S :=
  ⟨_, _, by simp only [ropE, ha, loadE, ho, hv, st1], k⟩
theorem i_loadE {o : Own} {sz j m : Nat} {xs : List AV} {v : AV} (ha : ro F a = .eptr o sz xs j m) (hr : rdA S o) (hk : m < sz) (hv : (xs.getD j .top).cell m = v) (k : wpI P r K ((d, v) :: F) S) : wpI P (⟨false, none, .load a, some d⟩ :: r) K F S :=
  ⟨v, S, by simp only [ropE, ha, loadE, rdB_iff.2 hr, hk, and_self, if_true, st1, hv], k⟩
/-- An element of a slice that reads as a list. -/
theorem i_loadM {α : Type} {f : α → AV} {l : List α} {o : Own} {sz j : Nat} (ha : ro F a = .eptr o sz (l.map f) j 0) (hr : rdA S o) (hk : 0 < sz) (hf : ∀ x, (f x).one = true) (k : ∃ hj : j < l.length, wpI P r K ((d, f l[j]) :: F) S) :
    wpI P (⟨false, none, .load a, some d⟩ :: r) K F S := by
  obtain ⟨hj, k⟩ := k
  refine i_loadE ha hr hk ?_ k
  rw [map_getD hj]
  have := hf l[j]
  cases e : f l[j] <;> rw [e] at this <;> first | rfl | (simp [AV.one] at this)
/-- A part of an element of a slice that reads as a list. -/
theorem i_loadF {α : Type} {f : α → AV} {l : List α} {o : Own} {sz j m : Nat} (ha : ro F a = .eptr o sz (l.map f) j m) (hr : rdA S o) (hk : m < sz) (k : ∃ hj : j < l.length, wpI P r K ((d, (f l[j]).cell m) :: F) S) :
    wpI P (⟨false, none, .load a, some d⟩ :: r) K F S := by
  obtain ⟨hj, k⟩ := k
  exact i_loadE ha hr hk (by rw [map_getD hj]) k
/-- A struct out of a slice that reads as a list. -/
theorem i_loadNM {α : Type} {f : α → AV} {g : α → List AV} {l : List α} {o : Own} {sz j n : Nat} (ha : ro F a = .eptr o sz (l.map f) j 0) (hr : rdA S o) (hk : n ≤ sz) (hf : ∀ x, f x = .agg (g x)) (hg : ∀ x, (g x).length = n) (k : ∃ hj : j < l.length, wpI P r K ((d, .agg (g l[j])) :: F) S) :
    wpI P (⟨false, none, .loadN n a, some d⟩ :: r) K F S := by
  obtain ⟨hj, k⟩ := k
  refine ⟨.agg (g l[j]), S, ?_, k⟩
  simp only [ropE, ha, loadNE]
  rw [if_pos ⟨by omega, rdB_iff.2 hr⟩, map_getD hj, hf]
  simp [st1, AV.cells, ← hg l[j]]
theorem i_loadN {o n : Nat} {cs : List AV} (ha : ro F a = .ptr (some (o, 0))) (ho : S.objs[o]? = some cs) (hn : cs.length = n) (k : wpI P r K ((d, .agg cs) :: F) S) : wpI P (⟨false, none, .loadN n a, some d⟩ :: r) K F S :=
  ⟨.agg cs, S, by simp [ropE, ha, loadNE, ho, st1, ← hn], k⟩
theorem i_loadNE {o : Own} {sz j n : Nat} {xs cs : List AV} (ha : ro F a = .eptr o sz xs j 0) (hr : rdA S o) (hk : n ≤ sz) (hv : xs.getD j .top = .agg cs) (hn : cs.length = n) (k : wpI P r K ((d, .agg cs) :: F) S) :
    wpI P (⟨false, none, .loadN n a, some d⟩ :: r) K F S :=
  ⟨.agg cs, S, by simp only [ropE, ha, loadNE]; rw [if_pos ⟨by omega, rdB_iff.2 hr⟩, hv]; simp [st1, AV.cells, ← hn], k⟩
theorem i_nckP {p : Nat × Nat} (h : ro F x = .ptr (some p)) (k : wpI P r K ((d, .ptr (some p)) :: F) S) : wpI P (⟨false, none, .nck x, some d⟩ :: r) K F S := ⟨_, _, by simp only [ropE, h], k⟩
theorem i_nckI {t : TypeId} {v : AV} (h : ro F x = .iface t v) (k : wpI P r K ((d, .iface t v) :: F) S) : wpI P (⟨false, none, .nck x, some d⟩ :: r) K F S := ⟨_, _, by simp only [ropE, h], k⟩
theorem i_st {o j n : Nat} {cs : List AV} {v : AV} (ha : ro F a = .ptr (some (o, j))) (hx : ro F x = v) (hb : (v.one && n == 1) = true) (ho : S.objs[o]? = some cs) (hj : j < cs.length) (k : wpI P r K F (S.put o (cs.set j v))) :
    wpI P (⟨false, none, .st n a x, none⟩ :: r) K F S := by
  simp only [Bool.and_eq_true, beq_iff_eq] at hb
  have h1 : v.box = true := by cases v <;> first | rfl | exact hb.1
  have h2 : v.cells = [v] := by cases v <;> first | rfl | (simp [AV.one] at hb)
  refine ⟨.top, S.put o (cs.set j v), ?_, k⟩
  have e : setA cs j v.cells = cs.set j v := by rw [h2]; simp [setA]
  simp only [ropE, ha, hx, stA, ho, h1, h2, hb.2, List.length_singleton, true_and]
  rw [if_pos (by omega)]
  rw [← h2, e]
theorem i_stN {o n : Nat} {cs vs : List AV} (ha : ro F a = .ptr (some (o, 0))) (hx : ro F x = .agg vs) (ho : S.objs[o]? = some cs) (h1 : vs.length = n) (h2 : cs.length = n) (hn : Nat.beq n 1 = false) (k : wpI P r K F (S.put o vs)) :
    wpI P (⟨false, none, .st n a x, none⟩ :: r) K F S := by
  have hn' : n ≠ 1 := fun e => by subst e; simp at hn
  refine ⟨.top, S.put o vs, ?_, k⟩
  have e : setA cs 0 (AV.agg vs).cells = vs := by
    simp only [setA, AV.cells, h1, if_neg hn', List.take_zero, List.nil_append, Nat.zero_add]
    rw [List.drop_of_length_le (by omega), List.append_nil]
  simp only [ropE, ha, hx, stA, ho, e]
  rw [if_pos ⟨rfl, by simp [AV.cells, h1], by simp [AV.cells, h1, h2]⟩]
theorem i_stE {s sz j m t : Nat} {xs : List AV} {v : AV} (ha : ro F a = .eptr (.own t) sz xs j m) (hx : ro F x = v) (hs : look F s = .sl (.own t) sz xs) (hl : S.live t = true) (h1 : v.one = true) (hm : m < sz)
    (k : wpI P r K ((s, .sl (.own S.next) sz (xs.set j ((xs.getD j .top).putCell m v))) :: F) (S.kill t).fresh) : wpI P (⟨false, none, .stE s a x, none⟩ :: r) K F S := by
  refine i_op ?_
  simp only [ropK, ha, hx]
  exact ⟨hs, hl, h1, hm, k⟩

/-- A store into a part of an element of a slice that reads as a list. -/
theorem i_stEM {α : Type} {f : α → AV} {l : List α} {z : α} {s sz j m t : Nat} {v : AV} (ha : ro F a = .eptr (.own t) sz (l.map f) j m) (hx : ro F x = v) (hs : look F s = .sl (.own t) sz (l.map f)) (hl : S.live t = true) (h1 : v.one = true) (hm : m < sz) (hj : j < l.length)
    (hz : ((l.map f).getD j .top).putCell m v = f z) (k : wpI P r K ((s, .sl (.own S.next) sz ((l.set j z).map f)) :: F) (S.kill t).fresh) : wpI P (⟨false, none, .stE s a x, none⟩ :: r) K F S := by
  refine i_stE ha hx hs hl h1 hm ?_
  rw [hz, ← List.map_set]; exact k

/-! ### numbers -/
theorem i_bin {op : BinOp} {v : AV} (h : binE op (ro F x) (ro F y) = some v) (k : wpI P r K ((d, v) :: F) S) : wpI P (⟨false, none, .bin op x y, some d⟩ :: r) K F S := ⟨v, S, by simp only [ropE, h, st1], k⟩
theorem i_add {n m : Int} (hx : ro F x = .int .i64 n) (hy : ro F y = .int .i64 m) (h : -9223372036854775808 ≤ n + m ∧ n + m < 9223372036854775808) (k : wpI P r K ((d, .int .i64 (n + m)) :: F) S) :
    wpI P (⟨false, none, .bin .add x y, some d⟩ :: r) K F S := i_bin (by simp only [hx, hy, binE, intE, if_true, wrap_i64 h.1 h.2]) k
theorem i_sub {n m : Int} (hx : ro F x = .int .i64 n) (hy : ro F y = .int .i64 m) (h : -9223372036854775808 ≤ n - m ∧ n - m < 9223372036854775808) (k : wpI P r K ((d, .int .i64 (n - m)) :: F) S) :
    wpI P (⟨false, none, .bin .sub x y, some d⟩ :: r) K F S := i_bin (by simp only [hx, hy, binE, intE, if_true, wrap_i64 h.1 h.2]) k
theorem i_mul {n m : Int} (hx : ro F x = .int .i64 n) (hy : ro F y = .int .i64 m) (h : -9223372036854775808 ≤ n * m ∧ n * m < 9223372036854775808) (k : wpI P r K ((d, .int .i64 (n * m)) :: F) S) :
    wpI P (⟨false, none, .bin .mul x y, some d⟩ :: r) K F S := i_bin (by simp only [hx, hy, binE, intE, if_true, wrap_i64 h.1 h.2]) k
theorem i_addW {kk : IntKind} {n m z : Int} (hx : ro F x = .int kk n) (hy : ro F y = .int kk m) (h : kk.wrap (n + m) = z) (k : wpI P r K ((d, .int kk z) :: F) S) :
    wpI P (⟨false, none, .bin .add x y, some d⟩ :: r) K F S := i_bin (by simp only [hx, hy, binE, intE, if_true, h]) k
theorem i_subW {kk : IntKind} {n m z : Int} (hx : ro F x = .int kk n) (hy : ro F y = .int kk m) (h : kk.wrap (n - m) = z) (k : wpI P r K ((d, .int kk z) :: F) S) :
    wpI P (⟨false, none, .bin .sub x y, some d⟩ :: r) K F S := i_bin (by simp only [hx, hy, binE, intE, if_true, h]) k
theorem i_xor1 {n : Nat} (hx : ro F x = .int .i64 (n : Int)) (hy : ro F y = .int .i64 1) (h : n < 4611686018427387904) (k : wpI P r K ((d, .int .i64 ((n ^^^ 1 : Nat) : Int)) :: F) S) : wpI P (⟨false, none, .bin .xor x y, some d⟩ :: r) K F S := by
  refine i_bin ?_ k
  have e : (BitVec.ofInt IntKind.i64.bits (n : Int) ^^^ BitVec.ofInt IntKind.i64.bits 1).toNat = n ^^^ 1 := by
    have e1 : (BitVec.ofInt 64 (n : Int)).toNat = n := by rw [BitVec.toNat_ofInt]; omega
    have e2 : (BitVec.ofInt 64 1).toNat = 1 := rfl
    show (BitVec.ofInt 64 (n : Int) ^^^ BitVec.ofInt 64 1).toNat = n ^^^ 1
    rw [BitVec.toNat_xor, e1, e2]
  have hb : n ^^^ 1 < 2 ^ 63 := Nat.xor_lt_two_pow (by omega) (by omega)
  simp only [hx, hy, binE, intE, if_true, e]
  rw [wrap_i64 (by omega) (by omega)]
theorem i_rem {kk : IntKind} {n m z : Int} (hx : ro F x = .int kk n) (hy : ro F y = .int kk m) (h0 : m ≠ 0) (h : n.tmod m = z) (k : wpI P r K ((d, .int kk z) :: F) S) :
    wpI P (⟨false, none, .bin .rem x y, some d⟩ :: r) K F S := i_bin (by simp only [hx, hy, binE, intE, h0, ne_eq, not_false_eq_true, and_self, if_true, h]) k
theorem i_ltT {kk : IntKind} {n m : Int} (hx : ro F x = .int kk n) (hy : ro F y = .int kk m) (h : n < m) (k : wpI P r K ((d, .bool true) :: F) S) : wpI P (⟨false, none, .bin .lss x y, some d⟩ :: r) K F S :=
  i_bin (by simp only [hx, hy, binE, intE, if_true, h, decide_true]) k
theorem i_ltF {kk : IntKind} {n m : Int} (hx : ro F x = .int kk n) (hy : ro F y = .int kk m) (h : ¬ n < m) (k : wpI P r K ((d, .bool false) :: F) S) : wpI P (⟨false, none, .bin .lss x y, some d⟩ :: r) K F S :=
  i_bin (by simp only [hx, hy, binE, intE, if_true, h, decide_false]) k
theorem i_leT {kk : IntKind} {n m : Int} (hx : ro F x = .int kk n) (hy : ro F y = .int kk m) (h : n ≤ m) (k : wpI P r K ((d, .bool true) :: F) S) : wpI P (⟨false, none, .bin .leq x y, some d⟩ :: r) K F S :=
  i_bin (by simp only [hx, hy, binE, intE, if_true, h, decide_true]) k
theorem i_leF {kk : IntKind} {n m : Int} (hx : ro F x = .int kk n) (hy : ro F y = .int kk m) (h : ¬ n ≤ m) (k : wpI P r K ((d, .bool false) :: F) S) : wpI P (⟨false, none, .bin .leq x y, some d⟩ :: r) K F S :=
  i_bin (by simp only [hx, hy, binE, intE, if_true, h, decide_false]) k
theorem i_gtT {kk : IntKind} {n m : Int} (hx : ro F x = .int kk n) (hy : ro F y = .int kk m) (h : m < n) (k : wpI P r K ((d, .bool true) :: F) S) : wpI P (⟨false, none, .bin .gtr x y, some d⟩ :: r) K F S :=
  i_bin (by simp only [hx, hy, binE, intE, if_true, h, decide_true]) k
theorem i_gtF {kk : IntKind} {n m : Int} (hx : ro F x = .int kk n) (hy : ro F y = .int kk m) (h : ¬ m < n) (k : wpI P r K ((d, .bool false) :: F) S) : wpI P (⟨false, none, .bin .gtr x y, some d⟩ :: r) K F S :=
  i_bin (by simp only [hx, hy, binE, intE, if_true, h, decide_false]) k
theorem i_geT {kk : IntKind} {n m : Int} (hx : ro F x = .int kk n) (hy : ro F y = .int kk m) (h : m ≤ n) (k : wpI P r K ((d, .bool true) :: F) S) : wpI P (⟨false, none, .bin .geq x y, some d⟩ :: r) K F S :=
  i_bin (by simp only [hx, hy, binE, intE, if_true, h, decide_true]) k
theorem i_geF {kk : IntKind} {n m : Int} (hx : ro F x = .int kk n) (hy : ro F y = .int kk m) (h : ¬ m ≤ n) (k : wpI P r K ((d, .bool false) :: F) S) : wpI P (⟨false, none, .bin .geq x y, some d⟩ :: r) K F S :=
  i_bin (by simp only [hx, hy, binE, intE, if_true, h, decide_false]) k
theorem i_eqT {kk : IntKind} {n m : Int} (hx : ro F x = .int kk n) (hy : ro F y = .int kk m) (h : n = m) (k : wpI P r K ((d, .bool true) :: F) S) : wpI P (⟨false, none, .bin .eql x y, some d⟩ :: r) K F S :=
  i_bin (by simp only [hx, hy, binE, intE, if_true, h, beq_self_eq_true]) k
theorem i_eqF {kk : IntKind} {n m : Int} (hx : ro F x = .int kk n) (hy : ro F y = .int kk m) (h : ¬ n = m) (k : wpI P r K ((d, .bool false) :: F) S) : wpI P (⟨false, none, .bin .eql x y, some d⟩ :: r) K F S :=
  i_bin (by simp only [hx, hy, binE, intE, if_true, beq_eq_false_iff_ne.2 h]) k
theorem i_neT {kk : IntKind} {n m : Int} (hx : ro F x = .int kk n) (hy : ro F y = .int kk m) (h : ¬ n = m) (k : wpI P r K ((d, .bool true) :: F) S) : wpI P (⟨false, none, .bin .neq x y, some d⟩ :: r) K F S :=
  i_bin (by simp only [hx, hy, binE, intE, if_true, bne, beq_eq_false_iff_ne.2 h, Bool.not_false]) k
theorem i_neF {kk : IntKind} {n m : Int} (hx : ro F x = .int kk n) (hy : ro F y = .int kk m) (h : n = m) (k : wpI P r K ((d, .bool false) :: F) S) : wpI P (⟨false, none, .bin .neq x y, some d⟩ :: r) K F S :=
  i_bin (by simp only [hx, hy, binE, intE, if_true, bne, h, beq_self_eq_true, Bool.not_true]) k
theorem i_seT {s t : List UInt8} (hx : ro F x = .str s) (hy : ro F y = .str t) (h : s = t) (k : wpI P r K ((d, .bool true) :: F) S) : wpI P (⟨false, none, .bin .eql x y, some d⟩ :: r) K F S :=
  i_bin (by simp only [hx, hy, binE, strE, h, beq_self_eq_true]) k
theorem i_seF {s t : List UInt8} (hx : ro F x = .str s) (hy : ro F y = .str t) (h : ¬ s = t) (k : wpI P r K ((d, .bool false) :: F) S) : wpI P (⟨false, none, .bin .eql x y, some d⟩ :: r) K F S :=
  i_bin (by simp only [hx, hy, binE, strE, beq_eq_false_iff_ne.2 h]) k
theorem i_snT {s t : List UInt8} (hx : ro F x = .str s) (hy : ro F y = .str t) (h : ¬ s = t) (k : wpI P r K ((d, .bool true) :: F) S) : wpI P (⟨false, none, .bin .neq x y, some d⟩ :: r) K F S :=
  i_bin (by simp only [hx, hy, binE, strE, beq_eq_false_iff_ne.2 h, Bool.not_false]) k
theorem i_snF {s t : List UInt8} (hx : ro F x = .str s) (hy : ro F y = .str t) (h : s = t) (k : wpI P r K ((d, .bool false) :: F) S) : wpI P (⟨false, none, .bin .neq x y, some d⟩ :: r) K F S :=
  i_bin (by simp only [hx, hy, binE, strE, h, beq_self_eq_true, Bool.not_true]) k
theorem i_sadd {s t : List UInt8} (hx : ro F x = .str s) (hy : ro F y = .str t) (h : s.length + t.length ≤ 1073741824) (k : wpI P r K ((d, .str (s ++ t)) :: F) S) : wpI P (⟨false, none, .bin .add x y, some d⟩ :: r) K F S :=
  i_bin (by simp only [hx, hy, binE, strE, h, if_true]) k
theorem i_eqb {ng a b : Bool} (hx : ro F x = .bool a) (hy : ro F y = .bool b) (k : wpI P r K ((d, .bool (xor ng (a == b))) :: F) S) : wpI P (⟨false, none, .eqb ng x y, some d⟩ :: r) K F S := ⟨_, _, by simp only [ropE, hx, hy], k⟩
theorem i_eqbT {a b : Bool} (hx : ro F x = .bool a) (hy : ro F y = .bool b) (h : a = b) (k : wpI P r K ((d, .bool true) :: F) S) : wpI P (⟨false, none, .eqb false x y, some d⟩ :: r) K F S := i_eqb hx hy (by simpa [h] using k)
theorem i_eqbF {a b : Bool} (hx : ro F x = .bool a) (hy : ro F y = .bool b) (h : ¬ a = b) (k : wpI P r K ((d, .bool false) :: F) S) : wpI P (⟨false, none, .eqb false x y, some d⟩ :: r) K F S := i_eqb hx hy (by rw [beq_eq_false_iff_ne.2 h]; exact k)
theorem i_nebT {a b : Bool} (hx : ro F x = .bool a) (hy : ro F y = .bool b) (h : ¬ a = b) (k : wpI P r K ((d, .bool true) :: F) S) : wpI P (⟨false, none, .eqb true x y, some d⟩ :: r) K F S := i_eqb hx hy (by rw [beq_eq_false_iff_ne.2 h]; exact k)
theorem i_nebF {a b : Bool} (hx : ro F x = .bool a) (hy : ro F y = .bool b) (h : a = b) (k : wpI P r K ((d, .bool false) :: F) S) : wpI P (⟨false, none, .eqb true x y, some d⟩ :: r) K F S := i_eqb hx hy (by simpa [h] using k)
theorem i_eqpS {ng : Bool} {p : Nat × Nat} (hx : ro F x = .ptr (some p)) (hy : ro F y = .ptr none) (k : wpI P r K ((d, .bool ng) :: F) S) : wpI P (⟨false, none, .eqp ng x y, some d⟩ :: r) K F S := ⟨.bool ng, S, by simp [ropE, hx, hy], k⟩
theorem i_eqpN {ng : Bool} (hx : ro F x = .ptr none) (hy : ro F y = .ptr none) (k : wpI P r K ((d, .bool (!ng)) :: F) S) : wpI P (⟨false, none, .eqp ng x y, some d⟩ :: r) K F S := ⟨.bool (!ng), S, by simp [ropE, hx, hy], k⟩
theorem i_eqa {ng b : Bool} {ss : List Nat} {xs ys : List AV} (hx : ro F x = .agg xs) (hy : ro F y = .agg ys) (h1 : ss = xs.map AV.sort) (h2 : xs.map AV.sort = ys.map AV.sort) (hb : xor ng (eqL xs ys) = b) (k : wpI P r K ((d, .bool b) :: F) S) :
    wpI P (⟨false, none, .eqa ng ss x y, some d⟩ :: r) K F S := ⟨.bool b, S, by simp only [ropE, hx, hy, h1, h2, hb, and_self, if_true], k⟩
theorem i_eqnN {sz : Nat} {xs : List AV} (hx : ro F x = .sl .nil sz xs) (k : wpI P r K ((d, .bool true) :: F) S) : wpI P (⟨false, none, .eqn false x, some d⟩ :: r) K F S := by
  refine i_op ?_
  simp only [ropK, hx, nilSlA]; exact k
theorem i_eqn {sz : Nat} {o : Own} {xs : List AV} (hx : ro F x = .sl o sz xs) (hn : o = .nil → xs = []) (hr : rdA S o) (k1 : xs = [] → wpI P r K ((d, .bool true) :: F) S) (k2 : wpI P r K ((d, .bool false) :: F) S) :
    wpI P (⟨false, none, .eqn false x, some d⟩ :: r) K F S := by
  refine i_op ?_
  simp only [ropK, hx]
  unfold nilSlA
  split
  · exact k1 (hn rfl)
  · exact ⟨hr, k2⟩
  · rename_i h1 h2
    cases xs with
    | nil => exact ⟨k1 rfl, k2⟩
    | cons x xs => exact absurd rfl (h2 x xs)
theorem i_not {b : Bool} (h : ro F x = .bool b) (k : wpI P r K ((d, .bool (!b)) :: F) S) : wpI P (⟨false, none, .not x, some d⟩ :: r) K F S := ⟨_, _, by simp only [ropE, h], k⟩
theorem i_notT (h : ro F x = .bool true) (k : wpI P r K ((d, .bool false) :: F) S) : wpI P (⟨false, none, .not x, some d⟩ :: r) K F S := i_not h k
theorem i_notF (h : ro F x = .bool false) (k : wpI P r K ((d, .bool true) :: F) S) : wpI P (⟨false, none, .not x, some d⟩ :: r) K F S := i_not h k
theorem i_toInt {kk k2 : IntKind} {n z : Int} (hx : ro F x = .int k2 n) (h : kk.wrap n = z) (k : wpI P r K ((d, .int kk z) :: F) S) : wpI P (⟨false, none, .toInt kk x, some d⟩ :: r) K F S := ⟨.int kk z, S, by simp only [ropE, hx, h], k⟩
theorem i_to64 {k2 : IntKind} {n : Int} (hx : ro F x = .int k2 n) (h : -9223372036854775808 ≤ n ∧ n < 9223372036854775808) (k : wpI P r K ((d, .int .i64 n) :: F) S) : wpI P (⟨false, none, .toInt .i64 x, some d⟩ :: r) K F S := i_toInt hx (wrap_i64 h.1 h.2) k

/-! ### strings, slices -/
theorem i_toSl {l : List UInt8} (hx : ro F x = .str l) (k : wpI P r K ((d, .sl .ro 1 (u8s l)) :: F) S) : wpI P (⟨false, none, .toSl x, some d⟩ :: r) K F S := ⟨.sl .ro 1 (u8s l), S, by simp only [ropE, hx, u8s, u8], k⟩
theorem i_toStr {l : List UInt8} {o : Own} {sz : Nat} (hx : ro F x = .sl o sz (u8s l)) (hs : sz = 1 ∨ l = []) (hr : rdA S o) (k : wpI P r K ((d, .str l) :: F) S) : wpI P (⟨false, none, .toStr x, some d⟩ :: r) K F S :=
  ⟨.str l, S, by simp only [ropE, hx]; rw [if_pos ⟨hs.imp id (fun h => (u8s_emp l).2 h), rdB_iff.2 hr, u8s_all l⟩, u8s_byte], k⟩
theorem i_strStr {l : List UInt8} (hx : ro F x = .str l) (k : wpI P r K ((d, .str l) :: F) S) : wpI P (⟨false, none, .strStr x, some d⟩ :: r) K F S := ⟨_, _, by simp only [ropE, hx], k⟩
theorem i_iface {t : TypeId} {v : AV} (hx : ro F x = v) (k : wpI P r K ((d, .iface t v) :: F) S) : wpI P (⟨false, none, .iface t x, some d⟩ :: r) K F S := ⟨_, _, by simp only [ropE, hx], k⟩
theorem i_slice {sz sz1 : Nat} {o : Own} {α : Type} {f : α → AV} {l : List α} {lo hi : Option RO} (p q : Nat) (hx : ro F x = .sl o sz1 (l.map f)) (hs : sz = sz1 ∨ l = []) (hr : rdA S o) (hlo : optE F lo 0 = some (p : Int)) (hhi : optE F hi (l.length : Int) = some (q : Int))
    (h1 : p ≤ q) (h2 : q ≤ l.length) (k : wpI P r K ((d, .sl (subB lo o) sz1 (((l.take q).drop p).map f)) :: F) S) : wpI P (⟨false, none, .slice sz x lo hi, some d⟩ :: r) K F S := by
  refine ⟨_, _, ?_, k⟩
  simp only [ropE, hx, List.length_map, hlo, hhi]
  rw [if_pos ⟨hs.imp id (fun h => by simp [h]), rdB_iff.2 hr⟩, if_pos (by omega)]
  simp [List.map_drop, List.map_take]
theorem i_sliceS {l : List UInt8} {lo hi : Option RO} (p q : Nat) (hx : ro F x = .str l) (hlo : optE F lo 0 = some (p : Int)) (hhi : optE F hi (l.length : Int) = some (q : Int)) (h1 : p ≤ q) (h2 : q ≤ l.length)
    (k : wpI P r K ((d, .str ((l.take q).drop p)) :: F) S) : wpI P (⟨false, none, .sliceS x lo hi, some d⟩ :: r) K F S := by
  refine ⟨_, _, ?_, k⟩
  simp only [ropE, hx, hlo, hhi]
  rw [if_pos (by omega)]
  simp
theorem i_sliceLo {sz sz1 : Nat} {o : Own} {α : Type} {f : α → AV} {l : List α} {lo : RO} {kk : IntKind} {n : Int} (p : Nat) (hx : ro F x = .sl o sz1 (l.map f)) (hs : sz = sz1 ∨ l = []) (hr : rdA S o) (hlo : ro F lo = .int kk n) (hp : n = p)
    (h1 : p ≤ l.length) (k : wpI P r K ((d, .sl (subB (some lo) o) sz1 ((l.drop p).map f)) :: F) S) : wpI P (⟨false, none, .slice sz x (some lo) none, some d⟩ :: r) K F S :=
  i_slice p l.length hx hs hr (by simp [optE, hlo, bndE, hp]) rfl h1 (Nat.le_refl _) (by rw [List.take_length]; exact k)
theorem i_sliceHi {sz sz1 : Nat} {o : Own} {α : Type} {f : α → AV} {l : List α} {hi : RO} {kk : IntKind} {n : Int} (q : Nat) (hx : ro F x = .sl o sz1 (l.map f)) (hs : sz = sz1 ∨ l = []) (hr : rdA S o) (hhi : ro F hi = .int kk n) (hp : n = q)
    (h1 : q ≤ l.length) (k : wpI P r K ((d, .sl o sz1 ((l.take q).map f)) :: F) S) : wpI P (⟨false, none, .slice sz x none (some hi), some d⟩ :: r) K F S :=
  i_slice 0 q hx hs hr rfl (by simp [optE, hhi, bndE, hp]) (Nat.zero_le _) h1 (by
    have e : subB none o = o := by cases o <;> rfl
    rw [e, List.drop_zero]; exact k)
theorem i_sliceLH {sz sz1 : Nat} {o : Own} {α : Type} {f : α → AV} {l : List α} {lo hi : RO} {kk k2 : IntKind} {n m : Int} (p q : Nat) (hx : ro F x = .sl o sz1 (l.map f)) (hs : sz = sz1 ∨ l = []) (hr : rdA S o) (hlo : ro F lo = .int kk n) (hp : n = p)
    (hhi : ro F hi = .int k2 m) (hq : m = q) (h1 : p ≤ q) (h2 : q ≤ l.length) (k : wpI P r K ((d, .sl (subB (some lo) o) sz1 (((l.take q).drop p).map f)) :: F) S) : wpI P (⟨false, none, .slice sz x (some lo) (some hi), some d⟩ :: r) K F S :=
  i_slice p q hx hs hr (by simp [optE, hlo, bndE, hp]) (by simp [optE, hhi, bndE, hq]) h1 h2 k
theorem i_fldP {o j off : Nat} (hx : ro F x = .ptr (some (o, j))) (k : wpI P r K ((d, .ptr (some (o, j + off))) :: F) S) : wpI P (⟨false, none, .fld off x, some d⟩ :: r) K F S := ⟨_, _, by simp only [ropE, hx], k⟩
theorem i_fld0 {o off : Nat} (hx : ro F x = .ptr (some (o, 0))) (k : wpI P r K ((d, .ptr (some (o, off))) :: F) S) : wpI P (⟨false, none, .fld off x, some d⟩ :: r) K F S := ⟨_, _, by simp only [ropE, hx, Nat.zero_add], k⟩
theorem i_fldE {o : Own} {sz j m off : Nat} {xs : List AV} (hx : ro F x = .eptr o sz xs j m) (hr : rdA S o) (k : wpI P r K ((d, .eptr o sz xs j (m + off)) :: F) S) : wpI P (⟨false, none, .fld off x, some d⟩ :: r) K F S :=
  ⟨_, _, by simp only [ropE, hx, rdB_iff.2 hr, if_true], k⟩
theorem i_fldE0 {o : Own} {sz j off : Nat} {xs : List AV} (hx : ro F x = .eptr o sz xs j 0) (hr : rdA S o) (k : wpI P r K ((d, .eptr o sz xs j off) :: F) S) : wpI P (⟨false, none, .fld off x, some d⟩ :: r) K F S := i_fldE hx hr (by rw [Nat.zero_add]; exact k)
theorem i_idx {o : Own} {sz sz1 : Nat} {kk : IntKind} {xs : List AV} (m : Nat) {n : Int} (hx : ro F x = .sl o sz1 xs) (hi : ro F i = .int kk n) (hm : n = m) (hs : sz = sz1) (hr : rdA S o) (hlt : m < xs.length) (k : wpI P r K ((d, .eptr o sz1 xs m 0) :: F) S) :
    wpI P (⟨false, none, .idx sz x i, some d⟩ :: r) K F S := by
  subst hm
  refine ⟨_, _, ?_, k⟩
  simp only [ropE, hx, hi]
  rw [if_pos ⟨hs, rdB_iff.2 hr, by omega, by omega⟩]; rfl
theorem i_idxM {o : Own} {sz sz1 : Nat} {kk : IntKind} {α : Type} {f : α → AV} {l : List α} (m : Nat) {n : Int} (hx : ro F x = .sl o sz1 (l.map f)) (hi : ro F i = .int kk n) (hm : n = m) (hs : sz = sz1) (hr : rdA S o) (hlt : m < l.length)
    (k : wpI P r K ((d, .eptr o sz1 (l.map f) m 0) :: F) S) : wpI P (⟨false, none, .idx sz x i, some d⟩ :: r) K F S := i_idx m hx hi hm hs hr (by simpa using hlt) k
theorem i_idxA {o n s : Nat} {kk : IntKind} (m : Nat) {z : Int} (hx : ro F x = .ptr (some (o, 0))) (hi : ro F i = .int kk z) (hm : z = m) (hs : Nat.beq s 1 = true) (hlt : m < n) (k : wpI P r K ((d, .ptr (some (o, m))) :: F) S) :
    wpI P (⟨false, none, .idxA n s x i, some d⟩ :: r) K F S := by
  subst hm
  have e : s = 1 := Nat.eq_of_beq_eq_true hs
  subst e
  refine ⟨_, _, ?_, k⟩
  simp only [ropE, hx, hi]
  rw [if_pos (by omega)]; simp
theorem i_idxAE {o : Own} {sz j n s : Nat} {xs : List AV} {kk : IntKind} (m : Nat) {z : Int} (hx : ro F x = .eptr o sz xs j 0) (hi : ro F i = .int kk z) (hm : z = m) (hs : Nat.beq s 1 = true) (hr : rdA S o) (hlt : m < n) (k : wpI P r K ((d, .eptr o sz xs j m) :: F) S) :
    wpI P (⟨false, none, .idxA n s x i, some d⟩ :: r) K F S := by
  subst hm
  have e : s = 1 := Nat.eq_of_beq_eq_true hs
  subst e
  refine ⟨_, _, ?_, k⟩
  simp only [ropE, hx, hi]
  rw [if_pos ⟨rdB_iff.2 hr, by omega, by omega⟩]; simp
theorem i_ixA {n : Nat} {cs : List AV} {kk : IntKind} (m : Nat) {z : Int} {v : AV} (hx : ro F x = .agg cs) (hi : ro F i = .int kk z) (hm : z = m) (hn : n ≤ cs.length) (hlt : m < n) (hv : cs.getD m .top = v) (k : wpI P r K ((d, v) :: F) S) :
    wpI P (⟨false, none, .ixA n x i, some d⟩ :: r) K F S := by
  subst hm
  refine ⟨_, _, ?_, k⟩
  simp only [ropE, hx, hi]
  rw [if_pos (by omega)]
  have e : cs.getD ((m : Int)).toNat .top = v := by simpa using hv
  rw [e]
theorem i_ixS {l : List UInt8} {kk : IntKind} (m : Nat) {z : Int} (hx : ro F x = .str l) (hi : ro F i = .int kk z) (hm : z = m) (k : ∃ hlt : m < l.length, wpI P r K ((d, u8 l[m]) :: F) S) :
    wpI P (⟨false, none, .ixS x i, some d⟩ :: r) K F S := by
  obtain ⟨hlt, k⟩ := k
  subst hm
  refine ⟨_, _, ?_, k⟩
  simp only [ropE, hx, hi]
  rw [if_pos (by omega)]; simp [List.getD, hlt]
theorem i_ext {j : Nat} {vs : List AV} {v : AV} (hx : ro F x = .tuple vs) (hv : vs[j]? = some v) (k : wpI P r K ((d, v) :: F) S) : wpI P (⟨false, none, .ext x j, some d⟩ :: r) K F S := ⟨_, _, by simp only [ropE, hx, hv, st1], k⟩
theorem i_len {o : Own} {sz : Nat} {xs : List AV} (hx : ro F x = .sl o sz xs) (k : wpI P r K ((d, .int .i64 (xs.length : Nat)) :: F) S) : wpI P (⟨false, none, .len x, some d⟩ :: r) K F S := ⟨_, _, by simp only [ropE, hx], k⟩
theorem i_lenM {o : Own} {sz : Nat} {α : Type} {f : α → AV} {l : List α} (hx : ro F x = .sl o sz (l.map f)) (k : wpI P r K ((d, .int .i64 (l.length : Nat)) :: F) S) : wpI P (⟨false, none, .len x, some d⟩ :: r) K F S := i_len hx (by simpa using k)
theorem i_lenS {l : List UInt8} (hx : ro F x = .str l) (k : wpI P r K ((d, .int .i64 (l.length : Nat)) :: F) S) : wpI P (⟨false, none, .lenS x, some d⟩ :: r) K F S := ⟨_, _, by simp only [ropE, hx], k⟩
theorem i_cap {sz : Nat} {xs : List AV} (hx : ro F x = .sl .nil sz xs) (k : wpI P r K ((d, .int .i64 0) :: F) S) : wpI P (⟨false, none, .cap x, some d⟩ :: r) K F S := ⟨_, _, by simp only [ropE, hx], k⟩
theorem i_minL {kk k2 : IntKind} {n m : Int} (hx : ro F x = .int kk n) (hy : ro F y = .int k2 m) (h : n ≤ m) (k : wpI P r K ((d, .int kk n) :: F) S) : wpI P (⟨false, none, .min x y, some d⟩ :: r) K F S :=
  ⟨.int kk n, S, by simp only [ropE, hx, hy]; rw [if_neg (by omega)], k⟩
theorem i_minR {kk k2 : IntKind} {n m : Int} (hx : ro F x = .int kk n) (hy : ro F y = .int k2 m) (h : m ≤ n) (k : wpI P r K ((d, .int kk m) :: F) S) : wpI P (⟨false, none, .min x y, some d⟩ :: r) K F S := by
  refine ⟨.int kk m, S, ?_, k⟩
  simp only [ropE, hx, hy]
  by_cases e : m < n
  · rw [if_pos e]
  · rw [if_neg e, show n = m by omega]
theorem i_min {kk k2 : IntKind} {n m : Int} (hx : ro F x = .int kk n) (hy : ro F y = .int k2 m) (k : wpI P r K ((d, .int kk (Min.min n m)) :: F) S) : wpI P (⟨false, none, .min x y, some d⟩ :: r) K F S := by
  by_cases h : n ≤ m
  · exact i_minL hx hy h (by rwa [show Min.min n m = n by omega] at k)
  · exact i_minR hx hy (by omega) (by rwa [show Min.min n m = m by omega] at k)
theorem i_max {kk k2 : IntKind} {n m : Int} (hx : ro F x = .int kk n) (hy : ro F y = .int k2 m) (k : wpI P r K ((d, .int kk (Max.max n m)) :: F) S) : wpI P (⟨false, none, .max x y, some d⟩ :: r) K F S := by
  refine ⟨.int kk (Max.max n m), S, ?_, k⟩
  simp only [ropE, hx, hy]
  by_cases e : n < m
  · rw [if_pos e, show Max.max n m = m by omega]
  · rw [if_neg e, show Max.max n m = n by omega]
theorem i_app0 {sz sz1 sz2 : Nat} {xs ys : List AV} {o2 : Own} (hx : ro F x = .sl .nil sz1 xs) (hy : ro F y = .sl o2 sz2 ys) (hs : sz2 = sz ∨ ys = []) (hr : rdA S o2) (hl : xs.length + ys.length ≤ 1073741824) (k : wpI P r K ((d, .sl (.own S.next) sz ys) :: F) S.fresh) :
    wpI P (⟨false, none, .app sz x y, some d⟩ :: r) K F S := by
  refine ⟨_, _, ?_, k⟩
  simp only [ropE, hx, hy, appE]
  rw [if_pos ⟨hl, rdB_iff.2 hr, hs.imp id (fun h => by simp [h])⟩]
theorem i_app {sz sz1 sz2 t : Nat} {xs ys : List AV} {o2 : Own} (hx : ro F x = .sl (.own t) sz1 xs) (hy : ro F y = .sl o2 sz2 ys) (h1 : sz1 = sz) (ht : S.live t = true) (hs : sz2 = sz ∨ ys = []) (hr : rdA S o2) (hl : xs.length + ys.length ≤ 1073741824)
    (k : wpI P r K ((d, .sl (.own S.next) sz (xs ++ ys)) :: F) (S.kill t).fresh) : wpI P (⟨false, none, .app sz x y, some d⟩ :: r) K F S := by
  refine ⟨_, _, ?_, k⟩
  simp only [ropE, hx, hy, appE]
  rw [if_pos ⟨hl, rdB_iff.2 hr, hs.imp id (fun h => by simp [h])⟩, if_pos ⟨h1, ht⟩]
theorem i_appN {sz sz1 : Nat} {z : AV} {xs : List AV} {kk : IntKind} (m : Nat) {n : Int} (hx : ro F x = .sl .nil sz1 xs) (hy : ro F y = .int kk n) (hm : n = m) (hs : sz = 1) (h0 : 0 < m) (hl : m ≤ 1073741824) (k : wpI P r K ((d, .sl (.own S.next) sz (List.replicate m z)) :: F) S.fresh) :
    wpI P (⟨false, none, .appN sz z x y, some d⟩ :: r) K F S := by
  subst hm
  refine ⟨_, _, ?_, k⟩
  simp only [ropE, hx, hy, appNE]
  rw [if_pos ⟨hs, by omega, by omega⟩]; rfl
theorem i_len0 {o : Own} {sz : Nat} (hx : ro F x = .sl o sz []) (k : wpI P r K ((d, .int .i64 0) :: F) S) : wpI P (⟨false, none, .len x, some d⟩ :: r) K F S := i_len hx k
theorem i_mk0B {n : Int} (k : wpI P r K ((d, .sl .ro 1 (u8s [])) :: F) S) : wpI P (⟨false, none, .mkSl false 1 0 (.int .u8 n) [], some d⟩ :: r) K F S := i_mk0 k
theorem i_mk0BO {n : Int} (k : wpI P r K ((d, .sl (.own S.next) 1 (u8s [])) :: F) S.fresh) : wpI P (⟨false, none, .mkSl true 1 0 (.int .u8 n) [], some d⟩ :: r) K F S := i_mk0O k
theorem i_mk1B {z : AV} {b : UInt8} (h : ro F x = u8 b) (k : wpI P r K ((d, .sl .ro 1 (u8s [b])) :: F) S) : wpI P (⟨false, none, .mkSl false 1 1 z [(0, x)], some d⟩ :: r) K F S := i_mk1 h rfl k
theorem i_mk2B {z : AV} {b b2 : UInt8} (h : ro F x = u8 b) (h2 : ro F y = u8 b2) (k : wpI P r K ((d, .sl .ro 1 (u8s [b, b2])) :: F) S) : wpI P (⟨false, none, .mkSl false 1 2 z [(0, x), (1, y)], some d⟩ :: r) K F S := i_mk2 h h2 rfl rfl k
theorem i_app0M {α : Type} {f : α → AV} {b : List α} {sz sz1 sz2 : Nat} {o2 : Own} (hx : ro F x = .sl .nil sz1 []) (hy : ro F y = .sl o2 sz2 (b.map f)) (hs : sz2 = sz ∨ b = []) (hr : rdA S o2) (hl : b.length ≤ 1073741824)
    (k : wpI P r K ((d, .sl (.own S.next) sz (b.map f)) :: F) S.fresh) : wpI P (⟨false, none, .app sz x y, some d⟩ :: r) K F S := i_app0 hx hy (hs.imp id (fun h => by simp [h])) hr (by simpa using hl) k
/-- More behind a slice that reads as a list. -/
theorem i_appX {α : Type} {f : α → AV} {a b : List α} {sz sz1 sz2 : Nat} {o o2 : Own} (hx : ro F x = .sl o sz1 (a.map f)) (hy : ro F y = .sl o2 sz2 (b.map f)) (happ : App S o sz sz1 a.length) (hs : sz2 = sz ∨ b = []) (hr : rdA S o2) (hl : a.length + b.length ≤ 1073741824)
    (k : wpI P r K ((d, .sl (.own S.next) sz ((a ++ b).map f)) :: F) (appS S o)) : wpI P (⟨false, none, .app sz x y, some d⟩ :: r) K F S := by
  rcases happ with ⟨rfl, ha⟩ | ⟨t, rfl, h1, h2, rfl⟩
  · have : a = [] := List.length_eq_zero_iff.1 ha
    subst this
    exact i_app0 hx hy (hs.imp id (fun h => by simp [h])) hr (by simpa using hl) k
  · exact i_app hx hy rfl h1 (hs.imp id (fun h => by simp [h])) hr (by simpa using hl) (by rw [List.map_append] at k; exact k)
theorem i_call {f : FuncId} {as : List RO} {vs : List AV} {KK : AV → ASt → Prop} (h : ACalls P f vs S KK) (hv : roL F as = vs) (k : ∀ v S', KK v S' → wpI P r K ((d, v) :: F) S') : wpI P (⟨false, none, .call f as, some d⟩ :: r) K F S := by
  subst hv
  exact ACalls.mono h k
theorem i_callN {f : FuncId} {as : List RO} {vs : List AV} {KK : AV → ASt → Prop} (h : ACalls P f vs S KK) (hv : roL F as = vs) (k : ∀ v S', KK v S' → wpI P r K F S') : wpI P (⟨false, none, .call f as, none⟩ :: r) K F S := by
  subst hv
  exact ACalls.mono h k
theorem i_inv {ms : List (TypeId × FuncId)} {as : List RO} {t : TypeId} {g : FuncId} {v : AV} {vs : List AV} {KK : AV → ASt → Prop} (hx : ro F x = .iface t v) (hg : lookM ms t = some g) (h : ACalls P g (v :: vs) S KK) (hv : roL F as = vs) (k : ∀ v S', KK v S' → wpI P r K ((d, v) :: F) S') :
    wpI P (⟨false, none, .inv x ms as, some d⟩ :: r) K F S := by
  subst hv
  refine i_op ?_
  simp only [ropK, hx, hg]
  exact ACalls.mono h k

/-! ### what was read ahead reads as it did -/
theorem c_re {op : ROp} {dd : Option Nat} (h : chk op F S dd) (k : wpI P r K F S) : wpI P (⟨true, none, op, dd⟩ :: r) K F S := ⟨h, k⟩
theorem c_load {o j : Nat} {cs : List AV} {v : AV} (ha : ro F a = .ptr (some (o, j))) (ho : S.objs[o]? = some cs) (hv : cs[j]? = some v) (hd : look F d = v) : chk (.load a) F S (some d) :=
  ⟨v, S, by simp only [ropE, ha, loadE, ho, hv, st1], hd.symm⟩
theorem c_loadE {o : Own} {sz j m : Nat} {xs : List AV} {v : AV} (ha : ro F a = .eptr o sz xs j m) (hr : rdA S o) (hk : m < sz) (hv : (xs.getD j .top).cell m = v) (hd : look F d = v) : chk (.load a) F S (some d) :=
  ⟨v, S, by simp only [ropE, ha, loadE, rdB_iff.2 hr, hk, and_self, if_true, st1, hv], hd.symm⟩
theorem c_loadM {α : Type} {f : α → AV} {l : List α} {o : Own} {sz j : Nat} (ha : ro F a = .eptr o sz (l.map f) j 0) (hr : rdA S o) (hk : 0 < sz) (hf : ∀ x, (f x).one = true) (h : ∃ hj : j < l.length, look F d = f l[j]) : chk (.load a) F S (some d) := by
  obtain ⟨hj, hd⟩ := h
  refine c_loadE ha hr hk ?_ hd
  rw [map_getD hj]
  have := hf l[j]
  cases e : f l[j] <;> rw [e] at this <;> first | rfl | (simp [AV.one] at this)
theorem c_idxM {o : Own} {sz sz1 : Nat} {kk : IntKind} {α : Type} {f : α → AV} {l : List α} (m : Nat) {n : Int} (hx : ro F x = .sl o sz1 (l.map f)) (hi : ro F i = .int kk n) (hm : n = m) (hs : sz = sz1) (hr : rdA S o) (hlt : m < l.length)
    (hd : look F d = .eptr o sz1 (l.map f) m 0) : chk (.idx sz x i) F S (some d) := by
  subst hm
  refine ⟨_, S, ?_, hd.symm⟩
  simp only [ropE, hx, hi]
  rw [if_pos ⟨hs, rdB_iff.2 hr, by omega, by simpa using hlt⟩]; rfl
theorem c_idxA {o n s : Nat} {kk : IntKind} (m : Nat) {z : Int} (hx : ro F x = .ptr (some (o, 0))) (hi : ro F i = .int kk z) (hm : z = m) (hs : Nat.beq s 1 = true) (hlt : m < n) (hd : look F d = .ptr (some (o, m))) : chk (.idxA n s x i) F S (some d) := by
  subst hm
  have e : s = 1 := Nat.eq_of_beq_eq_true hs
  subst e
  refine ⟨.ptr (some (o, m)), S, ?_, hd.symm⟩
  simp only [ropE, hx, hi]
  rw [if_pos (by omega)]; simp
theorem c_fldP {o j off : Nat} (hx : ro F x = .ptr (some (o, j))) (hd : look F d = .ptr (some (o, j + off))) : chk (.fld off x) F S (some d) := ⟨_, S, by simp only [ropE, hx], hd.symm⟩
theorem c_toStr {l : List UInt8} {o : Own} {sz : Nat} (hx : ro F x = .sl o sz (u8s l)) (hs : sz = 1 ∨ l = []) (hr : rdA S o) (hd : look F d = .str l) : chk (.toStr x) F S (some d) :=
  ⟨.str l, S, by simp only [ropE, hx]; rw [if_pos ⟨hs.imp id (fun h => (u8s_emp l).2 h), rdB_iff.2 hr, u8s_all l⟩, u8s_byte], hd.symm⟩
theorem c_toSl {l : List UInt8} (hx : ro F x = .str l) (hd : look F d = .sl .ro 1 (u8s l)) : chk (.toSl x) F S (some d) := ⟨.sl .ro 1 (u8s l), S, by simp only [ropE, hx, u8s, u8], hd.symm⟩
theorem c_mkR {sz n : Nat} {z : AV} {ps : List (Nat × RO)} {xs : List AV} (h : fillS sz (List.replicate n z) (roP F ps) = some xs) (hd : look F d = .sl .ro sz xs) : chk (.mkSl false sz n z ps) F S (some d) := ⟨_, S, by simp [ropE, h], hd.symm⟩
theorem c_mk1 {sz : Nat} {z v : AV} (h : ro F x = v) (hb : (v.box && v.cells.length == sz) = true) (hd : look F d = .sl .ro sz [v]) : chk (.mkSl false sz 1 z [(0, x)]) F S (some d) := by
  refine c_mkR (xs := [v]) ?_ hd
  simp only [Bool.and_eq_true, beq_iff_eq] at hb
  simp [roP, h, fillS, hb.1, hb.2]
theorem c_slice {sz sz1 : Nat} {o : Own} {α : Type} {f : α → AV} {l : List α} {lo hi : Option RO} (p q : Nat) (hx : ro F x = .sl o sz1 (l.map f)) (hs : sz = sz1 ∨ l = []) (hr : rdA S o) (hlo : optE F lo 0 = some (p : Int)) (hhi : optE F hi (l.length : Int) = some (q : Int))
    (h1 : p ≤ q) (h2 : q ≤ l.length) (hd : look F d = .sl (subB lo o) sz1 (((l.take q).drop p).map f)) : chk (.slice sz x lo hi) F S (some d) := by
  refine ⟨_, S, ?_, hd.symm⟩
  simp only [ropE, hx, List.length_map, hlo, hhi]
  rw [if_pos ⟨hs.imp id (fun h => by simp [h]), rdB_iff.2 hr⟩, if_pos (by omega)]
  simp [List.map_drop, List.map_take]
end
end Go.Proofs.Ythpomdoaiibnfaa.Abs
