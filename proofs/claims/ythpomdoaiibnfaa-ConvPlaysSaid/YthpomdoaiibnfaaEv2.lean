/- The same run with objects as trees. -/
import Derived.Test.YthpomdoaiibnfaaEv1
namespace Go.Proofs.Ythpomdoaiibnfaa.Abs
open Go Go.RowKit
set_option linter.unusedVariables false
set_option linter.unusedSimpArgs false

inductive OT where
  | nil
  | leaf (v : AV)
  | node (n : Nat) (l r : OT)
noncomputable def OT.get (t : OT) : Nat → Option AV :=
  OT.rec (motive := fun _ => Nat → Option AV) (fun _ => none) (fun v i => cond (Nat.beq i 0) (some v) none) (fun n _ _ ihl ihr i => cond (Nat.blt i n) (ihl i) (ihr (Nat.sub i n))) t
noncomputable def OT.set (t : OT) : Nat → AV → OT :=
  OT.rec (motive := fun _ => Nat → AV → OT) (fun _ _ => .nil) (fun u i v => cond (Nat.beq i 0) (.leaf v) (.leaf u))
    (fun n l r ihl ihr i v => cond (Nat.blt i n) (.node n (ihl i v) r) (.node n l (ihr (Nat.sub i n) v))) t
noncomputable def OT.add (t : OT) : List AV → List AV :=
  OT.rec (motive := fun _ => List AV → List AV) (fun k => k) (fun v k => v :: k) (fun _ _ _ ihl ihr k => ihl (ihr k)) t
noncomputable def OT.toL (t : OT) : List AV := t.add []
noncomputable def OT.size (t : OT) : Nat := OT.rec (motive := fun _ => Nat) 0 (fun _ => 1) (fun n _ _ _ ih => Nat.add n ih) t
/-- A tree out of the first n of a list, and the list's rest. -/
noncomputable def OT.mk : Nat → Nat → List AV → OT × List AV
  | 0, _, l => (.nil, l)
  | f + 1, n, l =>
    match l with
    | [] => (.nil, [])
    | x :: xs => cond (Nat.ble n 1) (.leaf x, xs)
        (match OT.mk f (n / 2) (x :: xs) with
         | (a, l1) => match OT.mk f (n - n / 2) l1 with
           | (b, l2) => (.node a.size a b, l2))
noncomputable def OT.ofL (l : List AV) : OT :=
  match OT.mk 20 l.length l with
  | (t, _) => t
inductive OT.Ok : OT → Prop
  | nil : Ok .nil
  | leaf (v : AV) : Ok (.leaf v)
  | node (n : Nat) (l r : OT) (hl : Ok l) (hr : Ok r) (hn : n = l.toL.length) : Ok (.node n l r)
theorem OT.add_eq : ∀ (t : OT) (k : List AV), t.add k = t.toL ++ k
  | .nil, k => rfl
  | .leaf v, k => rfl
  | .node n l r, k => by
    show l.add (r.add k) = l.add (r.add []) ++ k
    rw [OT.add_eq l, OT.add_eq r, OT.add_eq l (r.add []), OT.add_eq r []]; simp
theorem OT.toL_node {n : Nat} {l r : OT} : (OT.node n l r).toL = l.toL ++ r.toL := by
  show l.add (r.add []) = _
  rw [OT.add_eq l, OT.add_eq r]; simp
theorem OT.size_eq {t : OT} (h : t.Ok) : t.size = t.toL.length := by
  induction h with
  | nil => rfl
  | leaf v => rfl
  | node n l r hl hr hn ihl ihr => rw [OT.toL_node, List.length_append, ← hn, ← ihr]; rfl
theorem OT.get_eq {t : OT} (h : t.Ok) : ∀ i, t.get i = t.toL[i]? := by
  induction h with
  | nil => intro i; simp [OT.get, OT.toL, OT.add]
  | leaf v =>
    intro i
    cases i <;> simp [OT.get, OT.toL, OT.add, Nat.beq]
  | node n l r hl hr hn ihl ihr =>
    intro i
    rw [OT.toL_node]
    show cond (Nat.blt i n) (l.get i) (r.get (i - n)) = _
    cases hb : Nat.blt i n with
    | true =>
      have : i < n := by simpa using hb
      rw [cond_true, ihl, List.getElem?_append_left (by omega)]
    | false =>
      have : ¬ i < n := fun h => by rw [show Nat.blt i n = true by simpa using h] at hb; cases hb
      rw [cond_false, ihr, List.getElem?_append_right (by omega), hn]
theorem OT.set_eq {t : OT} (h : t.Ok) : ∀ i v, (t.set i v).toL = t.toL.set i v ∧ (t.set i v).Ok := by
  induction h with
  | nil => intro i v; exact ⟨rfl, .nil⟩
  | leaf u =>
    intro i v
    cases i with
    | zero => exact ⟨rfl, .leaf v⟩
    | succ i => exact ⟨rfl, .leaf u⟩
  | node n l r hl hr hn ihl ihr =>
    intro i v
    show (cond (Nat.blt i n) (OT.node n (l.set i v) r) (OT.node n l (r.set (i - n) v))).toL = _ ∧ (cond (Nat.blt i n) (OT.node n (l.set i v) r) (OT.node n l (r.set (i - n) v))).Ok
    cases hb : Nat.blt i n with
    | true =>
      have : i < n := by simpa using hb
      obtain ⟨h1, h2⟩ := ihl i v
      rw [cond_true, OT.toL_node, OT.toL_node, h1, List.set_append_left _ _ (by omega)]
      exact ⟨rfl, .node _ _ _ h2 hr (by rw [h1]; simpa using hn)⟩
    | false =>
      have : ¬ i < n := fun h => by rw [show Nat.blt i n = true by simpa using h] at hb; cases hb
      obtain ⟨h1, h2⟩ := ihr (i - n) v
      rw [cond_false, OT.toL_node, OT.toL_node, h1, List.set_append_right _ _ (by omega), ← hn]
      exact ⟨rfl, .node _ _ _ hl h2 hn⟩
theorem OT.mk_ok : ∀ (f n : Nat) (l : List AV), (OT.mk f n l).1.Ok
  | 0, n, l => .nil
  | f + 1, n, [] => .nil
  | f + 1, n, x :: xs => by
    unfold OT.mk
    cases Nat.ble n 1 with
    | true => exact .leaf x
    | false =>
      have h1 := OT.mk_ok f (n / 2) (x :: xs)
      have h2 := OT.mk_ok f (n - n / 2) (OT.mk f (n / 2) (x :: xs)).2
      exact .node _ _ _ h1 h2 (OT.size_eq h1)
theorem OT.mk_eq : ∀ (f n : Nat) (l : List AV), (OT.mk f n l).1.toL ++ (OT.mk f n l).2 = l
  | 0, n, l => rfl
  | f + 1, n, [] => rfl
  | f + 1, n, x :: xs => by
    unfold OT.mk
    cases Nat.ble n 1 with
    | true => rfl
    | false =>
      have h1 := OT.mk_eq f (n / 2) (x :: xs)
      have h2 := OT.mk_eq f (n - n / 2) (OT.mk f (n / 2) (x :: xs)).2
      show (OT.node _ (OT.mk f (n / 2) (x :: xs)).1 (OT.mk f (n - n / 2) (OT.mk f (n / 2) (x :: xs)).2).1).toL ++ (OT.mk f (n - n / 2) (OT.mk f (n / 2) (x :: xs)).2).2 = _
      rw [OT.toL_node, List.append_assoc, h2, h1]
/-- A tree that reads as the list, or nothing. -/
noncomputable def OT.of? (l : List AV) : Option OT :=
  match OT.mk 20 l.length l with
  | (t, []) => some t
  | _ => none
theorem OT.of?_eq {l : List AV} {t : OT} (h : OT.of? l = some t) : t.toL = l ∧ t.Ok := by
  unfold OT.of? at h
  have h1 := OT.mk_eq 20 l.length l
  have h2 := OT.mk_ok 20 l.length l
  split at h
  · rename_i u he
    simp only [Option.some.injEq] at h; subst h
    rw [he] at h1 h2
    exact ⟨by simpa using h1, h2⟩
  · cases h

structure TS where
  objs : List OT
  live : Nat → Bool
  next : Nat
noncomputable def TS.st (T : TS) : ASt := { objs := T.objs.map OT.toL, live := T.live, next := T.next }
def TS.Ok (T : TS) : Prop := ∀ t ∈ T.objs, t.Ok
def TS.no (T : TS) : ASt := { objs := [], live := T.live, next := T.next }
def TS.with (T : TS) (S : ASt) : TS := { objs := T.objs, live := S.live, next := S.next }

noncomputable def loadT (T : TS) : AV → Option AV
  | .ptr (some (o, i)) =>
    match T.objs[o]? with
    | some t => t.get i
    | none => none
  | a => loadE T.no a
noncomputable def loadNT (T : TS) (n : Nat) : AV → Option AV
  | .ptr (some (o, i)) =>
    match T.objs[o]? with
    | some t => if i + n ≤ t.size then some (.agg ((t.toL.drop i).take n)) else none
    | none => none
  | a => loadNE T.no n a
noncomputable def stT (T : TS) (n : Nat) (a v : AV) : Option TS :=
  match a with
  | .ptr (some (o, i)) =>
    match T.objs[o]? with
    | some t =>
      match v with
      | .agg vs => if n = vs.length ∧ i + n ≤ t.size then (OT.of? (setA t.toL i vs)).map fun t' => { T with objs := T.objs.set o t' } else none
      | v => if v.one = true ∧ n = 1 ∧ i < t.size then some { T with objs := T.objs.set o (t.set i v) } else none
    | none => none
  | _ => none
noncomputable def slowT (r : ROp) (F : Fr) (T : TS) : Option (AV × TS) :=
  match ropE r F T.no with
  | some (v, S') => some (v, T.with S')
  | none => none
def kI : IntKind → Nat
  | .i8 => 0 | .i16 => 1 | .i32 => 2 | .i64 => 3 | .u8 => 4 | .u16 => 5 | .u32 => 6 | .u64 => 7
def kB : IntKind → Nat
  | .i8 => 128 | .i16 => 32768 | .i32 => 2147483648 | .i64 => 9223372036854775808 | .u8 => 256 | .u16 => 65536 | .u32 => 4294967296 | .u64 => 18446744073709551616
def mkI (k : IntKind) (n : Nat) : AV := cond (Nat.blt n (kB k)) (.int k (.ofNat n)) (.int k (k.wrap (.ofNat n)))
def addI (k : IntKind) (x y : Int) : AV :=
  match x, y with
  | .ofNat a, .ofNat b => mkI k (Nat.add a b)
  | x, y => .int k (k.wrap (x + y))
def subI (k : IntKind) (x y : Int) : AV :=
  match x, y with
  | .ofNat a, .ofNat b => cond (Nat.ble b a) (mkI k (Nat.sub a b)) (.int k (k.wrap (x - y)))
  | x, y => .int k (k.wrap (x - y))
def eqI (x y : Int) : Bool :=
  match x, y with
  | .ofNat a, .ofNat b => Nat.beq a b
  | x, y => x == y
def ltI (x y : Int) : Bool :=
  match x, y with
  | .ofNat a, .ofNat b => Nat.blt a b
  | x, y => decide (x < y)
def intF (f : IntKind → Int → Int → AV) (op : BinOp) (a b : AV) : Option AV :=
  match a, b with
  | .int k x, .int k' y => cond (Nat.beq (kI k) (kI k')) (some (f k x y)) none
  | a, b => binE op a b
def binX (op : BinOp) (a b : AV) : Option AV :=
  match op with
  | .add => intF addI .add a b
  | .sub => intF subI .sub a b
  | .eql => intF (fun k x y => .bool (eqI x y)) .eql a b
  | .neq => intF (fun k x y => .bool (!eqI x y)) .neq a b
  | .lss => intF (fun k x y => .bool (ltI x y)) .lss a b
  | .gtr => intF (fun k x y => .bool (ltI y x)) .gtr a b
  | .leq => intF (fun k x y => .bool (!ltI y x)) .leq a b
  | .geq => intF (fun k x y => .bool (!ltI x y)) .geq a b
  | op => binE op a b
def toF (a : AV) (F : Fr) (T : TS) (v : Option AV) : Option (AV × Fr × TS) :=
  match v with
  | some v => some (v, F, T)
  | none => none
def pickT (c a b : AV) (F : Fr) (T : TS) : Option (AV × Fr × TS) :=
  match c with
  | .bool x => some (cond x a b, F, T)
  | _ => none
def toIntT (k : IntKind) (a : AV) : Option AV :=
  match a with
  | .int _ (.ofNat n) => some (mkI k n)
  | .int _ n => some (.int k (k.wrap n))
  | _ => none
def idxAT (m s : Nat) (x i : AV) : Option AV :=
  match x, i with
  | .ptr (some (o, j)), .int _ (.ofNat n) => cond (Nat.blt n m) (some (.ptr (some (o, j + n * s)))) none
  | _, _ => none
def stF (F : Fr) (T : Option TS) : Option (AV × Fr × TS) :=
  match T with
  | some T => some (.top, F, T)
  | none => none
def slF (F : Fr) (v : Option (AV × TS)) : Option (AV × Fr × TS) :=
  match v with
  | some (v, T) => some (v, F, T)
  | none => none
noncomputable def allocT (cs : List AV) (F : Fr) (T : TS) : Option (AV × Fr × TS) :=
  match OT.of? cs with
  | some t => some (.ptr (some (T.objs.length, 0)), F, { T with objs := T.objs ++ [t] })
  | none => none
noncomputable def boxT (v : AV) (F : Fr) (T : TS) : Option (AV × Fr × TS) := cond v.box (allocT v.cells F T) none

/-! ### frames -/
noncomputable def lookR (F : Fr) (i : Nat) : AV := List.rec (motive := fun _ => AV) .top (fun p _ ih => cond (Nat.beq p.1 i) p.2 ih) F
theorem lookR_eq (F : Fr) (i : Nat) : lookR F i = look F i := by
  induction F with
  | nil => rfl
  | cons p r ih => obtain ⟨j, v⟩ := p; show cond (Nat.beq j i) v (lookR r i) = cond (Nat.beq j i) v (look r i); rw [ih]
noncomputable def roR (F : Fr) (x : RO) : AV := RO.rec (motive := fun _ => AV) (fun i => lookR F i) (fun v => v) x
theorem roR_eq (F : Fr) (x : RO) : roR F x = ro F x := by
  cases x with
  | t i => exact lookR_eq F i
  | c v => rfl
noncomputable def roLR (F : Fr) (l : List RO) : List AV := List.rec (motive := fun _ => List AV) [] (fun x _ ih => roR F x :: ih) l
theorem roLR_eq (F : Fr) (l : List RO) : roLR F l = roL F l := by
  induction l with
  | nil => rfl
  | cons x r ih => show roR F x :: roLR F r = ro F x :: roL F r; rw [ih, roR_eq]
noncomputable def pickR (F : Fr) (l : List Nat) : Fr := List.rec (motive := fun _ => Fr) [] (fun i _ ih => (i, lookR F i) :: ih) l
theorem pickR_eq (F : Fr) (l : List Nat) : pickR F l = pick F l := by
  induction l with
  | nil => rfl
  | cons i r ih => show (i, lookR F i) :: pickR F r = (i, look F i) :: pick F r; rw [ih, lookR_eq]

/-! ### the run -/
abbrev CF := FuncId → List AV → TS → Option (AV × TS)
noncomputable def invT (C : CF) (x : AV) (ms : List (TypeId × FuncId)) (as : List AV) (T : TS) : Option (AV × TS) :=
  match x with
  | .iface t v => match lookM ms t with
    | some g => C g (v :: as) T
    | none => none
  | _ => none
noncomputable def eqnT (neg : Bool) (x : AV) (T : TS) : Option AV :=
  match x with
  | .sl .nil _ _ => some (.bool (xor neg true))
  | .sl o _ (_ :: _) => cond (rdB T.no o) (some (.bool (xor neg false))) none
  | _ => none
noncomputable def stET (s : Nat) (a x : AV) (F : Fr) (T : TS) : Option (AV × Fr × TS) :=
  match a with
  | .eptr (.own tk) sz xs i k => cond (AV.same 8 (lookR F s) (.sl (.own tk) sz xs) && T.live tk && x.one && Nat.blt k sz)
      (some (.top, (s, .sl (.own T.next) sz (xs.set i ((xs.getD i .top).putCell k x))) :: F, T.with (T.no.kill tk).fresh)) none
  | _ => none
noncomputable def opT (C : CF) (r : ROp) (F : Fr) (T : TS) : Option (AV × Fr × TS) :=
  match r with
  | .mov x => some (roR F x, F, T)
  | .pick c a b => pickT (roR F c) (roR F a) (roR F b) F T
  | .bin op x y => toF .top F T (binX op (roR F x) (roR F y))
  | .toInt k x => toF .top F T (toIntT k (roR F x))
  | .idxA m s x i => toF .top F T (idxAT m s (roR F x) (roR F i))
  | .load a => toF .top F T (loadT T (roR F a))
  | .loadN n a => toF .top F T (loadNT T n (roR F a))
  | .st n a x => stF F (stT T n (roR F a) (roR F x))
  | .alloc cs => allocT cs F T
  | .box x => boxT (roR F x) F T
  | .call f as => slF F (C f (roLR F as) T)
  | .inv x ms as => slF F (invT C (roR F x) ms (roLR F as) T)
  | .eqn neg x => toF .top F T (eqnT neg (roR F x) T)
  | .stE s a x => stET s (roR F a) (roR F x) F T
  | r => slF F (slowT r F T)
noncomputable def guardT (F : Fr) (g : Option (Nat × Bool)) : Option Bool :=
  match g with
  | none => some true
  | some (t, w) => match lookR F t with
    | .bool b => some (b == w)
    | .top => none
    | _ => some false
noncomputable def contT (d : Option Nat) (k : Fr → TS → Option (Fr × TS)) (r : Option (AV × Fr × TS)) : Option (Fr × TS) :=
  match r with
  | some (v, F, T) => k (putO F d v) T
  | none => none
noncomputable def reT (F : Fr) (d : Option Nat) (r : Option (AV × Fr × TS)) (k : Option (Fr × TS)) : Option (Fr × TS) :=
  match r with
  | some (v, _, _) => cond (sameOB F d v) k none
  | none => none
def quiet : ROp → Bool
  | .call .. | .inv .. | .eqn .. | .stE .. => false
  | _ => true
noncomputable def itT (C : CF) (i : RI) (k : Fr → TS → Option (Fr × TS)) (F : Fr) (T : TS) (g : Option Bool) : Option (Fr × TS) :=
  match g with
  | none => none
  | some g =>
    match i.re with
    | false => cond g (contT i.d k (opT C i.op F T)) (k (putO F i.d (.tuple [])) T)
    | true => cond g (cond (quiet i.op) (reT F i.d (opT (fun _ _ _ => none) i.op F T) (k F T)) none) (k F T)
noncomputable def evIT (C : CF) (l : List RI) : Fr → TS → Option (Fr × TS) :=
  List.rec (motive := fun _ => Fr → TS → Option (Fr × TS)) (fun F T => some (F, T)) (fun i _ ih F T => itT C i ih F T (guardT F i.g)) l
abbrev RT := Option (Ex × Fr × TS)
noncomputable def lpT (lv : List Nat) (k : Fr → TS → RT) (r : RT) : RT :=
  match r with
  | none => none
  | some p =>
    match p.1 with
    | .normal => k (pickR p.2.1 lv) p.2.2
    | _ => some p
noncomputable def loopT (lv : List Nat) (B : Fr → TS → RT) (N : Nat) : Fr → TS → RT :=
  Nat.rec (motive := fun _ => Fr → TS → RT) (fun _ _ => none) (fun _ ih F T => lpT lv ih (B F T)) N
noncomputable def regT (k : Fr → TS → RT) (r : Option (Fr × TS)) : RT :=
  match r with
  | some p => k p.1 p.2
  | none => none
noncomputable def seqT (k : Fr → TS → RT) (r : RT) : RT :=
  match r with
  | none => none
  | some p =>
    match p.1 with
    | .normal => k p.2.1 p.2.2
    | _ => some p
noncomputable def blkT (id : Nat) (k : Fr → TS → RT) (r : RT) : RT :=
  match r with
  | none => none
  | some p =>
    match p.1 with
    | .normal => k p.2.1 p.2.2
    | .exit j => cond (Nat.beq j id) (k p.2.1 p.2.2) (some p)
    | .ret => some p
noncomputable def cndT (c : AV) (x y k : Fr → TS → RT) (F : Fr) (T : TS) : RT :=
  match c with
  | .bool b => seqT k (cond b (x F T) (y F T))
  | _ => none
noncomputable def evRT (C : CF) (N : Nat) (rc : RC) : Fr → TS → RT :=
  RC.rec (motive := fun _ => Fr → TS → RT) (fun F T => some (.normal, F, T)) (fun l _ ih F T => regT ih (evIT C l F T)) (fun c _ _ _ ix iy ik F T => cndT (roR F c) ix iy ik F T)
    (fun id _ _ ic ik F T => blkT id ik (ic F T)) (fun lv _ ic F T => loopT lv ic N F T) (fun id F T => some (.exit id, F, T)) (fun F T => some (.ret, F, T)) rc
noncomputable def resT (F : Fr) (T : TS) : List Rs → Option (List AV)
  | [] => some []
  | .t i :: r => (resT F T r).bind fun l => some (lookR F i :: l)
  | .cell i :: r => match lookR F i with
    | .ptr p => (loadT T (.ptr p)).bind fun v => (resT F T r).bind fun l => some (v :: l)
    | _ => none
  | .cellN i n :: r => match lookR F i with
    | .ptr p => (loadNT T n (.ptr p)).bind fun v => (resT F T r).bind fun l => some (v :: l)
    | _ => none
noncomputable def finT (rr : List Rs) (r : RT) : Option (AV × TS) :=
  match r with
  | none => none
  | some p =>
    match p.1 with
    | .exit _ => none
    | _ => (resT p.2.1 p.2.2 rr).map fun vs => (resV vs, p.2.2)
noncomputable def evFT (code : CT) (X : CF) (N : Nat) : Nat → CF
  | 0 => fun _ _ _ => none
  | d + 1 => fun f args T =>
    match X f args T with
    | some r => some r
    | none => match lookC code f with
      | none => none
      | some (rc, rr, n) => cond (Nat.ble args.length n) (finT rr (evRT (evFT code X N d) N rc (argF 0 args) T)) none
def T00 : TS := { objs := [], live := fun _ => false, next := 0 }
/-- What is known of calls without arguments. -/
def knX (kn : List (FuncId × AV)) : CF := fun f args T =>
  match args with
  | [] => match lookC kn f with
    | some v => some (v, T)
    | none => none
  | _ => none
noncomputable def runT (code : CT) (X : CF) (N d : Nat) (f : FuncId) (args : List AV) (v : AV) : Bool :=
  match evFT code X N d f args T00 with
  | some p => AV.same 8 p.1 v
  | none => false

section
variable {T T' : TS}
theorem objs_get (o : Nat) : T.st.objs[o]? = (T.objs[o]?).map OT.toL := by simp [TS.st]
theorem TS.Ok.at (h : T.Ok) {o : Nat} {t : OT} (ho : T.objs[o]? = some t) : t.Ok := h t (List.mem_of_getElem? ho)
theorem TS.Ok.set (h : T.Ok) {o : Nat} {t : OT} (ht : t.Ok) : TS.Ok { T with objs := T.objs.set o t } := by
  intro u hu
  rcases List.mem_or_eq_of_mem_set hu with h1 | h1
  · exact h u h1
  · subst h1; exact ht
theorem TS.Ok.push (h : T.Ok) {t : OT} (ht : t.Ok) : TS.Ok { T with objs := T.objs ++ [t] } := by
  intro u hu
  rcases List.mem_append.1 hu with h1 | h1
  · exact h u h1
  · simp only [List.mem_singleton] at h1; subst h1; exact ht
theorem st_set {o : Nat} {t : OT} : (TS.st { T with objs := T.objs.set o t }) = T.st.put o t.toL := by
  simp [TS.st, ASt.put, List.map_set]
theorem st_push {t : OT} : (TS.st { T with objs := T.objs ++ [t] }) = T.st.push t.toL := by
  simp [TS.st, ASt.push]
theorem rdB_no {o : Own} : rdB T.st o = rdB T.no o := by cases o <;> rfl
theorem loadT_ok (hT : T.Ok) {a v : AV} (h : loadT T a = some v) : loadE T.st a = some v := by
  unfold loadT at h
  split at h
  · rename_i o i
    simp only [loadE, objs_get]
    split at h
    · rename_i t ho
      rw [ho]
      simp only [Option.map_some]
      rw [← OT.get_eq (hT.at ho)]; exact h
    · cases h
  · rename_i hn
    unfold loadE at h ⊢
    split at h
    · rename_i o i; exact absurd rfl (hn o i)
    · simp only [rdB_no] at h ⊢; exact h
    · cases h
theorem loadNT_ok (hT : T.Ok) {n : Nat} {a v : AV} (h : loadNT T n a = some v) : loadNE T.st n a = some v := by
  unfold loadNT at h
  split at h
  · rename_i o i
    simp only [loadNE, objs_get]
    split at h
    · rename_i t ho
      rw [ho]
      simp only [Option.map_some]
      rw [← OT.size_eq (hT.at ho)]; exact h
    · cases h
  · rename_i hn
    unfold loadNE at h ⊢
    split at h
    · rename_i o i; exact absurd rfl (hn o i)
    · simp only [rdB_no] at h ⊢; exact h
    · cases h
theorem one_box {v : AV} (h : v.one = true) : v.box = true ∧ v.cells = [v] := by
  cases v <;> first | exact ⟨rfl, rfl⟩ | cases h
theorem stT_ok (hT : T.Ok) {n : Nat} {a v : AV} (h : stT T n a v = some T') : stA T.st n a v = some T'.st ∧ T'.Ok := by
  unfold stT at h
  split at h
  · rename_i o i
    split at h
    · rename_i t ho
      have ht := hT.at ho
      simp only [stA, objs_get, ho, Option.map_some]
      split at h
      · rename_i vs
        split at h
        · rename_i hc
          simp only [Option.map_eq_some_iff] at h
          obtain ⟨t', ht', rfl⟩ := h
          obtain ⟨h2, h3⟩ := OT.of?_eq ht'
          rw [if_pos ⟨rfl, hc.1, by rw [← OT.size_eq ht]; simp only [AV.cells]; omega⟩, st_set, h2]
          exact ⟨rfl, hT.set h3⟩
        · cases h
      · rename_i hna
        split at h
        · rename_i hc
          simp only [Option.some.injEq] at h; subst h
          obtain ⟨hb, hcl⟩ := one_box hc.1
          obtain ⟨h2, h3⟩ := OT.set_eq ht i v
          rw [hcl, hb, if_pos ⟨rfl, by simpa using hc.2.1, by rw [← OT.size_eq ht]; simp; omega⟩, st_set, h2]
          exact ⟨by simp [setA], hT.set h3⟩
        · cases h
    · cases h
  · cases h

/-! ### what it does is what the code does -/
theorem no_with {S : ASt} (h : S.objs = []) : (T.with S).st = { S with objs := T.st.objs } := rfl
theorem slowT_ok {r : ROp} {F : Fr} {v : AV} (hT : T.Ok) (h1 : ∀ cs, r ≠ .alloc cs) (h2 : ∀ x, r ≠ .box x) (h3 : ∀ x, r ≠ .load x) (h4 : ∀ n x, r ≠ .loadN n x) (h5 : ∀ n a x, r ≠ .st n a x)
    (h : slowT r F T = some (v, T')) : ropE r F T.st = some (v, T'.st) ∧ T'.Ok := by
  unfold slowT at h
  split at h
  · rename_i v0 S' he
    simp only [Option.some.injEq, Prod.mk.injEq] at h
    obtain ⟨rfl, rfl⟩ := h
    refine ⟨?_, hT⟩
    cases r with
    | alloc cs => exact absurd rfl (h1 _)
    | box x => exact absurd rfl (h2 _)
    | load a => exact absurd rfl (h3 _)
    | loadN n a => exact absurd rfl (h4 _ _)
    | st n a x => exact absurd rfl (h5 _ _ _)
    | app sz x y =>
      simp only [ropE, appE, rdB_no] at he ⊢
      split at he
      · split at he
        · rename_i hc
          rw [if_pos hc]
          split at he
          · simp only [Option.some.injEq, Prod.mk.injEq] at he; obtain ⟨rfl, rfl⟩ := he; rfl
          · split at he
            · rename_i hl
              simp only [Option.some.injEq, Prod.mk.injEq] at he; obtain ⟨rfl, rfl⟩ := he
              rw [if_pos (show _ ∧ T.st.live _ = true from hl)]; rfl
            · cases he
          · cases he
        · cases he
      · cases he
    | appN sz z x y =>
      simp only [ropE, appNE] at he ⊢
      split at he
      · split at he
        · rename_i hc
          rw [if_pos hc]
          simp only [Option.some.injEq, Prod.mk.injEq] at he; obtain ⟨rfl, rfl⟩ := he; rfl
        · cases he
      · cases he
    | mkSl own sz n z ps =>
      simp only [ropE] at he ⊢
      split at he
      · split at he
        · rename_i hc
          rw [if_pos hc]
          simp only [Option.some.injEq, Prod.mk.injEq] at he; obtain ⟨rfl, rfl⟩ := he; rfl
        · rename_i hc
          rw [if_neg hc]
          simp only [Option.some.injEq, Prod.mk.injEq] at he; obtain ⟨rfl, rfl⟩ := he; rfl
      · cases he
    | frz x =>
      simp only [ropE] at he ⊢
      split at he
      · split at he
        · rename_i hc
          rw [if_pos (show T.st.live _ = true from hc)]
          simp only [Option.some.injEq, Prod.mk.injEq] at he; obtain ⟨rfl, rfl⟩ := he; rfl
        · cases he
      · cases he
    | ext x i =>
      simp only [ropE, st1] at he ⊢
      split at he
      · split at he
        · rename_i hx
          simp only [Option.some.injEq, Prod.mk.injEq] at he; obtain ⟨rfl, rfl⟩ := he
          rfl
        · cases he
      · cases he
    | bin op x y =>
      simp only [ropE, st1] at he ⊢
      split at he
      · simp only [Option.some.injEq, Prod.mk.injEq] at he; obtain ⟨rfl, rfl⟩ := he; rfl
      · cases he
    | call f as => simp only [ropE] at he; cases he
    | inv x ms as => simp only [ropE] at he; cases he
    | eqn neg x => simp only [ropE] at he; cases he
    | stE s a x => simp only [ropE] at he; cases he
    | no => simp only [ropE] at he; cases he
    | min x y =>
      simp only [ropE] at he ⊢
      split at he
      · simp only [Option.some.injEq, Prod.mk.injEq] at he; obtain ⟨rfl, rfl⟩ := he; rfl
      · cases he
    | max x y =>
      simp only [ropE] at he ⊢
      split at he
      · simp only [Option.some.injEq, Prod.mk.injEq] at he; obtain ⟨rfl, rfl⟩ := he; rfl
      · cases he
    | _ =>
      simp only [ropE, rdB_no] at he ⊢
      first
        | (simp only [Option.some.injEq, Prod.mk.injEq] at he; obtain ⟨rfl, rfl⟩ := he; rfl)
        | (repeat' split at he) <;> first
          | (cases he; done)
          | (simp only [Option.some.injEq, Prod.mk.injEq] at he; obtain ⟨rfl, rfl⟩ := he; simp_all; done)
          | (simp only [Option.some.injEq, Prod.mk.injEq] at he; obtain ⟨rfl, rfl⟩ := he; simp_all [TS.with, TS.no, TS.st]; done)
  · cases h

/-! integers -/
theorem kI_inj {k k' : IntKind} (h : Nat.beq (kI k) (kI k') = true) : k = k' := by
  cases k <;> cases k' <;> first | rfl | (simp [kI] at h)
theorem kB_le (k : IntKind) : kB k ≤ 2 ^ k.bits ∧ (k.signed = true → kB k = 2 ^ (k.bits - 1)) := by
  cases k <;> exact ⟨by decide, by decide⟩
theorem wrap_nat {k : IntKind} {n : Nat} (h : n < kB k) : k.wrap (n : Int) = n := by
  obtain ⟨h1, h2⟩ := kB_le k
  have e1 : (n : Int) % (2 ^ k.bits : Int) = n := by
    refine Int.emod_eq_of_lt (by omega) ?_
    have : n < 2 ^ k.bits := by omega
    exact_mod_cast this
  unfold IntKind.wrap
  simp only [e1]
  rw [if_neg]
  intro hc
  simp only [Bool.and_eq_true, decide_eq_true_eq] at hc
  have h3 := h2 hc.1
  have h4 : ((2 ^ (k.bits - 1) : Nat) : Int) ≤ n := by
    have := hc.2
    exact_mod_cast this
  omega
theorem mkI_eq (k : IntKind) (n : Nat) : mkI k n = .int k (k.wrap (n : Int)) := by
  unfold mkI
  cases hb : Nat.blt n (kB k) with
  | true =>
    have : n < kB k := by simpa using hb
    rw [cond_true]
    show AV.int k (n : Int) = _
    rw [wrap_nat this]
  | false => rfl
theorem addI_eq (k : IntKind) (x y : Int) : addI k x y = .int k (k.wrap (x + y)) := by
  unfold addI
  split
  · rename_i a b
    rw [mkI_eq]
    rfl
  · rfl
theorem subI_eq (k : IntKind) (x y : Int) : subI k x y = .int k (k.wrap (x - y)) := by
  unfold subI
  split
  · rename_i a b
    cases hb : Nat.ble b a with
    | true =>
      have : b ≤ a := by simpa using hb
      rw [cond_true, mkI_eq, show (Nat.sub a b : Nat) = a - b from rfl, Int.natCast_sub this]; rfl
    | false => rfl
  · rfl
theorem eqI_eq (x y : Int) : eqI x y = (x == y) := by
  unfold eqI
  split
  · rename_i a b
    show Nat.beq a b = ((a : Int) == (b : Int))
    rw [Bool.eq_iff_iff]
    simp only [Nat.beq_eq, beq_iff_eq]
    omega
  · rfl
theorem ltI_eq (x y : Int) : ltI x y = decide (x < y) := by
  unfold ltI
  split
  · rename_i a b
    show Nat.blt a b = decide ((a : Int) < (b : Int))
    rw [Bool.eq_iff_iff]
    simp
  · rfl
theorem not_dec (x y : Int) : (!decide (y < x)) = decide (x ≤ y) := by
  rw [Bool.eq_iff_iff]
  simp
theorem intF_eq {f : IntKind → Int → Int → AV} {op : BinOp} (hf : ∀ k x y, intE op k k x y = some (f k x y)) {a b : AV} {v : AV} (h : intF f op a b = some v) : binE op a b = some v := by
  unfold intF at h
  split at h
  · rename_i k x k' y
    cases hb : Nat.beq (kI k) (kI k') with
    | true =>
      rw [hb, cond_true] at h
      have := kI_inj hb
      subst this
      simp only [binE, hf]; exact h
    | false => rw [hb] at h; cases h
  · exact h
theorem binX_eq {op : BinOp} {a b v : AV} (h : binX op a b = some v) : binE op a b = some v := by
  unfold binX at h
  split at h
  · exact intF_eq (fun k x y => by simp [intE, addI_eq]) h
  · exact intF_eq (fun k x y => by simp [intE, subI_eq]) h
  · exact intF_eq (fun k x y => by simp [intE, eqI_eq]) h
  · exact intF_eq (fun k x y => by simp [intE, eqI_eq, bne]) h
  · exact intF_eq (fun k x y => by simp [intE, ltI_eq]) h
  · exact intF_eq (fun k x y => by simp [intE, ltI_eq]) h
  · exact intF_eq (fun k x y => by simp [intE, ltI_eq, not_dec]) h
  · exact intF_eq (fun k x y => by simp [intE, ltI_eq, not_dec]) h
  · exact h

/-! operations -/
def OkC (P : Program) (C : CF) : Prop := ∀ f args T v T', T.Ok → C f args T = some (v, T') → ACalls P f args T.st (fun u S' => u = v ∧ S' = T'.st) ∧ T'.Ok
theorem toF_some {a : AV} {F F' : Fr} {v : AV} {o : Option AV} (h : toF a F T o = some (v, F', T')) : o = some v ∧ F' = F ∧ T' = T := by
  unfold toF at h
  split at h
  · simp only [Option.some.injEq, Prod.mk.injEq] at h
    obtain ⟨rfl, rfl, rfl⟩ := h
    exact ⟨rfl, rfl, rfl⟩
  · cases h
theorem slF_some {F F' : Fr} {v : AV} {o : Option (AV × TS)} (h : slF F o = some (v, F', T')) : o = some (v, T') ∧ F' = F := by
  unfold slF at h
  split at h
  · simp only [Option.some.injEq, Prod.mk.injEq] at h
    obtain ⟨rfl, rfl, rfl⟩ := h
    exact ⟨rfl, rfl⟩
  · cases h
theorem allocT_ok (hT : T.Ok) {cs : List AV} {F F' : Fr} {v : AV} (h : allocT cs F T = some (v, F', T')) : v = .ptr (some (T.st.objs.length, 0)) ∧ F' = F ∧ T'.st = T.st.push cs ∧ T'.Ok := by
  unfold allocT at h
  split at h
  · rename_i t ht
    simp only [Option.some.injEq, Prod.mk.injEq] at h
    obtain ⟨rfl, rfl, rfl⟩ := h
    obtain ⟨h1, h2⟩ := OT.of?_eq ht
    exact ⟨by simp [TS.st], rfl, by rw [st_push, h1], hT.push h2⟩
  · cases h
theorem opT_ok {P : Program} {C : CF} (hC : OkC P C) (hT : T.Ok) {r : ROp} {F F' : Fr} {v : AV} (h : opT C r F T = some (v, F', T')) :
    T'.Ok ∧ ∀ K : AV → Fr → ASt → Prop, K v F' T'.st → ropK P r F T.st K := by
  unfold opT at h
  split at h
  · simp only [Option.some.injEq, Prod.mk.injEq, roR_eq] at h
    obtain ⟨rfl, rfl, rfl⟩ := h
    exact ⟨hT, fun K hk => ⟨_, _, rfl, hk⟩⟩
  · rename_i c a b
    simp only [roR_eq] at h
    unfold pickT at h
    split at h
    · rename_i x hx
      simp only [Option.some.injEq, Prod.mk.injEq] at h
      obtain ⟨rfl, rfl, rfl⟩ := h
      refine ⟨hT, fun K hk => ⟨_, _, ?_, hk⟩⟩
      simp only [ropE, hx]
      cases x <;> rfl
    · cases h
  · rename_i op x y
    simp only [roR_eq] at h
    obtain ⟨h0, rfl, rfl⟩ := toF_some h; clear h
    exact ⟨hT, fun K hk => ⟨_, _, by simp only [ropE, binX_eq h0, st1], hk⟩⟩
  · rename_i k x
    simp only [roR_eq] at h
    obtain ⟨h0, rfl, rfl⟩ := toF_some h; clear h
    refine ⟨hT, fun K hk => ⟨_, _, ?_, hk⟩⟩
    unfold toIntT at h0
    split at h0
    · rename_i hx
      simp only [Option.some.injEq, mkI_eq] at h0; subst h0
      simp only [ropE, hx]; rfl
    · rename_i hx
      simp only [Option.some.injEq] at h0; subst h0
      simp only [ropE, hx]
    · cases h0
  · rename_i m s x i
    simp only [roR_eq] at h
    obtain ⟨h0, rfl, rfl⟩ := toF_some h; clear h
    refine ⟨hT, fun K hk => ⟨_, _, ?_, hk⟩⟩
    unfold idxAT at h0
    split at h0
    · rename_i o j k n hx hi
      cases hb : Nat.blt n m with
      | true =>
        rw [hb, cond_true] at h0
        simp only [Option.some.injEq] at h0; subst h0
        have : n < m := by simpa using hb
        simp only [ropE, hx, hi]
        rw [if_pos ⟨by simp, by simpa using this⟩]; rfl
      | false => rw [hb] at h0; cases h0
    · cases h0
  · rename_i a
    simp only [roR_eq] at h
    obtain ⟨h0, rfl, rfl⟩ := toF_some h; clear h
    exact ⟨hT, fun K hk => ⟨_, _, by simp only [ropE, loadT_ok hT h0, st1], hk⟩⟩
  · rename_i n a
    simp only [roR_eq] at h
    obtain ⟨h0, rfl, rfl⟩ := toF_some h; clear h
    exact ⟨hT, fun K hk => ⟨_, _, by simp only [ropE, loadNT_ok hT h0, st1], hk⟩⟩
  · rename_i n a x
    simp only [roR_eq] at h
    unfold stF at h
    split at h
    · rename_i T1 hs
      simp only [Option.some.injEq, Prod.mk.injEq] at h
      obtain ⟨rfl, rfl, rfl⟩ := h
      obtain ⟨h1, h2⟩ := stT_ok hT hs
      exact ⟨h2, fun K hk => ⟨_, _, by simp only [ropE, h1], hk⟩⟩
    · cases h
  · rename_i cs
    obtain ⟨rfl, rfl, h1, h2⟩ := allocT_ok hT h
    exact ⟨h2, fun K hk => ⟨_, _, rfl, by rw [h1] at hk; exact hk⟩⟩
  · rename_i x
    simp only [roR_eq] at h
    unfold boxT at h
    cases hb : (ro F x).box with
    | true =>
      rw [hb, cond_true] at h
      obtain ⟨rfl, rfl, h1, h2⟩ := allocT_ok hT h
      exact ⟨h2, fun K hk => ⟨.ptr (some (T.st.objs.length, 0)), T.st.push (ro F' x).cells, by simp only [ropE, hb, if_true], by rw [h1] at hk; exact hk⟩⟩
    | false => rw [hb] at h; cases h
  · rename_i f as
    simp only [roLR_eq] at h
    obtain ⟨h, rfl⟩ := slF_some h
    obtain ⟨h1, h2⟩ := hC _ _ _ _ _ hT h
    exact ⟨h2, fun K hk => h1.mono fun u S ⟨e1, e2⟩ => by subst e1; subst e2; exact hk⟩
  · rename_i x ms as
    simp only [roLR_eq, roR_eq] at h
    obtain ⟨h, rfl⟩ := slF_some h
    unfold invT at h
    split at h
    · rename_i t v0 hx
      split at h
      · rename_i g hg
        obtain ⟨h1, h2⟩ := hC _ _ _ _ _ hT h
        exact ⟨h2, fun K hk => by simp only [ropK, hx, hg]; exact h1.mono fun u S ⟨e1, e2⟩ => by subst e1; subst e2; exact hk⟩
      · cases h
    · cases h
  · rename_i neg x
    simp only [roR_eq] at h
    obtain ⟨h0, rfl, rfl⟩ := toF_some h; clear h
    refine ⟨hT, fun K hk => ?_⟩
    unfold eqnT at h0
    split at h0
    · rename_i hx
      simp only [Option.some.injEq] at h0; subst h0
      simp only [ropK, hx, nilSlA]; exact hk
    · rename_i o _ a l hno hx
      cases hrd : rdB (TS.no _) o with
      | true =>
        rw [hrd, cond_true] at h0
        simp only [Option.some.injEq] at h0; subst h0
        simp only [ropK, hx]
        have hrd' : rdB T'.st o = true := by rw [rdB_no]; exact hrd
        cases o with
        | nil => exact (hno rfl).elim
        | ro => exact ⟨trivial, hk⟩
        | own t => exact ⟨rdB_iff.1 hrd', hk⟩
        | sub t => exact ⟨rdB_iff.1 hrd', hk⟩
      | false => rw [hrd] at h0; cases h0
    · cases h0
  · rename_i s a x
    simp only [roR_eq, lookR_eq] at h
    unfold stET at h
    split at h
    · rename_i tk sz xs i k ha
      cases hb : (AV.same 8 (lookR F s) (.sl (.own tk) sz xs) && T.live tk && (ro F x).one && Nat.blt k sz) with
      | true =>
        rw [hb, cond_true] at h
        simp only [Option.some.injEq, Prod.mk.injEq] at h
        obtain ⟨rfl, rfl, rfl⟩ := h
        simp only [Bool.and_eq_true, lookR_eq] at hb
        refine ⟨hT, fun K hk => ?_⟩
        simp only [ropK, ha]
        exact ⟨AV.same_eq _ _ _ hb.1.1.1, hb.1.1.2, hb.1.2, by simpa using hb.2, hk⟩
      | false => rw [hb] at h; cases h
    · cases h
  · rename_i n1 n2 n3 n4 n5 n6 n7 n8 n9 n10 n11 n12 n13 n14
    obtain ⟨h, rfl⟩ := slF_some h
    obtain ⟨h1, h2⟩ := slowT_ok hT n9 n10 n6 n7 n8 h
    refine ⟨h2, fun K hk => ?_⟩
    cases r with
    | call f as => exact absurd rfl (n11 _ _)
    | inv x ms as => exact absurd rfl (n12 _ _ _)
    | eqn neg x => exact absurd rfl (n13 _ _)
    | stE s a x => exact absurd rfl (n14 _ _ _)
    | _ => exact ⟨_, _, h1, hk⟩

/-! code -/
theorem OkC_none {P : Program} : OkC P (fun _ _ _ => none) := fun _ _ _ _ _ _ h => by cases h
theorem reT_some {F F' : Fr} {d : Option Nat} {o : Option (AV × Fr × TS)} {k : Option (Fr × TS)} (h : reT F d o k = some (F', T')) : ∃ v F1 T1, o = some (v, F1, T1) ∧ sameOB F d v = true ∧ k = some (F', T') := by
  unfold reT at h
  split at h
  · rename_i v F1 T1
    cases hs : sameOB F d v with
    | true => rw [hs, cond_true] at h; exact ⟨v, F1, T1, rfl, hs, h⟩
    | false => rw [hs] at h; cases h
  · cases h
theorem sameOB_ok {F : Fr} {d : Option Nat} {v : AV} (h : sameOB F d v = true) : sameO F d v := by
  unfold sameOB at h
  unfold sameO
  split at h
  · exact AV.same_eq _ _ _ h
  · trivial
/-- What opT answers without calls is what the operation answers. -/
theorem opT_chk {T : TS} (hT : T.Ok) {r : ROp} {F F' : Fr} {v : AV} (h : opT (fun _ _ _ => none) r F T = some (v, F', T')) (hr : ∀ {P : Program} {K : AV → Fr → ASt → Prop}, ropK P r F T.st K → ∃ v S', ropE r F T.st = some (v, S') ∧ K v F S') :
    ∃ S', ropE r F T.st = some (v, S') := by
  obtain ⟨_, h1⟩ := opT_ok (P := default) OkC_none hT h
  obtain ⟨u, S', h2, h3⟩ := hr (h1 (fun u _ _ => u = v) rfl)
  subst h3
  exact ⟨S', h2⟩
theorem quiet_ok {P : Program} {r : ROp} {F : Fr} {S : ASt} {K : AV → Fr → ASt → Prop} (hq : quiet r = true) (h : ropK P r F S K) : ∃ v S', ropE r F S = some (v, S') ∧ K v F S' := by
  cases r <;> first | exact h | cases hq
theorem seqT_some {k : Fr → TS → RT} {o : RT} {e : Ex} {F' : Fr} {T' : TS} (h : seqT k o = some (e, F', T')) :
    (∃ F1 T1, o = some (.normal, F1, T1) ∧ k F1 T1 = some (e, F', T')) ∨ (o = some (e, F', T') ∧ e ≠ .normal) := by
  unfold seqT at h
  split at h
  · cases h
  · rename_i p
    obtain ⟨e1, F1, T1⟩ := p
    cases e1 with
    | normal => exact .inl ⟨F1, T1, rfl, h⟩
    | exit j =>
      simp only [Option.some.injEq, Prod.mk.injEq] at h
      obtain ⟨rfl, rfl, rfl⟩ := h
      exact .inr ⟨rfl, by simp⟩
    | ret =>
      simp only [Option.some.injEq, Prod.mk.injEq] at h
      obtain ⟨rfl, rfl, rfl⟩ := h
      exact .inr ⟨rfl, by simp⟩
theorem resT_ok {F : Fr} {T : TS} (hT : T.Ok) : ∀ {rr : List Rs} {vs : List AV}, resT F T rr = some vs → resE F T.st rr = some vs := by
  intro rr
  induction rr with
  | nil => intro vs h; exact h
  | cons x r ih =>
    intro vs h
    cases x with
    | t i =>
      simp only [resT, Option.bind_eq_some_iff, Option.some.injEq, lookR_eq] at h
      obtain ⟨l, hl, rfl⟩ := h
      simp only [resE, ih hl, Option.bind_some]
    | cell i =>
      simp only [resT, lookR_eq] at h
      split at h
      · rename_i p hp
        simp only [Option.bind_eq_some_iff, Option.some.injEq] at h
        obtain ⟨v, hv, l, hl, rfl⟩ := h
        simp only [resE, cellE, hp, loadT_ok hT hv, ih hl, Option.bind_some]
      · cases h
    | cellN i n =>
      simp only [resT, lookR_eq] at h
      split at h
      · rename_i p hp
        simp only [Option.bind_eq_some_iff, Option.some.injEq] at h
        obtain ⟨v, hv, l, hl, rfl⟩ := h
        simp only [resE, cellNE, hp, loadNT_ok hT hv, ih hl, Option.bind_some]
      · cases h
theorem evIT_ok {P : Program} {C : CF} (hC : OkC P C) : ∀ {l : List RI} {F F' : Fr} {T T' : TS}, T.Ok → evIT C l F T = some (F', T') → T'.Ok ∧ ∀ K : Fr → ASt → Prop, K F' T'.st → wpI P l K F T.st
  | [], F, F', T, T', hT, h => by
    have h' : some (F, T) = some (F', T') := h
    simp only [Option.some.injEq, Prod.mk.injEq] at h'
    obtain ⟨rfl, rfl⟩ := h'
    exact ⟨hT, fun K hk => hk⟩
  | i :: r, F, F', T, T', hT, h => by
    have h' : itT C i (evIT C r) F T (guardT F i.g) = some (F', T') := h
    have run : itT C i (evIT C r) F T (some true) = some (F', T') → T'.Ok ∧ ∀ K : Fr → ASt → Prop, K F' T'.st → rRun P i F T.st (wpI P r K) := by
      intro h
      unfold itT at h
      unfold rRun
      cases hre : i.re with
      | false =>
        rw [hre] at h
        simp only [cond_true] at h
        unfold contT at h
        split at h
        · rename_i v F1 T1 ho
          obtain ⟨h1, h2⟩ := opT_ok hC hT ho
          obtain ⟨h3, h4⟩ := evIT_ok hC h1 h
          exact ⟨h3, fun K hk => h2 _ (h4 K hk)⟩
        · cases h
      | true =>
        rw [hre] at h
        simp only [cond_true] at h
        cases hq : quiet i.op with
        | true =>
          rw [hq, cond_true] at h
          obtain ⟨v, F1, T1, ho, hs, h⟩ := reT_some h
          obtain ⟨h3, h4⟩ := evIT_ok hC hT h
          obtain ⟨S', hr⟩ := opT_chk hT ho (quiet_ok hq)
          exact ⟨h3, fun K hk => ⟨⟨v, S', hr, sameOB_ok hs⟩, h4 K hk⟩⟩
        | false => rw [hq] at h; cases h
    have skip : itT C i (evIT C r) F T (some false) = some (F', T') → T'.Ok ∧ ∀ K : Fr → ASt → Prop, K F' T'.st → rSkip i F T.st (wpI P r K) := by
      intro h
      unfold itT at h
      unfold rSkip
      cases hre : i.re with
      | false =>
        rw [hre] at h
        exact evIT_ok hC hT h
      | true =>
        rw [hre] at h
        exact evIT_ok hC hT h
    unfold guardT at h'
    simp only [wpI]
    cases hg : i.g with
    | none => rw [hg] at h'; exact run h'
    | some g =>
      obtain ⟨t, w⟩ := g
      rw [hg] at h'
      simp only [lookR_eq] at h' ⊢
      cases hl : look F t with
      | bool b =>
        rw [hl] at h'
        simp only at h'
        simp only [gK3]
        by_cases hbw : b = w
        · simp only [if_pos hbw]
          subst hbw
          rw [beq_self_eq_true] at h'
          exact run h'
        · simp only [if_neg hbw]
          rw [show (b == w) = false by simpa using hbw] at h'
          exact skip h'
      | top => rw [hl] at h'; unfold itT at h'; cases h'
      | _ =>
        rw [hl] at h'
        simp only [gK3]
        exact skip h'
theorem evRT_ok {P : Program} {C : CF} (hC : OkC P C) {N : Nat} : ∀ {rc : RC} {F F' : Fr} {T T' : TS} {e : Ex}, T.Ok → evRT C N rc F T = some (e, F', T') → T'.Ok ∧ ∀ Q : Ex → Fr → ASt → Prop, Q e F' T'.st → wpR P rc Q F T.st := by
  intro rc
  induction rc with
  | nop =>
    intro F F' T T' e hT h
    have h' : some (Ex.normal, F, T) = some (e, F', T') := h
    simp only [Option.some.injEq, Prod.mk.injEq] at h'
    obtain ⟨rfl, rfl, rfl⟩ := h'
    exact ⟨hT, fun Q hq => hq⟩
  | exit id =>
    intro F F' T T' e hT h
    have h' : some (Ex.exit id, F, T) = some (e, F', T') := h
    simp only [Option.some.injEq, Prod.mk.injEq] at h'
    obtain ⟨rfl, rfl, rfl⟩ := h'
    exact ⟨hT, fun Q hq => hq⟩
  | ret =>
    intro F F' T T' e hT h
    have h' : some (Ex.ret, F, T) = some (e, F', T') := h
    simp only [Option.some.injEq, Prod.mk.injEq] at h'
    obtain ⟨rfl, rfl, rfl⟩ := h'
    exact ⟨hT, fun Q hq => hq⟩
  | reg l k ih =>
    intro F F' T T' e hT h
    have h' : regT (evRT C N k) (evIT C l F T) = some (e, F', T') := h
    unfold regT at h'
    split at h'
    · rename_i p h1
      obtain ⟨F1, T1⟩ := p
      obtain ⟨h2, h3⟩ := evIT_ok hC hT h1
      obtain ⟨h4, h5⟩ := ih h2 h'
      exact ⟨h4, fun Q hq => h3 _ (h5 Q hq)⟩
    · cases h'
  | cond c x y k ihx ihy ihk =>
    intro F F' T T' e hT h
    have h' : cndT (roR F c) (evRT C N x) (evRT C N y) (evRT C N k) F T = some (e, F', T') := h
    have key : ∀ {z : RC}, (∀ {F F' : Fr} {T T' : TS} {e : Ex}, T.Ok → evRT C N z F T = some (e, F', T') → T'.Ok ∧ ∀ Q : Ex → Fr → ASt → Prop, Q e F' T'.st → wpR P z Q F T.st) →
        seqT (evRT C N k) (evRT C N z F T) = some (e, F', T') → T'.Ok ∧ ∀ Q : Ex → Fr → ASt → Prop, Q e F' T'.st → wpR P z (jQ (fun G S => wpR P k Q G S) Q) F T.st := by
      intro z ih h
      rcases seqT_some h with ⟨F1, T1, h1, h2⟩ | ⟨h1, hne⟩
      · obtain ⟨h3, h4⟩ := ih hT h1
        obtain ⟨h5, h6⟩ := ihk h3 h2
        exact ⟨h5, fun Q hq => h4 _ ⟨F1, Sub.refl F1, h6 Q hq⟩⟩
      · obtain ⟨h3, h4⟩ := ih hT h1
        refine ⟨h3, fun Q hq => h4 _ ?_⟩
        cases e with
        | normal => exact absurd rfl hne
        | exit j => exact hq
        | ret => exact hq
    rw [roR_eq] at h'
    unfold cndT at h'
    simp only [wpR]
    split at h'
    · rename_i b hc
      cases b with
      | true =>
        obtain ⟨h1, h2⟩ := key ihx h'
        exact ⟨h1, fun Q hq => ⟨fun G S => wpR P k Q G S, fun _ _ h => h, by rw [hc]; exact h2 Q hq⟩⟩
      | false =>
        obtain ⟨h1, h2⟩ := key ihy h'
        exact ⟨h1, fun Q hq => ⟨fun G S => wpR P k Q G S, fun _ _ h => h, by rw [hc]; exact h2 Q hq⟩⟩
    · cases h'
  | block id c k ihc ihk =>
    intro F F' T T' e hT h
    have h' : blkT id (evRT C N k) (evRT C N c F T) = some (e, F', T') := h
    unfold blkT at h'
    split at h'
    · cases h'
    · rename_i p hp
      obtain ⟨e1, F1, T1⟩ := p
      obtain ⟨h3, h4⟩ := ihc hT hp
      cases e1 with
      | normal =>
        obtain ⟨h5, h6⟩ := ihk h3 h'
        exact ⟨h5, fun Q hq => h4 _ (h6 Q hq)⟩
      | exit j =>
        simp only at h'
        cases hj : Nat.beq j id with
        | true =>
          rw [hj, cond_true] at h'
          have hj' := Nat.eq_of_beq_eq_true hj
          obtain ⟨h5, h6⟩ := ihk h3 h'
          exact ⟨h5, fun Q hq => h4 _ (by simp only [bQ, hj', if_true]; exact h6 Q hq)⟩
        | false =>
          rw [hj, cond_false] at h'
          have hj' : j ≠ id := Nat.ne_of_beq_eq_false hj
          simp only [Option.some.injEq, Prod.mk.injEq] at h'
          obtain ⟨rfl, rfl, rfl⟩ := h'
          exact ⟨h3, fun Q hq => h4 _ (by simp only [bQ, if_neg hj']; exact hq)⟩
      | ret =>
        simp only [Option.some.injEq, Prod.mk.injEq] at h'
        obtain ⟨rfl, rfl, rfl⟩ := h'
        exact ⟨h3, fun Q hq => h4 _ hq⟩
  | loop lv c ih =>
    intro F F' T T' e hT h
    have h' : loopT lv (evRT C N c) N F T = some (e, F', T') := h
    have key : ∀ (m : Nat) {F : Fr} {T : TS}, T.Ok → loopT lv (evRT C N c) m F T = some (e, F', T') → T'.Ok := by
      intro m F T hT h
      induction m generalizing F T with
      | zero => cases h
      | succ m ihm =>
        have h' : lpT lv (loopT lv (evRT C N c) m) (evRT C N c F T) = some (e, F', T') := h
        unfold lpT at h'
        split at h'
        · cases h'
        · rename_i p hp
          obtain ⟨e1, F1, T1⟩ := p
          obtain ⟨h3, h4⟩ := ih hT hp
          cases e1 with
          | normal => exact ihm h3 h'
          | exit j =>
            simp only [Option.some.injEq, Prod.mk.injEq] at h'
            obtain ⟨rfl, rfl, rfl⟩ := h'; exact h3
          | ret =>
            simp only [Option.some.injEq, Prod.mk.injEq] at h'
            obtain ⟨rfl, rfl, rfl⟩ := h'; exact h3
    refine ⟨key N hT h', fun Q hq => ?_⟩
    simp only [wpR]
    refine ⟨fun m G S => ∃ U : TS, U.Ok ∧ U.st = S ∧ loopT lv (evRT C N c) m G U = some (e, F', T'), ⟨N, F, Sub.refl F, T, hT, rfl, h'⟩, ?_⟩
    rintro m G S ⟨U, hU, rfl, hm⟩
    cases m with
    | zero => cases hm
    | succ m =>
      have hm' : lpT lv (loopT lv (evRT C N c) m) (evRT C N c G U) = some (e, F', T') := hm
      unfold lpT at hm'
      split at hm'
      · cases hm'
      · rename_i p hp
        obtain ⟨e1, F1, T1⟩ := p
        obtain ⟨h3, h4⟩ := ih hU hp
        refine h4 _ ?_
        cases e1 with
        | normal =>
          simp only [pickR_eq] at hm'
          exact ⟨m, Nat.lt_succ_self m, pick F1 lv, (pick_sub F1 lv).sub, T1, h3, rfl, hm'⟩
        | exit j =>
          simp only [Option.some.injEq, Prod.mk.injEq] at hm'
          obtain ⟨rfl, rfl, rfl⟩ := hm'; exact hq
        | ret =>
          simp only [Option.some.injEq, Prod.mk.injEq] at hm'
          obtain ⟨rfl, rfl, rfl⟩ := hm'; exact hq
theorem finT_ok {rr : List Rs} {o : RT} {v : AV} {T' : TS} (h : finT rr o = some (v, T')) :
    ∃ e F1 vs, o = some (e, F1, T') ∧ (∀ j, e ≠ .exit j) ∧ resT F1 T' rr = some vs ∧ v = resV vs := by
  unfold finT at h
  split at h
  · cases h
  · rename_i p
    obtain ⟨e, F1, T1⟩ := p
    cases e with
    | exit j => cases h
    | normal =>
      simp only [Option.map_eq_some_iff, Prod.mk.injEq] at h
      obtain ⟨vs, h1, h2, rfl⟩ := h
      exact ⟨_, F1, vs, rfl, by simp, h1, h2.symm⟩
    | ret =>
      simp only [Option.map_eq_some_iff, Prod.mk.injEq] at h
      obtain ⟨vs, h1, h2, rfl⟩ := h
      exact ⟨_, F1, vs, rfl, by simp, h1, h2.symm⟩
theorem evFT_ok {P : Program} {code : CT} {X : CF} {N : Nat} (hcode : CodeOk P code) (hX : OkC P X) : ∀ d, OkC P (evFT code X N d)
  | 0 => fun f args T v T' hT h => by cases h
  | d + 1 => fun f args T v T' hT h => by
    have ih := evFT_ok (N := N) hcode hX d
    simp only [evFT] at h
    split at h
    · rename_i r hr
      simp only [Option.some.injEq] at h; subst h
      exact hX _ _ _ _ _ hT hr
    · split at h
      · cases h
      · rename_i rc rr n hc
        cases hl : Nat.ble args.length n with
        | true =>
          rw [hl, cond_true] at h
          obtain ⟨e, F1, vs, h1, h2, h3, rfl⟩ := finT_ok h
          obtain ⟨h4, h5⟩ := evRT_ok ih hT h1
          refine ⟨hcode.look f rc rr n hc args _ T.st (Nat.le_of_ble_eq_true hl) (h5 _ ?_), h4⟩
          have h6 := resT_ok h4 h3
          cases e with
          | normal => exact ⟨vs, h6, rfl, rfl⟩
          | exit j => exact absurd rfl (h2 j)
          | ret => exact ⟨vs, h6, rfl, rfl⟩
        | false => rw [hl] at h; cases h
theorem knX_ok {P : Program} {kn : List (FuncId × AV)} (hk : KnOk P kn) : OkC P (knX kn) := by
  intro f args T v T' hT h
  unfold knX at h
  split at h
  · split at h
    · rename_i v0 hv
      simp only [Option.some.injEq, Prod.mk.injEq] at h
      obtain ⟨rfl, rfl⟩ := h
      exact ⟨hk.look f _ hv T.st, hT⟩
    · cases h
  · cases h
theorem runT_ok {P : Program} {code : CT} {X : CF} {N d : Nat} {f : FuncId} {args : List AV} {v : AV} (hc : CodeOk P code) (hX : OkC P X) (h : runT code X N d f args v = true) (ha : ∀ u ∈ args, Plain u) (hv : Plain v) (S : ASt) :
    ACalls P f args S (fun u T => u = v ∧ T = S) := by
  unfold runT at h
  split at h
  · rename_i p he
    obtain ⟨u, T⟩ := p
    have := AV.same_eq _ _ _ h
    simp only at this
    subst this
    have hT : T00.Ok := fun t ht => by cases ht
    exact closed ha hv (((evFT_ok hc hX d) f args T00 u T hT he).1.mono fun x y h => h.1) S
  · cases h
end
end Go.Proofs.Ythpomdoaiibnfaa.Abs
