/- What each operation does to an abstract frame and state. -/
import Derived.Test.YtmfkocmbmadkmaaAbs2
namespace Go.Proofs.Ytmfkocmbmadkmaa.Abs
open Go Go.RowKit
set_option linter.unusedVariables false

def ofV1 : Value → AV
  | .bool b => .bool b
  | .int k n => .int k n
  | .string s => .str s.data.toList
  | .pointer none => .ptr none
  | .slice none 0 0 => .sl .nil 0 []
  | .nilFunc => .nilFunc
  | .nilIface => .nilIface
  | _ => .top
def ofV : Value → AV
  | .agg cs => if cs.toList.all (fun c => (ofV1 c).one) then .agg (cs.toList.map ofV1) else .top
  | v => ofV1 v
def ev (F : List AV) : Operand → AV
  | .tmp t => F.getD t .top
  | .const v => ofV v
  | .global _ => .top
  | .func f => .func f

def FRel (E : Env) (S : ASt) (w : World) (F : List AV) (tmps : Array Value) : Prop :=
  F.length = tmps.size ∧ ∀ i, VRel E S w (F.getD i .top) (tmps.getD i undef)

theorem FRel.mono {E E' : Env} {S S' : ASt} {w w' : World} (h : Evolves E S w E' S' w') {F : List AV} {tmps : Array Value} (hF : FRel E S w F tmps) : FRel E' S' w' F tmps :=
  ⟨hF.1, fun i => (hF.2 i).mono h⟩

theorem FRel.set {E : Env} {S : ASt} {w : World} {F : List AV} {tmps : Array Value} (hF : FRel E S w F tmps) (d : Nat) {v : AV} {cv : Value} (h : VRel E S w v cv) :
    FRel E S w (F.set d v) (tmps.setIfInBounds d cv) := by
  refine ⟨by simp [hF.1], fun i => ?_⟩
  have hi := hF.2 i
  by_cases hd : d = i
  · subst hd
    by_cases hlt : d < F.length
    · have hlt' : d < tmps.size := hF.1 ▸ hlt
      simpa [List.getD, hlt, Array.getD, hlt'] using h
    · have hlt' : ¬ d < tmps.size := hF.1 ▸ hlt
      have e1 : F.set d v = F := List.set_eq_of_length_le (by omega)
      have e2 : tmps.setIfInBounds d cv = tmps := by simp [Array.setIfInBounds, hlt']
      rw [e1, e2]; exact hi
  · have e1 : (F.set d v).getD i .top = F.getD i .top := by simp [List.getD, List.getElem?_set_ne hd]
    have e2 : (tmps.setIfInBounds d cv).getD i undef = tmps.getD i undef := by
      simp only [Array.getD_eq_getD_getElem?, Array.getElem?_setIfInBounds, hd, if_false]
    rw [e1, e2]; exact hi

theorem ofV1_rel (E : Env) (S : ASt) (w : World) (v : Value) : VRel E S w (ofV1 v) v := by
  unfold ofV1
  split
  · exact .bool _
  · exact .int _ _
  · rename_i s
    have := VRel.str (E := E) (S := S) (w := w) s.data.toList
    simpa using this
  · exact .pnil
  · exact .sl_nil 0
  · exact .nilFunc
  · exact .nilIface
  · exact .top _

theorem ofV_rel (E : Env) (S : ASt) (w : World) (v : Value) : VRel E S w (ofV v) v := by
  unfold ofV
  split
  · rename_i cs
    split
    · rename_i h
      have h' : ∀ x, x ∈ cs.toList → (ofV1 x).one = true := by
        intro x hx; exact (List.all_eq_true.1 h) x hx
      refine .agg _ _ (by simp) ?_ ?_
      · intro u hu
        obtain ⟨x, hx, rfl⟩ := List.mem_map.1 hu
        exact h' x hx
      · intro i u hu
        rw [List.getElem?_map] at hu
        cases hq : cs.toList[i]? with
        | none => rw [hq] at hu; simp at hu
        | some x =>
          rw [hq] at hu
          simp only [Option.map_some, Option.some.injEq] at hu
          subst hu
          have : cs.getD i undef = x := by
            simp only [Array.getD_eq_getD_getElem?]
            rw [← Array.getElem?_toList, hq]; rfl
          rw [this]; exact ofV1_rel E S w x
    · exact .top _
  · exact ofV1_rel E S w v

theorem ev_rel {E : Env} {S : ASt} {w : World} {F : List AV} {a : Act} (hF : FRel E S w F a.tmps) (x : Operand) : VRel E S w (ev F x) (a.eval x) := by
  cases x with
  | tmp t => exact hF.2 t
  | const v => exact ofV_rel E S w v
  | global g => exact .top _
  | func f => exact .func f

/-! ### closed facts of a program -/
def szA (P : Program) (t : TypeId) : Option Nat := (P.info? t).map (·.size)
def byA (P : Program) (t : TypeId) : Option Nat := (P.info? t).map (·.bytes)
def zeroA (P : Program) (t : TypeId) : Option (List AV) :=
  match P.info? t with
  | some i =>
    match i.zero with
    | some z =>
      let cs := z.cells.toList.map ofV1
      if cs.all AV.one && cs.length == i.size then some cs else none
    | none => none
  | none => none
def aggT (P : Program) (t : TypeId) : Option Bool :=
  match P.underlying t with
  | some (.struct _) => some true
  | some (.array _ _) => some true
  | some _ => some false
  | none => none
def fieldA (P : Program) (s : TypeId) (f : Nat) : Option Nat :=
  match P.underlying s with
  | some (.struct fs) =>
    match fs[f]? with
    | some fl =>
      match P.info? fl.type with
      | some i => if i.size = 0 then none else some fl.offset
      | none => none
    | none => none
  | _ => none
def placesA (P : Program) (t : TypeId) : Option (List (Nat × Nat)) :=
  match P.underlying t with
  | some (.struct fs) => fs.toList.mapM (fun f => (P.info? f.type).map fun i => (f.offset, i.size))
  | _ => none
def sliceT (P : Program) (t : TypeId) : Option TypeId :=
  match P.underlying t with
  | some (.slice e) => some e
  | _ => none
def arrT (P : Program) (t : TypeId) : Option (Nat × TypeId) :=
  match P.underlying t with
  | some (.array n e) => some (n, e)
  | _ => none
def intT (P : Program) (t : TypeId) : Option IntKind :=
  match P.underlying t with
  | some (.int k) => some k
  | _ => none
def isStrT (P : Program) (t : TypeId) : Bool :=
  match P.underlying t with
  | some .string => true
  | _ => false
def isBoolT (P : Program) (t : TypeId) : Bool :=
  match P.underlying t with
  | some .bool => true
  | _ => false
def isPtrT (P : Program) (t : TypeId) : Bool :=
  match P.underlying t with
  | some (.pointer _) => true
  | _ => false
def isIfaceT (P : Program) (t : TypeId) : Option Bool :=
  match P.underlying t with
  | some (.interface _) => some true
  | some _ => some false
  | none => none
def methA (P : Program) (t : TypeId) (name : String) : Option FuncId :=
  match P.info? t with
  | some i =>
    match i.methods.find? (·.name == name) with
    | some m =>
      if m.path.isEmpty then
        match m.func with
        | some (f, pr) => if pr == isPtrT P t && (P.underlying t).isSome then some f else none
        | none => none
      else none
    | none => none
  | none => none
def enterA (P : Program) (f : FuncId) : Bool :=
  match P.funcs[f]? with
  | some fn => fn.body.isSome && !(fn.name == "runtime.NumGoroutine")
  | none => false
/-- A struct or an array of plain one-cell parts: bools, integers, strings. -/
def plainT (P : Program) (t : TypeId) : Bool := isBoolT P t || (intT P t).isSome || isStrT P t

/-! ### calls -/
def ArgsRel (E : Env) (S : ASt) (w : World) (args : List AV) (cargs : Array Value) : Prop :=
  cargs.size = args.length ∧ ∀ i, i < args.length → VRel E S w (args.getD i .top) (cargs.getD i undef)

def CallPost (E : Env) (S : ASt) (w : World) (K : AV → ASt → Prop) (e : Ending) (w' : World) : Prop :=
  ∃ v cv E' S', e = .returned cv ∧ Evolves E S w E' S' w' ∧ Rel E' S' w' ∧ VRel E' S' w' v cv ∧ K v S'

def ACalls (P : Program) (f : FuncId) (args : List AV) (S : ASt) (K : AV → ASt → Prop) : Prop :=
  enterA P f = true ∧ ∀ E w cargs, Rel E S w → ArgsRel E S w args cargs → Calls P f cargs w (CallPost E S w K)

theorem ACalls.mono {P : Program} {f : FuncId} {args : List AV} {S : ASt} {K K' : AV → ASt → Prop} (h : ACalls P f args S K) (hk : ∀ v S', K v S' → K' v S') :
    ACalls P f args S K' :=
  ⟨h.1, fun E w cargs hR hA => (h.2 E w cargs hR hA).mono fun e w' ⟨v, cv, E', S', h1, h2, h3, h4, h5⟩ => ⟨v, cv, E', S', h1, h2, h3, h4, hk v S' h5⟩⟩

/-! ### operations -/
structure Modes where
  own : Nat → Bool := fun _ => false
  rb : Nat → Option Nat := fun _ => none
  ord : Nat → List Nat := fun _ => []

def rdA (S : ASt) : Own → Prop
  | .nil => True
  | .ro => True
  | .own t => S.live t = true
  | .sub t => S.live t = true
def AV.cell : AV → Nat → AV
  | .agg cs, j => cs.getD j .top
  | v, _ => v
def AV.putCell : AV → Nat → AV → AV
  | .agg cs, j, v => .agg (cs.set j v)
  | _, _, v => v
def AV.box : AV → Bool
  | .agg _ => true
  | v => v.one
def AV.isU8 : AV → Bool
  | .int .u8 _ => true
  | _ => false
def AV.byte : AV → UInt8
  | .int _ n => UInt8.ofNat n.toNat
  | _ => 0
def setA (cs : List AV) (i : Nat) (vs : List AV) : List AV :=
  if vs.length = 1 then cs.set i (vs.getD 0 .top) else cs.take i ++ vs ++ cs.drop (i + vs.length)
def fillA (places : List (Nat × Nat)) : List AV → List (Nat × AV) → Option (List AV)
  | cs, [] => some cs
  | cs, (i, v) :: rest =>
    match places[i]? with
    | some (off, size) =>
      if v.box && (v.cells.length == size && decide (off + size ≤ cs.length)) then fillA places (cs.take off ++ v.cells ++ cs.drop (off + size)) rest else none
    | none => none
def fillS (sz : Nat) : List AV → List (Nat × AV) → Option (List AV)
  | xs, [] => some xs
  | xs, (i, v) :: rest => if v.box && (v.cells.length == sz && decide (i < xs.length)) then fillS sz (xs.set i v) rest else none
def elemA (ag : Bool) (z : List AV) : AV := if ag then .agg z else z.getD 0 .top
def AV.eq1 : AV → AV → Bool
  | .bool a, .bool b => a == b
  | .int _ a, .int _ b => a == b
  | .str a, .str b => a == b
  | _, _ => false
def AV.sort : AV → Nat
  | .bool _ => 1
  | .int .i8 _ => 2 | .int .i16 _ => 3 | .int .i32 _ => 4 | .int .i64 _ => 5 | .int .u8 _ => 6 | .int .u16 _ => 7 | .int .u32 _ => 8 | .int .u64 _ => 9
  | .str _ => 10
  | _ => 0
def eqL : List AV → List AV → Bool
  | x :: xs, y :: ys => x.eq1 y && eqL xs ys
  | [], [] => true
  | _, _ => false

def intA (op : BinOp) (k k' : IntKind) (x y : Int) (K : AV → Prop) : Prop :=
  match op with
  | .shl => 0 ≤ y ∧ K (.int k (k.wrap (x * 2 ^ (min y.toNat k.bits))))
  | .shr => 0 ≤ y ∧ K (.int k (x.fdiv (2 ^ (min y.toNat k.bits))))
  | .add => k = k' ∧ K (.int k (k.wrap (x + y)))
  | .sub => k = k' ∧ K (.int k (k.wrap (x - y)))
  | .mul => k = k' ∧ K (.int k (k.wrap (x * y)))
  | .quo => k = k' ∧ y ≠ 0 ∧ K (.int k (k.wrap (x.tdiv y)))
  | .rem => k = k' ∧ y ≠ 0 ∧ K (.int k (x.tmod y))
  | .and => k = k' ∧ K (.int k (k.wrap (BitVec.ofInt k.bits x &&& BitVec.ofInt k.bits y).toNat))
  | .or => k = k' ∧ K (.int k (k.wrap (BitVec.ofInt k.bits x ||| BitVec.ofInt k.bits y).toNat))
  | .xor => k = k' ∧ K (.int k (k.wrap (BitVec.ofInt k.bits x ^^^ BitVec.ofInt k.bits y).toNat))
  | .eql => k = k' ∧ K (.bool (x == y))
  | .neq => k = k' ∧ K (.bool (x != y))
  | .lss => k = k' ∧ K (.bool (decide (x < y)))
  | .leq => k = k' ∧ K (.bool (decide (x ≤ y)))
  | .gtr => k = k' ∧ K (.bool (decide (y < x)))
  | .geq => k = k' ∧ K (.bool (decide (y ≤ x)))
  | _ => False

def strA (op : BinOp) (x y : List UInt8) (K : AV → Prop) : Prop :=
  match op with
  | .add => x.length + y.length ≤ 1073741824 ∧ K (.str (x ++ y))
  | .eql => K (.bool (x == y))
  | .neq => K (.bool (!(x == y)))
  | _ => False

def nilSlA (S : ASt) (o : Own) (xs : List AV) (K : Bool → Prop) : Prop :=
  match o, xs with
  | .nil, _ => K true
  | _, _ :: _ => rdA S o ∧ K false
  | _, _ => K true ∧ K false

/-- Field types of a flat struct, or of an array. -/
def flatT (P : Program) (t : TypeId) : Option (List (Nat × TypeId)) :=
  match P.underlying t with
  | some (.struct fs) =>
    if fs.toList.all (fun f => plainT P f.type && !(f.name == "_")) && !P.stoodInHeld t && !P.eqGuardType P.depth t then some (fs.toList.map fun f => (f.offset, f.type)) else none
  | some (.array n e) =>
    if plainT P e && szA P e == some 1 && !P.eqGuardType P.depth t then some ((List.range n).map fun i => (i, e)) else none
  | _ => none
def sortT (P : Program) (t : TypeId) : Nat :=
  match P.underlying t with
  | some .bool => 1
  | some (.int .i8) => 2 | some (.int .i16) => 3 | some (.int .i32) => 4 | some (.int .i64) => 5 | some (.int .u8) => 6 | some (.int .u16) => 7 | some (.int .u32) => 8 | some (.int .u64) => 9
  | some .string => 10
  | _ => 0
def sortsA (P : Program) (t : TypeId) : Option (List Nat) :=
  match flatT P t with
  | some l => if l.map (·.1) == List.range l.length then some (l.map fun x => sortT P x.2) else none
  | none => none

def binA (P : Program) (op : BinOp) (t : TypeId) (a b : AV) (K : AV → Prop) : Prop :=
  match op, a, b with
  | op, .int k x, .int k' y => intA op k k' x y K
  | op, .str x, .str y => strA op x y K
  | .eql, .bool x, .bool y => isBoolT P t = true ∧ K (.bool (x == y))
  | .neq, .bool x, .bool y => isBoolT P t = true ∧ K (.bool (!(x == y)))
  | .eql, .ptr p, .ptr none => isPtrT P t = true ∧ K (.bool p.isNone)
  | .neq, .ptr p, .ptr none => isPtrT P t = true ∧ K (.bool (!p.isNone))
  | .eql, .agg xs, .agg ys => sortsA P t = some (xs.map AV.sort) ∧ xs.map AV.sort = ys.map AV.sort ∧ K (.bool (eqL xs ys))
  | .neq, .agg xs, .agg ys => sortsA P t = some (xs.map AV.sort) ∧ xs.map AV.sort = ys.map AV.sort ∧ K (.bool (!eqL xs ys))
  | _, _, _ => False

def isNilC : Operand → Bool
  | .const (.slice none 0 0) => true
  | _ => false
def nilA (P : Program) (op : BinOp) (t : TypeId) (a : AV) (S : ASt) (K : AV → Prop) : Prop :=
  match op, a with
  | .eql, .sl o _ xs => (sliceT P t).isSome = true ∧ nilSlA S o xs (fun b => K (.bool b))
  | .neq, .sl o _ xs => (sliceT P t).isSome = true ∧ nilSlA S o xs (fun b => K (.bool (!b)))
  | _, _ => False

def convA (P : Program) (src dst : TypeId) (x : AV) (S : ASt) (K : AV → Prop) : Prop :=
  match x with
  | .int _ n => match intT P dst with
    | some k => (P.underlying src).isSome = true ∧ K (.int k (k.wrap n))
    | none => False
  | .str l =>
    match isStrT P src, isStrT P dst, sliceT P dst with
    | true, true, _ => K (.str l)
    | true, false, some e => intT P e = some .u8 ∧ K (.sl .ro 1 (l.map fun b => .int .u8 b.toNat))
    | _, _, _ => False
  | .sl o sz xs =>
    match sliceT P src, isStrT P dst with
    | some e, true => intT P e = some .u8 ∧ (sz = 1 ∨ xs = []) ∧ rdA S o ∧ xs.all AV.isU8 = true ∧ K (.str (xs.map AV.byte))
    | _, _ => False
  | _ => False

/-- A byte slice turned to its own type: its row's mark is set behind its last cell. -/
def frzA (P : Program) (t : TypeId) (x : AV) (S : ASt) (K : AV → ASt → Prop) : Prop :=
  match x with
  | .sl (.own tk) sz (x :: xs) => (sliceT P t).bind (intT P) = some .u8 ∧ S.live tk = true ∧ K (.sl (.sub S.next) sz (x :: xs)) (S.kill tk).fresh
  | _ => False
def bndA (x : AV) (K : Int → Prop) : Prop := match x with | .int _ n => K n | _ => False
def optA (F : List AV) (x : Option Operand) (d : Int) (K : Int → Prop) : Prop :=
  match x with
  | none => K d
  | some x => bndA (ev F x) K

def subA (lo : Option Operand) : Own → Own
  | .own t => if lo.isSome then .sub t else .own t
  | o => o
def sliceA (P : Program) (F : List AV) (t : TypeId) (x : AV) (lo hi : Option Operand) (S : ASt) (K : AV → Prop) : Prop :=
  match x with
  | .sl o sz xs =>
    match sliceT P t with
    | some e => (szA P e = some sz ∨ xs = []) ∧ rdA S o ∧ (szA P e).isSome = true ∧
      optA F lo 0 fun l => optA F hi xs.length fun h => (0 ≤ l ∧ l ≤ h ∧ h ≤ xs.length) ∧ K (.sl (subA lo o) sz ((xs.take h.toNat).drop l.toNat))
    | none => False
  | .str s => isStrT P t = true ∧
      optA F lo 0 fun l => optA F hi s.length fun h => (0 ≤ l ∧ l ≤ h ∧ h ≤ s.length) ∧ K (.str ((s.take h.toNat).drop l.toNat))
  | _ => False

def appendA (P : Program) (t u : TypeId) (s x : AV) (S : ASt) (K : AV → ASt → Prop) : Prop :=
  match sliceT P t with
  | none => False
  | some e =>
    match szA P e, byA P e, zeroA P e with
    | some sz, some by_, some z => 0 < sz ∧ by_ ≤ 65536 ∧
      match s, x with
      | .sl o sz1 xs, .sl o2 sz2 ys =>
        (sliceT P u).isSome = true ∧ xs.length + ys.length ≤ 1073741824 ∧ rdA S o2 ∧ (sz2 = sz ∨ ys = []) ∧
          match o with
          | .nil => K (.sl (.own S.next) sz ys) S.fresh
          | .own tk => sz1 = sz ∧ S.live tk = true ∧ K (.sl (.own S.next) sz (xs ++ ys)) (S.kill tk).fresh
          | _ => False
      | .sl .nil _ _, .int _ n => (intT P u).isSome = true ∧ sz = 1 ∧ 0 < n ∧ n ≤ 1073741824 ∧ K (.sl (.own S.next) sz (List.replicate n.toNat (z.getD 0 .top))) S.fresh
      | _, _ => False
    | _, _, _ => False

def callA (P : Program) (M : Modes) (c : Call) (F : List AV) (S : ASt) (K : AV → ASt → Prop) : Prop :=
  match c.callee with
  | .value f =>
    match ev F f with
    | .func g => ACalls P g (c.args.toList.map (ev F)) S K
    | _ => False
  | .invoke r name =>
    match ev F r with
    | .iface t v =>
      match methA P t name with
      | some g => ACalls P g (v :: c.args.toList.map (ev F)) S K
      | none => False
    | _ => False
  | .builtin .len =>
    match c.args.toList.map (ev F), c.argTypes.toList with
    | [.sl _ _ xs], [t] => (sliceT P t).isSome = true ∧ K (.int .i64 xs.length) S
    | [.str l], [t] => isStrT P t = true ∧ K (.int .i64 l.length) S
    | _, _ => False
  | .builtin .cap =>
    match c.args.toList.map (ev F), c.argTypes.toList with
    | [.sl .nil _ _], [t] => (sliceT P t).isSome = true ∧ K (.int .i64 0) S
    | _, _ => False
  | .builtin .min =>
    match c.args.toList.map (ev F) with
    | [.int k x, .int k' y] => K (.int k (if y < x then y else x)) S
    | _ => False
  | .builtin .max =>
    match c.args.toList.map (ev F) with
    | [.int k x, .int k' y] => K (.int k (if x < y then y else x)) S
    | _ => False
  | .builtin .append =>
    match c.args.toList.map (ev F), c.argTypes.toList with
    | [s, x], [t, u] => appendA P t u s x S K
    | _, _ => False
  | _ => False

def loadA (P : Program) (t : TypeId) (a : AV) (S : ASt) (K : AV → Prop) : Prop :=
  match a with
  | .ptr (some (o, i)) =>
    match S.objs[o]? with
    | some cs =>
      match aggT P t with
      | some false => match cs[i]? with
        | some v => K v
        | none => False
      | some true => match szA P t with
        | some n => i + n ≤ cs.length ∧ K (.agg ((cs.drop i).take n))
        | none => False
      | none => False
    | none => False
  | .eptr o sz xs i k =>
    match aggT P t with
    | some false => k < sz ∧ rdA S o ∧ K ((xs.getD i .top).cell k)
    | some true => match szA P t with
      | some n => k + n ≤ sz ∧ rdA S o ∧ K (.agg (((xs.getD i .top).cells.drop k).take n))
      | none => False
    | none => False
  | _ => False

def storeA (P : Program) (M : Modes) (t : TypeId) (ad : Operand) (v : AV) (F : List AV) (S : ASt) (K : AV → List AV → ASt → Prop) : Prop :=
  match ev F ad with
  | .ptr (some (o, i)) =>
    match S.objs[o]? with
    | some cs => v.box = true ∧ szA P t = some v.cells.length ∧ i + v.cells.length ≤ cs.length ∧ K .top F (S.put o (setA cs i v.cells))
    | none => False
  | .eptr (.own tk) sz xs i k =>
    match ad with
    | .tmp d => match M.rb d with
      | some s => F.getD s .top = .sl (.own tk) sz xs ∧ S.live tk = true ∧ v.one = true ∧ szA P t = some 1 ∧ k < sz ∧
          K .top (F.set s (.sl (.own S.next) sz (xs.set i ((xs.getD i .top).putCell k v)))) (S.kill tk).fresh
      | none => False
    | _ => False
  | _ => False

def idxA (P : Program) (t : TypeId) (x ix : AV) (S : ASt) (K : AV → Prop) : Prop :=
  match ix with
  | .int _ i =>
    match x with
    | .sl o sz xs => match sliceT P t with
      | some e => szA P e = some sz ∧ rdA S o ∧ (0 ≤ i ∧ i < xs.length) ∧ K (.eptr o sz xs i.toNat 0)
      | none => False
    | .ptr (some (o, j)) => match arrT P t with
      | some (n, e) => match szA P e with
        | some s => (0 ≤ i ∧ i < n) ∧ K (.ptr (some (o, j + i.toNat * s)))
        | none => False
      | none => False
    | .eptr o sz xs a k => match arrT P t with
      | some (n, e) => match szA P e with
        | some s => (0 ≤ i ∧ i < n) ∧ rdA S o ∧ K (.eptr o sz xs a (k + i.toNat * s))
        | none => False
      | none => False
    | _ => False
  | _ => False

def ixA (P : Program) (t : TypeId) (x ix : AV) (K : AV → Prop) : Prop :=
  match ix with
  | .int _ i =>
    match x with
    | .agg cs => match arrT P t with
      | some (n, e) => szA P e = some 1 ∧ aggT P e = some false ∧ (0 ≤ i ∧ i < n) ∧ n ≤ cs.length ∧ K (cs.getD i.toNat .top)
      | none => False
    | .str l => isStrT P t = true ∧ (0 ≤ i ∧ i < l.length) ∧ K (.int .u8 (l.getD i.toNat 0).toNat)
    | _ => False
  | _ => False

def opA (P : Program) (M : Modes) (o : Oper) (F : List AV) (S : ASt) (K : AV → List AV → ASt → Prop) : Prop :=
  match o.op with
  | .move x => K (ev F x) F S
  | .assign x => K (ev F x) F S
  | .pick c a b => match ev F c with
    | .bool x => K (if x then ev F a else ev F b) F S
    | _ => False
  | .alloc e => match zeroA P e with
    | some cs => K (.ptr (some (S.objs.length, 0))) F (S.push cs)
    | none => False
  | .box e x => (ev F x).box = true ∧ K (.ptr (some (S.objs.length, 0))) F (S.push (ev F x).cells)
  | .build t parts =>
    match zeroA P t, placesA P t with
    | some z, some pl => match fillA pl z (parts.toList.map fun p => (p.1, ev F p.2)) with
      | some cs => K (.agg cs) F S
      | none => False
    | _, _ => False
  | .buildSlice t n parts =>
    match sliceT P t with
    | some e => match szA P e, zeroA P e, aggT P e with
      | some sz, some z, some ag => n * sz ≤ 16777216 ∧ 0 < sz ∧ (ag = true ∨ sz = 1) ∧ match fillS sz (List.replicate n (elemA ag z)) (parts.toList.map fun p => (p.1, ev F p.2)) with
        | some xs => match o.dst with
          | some d => if M.own d then K (.sl (.own S.next) sz xs) F S.fresh else K (.sl .ro sz xs) F S
          | none => False
        | none => False
      | _, _, _ => False
    | none => False
  | .load t a => loadA P t (ev F a) S (fun v => K v F S)
  | .store t a x => storeA P M t a (ev F x) F S K
  | .nilCheck x => match ev F x with
    | .ptr (some p) => K (.ptr (some p)) F S
    | .iface t v => K (.iface t v) F S
    | _ => False
  | .binOp op t x y _ => if isNilC y then nilA P op t (ev F x) S (fun v => K v F S) else binA P op t (ev F x) (ev F y) (fun v => K v F S)
  | .unOp op _ x => match op, ev F x with
    | .not, .bool b => K (.bool (!b)) F S
    | .neg, .int k n => K (.int k (k.wrap (0 - n))) F S
    | _, _ => False
  | .convert s d x => if s = d then frzA P s (ev F x) S (fun v S' => K v F S') else convA P s d (ev F x) S (fun v => K v F S)
  | .makeInterface t x => isIfaceT P t = some false ∧ K (.iface t (ev F x)) F S
  | .slice t x lo hi none => sliceA P F t (ev F x) lo hi S (fun v => K v F S)
  | .fieldAddr s x f => match fieldA P s f with
    | some off => match ev F x with
      | .ptr (some (o, i)) => K (.ptr (some (o, i + off))) F S
      | .eptr o sz xs i k => rdA S o ∧ K (.eptr o sz xs i (k + off)) F S
      | _ => False
    | none => False
  | .indexAddr t x ix => idxA P t (ev F x) (ev F ix) S (fun v => K v F S)
  | .index t x ix => ixA P t (ev F x) (ev F ix) (fun v => K v F S)
  | .extract x i => match ev F x with
    | .tuple vs => match vs[i]? with
      | some v => K v F S
      | none => False
    | _ => False
  | .call c => callA P M c F S (fun v S' => K v F S')
  | _ => False
end Go.Proofs.Ytmfkocmbmadkmaa.Abs
