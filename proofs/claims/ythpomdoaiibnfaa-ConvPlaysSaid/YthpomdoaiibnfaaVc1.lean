/- Operations made ready for running: what each does to a list of slots and a state, as a function; it does what the reading of the Go operation says. -/
import Derived.Test.YthpomdoaiibnfaaAbs17
namespace Go.Proofs.Ythpomdoaiibnfaa.Abs
open Go Go.RowKit
set_option linter.unusedVariables false
set_option linter.unusedSimpArgs false

abbrev Fr := List (Nat × AV)
inductive RO where
  | t (i : Nat)
  | c (v : AV)
def look : Fr → Nat → AV
  | [], _ => .top
  | (j, v) :: r, i => cond (Nat.beq j i) v (look r i)
def ro (F : Fr) : RO → AV
  | .t i => look F i
  | .c v => v
def roL (F : Fr) : List RO → List AV
  | [] => []
  | x :: r => ro F x :: roL F r
def roP (F : Fr) : List (Nat × RO) → List (Nat × AV)
  | [] => []
  | (i, x) :: r => (i, ro F x) :: roP F r

inductive ROp where
  | mov (x : RO)
  | pick (c a b : RO)
  | alloc (cs : List AV)
  | box (x : RO)
  | build (z : List AV) (pl : List (Nat × Nat)) (ps : List (Nat × RO))
  | mkSl (own : Bool) (sz n : Nat) (z : AV) (ps : List (Nat × RO))
  | load (a : RO)
  | loadN (n : Nat) (a : RO)
  | st (n : Nat) (a x : RO)
  | stE (s : Nat) (a x : RO)
  | nck (x : RO)
  | bin (op : BinOp) (x y : RO)
  | eqb (neg : Bool) (x y : RO)
  | eqp (neg : Bool) (x y : RO)
  | eqa (neg : Bool) (ss : List Nat) (x y : RO)
  | eqn (neg : Bool) (x : RO)
  | not (x : RO)
  | neg (x : RO)
  | toInt (k : IntKind) (x : RO)
  | toSl (x : RO)
  | toStr (x : RO)
  | strStr (x : RO)
  | frz (x : RO)
  | iface (t : TypeId) (x : RO)
  | slice (sz : Nat) (x : RO) (lo hi : Option RO)
  | sliceS (x : RO) (lo hi : Option RO)
  | fld (off : Nat) (x : RO)
  | idx (sz : Nat) (x i : RO)
  | idxA (n s : Nat) (x i : RO)
  | ixA (n : Nat) (x i : RO)
  | ixS (x i : RO)
  | ext (x : RO) (i : Nat)
  | len (x : RO)
  | lenS (x : RO)
  | cap (x : RO)
  | min (x y : RO)
  | max (x y : RO)
  | app (sz : Nat) (x y : RO)
  | appN (sz : Nat) (z : AV) (x y : RO)
  | call (f : FuncId) (as : List RO)
  | inv (x : RO) (ms : List (TypeId × FuncId)) (as : List RO)
  | no

/-! ### what an operation answers -/
def rdB (S : ASt) : Own → Bool
  | .nil => true
  | .ro => true
  | .own t => S.live t
  | .sub t => S.live t
theorem rdB_iff {S : ASt} {o : Own} : rdB S o = true ↔ rdA S o := by cases o <;> simp [rdB, rdA]

def intE (op : BinOp) (k k' : IntKind) (x y : Int) : Option AV :=
  match op with
  | .shl => if 0 ≤ y then some (.int k (k.wrap (x * 2 ^ (Min.min y.toNat k.bits)))) else none
  | .shr => if 0 ≤ y then some (.int k (x.fdiv (2 ^ (Min.min y.toNat k.bits)))) else none
  | .add => if k = k' then some (.int k (k.wrap (x + y))) else none
  | .sub => if k = k' then some (.int k (k.wrap (x - y))) else none
  | .mul => if k = k' then some (.int k (k.wrap (x * y))) else none
  | .quo => if k = k' ∧ y ≠ 0 then some (.int k (k.wrap (x.tdiv y))) else none
  | .rem => if k = k' ∧ y ≠ 0 then some (.int k (x.tmod y)) else none
  | .and => if k = k' then some (.int k (k.wrap (BitVec.ofInt k.bits x &&& BitVec.ofInt k.bits y).toNat)) else none
  | .or => if k = k' then some (.int k (k.wrap (BitVec.ofInt k.bits x ||| BitVec.ofInt k.bits y).toNat)) else none
  | .xor => if k = k' then some (.int k (k.wrap (BitVec.ofInt k.bits x ^^^ BitVec.ofInt k.bits y).toNat)) else none
  | .eql => if k = k' then some (.bool (x == y)) else none
  | .neq => if k = k' then some (.bool (x != y)) else none
  | .lss => if k = k' then some (.bool (decide (x < y))) else none
  | .leq => if k = k' then some (.bool (decide (x ≤ y))) else none
  | .gtr => if k = k' then some (.bool (decide (y < x))) else none
  | .geq => if k = k' then some (.bool (decide (y ≤ x))) else none
  | _ => none
theorem intE_ok {op : BinOp} {k k' : IntKind} {x y : Int} {v : AV} {K : AV → Prop} (h : intE op k k' x y = some v) (hk : K v) : intA op k k' x y K := by
  unfold intE at h
  unfold intA
  split at h <;> first | (split at h <;> first | (simp only [Option.some.injEq] at h; subst h; simp_all) | simp at h) | simp at h

def strE (op : BinOp) (x y : List UInt8) : Option AV :=
  match op with
  | .add => if x.length + y.length ≤ 1073741824 then some (.str (x ++ y)) else none
  | .eql => some (.bool (x == y))
  | .neq => some (.bool (!(x == y)))
  | _ => none
theorem strE_ok {op : BinOp} {x y : List UInt8} {v : AV} {K : AV → Prop} (h : strE op x y = some v) (hk : K v) : strA op x y K := by
  unfold strE at h
  unfold strA
  split at h
  · split at h
    · simp only [Option.some.injEq] at h; subst h; exact ⟨by assumption, hk⟩
    · simp at h
  · simp only [Option.some.injEq] at h; subst h; exact hk
  · simp only [Option.some.injEq] at h; subst h; exact hk
  · simp at h

def binE (op : BinOp) (a b : AV) : Option AV :=
  match a, b with
  | .int k x, .int k' y => intE op k k' x y
  | .str x, .str y => strE op x y
  | _, _ => none

def bndE : AV → Option Int
  | .int _ n => some n
  | _ => none
def optE (F : Fr) (x : Option RO) (d : Int) : Option Int :=
  match x with
  | none => some d
  | some x => bndE (ro F x)
def subB (lo : Option RO) : Own → Own
  | .own t => if lo.isSome then .sub t else .own t
  | o => o

def loadE (S : ASt) : AV → Option AV
  | .ptr (some (o, i)) =>
    match S.objs[o]? with
    | some cs => cs[i]?
    | none => none
  | .eptr o sz xs i k => if k < sz ∧ rdB S o = true then some ((xs.getD i .top).cell k) else none
  | _ => none
def loadNE (S : ASt) (n : Nat) : AV → Option AV
  | .ptr (some (o, i)) =>
    match S.objs[o]? with
    | some cs => if i + n ≤ cs.length then some (.agg ((cs.drop i).take n)) else none
    | none => none
  | .eptr o sz xs i k => if k + n ≤ sz ∧ rdB S o = true then some (.agg (((xs.getD i .top).cells.drop k).take n)) else none
  | _ => none
def stA (S : ASt) (n : Nat) (a v : AV) : Option ASt :=
  match a with
  | .ptr (some (o, i)) =>
    match S.objs[o]? with
    | some cs => if v.box = true ∧ n = v.cells.length ∧ i + v.cells.length ≤ cs.length then some (S.put o (setA cs i v.cells)) else none
    | none => none
  | _ => none
def appE (S : ASt) (sz : Nat) (s x : AV) : Option (AV × ASt) :=
  match s, x with
  | .sl o sz1 xs, .sl o2 sz2 ys =>
    if xs.length + ys.length ≤ 1073741824 ∧ rdB S o2 = true ∧ (sz2 = sz ∨ ys.isEmpty = true) then
      match o with
      | .nil => some (.sl (.own S.next) sz ys, S.fresh)
      | .own tk => if sz1 = sz ∧ S.live tk = true then some (.sl (.own S.next) sz (xs ++ ys), (S.kill tk).fresh) else none
      | _ => none
    else none
  | _, _ => none
def appNE (S : ASt) (sz : Nat) (z : AV) (s x : AV) : Option (AV × ASt) :=
  match s, x with
  | .sl .nil _ _, .int _ n => if sz = 1 ∧ 0 < n ∧ n ≤ 1073741824 then some (.sl (.own S.next) sz (List.replicate n.toNat z), S.fresh) else none
  | _, _ => none
def st1 (S : ASt) (v : Option AV) : Option (AV × ASt) :=
  match v with
  | some v => some (v, S)
  | none => none

def ropE (r : ROp) (F : Fr) (S : ASt) : Option (AV × ASt) :=
  match r with
  | .mov x => some (ro F x, S)
  | .pick c a b => match ro F c with
    | .bool true => some (ro F a, S)
    | .bool false => some (ro F b, S)
    | _ => none
  | .alloc cs => some (.ptr (some (S.objs.length, 0)), S.push cs)
  | .box x => if (ro F x).box = true then some (.ptr (some (S.objs.length, 0)), S.push (ro F x).cells) else none
  | .build z pl ps => match fillA pl z (roP F ps) with
    | some cs => some (.agg cs, S)
    | none => none
  | .mkSl own sz n z ps => match fillS sz (List.replicate n z) (roP F ps) with
    | some xs => if own = true then some (.sl (.own S.next) sz xs, S.fresh) else some (.sl .ro sz xs, S)
    | none => none
  | .load a => st1 S (loadE S (ro F a))
  | .loadN n a => st1 S (loadNE S n (ro F a))
  | .st n a x => match stA S n (ro F a) (ro F x) with
    | some S' => some (.top, S')
    | none => none
  | .nck x => match ro F x with
    | .ptr (some p) => some (.ptr (some p), S)
    | .iface t v => some (.iface t v, S)
    | _ => none
  | .bin op x y => st1 S (binE op (ro F x) (ro F y))
  | .eqb neg x y => match ro F x, ro F y with
    | .bool a, .bool b => some (.bool (xor neg (a == b)), S)
    | _, _ => none
  | .eqp neg x y => match ro F x, ro F y with
    | .ptr p, .ptr none => some (.bool (xor neg p.isNone), S)
    | _, _ => none
  | .eqa neg ss x y => match ro F x, ro F y with
    | .agg xs, .agg ys => if ss = xs.map AV.sort ∧ xs.map AV.sort = ys.map AV.sort then some (.bool (xor neg (eqL xs ys)), S) else none
    | _, _ => none
  | .not x => match ro F x with
    | .bool b => some (.bool (!b), S)
    | _ => none
  | .neg x => match ro F x with
    | .int k n => some (.int k (k.wrap (0 - n)), S)
    | _ => none
  | .toInt k x => match ro F x with
    | .int _ n => some (.int k (k.wrap n), S)
    | _ => none
  | .toSl x => match ro F x with
    | .str l => some (.sl .ro 1 (l.map fun b => .int .u8 b.toNat), S)
    | _ => none
  | .toStr x => match ro F x with
    | .sl o sz xs => if (sz = 1 ∨ xs.isEmpty = true) ∧ rdB S o = true ∧ xs.all AV.isU8 = true then some (.str (xs.map AV.byte), S) else none
    | _ => none
  | .strStr x => match ro F x with
    | .str l => some (.str l, S)
    | _ => none
  | .frz x => match ro F x with
    | .sl (.own tk) sz (x :: xs) => if S.live tk = true then some (.sl (.sub S.next) sz (x :: xs), (S.kill tk).fresh) else none
    | _ => none
  | .iface t x => some (.iface t (ro F x), S)
  | .slice sz x lo hi => match ro F x with
    | .sl o sz1 xs => if (sz = sz1 ∨ xs.isEmpty = true) ∧ rdB S o = true then
        match optE F lo 0, optE F hi xs.length with
        | some l, some h => if 0 ≤ l ∧ l ≤ h ∧ h ≤ xs.length then some (.sl (subB lo o) sz1 ((xs.take h.toNat).drop l.toNat), S) else none
        | _, _ => none
      else none
    | _ => none
  | .sliceS x lo hi => match ro F x with
    | .str s =>
        match optE F lo 0, optE F hi s.length with
        | some l, some h => if 0 ≤ l ∧ l ≤ h ∧ h ≤ s.length then some (.str ((s.take h.toNat).drop l.toNat), S) else none
        | _, _ => none
    | _ => none
  | .fld off x => match ro F x with
    | .ptr (some (o, i)) => some (.ptr (some (o, i + off)), S)
    | .eptr o sz xs i k => if rdB S o = true then some (.eptr o sz xs i (k + off), S) else none
    | _ => none
  | .idx sz x i => match ro F x, ro F i with
    | .sl o sz1 xs, .int _ n => if sz = sz1 ∧ rdB S o = true ∧ 0 ≤ n ∧ n < xs.length then some (.eptr o sz1 xs n.toNat 0, S) else none
    | _, _ => none
  | .idxA m s x i => match ro F x, ro F i with
    | .ptr (some (o, j)), .int _ n => if 0 ≤ n ∧ n < m then some (.ptr (some (o, j + n.toNat * s)), S) else none
    | .eptr o sz xs a k, .int _ n => if rdB S o = true ∧ 0 ≤ n ∧ n < m then some (.eptr o sz xs a (k + n.toNat * s), S) else none
    | _, _ => none
  | .ixA m x i => match ro F x, ro F i with
    | .agg cs, .int _ n => if 0 ≤ n ∧ n < m ∧ m ≤ cs.length then some (cs.getD n.toNat .top, S) else none
    | _, _ => none
  | .ixS x i => match ro F x, ro F i with
    | .str l, .int _ n => if 0 ≤ n ∧ n < l.length then some (.int .u8 (l.getD n.toNat 0).toNat, S) else none
    | _, _ => none
  | .ext x i => match ro F x with
    | .tuple vs => st1 S vs[i]?
    | _ => none
  | .len x => match ro F x with
    | .sl _ _ xs => some (.int .i64 xs.length, S)
    | _ => none
  | .lenS x => match ro F x with
    | .str l => some (.int .i64 l.length, S)
    | _ => none
  | .cap x => match ro F x with
    | .sl .nil _ _ => some (.int .i64 0, S)
    | _ => none
  | .min x y => match ro F x, ro F y with
    | .int k a, .int k' b => some (.int k (if b < a then b else a), S)
    | _, _ => none
  | .max x y => match ro F x, ro F y with
    | .int k a, .int k' b => some (.int k (if a < b then b else a), S)
    | _, _ => none
  | .app sz x y => appE S sz (ro F x) (ro F y)
  | .appN sz z x y => appNE S sz z (ro F x) (ro F y)
  | _ => none

def lookM : List (TypeId × FuncId) → TypeId → Option FuncId
  | [], _ => none
  | (t, g) :: r, u => if t = u then some g else lookM r u

def ropK (P : Program) (r : ROp) (F : Fr) (S : ASt) (K : AV → Fr → ASt → Prop) : Prop :=
  match r with
  | .call f as => ACalls P f (roL F as) S (fun v S' => K v F S')
  | .inv x ms as => match ro F x with
    | .iface t v => match lookM ms t with
      | some g => ACalls P g (v :: roL F as) S (fun v S' => K v F S')
      | none => False
    | _ => False
  | .eqn neg x => match ro F x with
    | .sl o _ xs => nilSlA S o xs (fun b => K (.bool (xor neg b)) F S)
    | _ => False
  | .stE s a x => match ro F a with
    | .eptr (.own tk) sz xs i k => look F s = .sl (.own tk) sz xs ∧ S.live tk = true ∧ (ro F x).one = true ∧ k < sz ∧
        K .top ((s, .sl (.own S.next) sz (xs.set i ((xs.getD i .top).putCell k (ro F x)))) :: F) (S.kill tk).fresh
    | _ => False
  | r => ∃ v S', ropE r F S = some (v, S') ∧ K v F S'

/-! ### made ready out of the Go operation -/
def rsR (n : Nat) : Operand → Option RO
  | .tmp i => if i < n then some (.t i) else none
  | .const v => some (.c (ofV v))
  | .func f => some (.c (.func f))
  | .global _ => none
def rsRs (n : Nat) : List Operand → Option (List RO)
  | [] => some []
  | x :: r => (rsR n x).bind fun a => (rsRs n r).bind fun b => some (a :: b)
def rsP (n : Nat) : List (Nat × Operand) → Option (List (Nat × RO))
  | [] => some []
  | (i, x) :: r => (rsR n x).bind fun a => (rsP n r).bind fun b => some ((i, a) :: b)
def rsQ (n : Nat) : Option Operand → Option (Option RO)
  | none => some none
  | some x => (rsR n x).bind fun a => some (some a)
def eqOf (P : Program) (t : TypeId) (neg : Bool) (x y : RO) : Option ROp :=
  if isBoolT P t then some (.eqb neg x y) else if isPtrT P t then some (.eqp neg x y) else (sortsA P t).map fun ss => .eqa neg ss x y

def rsCall (P : Program) (ms : List TypeId) (n : Nat) (c : Call) : Option ROp :=
  match c.callee with
  | .value f => (rsR n f).bind fun r =>
    match r with
    | .c (.func g) => (rsRs n c.args.toList).bind fun as => some (.call g as)
    | _ => none
  | .invoke r name => (rsR n r).bind fun r => (rsRs n c.args.toList).bind fun as => some (.inv r (ms.filterMap fun t => (methA P t name).map fun g => (t, g)) as)
  | .builtin .len =>
    match c.args.toList, c.argTypes.toList with
    | [x], [t] => (rsR n x).bind fun x => if (sliceT P t).isSome then some (.len x) else if isStrT P t then some (.lenS x) else none
    | _, _ => none
  | .builtin .cap =>
    match c.args.toList, c.argTypes.toList with
    | [x], [t] => (rsR n x).bind fun x => if (sliceT P t).isSome then some (.cap x) else none
    | _, _ => none
  | .builtin .min =>
    match c.args.toList with
    | [x, y] => (rsR n x).bind fun x => (rsR n y).bind fun y => some (.min x y)
    | _ => none
  | .builtin .max =>
    match c.args.toList with
    | [x, y] => (rsR n x).bind fun x => (rsR n y).bind fun y => some (.max x y)
    | _ => none
  | .builtin .append =>
    match c.args.toList, c.argTypes.toList with
    | [x, y], [t, u] => (rsR n x).bind fun x => (rsR n y).bind fun y => (sliceT P t).bind fun e => (szA P e).bind fun sz => (byA P e).bind fun b => (zeroA P e).bind fun z =>
      if 0 < sz ∧ b ≤ 65536 then
        if (sliceT P u).isSome then some (.app sz x y) else if (intT P u).isSome ∧ sz = 1 then some (.appN sz (z.getD 0 .top) x y) else none
      else none
    | _, _ => none
  | _ => none

def rsO (P : Program) (M : Modes) (ms : List TypeId) (n : Nat) (o : Oper) : Option ROp :=
  match o.op with
  | .move x => (rsR n x).bind fun x => some (.mov x)
  | .assign x => (rsR n x).bind fun x => some (.mov x)
  | .pick c a b => (rsR n c).bind fun c => (rsR n a).bind fun a => (rsR n b).bind fun b => some (.pick c a b)
  | .alloc e => (zeroA P e).bind fun cs => some (.alloc cs)
  | .box _ x => (rsR n x).bind fun x => some (.box x)
  | .build t parts => (zeroA P t).bind fun z => (placesA P t).bind fun pl => (rsP n parts.toList).bind fun ps => some (.build z pl ps)
  | .buildSlice t m parts => (sliceT P t).bind fun e => (szA P e).bind fun sz => (zeroA P e).bind fun z => (aggT P e).bind fun ag => (rsP n parts.toList).bind fun ps => o.dst.bind fun d =>
      if m * sz ≤ 16777216 ∧ 0 < sz ∧ (ag = true ∨ sz = 1) then some (.mkSl (M.own d) sz m (elemA ag z) ps) else none
  | .load t a => (aggT P t).bind fun ag => (rsR n a).bind fun a =>
      match ag with
      | true => (szA P t).bind fun m => some (.loadN m a)
      | false => some (.load a)
  | .store t a x => (szA P t).bind fun m => (rsR n x).bind fun x => (rsR n a).bind fun a' =>
      match a with
      | .tmp d => match M.rb d with
        | some s => if m = 1 ∧ s < n then some (.stE s a' x) else none
        | none => some (.st m a' x)
      | _ => some (.st m a' x)
  | .nilCheck x => (rsR n x).bind fun x => some (.nck x)
  | .binOp op t x y _ =>
      if isNilC y then (sliceT P t).bind fun _ => (rsR n x).bind fun x =>
        match op with
        | .eql => some (.eqn false x)
        | .neq => some (.eqn true x)
        | _ => none
      else (rsR n x).bind fun x => (rsR n y).bind fun y =>
        if (intT P t).isSome ∨ isStrT P t = true then some (.bin op x y)
        else match op with
          | .eql => eqOf P t false x y
          | .neq => eqOf P t true x y
          | _ => none
  | .unOp .not _ x => (rsR n x).bind fun x => some (.not x)
  | .unOp .neg _ x => (rsR n x).bind fun x => some (.neg x)
  | .convert s d x => (rsR n x).bind fun x =>
      if s = d then (if (sliceT P s).bind (intT P) = some .u8 then some (.frz x) else none) else
      match intT P d with
      | some k => if (P.underlying s).isSome = true then some (.toInt k x) else none
      | none =>
        match isStrT P s, isStrT P d with
        | true, true => some (.strStr x)
        | true, false => (sliceT P d).bind fun e => if intT P e = some .u8 then some (.toSl x) else none
        | false, true => (sliceT P s).bind fun e => if intT P e = some .u8 then some (.toStr x) else none
        | false, false => none
  | .makeInterface t x => if isIfaceT P t = some false then (rsR n x).bind fun x => some (.iface t x) else none
  | .slice t x lo hi none => (rsR n x).bind fun x => (rsQ n lo).bind fun lo => (rsQ n hi).bind fun hi =>
      match sliceT P t with
      | some e => (szA P e).bind fun sz => some (.slice sz x lo hi)
      | none => if isStrT P t = true then some (.sliceS x lo hi) else none
  | .fieldAddr s x f => (fieldA P s f).bind fun off => (rsR n x).bind fun x => some (.fld off x)
  | .indexAddr t x i => (rsR n x).bind fun x => (rsR n i).bind fun i =>
      match sliceT P t with
      | some e => (szA P e).bind fun sz => some (.idx sz x i)
      | none => (arrT P t).bind fun me => (szA P me.2).bind fun s => some (.idxA me.1 s x i)
  | .index t x i => (rsR n x).bind fun x => (rsR n i).bind fun i =>
      match arrT P t with
      | some (m, e) => if szA P e = some 1 ∧ aggT P e = some false then some (.ixA m x i) else none
      | none => if isStrT P t = true then some (.ixS x i) else none
  | .extract x i => (rsR n x).bind fun x => some (.ext x i)
  | .call c => rsCall P ms n c
  | _ => none

/-! ### frames as lists of all slots -/
def toL (n : Nat) (F : Fr) : List AV := (List.range n).map (look F)
theorem toL_len (n : Nat) (F : Fr) : (toL n F).length = n := by simp [toL]
theorem toL_get {n i : Nat} {F : Fr} (h : i < n) : (toL n F).getD i .top = look F i := by simp [toL, List.getD, h]
theorem look_cons {j : Nat} {v : AV} {F : Fr} {i : Nat} : look ((j, v) :: F) i = if j = i then v else look F i := by
  simp only [look]
  by_cases h : j = i
  · rw [if_pos h, show Nat.beq j i = true from Nat.beq_eq ▸ (by simpa using h)]; rfl
  · rw [if_neg h, show Nat.beq j i = false from by cases hb : Nat.beq j i; rfl; exact absurd (Nat.eq_of_beq_eq_true hb) h]; rfl
theorem toL_set {n d : Nat} {F : Fr} {v : AV} (h : d < n) : (toL n F).set d v = toL n ((d, v) :: F) := by
  apply List.ext_getElem?
  intro i
  rw [List.getElem?_set]
  simp only [toL, List.getElem?_map, List.length_map, List.length_range]
  by_cases hd : d = i
  · subst hd; simp [h, look_cons]
  · rw [if_neg hd]
    cases hr : (List.range n)[i]? with
    | none => rfl
    | some j =>
      have : j = i := by
        have := List.getElem?_eq_some_iff.1 hr
        obtain ⟨_, hj⟩ := this
        simpa using hj.symm
      subst this
      simp [look_cons, hd]

theorem rsR_ev {n : Nat} {x : Operand} {r : RO} {F : Fr} (h : rsR n x = some r) : ev (toL n F) x = ro F r := by
  cases x with
  | tmp i =>
    simp only [rsR] at h
    split at h
    · rename_i hi; cases h; exact toL_get hi
    · cases h
  | const v => simp only [rsR, Option.some.injEq] at h; subst h; rfl
  | func f => simp only [rsR, Option.some.injEq] at h; subst h; rfl
  | global g => cases h
theorem rsRs_ev {n : Nat} {F : Fr} : ∀ {xs : List Operand} {rs : List RO}, rsRs n xs = some rs → xs.map (ev (toL n F)) = roL F rs
  | [], rs, h => by simp only [rsRs, Option.some.injEq] at h; subst h; rfl
  | x :: xs, rs, h => by
    simp only [rsRs, Option.bind_eq_some_iff, Option.some.injEq] at h
    obtain ⟨a, ha, b, hb, rfl⟩ := h
    simp only [List.map_cons, roL, rsR_ev ha, rsRs_ev hb]
theorem rsP_ev {n : Nat} {F : Fr} : ∀ {xs : List (Nat × Operand)} {rs : List (Nat × RO)}, rsP n xs = some rs → (xs.map fun p => (p.1, ev (toL n F) p.2)) = roP F rs
  | [], rs, h => by simp only [rsP, Option.some.injEq] at h; subst h; rfl
  | (i, x) :: xs, rs, h => by
    simp only [rsP, Option.bind_eq_some_iff, Option.some.injEq] at h
    obtain ⟨a, ha, b, hb, rfl⟩ := h
    simp only [List.map_cons, roP, rsR_ev ha, rsP_ev hb]
theorem rsQ_opt {n : Nat} {F : Fr} {x : Option Operand} {r : Option RO} {d m : Int} {K : Int → Prop} (h : rsQ n x = some r) (hm : optE F r d = some m) (hk : K m) : optA (toL n F) x d K := by
  cases x with
  | none =>
    simp only [rsQ, Option.some.injEq] at h; subst h
    simp only [optE, Option.some.injEq] at hm; subst hm; exact hk
  | some x =>
    simp only [rsQ, Option.bind_eq_some_iff, Option.some.injEq] at h
    obtain ⟨a, ha, rfl⟩ := h
    simp only [optE] at hm
    simp only [optA, rsR_ev ha]
    unfold bndE at hm
    split at hm
    · rename_i hv; rw [hv]; simp only [Option.some.injEq] at hm; subst hm; exact hk
    · cases hm
theorem rsQ_sub {n : Nat} {x : Option Operand} {r : Option RO} {o : Own} (h : rsQ n x = some r) : subA x o = subB r o := by
  cases x with
  | none => simp only [rsQ, Option.some.injEq] at h; subst h; cases o <;> rfl
  | some x =>
    simp only [rsQ, Option.bind_eq_some_iff, Option.some.injEq] at h
    obtain ⟨a, ha, rfl⟩ := h
    cases o <;> rfl
end Go.Proofs.Ythpomdoaiibnfaa.Abs
