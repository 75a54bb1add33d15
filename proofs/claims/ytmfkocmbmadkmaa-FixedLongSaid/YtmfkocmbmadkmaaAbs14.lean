/- Regions and code, read abstractly; a region in the order of the text does what its reading says. -/
import Derived.Test.YtmfkocmbmadkmaaAbs13
import Derived.Orders
namespace Go.Proofs.Ytmfkocmbmadkmaa.Abs
open Go Go.RowKit
set_option linter.unusedVariables false
set_option linter.unusedSimpArgs false

def setO (F : List AV) (d : Option Tmp) (v : AV) : List AV :=
  match d with
  | some d => F.set d v
  | none => F

def wantA (ops : List Oper) (o : Oper) (F : List AV) : Option Bool :=
  match o.guard with
  | none => some true
  | some (j, want) =>
    match (ops[j]?).bind (·.dst) with
    | some d =>
      match F.getD d .top with
      | .bool b => some (b == want)
      | .top => none
      | _ => some false
    | none => some false

def opsA (P : Program) (M : Modes) (ops : List Oper) : List Oper → List AV → ASt → (List AV → ASt → Prop) → Prop
  | [], F, S, K => K F S
  | o :: rest, F, S, K =>
    match wantA ops o F with
    | some true => opA P M o F S (fun v F' S' => opsA P M ops rest (setO F' o.dst v) S' K)
    | some false => opsA P M ops rest (setO F o.dst (.tuple [])) S K
    | none => False

/-! ### regions that draw their order -/
def edgesOf (o : Oper) : List Nat := (o.after.toList.filter (Region.binds .any)).map (·.on)
def preL : List Oper → List Nat → List Nat
  | [], acc => acc
  | o :: rest, acc => preL rest (acc ++ [(edgesOf o).foldl (fun s j => s ||| 2 ^ j ||| acc.getD j 0) 0])
/-- Operations that change more than their own slot. -/
def effOp (M : Modes) (o : Oper) : Bool :=
  match o.op with
  | .move _ | .pick .. | .build .. | .load .. | .nilCheck _ | .unOp .. | .makeInterface .. | .slice .. | .fieldAddr .. | .indexAddr .. | .index .. | .extract .. => false
  | .convert s d _ => s == d
  | .binOp _ _ _ y _ => isNilC y
  | .buildSlice .. => match o.dst with | some d => M.own d | none => true
  | .call { callee := .builtin .len, .. } | .call { callee := .builtin .min, .. } | .call { callee := .builtin .max, .. } | .call { callee := .builtin .cap, .. } => false
  | _ => true
/-- Operations whose value hangs on their operands alone. -/
def pureOp (o : Oper) : Bool :=
  match o.op with
  | .move _ | .pick .. | .build .. | .nilCheck _ | .unOp .. | .makeInterface .. | .index .. | .extract .. => true
  | .binOp _ _ _ y _ => !isNilC y
  | .call { callee := .builtin .len, .. } | .call { callee := .builtin .min, .. } | .call { callee := .builtin .max, .. } | .call { callee := .builtin .cap, .. } => true
  | _ => false
def looks (ops : List Oper) (o : Oper) : List Tmp :=
  (o.op.operands.toList.filterMap fun | .tmp t => some t | _ => none) ++
  (match o.guard with
   | some (g, _) => ((ops[g]?).bind (·.dst)).toList
   | none => [])
def names (ops : List Oper) (o : Oper) : List Tmp := looks ops o ++ o.dst.toList

def ordB (M : Modes) (ops : List Oper) (pre : List Nat) : List Nat → Bool
  | [] => true
  | i :: rest => (!((ops[i]?).map (effOp M)).getD true || rest.all (fun j => (pre.getD j 0).testBit i)) && rest.all (fun j => !(pre.getD i 0).testBit j && !(i == j)) && ordB M ops pre rest
def drawOk (P : Program) (M : Modes) (ops : List Oper) (ord : List Nat) : Bool :=
  let pre := preL ops []
  P.follows .mixedOrders &&
  (List.range ops.length).all (fun i => ord.contains i) && ord.all (fun i => decide (i < ops.length)) &&
  ops.zipIdx.all (fun (o, i) => (edgesOf o).all (fun j => decide (j < i))) &&
  ordB M ops pre ord &&
  ops.zipIdx.all (fun (o, i) => match o.dst with
    | some t => ops.zipIdx.all fun (p, j) => i == j && !(looks ops p).contains t || !(names ops p).contains t || (pre.getD j 0).testBit i || (effOp M o && (pre.getD i 0).testBit j || effOp M o && i == j)
    | none => true)

def M0 (M : Modes) : Modes := { M with rb := fun _ => none }

def recheckA (P : Program) (M : Modes) (ops : List Oper) (F : List AV) (S : ASt) : List Nat → Prop
  | [] => True
  | j :: js =>
    (match ops[j]? with
     | some o =>
       match wantA ops o F with
       | some true => opA P (M0 M) o F S (fun v _ _ => match o.dst with | some d => v = F.getD d .top | none => True)
       | _ => True
     | none => True) ∧ recheckA P M ops F S js

def drawGo (P : Program) (M : Modes) (ops : List Oper) (pre : List Nat) : List Nat → List Nat → List AV → ASt → (List AV → ASt → Prop) → Prop
  | [], _, F, S, K => K F S
  | i :: rest, L, F, S, K =>
    match ops[i]? with
    | none => False
    | some o =>
      match wantA ops o F with
      | none => False
      | some false => drawGo P M ops pre rest L (setO F o.dst (.tuple [])) S K
      | some true =>
        if effOp M o then
          opA P (M0 M) o F S (fun v F' S' =>
            match L.filter (fun j => !(pre.getD i 0).testBit j) with
            | [] => drawGo P M ops pre rest [] (setO F' o.dst v) S' K
            | j :: js => recheckA P M ops (setO F' o.dst v) S' (j :: js) ∧ drawGo P M ops pre rest (j :: js) (setO F' o.dst v) S' K)
        else
          opA P (M0 M) o F S (fun v F' S' => drawGo P M ops pre rest (if pureOp o then L else i :: L) (setO F' o.dst v) S' K)

def drawA (P : Program) (M : Modes) (ops : List Oper) (ord : List Nat) (F : List AV) (S : ASt) (K : List AV → ASt → Prop) : Prop :=
  drawOk P M ops ord = true ∧ drawGo P M ops (preL ops []) ord [] F S K

/-! ### code -/
inductive Ex where
  | normal
  | exit (id : Nat)
  | ret

section
variable {P : Program} {M : Modes} {E : Env} {S : ASt} {w : World} {o : Oper} {a : Act} {F : List AV}

def Reach (E : Env) (S : ASt) (w : World) (n : Nat) (K : List AV → ASt → Prop) (a' : Act) (w' : World) : Prop :=
  ∃ E' S' F', Evolves E S w E' S' w' ∧ Rel E' S' w' ∧ FRel E' S' w' F' a'.tmps ∧ a'.defers = [] ∧ F'.length = n ∧ K F' S'

def Post (E : Env) (S : ASt) (w : World) (n : Nat) (Q : Ex → List AV → ASt → Prop) : Exit → Act → World → Prop
  | .normal, a', w' => Reach E S w n (Q .normal) a' w'
  | .exit id, a', w' => Reach E S w n (Q (.exit id)) a' w'
  | .ret, a', w' => Reach E S w n (Q .ret) a' w'
  | _, _, _ => False

theorem Reach.mono {n : Nat} {K K' : List AV → ASt → Prop} {a' : Act} {w' : World} (h : Reach E S w n K a' w') (hk : ∀ F S, F.length = n → K F S → K' F S) : Reach E S w n K' a' w' :=
  let ⟨E', S', F', h1, h2, h3, h4, h5, h6⟩ := h
  ⟨E', S', F', h1, h2, h3, h4, h5, hk _ _ h5 h6⟩

theorem Reach.pre {E1 : Env} {S1 : ASt} {w1 : World} {n : Nat} {K : List AV → ASt → Prop} {a' : Act} {w' : World} (ev : Evolves E S w E1 S1 w1) (h : Reach E1 S1 w1 n K a' w') : Reach E S w n K a' w' :=
  let ⟨E', S', F', h1, h2, h3, h4, h5, h6⟩ := h
  ⟨E', S', F', ev.trans h1, h2, h3, h4, h5, h6⟩

theorem FRel.put (hF : FRel E S w F a.tmps) (d : Option Tmp) {v : AV} {cv : Value} (h : VRel E S w v cv) : FRel E S w (setO F d v) (a.put d cv).tmps := by
  cases d with
  | none => exact hF
  | some d => exact hF.set d h

theorem put_defers (d : Option Tmp) (cv : Value) (hd : a.defers = []) : (a.put d cv).defers = [] := by cases d <;> exact hd

theorem setO_length (d : Option Tmp) (v : AV) : (setO F d v).length = F.length := by cases d <;> simp [setO]

theorem undef_rel : VRel E S w (.tuple []) undef := VRel.tuple [] #[] rfl (by simp)

theorem wantA_sound {ops : List Oper} {b : Bool} (hF : FRel E S w F a.tmps) (h : wantA ops o F = some b) : Region.wanted o (yielded ops.toArray a.tmps) = b := by
  unfold wantA at h
  unfold Region.wanted
  split at h
  · rename_i hg; cases h; rw [hg]
  · rename_i j want hg
    rw [hg]
    simp only
    unfold yielded
    rw [List.getElem?_toArray]
    split at h
    · rename_i d hd
      rw [hd]
      simp only [Option.bind_some]
      have hr := hF.2 d
      by_cases hlt : d < F.length
      · have hlt' : d < a.tmps.size := hF.1 ▸ hlt
        obtain ⟨cv, h1, h2⟩ := arr_get hlt'
        rw [h2] at hr
        rw [h1]
        split at h
        · rename_i b' hb'
          rw [hb'] at hr
          cases hr
          cases h
          cases b' <;> cases want <;> rfl
        · cases h
        · rename_i hnb hnt
          cases h
          cases cv with
          | bool b' =>
            cases hq : F.getD d AV.top <;> rw [hq] at hr <;> cases hr
            · exact absurd hq hnt
            · exact absurd hq (hnb _)
          | _ => simp
      · rw [show F.getD d .top = .top by simp [List.getD, hlt]] at h
        cases h
    · rename_i hd
      cases h
      rw [hd]; simp

theorem opsA_sound {ops : List Oper} : ∀ (rest : List Oper) (E : Env) (S : ASt) (w : World) (F : List AV) (a : Act) (K : List AV → ASt → Prop) (Q : Exit → Act → World → Prop), Rel E S w → FRel E S w F a.tmps → a.defers = [] →
    opsA P M ops rest F S K → (∀ a' w', Reach E S w F.length K a' w' → Q .normal a' w') → wpList P ops.toArray Q rest a w
  | [], E, S, w, F, a, K, Q, hR, hF, hd, h, hQ => wpList_nil (hQ _ _ ⟨E, S, F, Evolves.refl hR, hR, hF, hd, rfl, h⟩)
  | o :: rest, E, S, w, F, a, K, Q, hR, hF, hd, h, hQ => by
    simp only [opsA] at h
    unfold wpList
    split at h
    · rename_i hw
      rw [if_pos (wantA_sound hF hw)]
      refine .inl (opA_sound hR hF h ?_)
      intro E' S' w' v cv F' ev1 hR1 hv hF1 hk
      have hl : F'.length = F.length := by rw [hF1.1, hF.1]
      exact opsA_sound rest E' S' w' (setO F' o.dst v) (a.put o.dst cv) K Q hR1 (hF1.put o.dst hv) (put_defers _ _ hd) hk
        (fun a' w'' hr => hQ a' w'' (by rw [setO_length, hl] at hr; exact hr.pre ev1))
    · rename_i hw
      rw [if_neg (by rw [wantA_sound hF hw]; simp)]
      exact opsA_sound rest E S w (setO F o.dst (.tuple [])) (a.put o.dst undef) K Q hR (hF.put o.dst undef_rel) (put_defers _ _ hd) h
        (fun a' w'' hr => hQ a' w'' (by rw [setO_length] at hr; exact hr))
    · exact h.elim
end
end Go.Proofs.Ytmfkocmbmadkmaa.Abs
