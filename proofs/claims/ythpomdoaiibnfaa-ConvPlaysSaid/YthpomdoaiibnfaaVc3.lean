/- Code made ready for running, and a reading of it by wp that is sound. -/
import Derived.Test.YthpomdoaiibnfaaVc2
import Derived.Deep.LoopGhost
namespace Go.Proofs.Ythpomdoaiibnfaa.Abs
open Go Go.RowKit
set_option linter.unusedVariables false
set_option linter.unusedSimpArgs false

structure RI where
  re : Bool
  g : Option (Nat × Bool)
  op : ROp
  d : Option Nat
inductive RC where
  | nop
  | reg (l : List RI) (k : RC)
  | cond (c : RO) (x y k : RC)
  | block (id : Nat) (c k : RC)
  | loop (lv : List Nat) (c : RC)
  | exit (id : Nat)
  | ret
structure Hn where
  M : Modes
  live : Nat → List Nat := fun _ => []
  ms : List TypeId := []

/-! ### regions made ready -/
def rsG (ops : List Oper) (n : Nat) (o : Oper) : Option (Option (Nat × Bool)) :=
  match o.guard with
  | none => some none
  | some (j, w) =>
    match (ops[j]?).bind (·.dst) with
    | some d => if d < n then some (some (d, w)) else none
    | none => none
def rsI (P : Program) (M : Modes) (ms : List TypeId) (n : Nat) (ops : List Oper) (re : Bool) (o : Oper) : Option RI :=
  (rsG ops n o).bind fun g =>
    match o.dst with
    | some d => if d < n then some ⟨re, g, (rsO P M ms n o).getD .no, some d⟩ else none
    | none => some ⟨re, g, (rsO P M ms n o).getD .no, none⟩
def rsT (P : Program) (M : Modes) (ms : List TypeId) (n : Nat) (ops : List Oper) : List Oper → Option (List RI)
  | [] => some []
  | o :: r => (rsI P M ms n ops false o).bind fun i => (rsT P M ms n ops r).bind fun l => some (i :: l)
def rsRe (P : Program) (M : Modes) (ms : List TypeId) (n : Nat) (ops : List Oper) : List Nat → Option (List RI)
  | [] => some []
  | j :: js => (ops[j]?).bind fun o => (rsI P M ms n ops true o).bind fun i => (rsRe P M ms n ops js).bind fun l => some (i :: l)
def rsD (P : Program) (M : Modes) (ms : List TypeId) (n : Nat) (ops : List Oper) (pre : List Nat) : List Nat → List Nat → Option (List RI)
  | [], _ => some []
  | i :: rest, L => (ops[i]?).bind fun o => (rsI P (M0 M) ms n ops false o).bind fun ri =>
    if effOp M o then
      (rsRe P (M0 M) ms n ops (L.filter (fun j => !(pre.getD i 0).testBit j))).bind fun res =>
        (rsD P M ms n ops pre rest (if o.guard.isNone then L.filter (fun j => !(pre.getD i 0).testBit j) else L)).bind fun r => some (ri :: (res ++ r))
    else (rsD P M ms n ops pre rest (if pureOp o then L else i :: L)).bind fun r => some (ri :: r)

/-! ### regions read -/
def putO (F : Fr) (d : Option Nat) (v : AV) : Fr :=
  match d with
  | some d => (d, v) :: F
  | none => F
def gK3 (v : AV) (w : Bool) (A B : Prop) : Prop :=
  match v with
  | .bool b => if b = w then A else B
  | .top => False
  | _ => B
def sameO (F : Fr) (d : Option Nat) (v : AV) : Prop :=
  match d with
  | some d => v = look F d
  | none => True
def chk (r : ROp) (F : Fr) (S : ASt) (d : Option Nat) : Prop := ∃ v S', ropE r F S = some (v, S') ∧ sameO F d v
def wantV (v : AV) (w : Bool) : Option Bool :=
  match v with
  | .bool b => some (b == w)
  | .top => none
  | _ => some false
def rRun (P : Program) (i : RI) (F : Fr) (S : ASt) (K : Fr → ASt → Prop) : Prop :=
  match i.re with
  | true => chk i.op F S i.d ∧ K F S
  | false => ropK P i.op F S fun v F' S' => K (putO F' i.d v) S'
def rSkip (i : RI) (F : Fr) (S : ASt) (K : Fr → ASt → Prop) : Prop :=
  match i.re with
  | true => K F S
  | false => K (putO F i.d (.tuple [])) S
def wpI (P : Program) : List RI → (Fr → ASt → Prop) → Fr → ASt → Prop
  | [], K, F, S => K F S
  | i :: r, K, F, S =>
    match i.g with
    | none => rRun P i F S (wpI P r K)
    | some (t, w) => gK3 (look F t) w (rRun P i F S (wpI P r K)) (rSkip i F S (wpI P r K))

section
variable {P : Program} {M : Modes} {ms : List TypeId} {n : Nat} {ops : List Oper} {F : Fr} {S : ASt} {K : Fr → ASt → Prop} {K' : List AV → ASt → Prop}

theorem rsG_none {o : Oper} (h : rsG ops n o = some none) {F : List AV} : wantA ops o F = some true := by
  unfold rsG at h
  unfold wantA
  split at h
  · rename_i hg; rw [hg]
  · split at h
    · split at h <;> cases h
    · cases h
theorem rsG_some {o : Oper} {t : Nat} {w : Bool} (h : rsG ops n o = some (some (t, w))) : wantA ops o (toL n F) = wantV (look F t) w := by
  unfold rsG at h
  unfold wantA
  split at h
  · cases h
  · rename_i j w' hg
    rw [hg]
    split at h
    · rename_i d hd
      split at h
      · rename_i hlt
        simp only [Option.some.injEq, Prod.mk.injEq] at h
        obtain ⟨rfl, rfl⟩ := h
        simp only [hd, toL_get hlt]
        unfold wantV
        cases look F d <;> rfl
      · cases h
    · cases h
theorem gK3_want {v : AV} {w : Bool} {A B : Prop} (h : gK3 v w A B) : (wantV v w = some true ∧ A) ∨ (wantV v w = some false ∧ B) := by
  unfold gK3 at h
  split at h
  · rename_i b
    split at h
    · rename_i e; subst e; exact .inl ⟨by simp [wantV], h⟩
    · rename_i e
      have : (b == w) = false := by simpa using e
      exact .inr ⟨by simp [wantV, this], h⟩
  · exact h.elim
  · rename_i h1 h2
    refine .inr ⟨?_, h⟩
    unfold wantV
    cases v <;> first | rfl | exact absurd rfl (h1 _) | exact absurd rfl h2

theorem rsI_some {o : Oper} {re : Bool} {i : RI} (h : rsI P M ms n ops re o = some i) :
    i.re = re ∧ rsG ops n o = some i.g ∧ i.op = (rsO P M ms n o).getD .no ∧ i.d = o.dst ∧ ∀ d, o.dst = some d → d < n := by
  unfold rsI at h
  simp only [Option.bind_eq_some_iff] at h
  obtain ⟨g, hg, h⟩ := h
  split at h
  · rename_i d hd
    split at h
    · rename_i hlt
      simp only [Option.some.injEq] at h; subst h
      exact ⟨rfl, hg, rfl, hd.symm, fun d' hd' => by rw [hd] at hd'; cases hd'; exact hlt⟩
    · cases h
  · rename_i hd
    simp only [Option.some.injEq] at h; subst h
    exact ⟨rfl, hg, rfl, hd.symm, fun d' hd' => by rw [hd] at hd'; cases hd'⟩

theorem toL_put {o : Oper} {d : Option Nat} {v : AV} (hd : d = o.dst) (hlt : ∀ d, o.dst = some d → d < n) : setO (toL n F) o.dst v = toL n (putO F d v) := by
  subst hd
  cases h : o.dst with
  | none => rfl
  | some d => exact toL_set (hlt d h)

theorem ropK_getD {o : Oper} {K : AV → Fr → ASt → Prop} {K' : AV → List AV → ASt → Prop} (hk : ∀ v G S', K v G S' → K' v (toL n G) S') (hr : ropK P ((rsO P M ms n o).getD .no) F S K) : opA P M o (toL n F) S K' := by
  cases h : rsO P M ms n o with
  | none =>
    rw [h] at hr
    obtain ⟨v, S', h1, _⟩ := hr
    cases h1
  | some r => rw [h] at hr; exact rop_ok h hk hr

/-- A region in the order of the text. -/
theorem wpI_text : ∀ {rest : List Oper} {l : List RI} {F : Fr} {S : ASt}, rsT P M ms n ops rest = some l → wpI P l K F S → (∀ G S, K G S → K' (toL n G) S) → opsA P M ops rest (toL n F) S K'
  | [], l, F, S, h, hw, hk => by simp only [rsT, Option.some.injEq] at h; subst h; exact hk _ _ hw
  | o :: rest, l, F, S, h, hw, hk => by
    simp only [rsT, Option.bind_eq_some_iff, Option.some.injEq] at h
    obtain ⟨i, hi, l, hl, rfl⟩ := h
    obtain ⟨hre, hg, hop, hd, hlt⟩ := rsI_some hi
    have hrun : rRun P i F S (wpI P l K) → opA P M o (toL n F) S (fun v F' S' => opsA P M ops rest (setO F' o.dst v) S' K') := by
      intro hr
      simp only [rRun, hre, hop] at hr
      refine ropK_getD ?_ hr
      intro v G S' hv
      rw [toL_put hd hlt]
      exact wpI_text hl hv hk
    have hskip : rSkip i F S (wpI P l K) → opsA P M ops rest (setO (toL n F) o.dst (.tuple [])) S K' := by
      intro hr
      simp only [rSkip, hre] at hr
      rw [toL_put hd hlt]
      exact wpI_text hl hr hk
    simp only [wpI] at hw
    simp only [opsA]
    cases hgg : i.g with
    | none =>
      rw [hgg] at hw hg
      rw [rsG_none hg]
      exact hrun hw
    | some tw =>
      obtain ⟨t, w⟩ := tw
      rw [hgg] at hw hg
      rw [rsG_some hg]
      rcases gK3_want hw with ⟨e, hw⟩ | ⟨e, hw⟩
      · rw [e]; exact hrun hw
      · rw [e]; exact hskip hw

def rck1 (P : Program) (M : Modes) (ops : List Oper) (F : List AV) (S : ASt) (j : Nat) : Prop :=
  match ops[j]? with
  | some o =>
    match wantA ops o F with
    | some true => opA P (M0 M) o F S (fun v _ _ => match o.dst with | some d => v = F.getD d .top | none => True)
    | _ => True
  | none => True
theorem recheck_of {F : List AV} : ∀ {l : List Nat}, (∀ j ∈ l, rck1 P M ops F S j) → recheckA P M ops F S l
  | [], _ => trivial
  | j :: js, h => ⟨h j (List.mem_cons_self ..), recheck_of fun x hx => h x (List.mem_cons_of_mem _ hx)⟩

theorem chk_ropK {r : ROp} {d : Option Nat} (h : chk r F S d) : ropK P r F S (fun v G _ => G = F ∧ sameO F d v) := by
  obtain ⟨v, S', h1, h2⟩ := h
  cases r with
  | call => simp [ropE] at h1
  | inv => simp [ropE] at h1
  | eqn => simp [ropE] at h1
  | stE => simp [ropE] at h1
  | _ => exact ⟨v, S', h1, rfl, h2⟩

theorem wpI_re {l : List RI} : ∀ {js : List Nat} {res : List RI}, rsRe P (M0 M) ms n ops js = some res → wpI P (res ++ l) K F S → (∀ j ∈ js, rck1 P M ops (toL n F) S j) ∧ wpI P l K F S
  | [], res, h, hw => by simp only [rsRe, Option.some.injEq] at h; subst h; exact ⟨fun j hj => by (cases hj), hw⟩
  | j :: js, res, h, hw => by
    simp only [rsRe, Option.bind_eq_some_iff, Option.some.injEq] at h
    obtain ⟨o, ho, i, hi, res, hres, rfl⟩ := h
    obtain ⟨hre, hg, hop, hd, hlt⟩ := rsI_some hi
    have hrun : rRun P i F S (wpI P (res ++ l) K) → opA P (M0 M) o (toL n F) S (fun v _ _ => match o.dst with | some d => v = (toL n F).getD d .top | none => True) ∧ wpI P (res ++ l) K F S := by
      intro hr
      simp only [rRun, hre] at hr
      refine ⟨?_, hr.2⟩
      have := chk_ropK (P := P) hr.1
      rw [hop] at this
      refine ropK_getD ?_ this
      rintro v G S' ⟨rfl, hv⟩
      cases hdd : o.dst with
      | none => trivial
      | some d =>
        rw [hd, hdd] at hv
        show v = (toL n G).getD d .top
        rw [toL_get (hlt d hdd)]; exact hv
    have hskip : rSkip i F S (wpI P (res ++ l) K) → wpI P (res ++ l) K F S := by
      intro hr
      simpa only [rSkip, hre] using hr
    have key : rck1 P M ops (toL n F) S j ∧ wpI P (res ++ l) K F S := by
      simp only [List.cons_append, wpI] at hw
      unfold rck1
      rw [ho]
      simp only
      cases hgg : i.g with
      | none =>
        rw [hgg] at hw hg
        rw [rsG_none hg]
        exact hrun hw
      | some tw =>
        obtain ⟨t, w⟩ := tw
        rw [hgg] at hw hg
        rw [rsG_some hg]
        rcases gK3_want hw with ⟨e, hw⟩ | ⟨e, hw⟩
        · rw [e]; exact hrun hw
        · rw [e]; exact ⟨trivial, hskip hw⟩
    obtain ⟨h1, h2⟩ := wpI_re hres key.2
    refine ⟨fun x hx => ?_, h2⟩
    rcases List.mem_cons.1 hx with rfl | hx
    · exact key.1
    · exact h1 x hx

/-- A region that draws its order. -/
theorem wpI_draw : ∀ {rest L L2 : List Nat} {l : List RI} {F : Fr} {S : ASt}, (∀ j ∈ L, j ∈ L2) → rsD P M ms n ops (preL ops []) rest L2 = some l → wpI P l K F S → (∀ G S, K G S → K' (toL n G) S) →
    drawGo P M ops (preL ops []) rest L (toL n F) S K'
  | [], L, L2, l, F, S, hL, h, hw, hk => by simp only [rsD, Option.some.injEq] at h; subst h; exact hk _ _ hw
  | i :: rest, L, L2, l, F, S, hL, h, hw, hk => by
    simp only [rsD, Option.bind_eq_some_iff] at h
    obtain ⟨o, ho, ri, hri, h⟩ := h
    obtain ⟨hre, hg, hop, hd, hlt⟩ := rsI_some hri
    simp only [drawGo, ho]
    split at h
    · rename_i heff
      simp only [Option.bind_eq_some_iff, Option.some.injEq] at h
      obtain ⟨res, hres, r, hr, rfl⟩ := h
      have hrun : rRun P ri F S (wpI P (res ++ r) K) → opA P (M0 M) o (toL n F) S (fun v F' S' =>
            match L.filter (fun j => !((preL ops []).getD i 0).testBit j) with
            | [] => drawGo P M ops (preL ops []) rest [] (setO F' o.dst v) S' K'
            | j :: js => recheckA P M ops (setO F' o.dst v) S' (j :: js) ∧ drawGo P M ops (preL ops []) rest (j :: js) (setO F' o.dst v) S' K') := by
        intro hx
        simp only [rRun, hre, hop] at hx
        refine ropK_getD ?_ hx
        intro v G S' hv
        rw [toL_put hd hlt]
        obtain ⟨h1, h2⟩ := wpI_re hres hv
        have hsub : ∀ j ∈ L.filter (fun j => !((preL ops []).getD i 0).testBit j), j ∈ L2.filter (fun j => !((preL ops []).getD i 0).testBit j) := by
          intro j hj
          rw [List.mem_filter] at hj ⊢
          exact ⟨hL j hj.1, hj.2⟩
        have hsub2 : ∀ j ∈ L.filter (fun j => !((preL ops []).getD i 0).testBit j), j ∈ (if o.guard.isNone = true then L2.filter (fun j => !((preL ops []).getD i 0).testBit j) else L2) := by
          intro j hj
          split
          · exact hsub j hj
          · exact hL j (List.mem_filter.1 hj).1
        have hgo := wpI_draw hsub2 hr h2 hk
        have hck : ∀ j ∈ L.filter (fun j => !((preL ops []).getD i 0).testBit j), rck1 P M ops (toL n (putO G ri.d v)) S' j := fun j hj => h1 j (hsub j hj)
        generalize L.filter (fun j => !((preL ops []).getD i 0).testBit j) = L' at hgo hck
        cases L' with
        | nil => exact hgo
        | cons j js => exact ⟨recheck_of hck, hgo⟩
      have hskip : rSkip ri F S (wpI P (res ++ r) K) → o.guard ≠ none → drawGo P M ops (preL ops []) rest L (setO (toL n F) o.dst (.tuple [])) S K' := by
        intro hx hgn
        simp only [rSkip, hre] at hx
        rw [toL_put hd hlt]
        obtain ⟨h1, h2⟩ := wpI_re hres hx
        rw [if_neg (by cases hgg : o.guard with | none => exact absurd hgg hgn | some x => simp)] at hr
        exact wpI_draw hL hr h2 hk
      simp only [wpI] at hw
      rw [if_pos heff]
      cases hgg : ri.g with
      | none =>
        rw [hgg] at hw hg
        rw [rsG_none hg]
        exact hrun hw
      | some tw =>
        obtain ⟨t, w⟩ := tw
        rw [hgg] at hw hg
        have hgn : o.guard ≠ none := by
          intro e
          unfold rsG at hg
          rw [e] at hg
          cases hg
        rw [rsG_some hg]
        rcases gK3_want hw with ⟨e, hw⟩ | ⟨e, hw⟩
        · rw [e]; exact hrun hw
        · rw [e]; exact hskip hw hgn
    · rename_i heff
      simp only [Option.bind_eq_some_iff, Option.some.injEq] at h
      obtain ⟨r, hr, rfl⟩ := h
      have hrun : rRun P ri F S (wpI P r K) → opA P (M0 M) o (toL n F) S (fun v F' S' => drawGo P M ops (preL ops []) rest (if pureOp o then L else i :: L) (setO F' o.dst v) S' K') := by
        intro hx
        simp only [rRun, hre, hop] at hx
        refine ropK_getD ?_ hx
        intro v G S' hv
        rw [toL_put hd hlt]
        refine wpI_draw ?_ hr hv hk
        intro j hj
        split at hj
        · rename_i hp; rw [if_pos hp]; exact hL j hj
        · rename_i hp
          rw [if_neg hp]
          rcases List.mem_cons.1 hj with rfl | hj
          · exact List.mem_cons_self ..
          · exact List.mem_cons_of_mem _ (hL j hj)
      have hskip : rSkip ri F S (wpI P r K) → drawGo P M ops (preL ops []) rest L (setO (toL n F) o.dst (.tuple [])) S K' := by
        intro hx
        simp only [rSkip, hre] at hx
        rw [toL_put hd hlt]
        refine wpI_draw ?_ hr hx hk
        intro j hj
        split
        · exact hL j hj
        · exact List.mem_cons_of_mem _ (hL j hj)
      simp only [wpI] at hw
      rw [if_neg heff]
      cases hgg : ri.g with
      | none =>
        rw [hgg] at hw hg
        rw [rsG_none hg]
        exact hrun hw
      | some tw =>
        obtain ⟨t, w⟩ := tw
        rw [hgg] at hw hg
        rw [rsG_some hg]
        rcases gK3_want hw with ⟨e, hw⟩ | ⟨e, hw⟩
        · rw [e]; exact hrun hw
        · rw [e]; exact hskip hw
end

/-! ### code made ready, code read -/
def fstReg : Code → Nat
  | .region id _ _ => id
  | .seq a _ => fstReg a
  | .block _ c => fstReg c
  | .loop c => fstReg c
  | _ => 0
def cmp (P : Program) (H : Hn) (n : Nat) : Code → RC → Option RC
  | .skip, k => some k
  | .region id ops draw, k =>
    match draw with
    | true => match drawOk P H.M ops.toList (H.M.ord id) with
      | true => (rsD P H.M H.ms n ops.toList (preL ops.toList []) (H.M.ord id) []).bind fun l => some (.reg l k)
      | false => none
    | false => (rsT P H.M H.ms n ops.toList ops.toList).bind fun l => some (.reg l k)
  | .seq a b, k => (cmp P H n b k).bind fun k => cmp P H n a k
  | .cond c x y, k => (rsR n c).bind fun c => (cmp P H n x .nop).bind fun x => (cmp P H n y .nop).bind fun y => some (.cond c x y k)
  | .block id c, k => (cmp P H n c .nop).bind fun c => some (.block id c k)
  | .loop c, k => (cmp P H n c .nop).bind fun c' => some (.loop (H.live (fstReg c)) c')
  | .exit id, _ => some (.exit id)
  | .ret, _ => some .ret
  | _, _ => none

/-- A frame that knows less. -/
def Sub (G F : Fr) : Prop := ∀ i, look G i = .top ∨ look G i = look F i
theorem Sub.refl (F : Fr) : Sub F F := fun i => .inr rfl
def SubL (F : Fr) : Fr → Prop
  | [] => True
  | (i, v) :: r => look F i = v ∧ SubL F r
theorem SubL.sub {F : Fr} : ∀ {G : Fr}, SubL F G → Sub G F
  | [], _, i => .inl rfl
  | (j, v) :: r, h, i => by
    rw [look_cons]
    split
    · rename_i e; subst e; exact .inr h.1.symm
    · exact SubL.sub h.2 i

def jQ (R : Fr → ASt → Prop) (Q : Ex → Fr → ASt → Prop) : Ex → Fr → ASt → Prop
  | .normal, F, S => ∃ G, Sub G F ∧ R G S
  | e, F, S => Q e F S
def kQ (A : Fr → ASt → Prop) (Q : Ex → Fr → ASt → Prop) : Ex → Fr → ASt → Prop
  | .normal, F, S => A F S
  | e, F, S => Q e F S
def bQ (id : Nat) (A : Fr → ASt → Prop) (Q : Ex → Fr → ASt → Prop) : Ex → Fr → ASt → Prop
  | .normal, F, S => A F S
  | .exit j, F, S => if j = id then A F S else Q (.exit j) F S
  | .ret, F, S => Q .ret F S
def lQ (R : Nat → Fr → ASt → Prop) (m : Nat) (Q : Ex → Fr → ASt → Prop) : Ex → Fr → ASt → Prop
  | .normal, F, S => ∃ m', m' < m ∧ ∃ G, Sub G F ∧ R m' G S
  | e, F, S => Q e F S
def cK3 (v : AV) (A B : Prop) : Prop :=
  match v with
  | .bool true => A
  | .bool false => B
  | _ => False
def wpR (P : Program) : RC → (Ex → Fr → ASt → Prop) → Fr → ASt → Prop
  | .nop, Q, F, S => Q .normal F S
  | .reg l k, Q, F, S => wpI P l (wpR P k Q) F S
  | .cond c x y k, Q, F, S => ∃ R : Fr → ASt → Prop, (∀ G S, R G S → wpR P k Q G S) ∧ cK3 (ro F c) (wpR P x (jQ R Q) F S) (wpR P y (jQ R Q) F S)
  | .block id c k, Q, F, S => wpR P c (bQ id (wpR P k Q) Q) F S
  | .loop _ c, Q, F, S => ∃ R : Nat → Fr → ASt → Prop, (∃ m G, Sub G F ∧ R m G S) ∧ ∀ m G S, R m G S → wpR P c (lQ R m Q) G S
  | .exit id, Q, F, S => Q (.exit id) F S
  | .ret, Q, F, S => Q .ret F S

def FR (E : Env) (S : ASt) (w : World) (F : Fr) (tmps : Array Value) : Prop := ∀ i, i < tmps.size → VRel E S w (look F i) (tmps.getD i undef)

section
variable {P : Program} {H : Hn} {E : Env} {S : ASt} {w : World} {a : Act} {n : Nat}

theorem FR.rel {F : Fr} {tmps : Array Value} (h : FR E S w F tmps) (hn : tmps.size = n) : FRel E S w (toL n F) tmps := by
  refine ⟨by rw [toL_len, hn], fun i => ?_⟩
  by_cases hi : i < n
  · rw [toL_get hi]; exact h i (by omega)
  · rw [show (toL n F).getD i .top = .top by simp [toL, List.getD, hi]]; exact .top _
theorem FR.of {F : Fr} {tmps : Array Value} (h : FRel E S w (toL n F) tmps) : FR E S w F tmps ∧ tmps.size = n := by
  have hn : tmps.size = n := by rw [← h.1, toL_len]
  refine ⟨fun i hi => ?_, hn⟩
  have := h.2 i
  rwa [toL_get (by omega)] at this
theorem FR.sub {F G : Fr} {tmps : Array Value} (h : FR E S w F tmps) (hs : Sub G F) : FR E S w G tmps := by
  intro i hi
  rcases hs i with e | e
  · rw [e]; exact .top _
  · rw [e]; exact h i hi

def Rch (E : Env) (S : ASt) (w : World) (n : Nat) (K : Fr → ASt → Prop) (a' : Act) (w' : World) : Prop :=
  ∃ E' S' F', Evolves E S w E' S' w' ∧ Rel E' S' w' ∧ FR E' S' w' F' a'.tmps ∧ a'.defers = [] ∧ a'.tmps.size = n ∧ K F' S'
def PostR (E : Env) (S : ASt) (w : World) (n : Nat) (Q : Ex → Fr → ASt → Prop) : Exit → Act → World → Prop
  | .normal, a', w' => Rch E S w n (Q .normal) a' w'
  | .exit id, a', w' => Rch E S w n (Q (.exit id)) a' w'
  | .ret, a', w' => Rch E S w n (Q .ret) a' w'
  | _, _, _ => False
theorem Rch.mono {K K' : Fr → ASt → Prop} {a' : Act} {w' : World} (h : Rch E S w n K a' w') (hk : ∀ F S, K F S → K' F S) : Rch E S w n K' a' w' :=
  let ⟨E', S', F', h1, h2, h3, h4, h5, h6⟩ := h
  ⟨E', S', F', h1, h2, h3, h4, h5, hk _ _ h6⟩
theorem Rch.pre {E1 : Env} {S1 : ASt} {w1 : World} {K : Fr → ASt → Prop} {a' : Act} {w' : World} (ev : Evolves E S w E1 S1 w1) (h : Rch E1 S1 w1 n K a' w') : Rch E S w n K a' w' :=
  let ⟨E', S', F', h1, h2, h3, h4, h5, h6⟩ := h
  ⟨E', S', F', ev.trans h1, h2, h3, h4, h5, h6⟩
theorem PostR.pre {E1 : Env} {S1 : ASt} {w1 : World} {Q : Ex → Fr → ASt → Prop} (ev : Evolves E S w E1 S1 w1) {e : Exit} {a' : Act} {w' : World} (h : PostR E1 S1 w1 n Q e a' w') : PostR E S w n Q e a' w' := by
  cases e with
  | normal => exact Rch.pre ev h
  | exit id => exact Rch.pre ev h
  | ret => exact Rch.pre ev h
  | _ => exact h
theorem PostR.mono {Q Q' : Ex → Fr → ASt → Prop} {e : Exit} {a' : Act} {w' : World} (h : PostR E S w n Q e a' w') (hq : ∀ e F S, Q e F S → Q' e F S) : PostR E S w n Q' e a' w' := by
  cases e with
  | normal => exact Rch.mono h (hq _)
  | exit id => exact Rch.mono h (hq _)
  | ret => exact Rch.mono h (hq _)
  | _ => exact h
theorem Rch.of {K : Fr → ASt → Prop} {F : List AV} {a' : Act} {w' : World} (h : Reach E S w n (fun FL S' => ∃ F', FL = toL n F' ∧ K F' S') a' w') : Rch E S w n K a' w' := by
  obtain ⟨E', S', F', h1, h2, h3, h4, h5, F2, rfl, h6⟩ := h
  obtain ⟨g1, g2⟩ := FR.of h3
  exact ⟨E', S', F2, h1, h2, g1, h4, g2, h6⟩

/-- The reading of code that was made ready holds of the code; k: what goes on behind it. -/
theorem wpR_sound : ∀ (c : Code) (k rc : RC) (Q : Ex → Fr → ASt → Prop) (E : Env) (S : ASt) (w : World) (F : Fr) (a : Act), cmp P H n c k = some rc → wpR P rc Q F S → Rel E S w → FR E S w F a.tmps → a.defers = [] → a.tmps.size = n →
    c.wp P (PostR E S w n (kQ (wpR P k Q) Q)) a w := by
  intro c
  induction c with
  | skip =>
    intro k rc Q E S w F a hc h hR hF hd hn
    simp only [cmp, Option.some.injEq] at hc; subst hc
    exact wp_skip ⟨E, S, F, Evolves.refl hR, hR, hF, hd, hn, h⟩
  | ret =>
    intro k rc Q E S w F a hc h hR hF hd hn
    simp only [cmp, Option.some.injEq] at hc; subst hc
    exact wp_ret ⟨E, S, F, Evolves.refl hR, hR, hF, hd, hn, h⟩
  | exit id =>
    intro k rc Q E S w F a hc h hR hF hd hn
    simp only [cmp, Option.some.injEq] at hc; subst hc
    exact wp_exit ⟨E, S, F, Evolves.refl hR, hR, hF, hd, hn, h⟩
  | region id ops draw =>
    intro k rc Q E S w F a hc h hR hF hd hn
    have hops : ops = ops.toList.toArray := by simp
    have hFL := hF.rel hn
    cases draw with
    | true =>
      simp only [cmp] at hc
      split at hc
      · rename_i hok
        simp only [Option.bind_eq_some_iff, Option.some.injEq] at hc
        obtain ⟨l, hl, rfl⟩ := hc
        rw [hops]
        refine drawA_sound (ord := H.M.ord id) (M := H.M) (K := fun FL S' => ∃ F', FL = toL n F' ∧ wpR P k Q F' S') hR hFL hd ⟨hok, wpI_draw (fun j hj => hj) hl h (fun G S hg => ⟨G, rfl, hg⟩)⟩ ?_
        intro a' w' hr
        rw [toL_len] at hr
        exact Rch.of (F := []) hr
      · cases hc
    | false =>
      simp only [cmp, Option.bind_eq_some_iff, Option.some.injEq] at hc
      obtain ⟨l, hl, rfl⟩ := hc
      refine wp_region_list ?_
      have := opsA_sound (P := P) (M := H.M) (ops := ops.toList) ops.toList E S w (toL n F) a (fun FL S' => ∃ F', FL = toL n F' ∧ wpR P k Q F' S') (PostR E S w n (kQ (wpR P k Q) Q)) hR hFL hd
        (wpI_text hl h (fun G S hg => ⟨G, rfl, hg⟩)) (fun a' w' hr => by rw [toL_len] at hr; exact Rch.of (F := []) hr)
      rwa [← hops] at this
  | seq x y ihx ihy =>
    intro k rc Q E S w F a hc h hR hF hd hn
    simp only [cmp, Option.bind_eq_some_iff] at hc
    obtain ⟨k1, hk1, hc⟩ := hc
    refine wp_seq (wp_mono (ihx k1 rc Q E S w F a hc h hR hF hd hn) ?_)
    intro e a' w' hp
    cases e with
    | normal =>
      obtain ⟨E', S', F', ev, hR', hF', hd', hn', hq⟩ := hp
      exact wp_mono (ihy k k1 Q E' S' w' F' a' hk1 hq hR' hF' hd' hn') (fun e a w hp => hp.pre ev)
    | exit id => exact hp
    | ret => exact hp
    | goto l => exact hp
    | panic c => exact hp
    | outgrown => exact hp
  | cond c x y ihx ihy =>
    intro k rc Q E S w F a hc h hR hF hd hn
    simp only [cmp, Option.bind_eq_some_iff, Option.some.injEq] at hc
    obtain ⟨c', hc', x', hx', y', hy', rfl⟩ := hc
    simp only [wpR] at h
    obtain ⟨R, hk, h⟩ := h
    have hcv := ev_rel (hF.rel hn) c
    rw [rsR_ev hc'] at hcv
    have hjoin : ∀ e a' w', PostR E S w n (kQ (wpR P .nop (jQ R Q)) (jQ R Q)) e a' w' → PostR E S w n (kQ (wpR P k Q) Q) e a' w' := by
      intro e a' w' hp
      cases e with
      | normal =>
        obtain ⟨E', S', F', ev, hR', hF', hd', hn', G, hs, hr⟩ := hp
        exact ⟨E', S', G, ev, hR', hF'.sub hs, hd', hn', hk G S' hr⟩
      | exit id => exact hp
      | ret => exact hp
      | goto l => exact hp
      | panic c => exact hp
      | outgrown => exact hp
    unfold cK3 at h
    split at h
    · rename_i hev
      rw [hev] at hcv
      have hq : a.eval c = .bool true := by cases hq : a.eval c <;> rw [hq] at hcv <;> cases hcv <;> rfl
      refine wp_cond hq ?_
      simp only [if_true]
      exact wp_mono (ihx .nop x' (jQ R Q) E S w F a hx' h hR hF hd hn) hjoin
    · rename_i hev
      rw [hev] at hcv
      have hq : a.eval c = .bool false := by cases hq : a.eval c <;> rw [hq] at hcv <;> cases hcv <;> rfl
      refine wp_cond hq ?_
      simp only [Bool.false_eq_true, if_false]
      exact wp_mono (ihy .nop y' (jQ R Q) E S w F a hy' h hR hF hd hn) hjoin
    · exact h.elim
  | block id c ih =>
    intro k rc Q E S w F a hc h hR hF hd hn
    simp only [cmp, Option.bind_eq_some_iff, Option.some.injEq] at hc
    obtain ⟨c', hc', rfl⟩ := hc
    simp only [wpR] at h
    refine wp_block (wp_mono (ih .nop c' _ E S w F a hc' h hR hF hd hn) ?_)
    intro e a' w' hp
    cases e with
    | normal => exact hp
    | exit j =>
      simp only [Exit.inBlock]
      by_cases hj : j = id
      · rw [if_pos hj]
        exact Rch.mono hp (fun F' S' hq => by simpa [hj, kQ, bQ] using hq)
      · rw [if_neg hj]
        exact Rch.mono hp (fun F' S' hq => by simpa [hj, kQ, bQ] using hq)
    | ret => exact hp
    | goto l => exact hp
    | panic c => exact hp
    | outgrown => exact hp
  | loop c ih =>
    intro k rc Q E S w F a hc h hR hF hd hn
    simp only [cmp, Option.bind_eq_some_iff, Option.some.injEq] at hc
    obtain ⟨c', hc', rfl⟩ := hc
    simp only [wpR] at h
    obtain ⟨R, ⟨m0, G0, hs0, hr0⟩, hround⟩ := h
    refine wp_loop_ghost (fun m a' w' => ∃ E' S' G, Evolves E S w E' S' w' ∧ Rel E' S' w' ∧ FR E' S' w' G a'.tmps ∧ a'.defers = [] ∧ a'.tmps.size = n ∧ R m G S') m0
      ⟨E, S, G0, Evolves.refl hR, hR, hF.sub hs0, hd, hn, hr0⟩ ?_
    rintro m a' w' ⟨E', S', G, ev, hR', hF', hd', hn', hr⟩
    refine wp_mono (ih .nop c' (lQ R m Q) E' S' w' G a' hc' (hround m G S' hr) hR' hF' hd' hn') ?_
    intro e a'' w'' hp
    cases e with
    | normal =>
      obtain ⟨E2, S2, F2, ev2, hR2, hF2, hd2, hn2, m', hlt, G2, hs2, hr2⟩ := hp
      exact ⟨m', hlt, E2, S2, G2, ev.trans ev2, hR2, hF2.sub hs2, hd2, hn2, hr2⟩
    | exit id => exact Rch.pre ev hp
    | ret => exact Rch.pre ev hp
    | goto l => exact hp
    | panic c => exact hp
    | outgrown => exact hp
  | _ => intro k rc Q E S w F a hc; simp only [cmp] at hc; cases hc
end
end Go.Proofs.Ythpomdoaiibnfaa.Abs
