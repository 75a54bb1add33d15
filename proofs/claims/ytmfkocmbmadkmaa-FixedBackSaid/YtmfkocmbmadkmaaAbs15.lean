/- An operation hangs on its operands alone; which operations yield one value, and which one hang on no state. -/
import Derived.Test.YtmfkocmbmadkmaaAbs14
namespace Go.Proofs.Ytmfkocmbmadkmaa.Abs
open Go Go.RowKit
set_option linter.unusedVariables false
set_option linter.unusedSimpArgs false

def optG (ρ : Operand → AV) (x : Option Operand) (d : Int) (K : Int → Prop) : Prop :=
  match x with
  | none => K d
  | some x => bndA (ρ x) K


def sliceG (P : Program) (ρ : Operand → AV) (t : TypeId) (x : AV) (lo hi : Option Operand) (S : ASt) (K : AV → Prop) : Prop :=
  match x with
  | .sl o sz xs =>
    match sliceT P t with
    | some e => (szA P e = some sz ∨ xs = []) ∧ rdA S o ∧ (szA P e).isSome = true ∧
      optG ρ lo 0 fun l => optG ρ hi xs.length fun h => (0 ≤ l ∧ l ≤ h ∧ h ≤ xs.length) ∧ K (.sl (subA lo o) sz ((xs.take h.toNat).drop l.toNat))
    | none => False
  | .str s => isStrT P t = true ∧
      optG ρ lo 0 fun l => optG ρ hi s.length fun h => (0 ≤ l ∧ l ≤ h ∧ h ≤ s.length) ∧ K (.str ((s.take h.toNat).drop l.toNat))
  | _ => False


def callG (P : Program) (c : Call) (ρ : Operand → AV) (S : ASt) (K : AV → ASt → Prop) : Prop :=
  match c.callee with
  | .value f =>
    match ρ f with
    | .func g => ACalls P g (c.args.toList.map (ρ)) S K
    | _ => False
  | .invoke r name =>
    match ρ r with
    | .iface t v =>
      match methA P t name with
      | some g => ACalls P g (v :: c.args.toList.map (ρ)) S K
      | none => False
    | _ => False
  | .builtin .len =>
    match c.args.toList.map (ρ), c.argTypes.toList with
    | [.sl _ _ xs], [t] => (sliceT P t).isSome = true ∧ K (.int .i64 xs.length) S
    | [.str l], [t] => isStrT P t = true ∧ K (.int .i64 l.length) S
    | _, _ => False
  | .builtin .cap =>
    match c.args.toList.map (ρ), c.argTypes.toList with
    | [.sl .nil _ _], [t] => (sliceT P t).isSome = true ∧ K (.int .i64 0) S
    | _, _ => False
  | .builtin .min =>
    match c.args.toList.map (ρ) with
    | [.int k x, .int k' y] => K (.int k (if y < x then y else x)) S
    | _ => False
  | .builtin .max =>
    match c.args.toList.map (ρ) with
    | [.int k x, .int k' y] => K (.int k (if x < y then y else x)) S
    | _ => False
  | .builtin .append =>
    match c.args.toList.map (ρ), c.argTypes.toList with
    | [s, x], [t, u] => appendA P t u s x S K
    | _, _ => False
  | _ => False


def storeG (P : Program) (t : TypeId) (ad v : AV) (S : ASt) (K : AV → ASt → Prop) : Prop :=
  match ad with
  | .ptr (some (o, i)) =>
    match S.objs[o]? with
    | some cs => v.box = true ∧ szA P t = some v.cells.length ∧ i + v.cells.length ≤ cs.length ∧ K .top (S.put o (setA cs i v.cells))
    | none => False
  | _ => False

def opG (P : Program) (own : Nat → Bool) (o : Oper) (ρ : Operand → AV) (S : ASt) (K : AV → ASt → Prop) : Prop :=
  match o.op with
  | .move x => K (ρ x) S
  | .assign x => K (ρ x) S
  | .pick c a b => match ρ c with
    | .bool x => K (if x then ρ a else ρ b) S
    | _ => False
  | .alloc e => match zeroA P e with
    | some cs => K (.ptr (some (S.objs.length, 0))) (S.push cs)
    | none => False
  | .box e x => (ρ x).box = true ∧ K (.ptr (some (S.objs.length, 0))) (S.push (ρ x).cells)
  | .build t parts =>
    match zeroA P t, placesA P t with
    | some z, some pl => match fillA pl z (parts.toList.map fun p => (p.1, ρ p.2)) with
      | some cs => K (.agg cs) S
      | none => False
    | _, _ => False
  | .buildSlice t n parts =>
    match sliceT P t with
    | some e => match szA P e, zeroA P e, aggT P e with
      | some sz, some z, some ag => n * sz ≤ 16777216 ∧ 0 < sz ∧ (ag = true ∨ sz = 1) ∧ match fillS sz (List.replicate n (elemA ag z)) (parts.toList.map fun p => (p.1, ρ p.2)) with
        | some xs => match o.dst with
          | some d => if own d then K (.sl (.own S.next) sz xs) S.fresh else K (.sl .ro sz xs) S
          | none => False
        | none => False
      | _, _, _ => False
    | none => False
  | .load t a => loadA P t (ρ a) S (fun v => K v S)
  | .store t a x => storeG P t (ρ a) (ρ x) S K
  | .nilCheck x => match ρ x with
    | .ptr (some p) => K (.ptr (some p)) S
    | .iface t v => K (.iface t v) S
    | _ => False
  | .binOp op t x y _ => if isNilC y then nilA P op t (ρ x) S (fun v => K v S) else binA P op t (ρ x) (ρ y) (fun v => K v S)
  | .unOp op _ x => match op, ρ x with
    | .not, .bool b => K (.bool (!b)) S
    | .neg, .int k n => K (.int k (k.wrap (0 - n))) S
    | _, _ => False
  | .convert s d x => if s = d then frzA P s (ρ x) S K else convA P s d (ρ x) S (fun v => K v S)
  | .makeInterface t x => isIfaceT P t = some false ∧ K (.iface t (ρ x)) S
  | .slice t x lo hi none => sliceG P ρ t (ρ x) lo hi S (fun v => K v S)
  | .fieldAddr s x f => match fieldA P s f with
    | some off => match ρ x with
      | .ptr (some (o, i)) => K (.ptr (some (o, i + off))) S
      | .eptr o sz xs i k => rdA S o ∧ K (.eptr o sz xs i (k + off)) S
      | _ => False
    | none => False
  | .indexAddr t x ix => idxA P t (ρ x) (ρ ix) S (fun v => K v S)
  | .index t x ix => ixA P t (ρ x) (ρ ix) (fun v => K v S)
  | .extract x i => match ρ x with
    | .tuple vs => match vs[i]? with
      | some v => K v S
      | none => False
    | _ => False
  | .call c => callG P c ρ S K
  | _ => False

section
variable {P : Program} {M : Modes} {S : ASt} {F : List AV}

theorem opA_M0 {o : Oper} {K : AV → List AV → ASt → Prop} : opA P (M0 M) o F S K ↔ opG P M.own o (ev F) S (fun v S' => K v F S') := by
  obtain ⟨dst, op, ty, pos, after, guard⟩ := o
  cases op <;> try exact Iff.rfl
  case store t ad x =>
    simp only [opA, opG, storeA, storeG]
    cases hq : ev F ad with
    | eptr ow sz xs i k =>
      cases ow <;> try exact Iff.rfl
      cases ad <;> simp [M0]
    | ptr p => cases p <;> exact Iff.rfl
    | _ => exact Iff.rfl
  case slice t x lo hi mx => cases mx <;> exact Iff.rfl

theorem bndA_mono {x : AV} {K K' : Int → Prop} (h : ∀ n, K n → K' n) : bndA x K → bndA x K' := by
  unfold bndA; cases x <;> intro hh <;> first | exact h _ hh | exact hh

theorem optG_congr {ρ ρ' : Operand → AV} {x : Option Operand} {d : Int} {K : Int → Prop} (h : ∀ y, x = some y → ρ y = ρ' y) : optG ρ x d K = optG ρ' x d K := by
  cases x with
  | none => rfl
  | some y => simp only [optG, h y rfl]

theorem parts_congr {ρ ρ' : Operand → AV} {parts : Array (Nat × Operand)} (h : ∀ x ∈ (parts.toList.map (·.2)).toArray, ρ x = ρ' x) :
    (parts.toList.map fun p => (p.1, ρ p.2)) = parts.toList.map fun p => (p.1, ρ' p.2) := by
  apply List.map_congr_left
  intro p hp
  rw [h p.2 (by simp only [List.mem_toArray, List.mem_map]; exact ⟨p, hp, rfl⟩)]

theorem opG_congr {own : Nat → Bool} {o : Oper} {ρ ρ' : Operand → AV} {K : AV → ASt → Prop} (h : ∀ x ∈ o.op.operands, ρ x = ρ' x) : opG P own o ρ S K → opG P own o ρ' S K := by
  obtain ⟨dst, op, ty, pos, after, guard⟩ := o
  cases op <;> simp only [Op.operands] at h <;> simp only [opG] <;> try exact id
  case move x => rw [h x (by simp)]; exact id
  case assign x => rw [h x (by simp)]; exact id
  case pick c a b => rw [h c (by simp), h a (by simp), h b (by simp)]; exact id
  case box e x => rw [h x (by simp)]; exact id
  case build t ps => rw [parts_congr h]; exact id
  case buildSlice t n ps => rw [parts_congr h]; exact id
  case load t x => rw [h x (by simp)]; exact id
  case store t x y => rw [h x (by simp), h y (by simp)]; exact id
  case nilCheck x => rw [h x (by simp)]; exact id
  case binOp op t x y yt => rw [h x (by simp), h y (by simp)]; exact id
  case unOp op t x => rw [h x (by simp)]; exact id
  case convert s d x => rw [h x (by simp)]; exact id
  case makeInterface t x => rw [h x (by simp)]; exact id
  case slice t x lo hi mx =>
    cases mx with
    | some m => exact id
    | none =>
      simp only
      have e1 : ∀ (d : Int) K, optG ρ lo d K = optG ρ' lo d K := fun d K => optG_congr (fun y hy => h y (by simp [hy]))
      have e2 : ∀ (d : Int) K, optG ρ hi d K = optG ρ' hi d K := fun d K => optG_congr (fun y hy => h y (by simp [hy]))
      rw [h x (by simp)]
      unfold sliceG
      simp only [e1, e2]
      exact id
  case fieldAddr s x f => rw [h x (by simp)]; exact id
  case indexAddr t x y => rw [h x (by simp), h y (by simp)]; exact id
  case index t x y => rw [h x (by simp), h y (by simp)]; exact id
  case extract x i => rw [h x (by simp)]; exact id
  case call c =>
    obtain ⟨callee, args, argTypes⟩ := c
    have ha : args.toList.map ρ = args.toList.map ρ' := List.map_congr_left fun x hx => h x (by simp [Call.operands, Array.mem_toList_iff.1 hx])
    unfold callG
    cases callee with
    | value f => simp only [ha, h f (by simp [Call.operands])]; exact id
    | invoke r name => simp only [ha, h r (by simp [Call.operands])]; exact id
    | builtin b => cases b <;> simp only [ha] <;> exact id

theorem appendA_mono {t u : TypeId} {s x : AV} {K K' : AV → ASt → Prop} (hk : ∀ v S', K v S' → K' v S') (h : appendA P t u s x S K) : appendA P t u s x S K' := by
  unfold appendA at h ⊢
  split at h
  · exact h.elim
  · split at h
    · obtain ⟨h1, h2, h⟩ := h
      refine ⟨h1, h2, ?_⟩
      split at h
      · obtain ⟨a1, a2, a3, a4, h⟩ := h
        refine ⟨a1, a2, a3, a4, ?_⟩
        split at h
        · exact hk _ _ h
        · exact ⟨h.1, h.2.1, hk _ _ h.2.2⟩
        · exact h.elim
      · obtain ⟨a1, a2, a3, a4, h⟩ := h
        exact ⟨a1, a2, a3, a4, hk _ _ h⟩
      · exact h.elim
    · exact h.elim

/-! ### one value -/
theorem intA_det {op : BinOp} {k k' : IntKind} {x y : Int} {K : AV → Prop} (h : intA op k k' x y K) : ∃ v, K v ∧ ∀ K' : AV → Prop, K' v → intA op k k' x y K' := by
  unfold intA at h
  split at h <;> first
    | exact h.elim
    | exact ⟨_, h.2, fun K' hk => ⟨h.1, hk⟩⟩
    | exact ⟨_, h.2.2, fun K' hk => ⟨h.1, h.2.1, hk⟩⟩

theorem strA_det {op : BinOp} {x y : List UInt8} {K : AV → Prop} (h : strA op x y K) : ∃ v, K v ∧ ∀ K' : AV → Prop, K' v → strA op x y K' := by
  unfold strA at h
  split at h <;> first
    | exact h.elim
    | exact ⟨_, h.2, fun K' hk => ⟨h.1, hk⟩⟩
    | exact ⟨_, h, fun K' hk => hk⟩

theorem binA_det {op : BinOp} {t : TypeId} {a b : AV} {K : AV → Prop} (h : binA P op t a b K) : ∃ v, K v ∧ ∀ K' : AV → Prop, K' v → binA P op t a b K' := by
  unfold binA at h ⊢
  split at h
  · exact intA_det h
  · exact strA_det h
  all_goals first
    | exact h.elim
    | exact ⟨_, h.2, fun K' hk => ⟨h.1, hk⟩⟩
    | exact ⟨_, h.2.2, fun K' hk => ⟨h.1, h.2.1, hk⟩⟩

theorem convA_det {s d : TypeId} {x : AV} {K : AV → Prop} (h : convA P s d x S K) : ∃ v, K v ∧ ∀ K' : AV → Prop, K' v → convA P s d x S K' := by
  unfold convA at h ⊢
  split at h
  · split at h
    · exact ⟨_, h.2, fun K' hk => ⟨h.1, hk⟩⟩
    · exact h.elim
  · split at h
    · exact ⟨_, h, fun K' hk => hk⟩
    · exact ⟨_, h.2, fun K' hk => ⟨h.1, hk⟩⟩
    · exact h.elim
  · split at h
    · exact ⟨_, h.2.2.2.2, fun K' hk => ⟨h.1, h.2.1, h.2.2.1, h.2.2.2.1, hk⟩⟩
    · exact h.elim
  · exact h.elim

theorem bndA_det {x : AV} {K : Int → Prop} (h : bndA x K) : ∃ n, K n ∧ ∀ K' : Int → Prop, K' n → bndA x K' := by
  unfold bndA at h ⊢
  split at h
  · exact ⟨_, h, fun K' hk => hk⟩
  · exact h.elim
theorem optG_det {ρ : Operand → AV} {x : Option Operand} {d : Int} {K : Int → Prop} (h : optG ρ x d K) : ∃ n, K n ∧ ∀ K' : Int → Prop, K' n → optG ρ x d K' := by
  cases x with
  | none => exact ⟨d, h, fun K' hk => hk⟩
  | some y => exact bndA_det h

theorem sliceG_det {ρ : Operand → AV} {t : TypeId} {x : AV} {lo hi : Option Operand} {K : AV → Prop} (h : sliceG P ρ t x lo hi S K) : ∃ v, K v ∧ ∀ K' : AV → Prop, K' v → sliceG P ρ t x lo hi S K' := by
  unfold sliceG at h ⊢
  split at h
  · split at h
    · obtain ⟨h1, h2, h3, h⟩ := h
      obtain ⟨l, h, hl⟩ := optG_det h
      obtain ⟨r, h, hr⟩ := optG_det h
      exact ⟨_, h.2, fun K' hk => ⟨h1, h2, h3, hl _ (hr _ ⟨h.1, hk⟩)⟩⟩
    · exact h.elim
  · obtain ⟨h1, h⟩ := h
    obtain ⟨l, h, hl⟩ := optG_det h
    obtain ⟨r, h, hr⟩ := optG_det h
    exact ⟨_, h.2, fun K' hk => ⟨h1, hl _ (hr _ ⟨h.1, hk⟩)⟩⟩
  · exact h.elim

theorem loadA_det {t : TypeId} {a : AV} {K : AV → Prop} (h : loadA P t a S K) : ∃ v, K v ∧ ∀ K' : AV → Prop, K' v → loadA P t a S K' := by
  unfold loadA at h ⊢
  split at h
  · split at h
    · split at h
      · split at h
        · exact ⟨_, h, fun K' hk => hk⟩
        · exact h.elim
      · split at h
        · exact ⟨_, h.2, fun K' hk => ⟨h.1, hk⟩⟩
        · exact h.elim
      · exact h.elim
    · exact h.elim
  · split at h
    · exact ⟨_, h.2.2, fun K' hk => ⟨h.1, h.2.1, hk⟩⟩
    · split at h
      · exact ⟨_, h.2.2, fun K' hk => ⟨h.1, h.2.1, hk⟩⟩
      · exact h.elim
    · exact h.elim
  · exact h.elim

theorem idxA_det {t : TypeId} {x ix : AV} {K : AV → Prop} (h : idxA P t x ix S K) : ∃ v, K v ∧ ∀ K' : AV → Prop, K' v → idxA P t x ix S K' := by
  unfold idxA at h ⊢
  split at h
  · split at h
    · split at h
      · exact ⟨_, h.2.2.2, fun K' hk => ⟨h.1, h.2.1, h.2.2.1, hk⟩⟩
      · exact h.elim
    · split at h
      · split at h
        · exact ⟨_, h.2, fun K' hk => ⟨h.1, hk⟩⟩
        · exact h.elim
      · exact h.elim
    · split at h
      · split at h
        · exact ⟨_, h.2.2, fun K' hk => ⟨h.1, h.2.1, hk⟩⟩
        · exact h.elim
      · exact h.elim
    · exact h.elim
  · exact h.elim

theorem ixA_det {t : TypeId} {x ix : AV} {K : AV → Prop} (h : ixA P t x ix K) : ∃ v, K v ∧ ∀ K' : AV → Prop, K' v → ixA P t x ix K' := by
  unfold ixA at h ⊢
  split at h
  · split at h
    · split at h
      · exact ⟨_, h.2.2.2.2, fun K' hk => ⟨h.1, h.2.1, h.2.2.1, h.2.2.2.1, hk⟩⟩
      · exact h.elim
    · exact ⟨_, h.2.2, fun K' hk => ⟨h.1, h.2.1, hk⟩⟩
    · exact h.elim
  · exact h.elim

theorem builtin_det {b : Builtin} {args : Array Operand} {argTypes : Array TypeId} {ρ : Operand → AV} {K : AV → ASt → Prop} (hb : b = .len ∨ b = .cap ∨ b = .min ∨ b = .max)
    (h : callG P { callee := .builtin b, args, argTypes } ρ S K) : ∃ v, K v S ∧ ∀ (S' : ASt) (K' : AV → ASt → Prop), K' v S' → callG P { callee := .builtin b, args, argTypes } ρ S' K' := by
  unfold callG at h ⊢
  rcases hb with rfl | rfl | rfl | rfl <;> simp only at h ⊢ <;> split at h <;> first
    | exact h.elim
    | exact ⟨_, h.2, fun S' K' hk => ⟨h.1, hk⟩⟩
    | exact ⟨_, h, fun S' K' hk => hk⟩

theorem quiet_det {o : Oper} {ρ : Operand → AV} {K : AV → ASt → Prop} (hq : effOp M o = false) (h : opG P M.own o ρ S K) :
    ∃ v, K v S ∧ ∀ K' : AV → ASt → Prop, K' v S → opG P M.own o ρ S K' := by
  obtain ⟨dst, op, ty, pos, after, guard⟩ := o
  cases op <;> simp only [effOp] at hq <;> try (simp at hq; done)
  all_goals simp only [opG] at h ⊢
  case move x => exact ⟨_, h, fun K' hk => hk⟩
  case pick c a b => split at h; exact ⟨_, h, fun K' hk => hk⟩; exact h.elim
  case build t ps =>
    split at h
    · split at h
      · exact ⟨_, h, fun K' hk => hk⟩
      · exact h.elim
    · exact h.elim
  case buildSlice t n ps =>
    split at h
    · split at h
      · obtain ⟨h1, h2, h3, h⟩ := h
        split at h
        · cases dst with
          | none => exact h.elim
          | some d =>
            simp only at h hq ⊢
            rw [hq] at h ⊢
            exact ⟨_, h, fun K' hk => ⟨h1, h2, h3, hk⟩⟩
        · exact h.elim
      · exact h.elim
    · exact h.elim
  case load t x =>
    obtain ⟨v, h1, h2⟩ := loadA_det h
    exact ⟨v, h1, fun K' hk => h2 _ hk⟩
  case nilCheck x =>
    split at h
    · exact ⟨_, h, fun K' hk => hk⟩
    · exact ⟨_, h, fun K' hk => hk⟩
    · exact h.elim
  case binOp op t x y yt =>
    rw [hq] at h ⊢
    simp only [Bool.false_eq_true, if_false] at h ⊢
    obtain ⟨v, h1, h2⟩ := binA_det h
    exact ⟨v, h1, fun K' hk => h2 _ hk⟩
  case unOp op t x =>
    split at h
    · exact ⟨_, h, fun K' hk => hk⟩
    · exact ⟨_, h, fun K' hk => hk⟩
    · exact h.elim
  case convert s d x =>
    have hq' : s ≠ d := by simpa using hq
    rw [if_neg hq'] at h
    obtain ⟨v, h1, h2⟩ := convA_det h
    exact ⟨v, h1, fun K' hk => by rw [if_neg hq']; exact h2 _ hk⟩
  case makeInterface t x => exact ⟨_, h.2, fun K' hk => ⟨h.1, hk⟩⟩
  case slice t x lo hi mx =>
    cases mx with
    | some m => exact h.elim
    | none =>
      obtain ⟨v, h1, h2⟩ := sliceG_det h
      exact ⟨v, h1, fun K' hk => h2 _ hk⟩
  case fieldAddr s x f =>
    split at h
    · split at h
      · exact ⟨_, h, fun K' hk => hk⟩
      · exact ⟨_, h.2, fun K' hk => ⟨h.1, hk⟩⟩
      · exact h.elim
    · exact h.elim
  case indexAddr t x y =>
    obtain ⟨v, h1, h2⟩ := idxA_det h
    exact ⟨v, h1, fun K' hk => h2 _ hk⟩
  case index t x y =>
    obtain ⟨v, h1, h2⟩ := ixA_det h
    exact ⟨v, h1, fun K' hk => h2 _ hk⟩
  case extract x i =>
    split at h
    · split at h
      · exact ⟨_, h, fun K' hk => hk⟩
      · exact h.elim
    · exact h.elim
  case call c =>
    obtain ⟨callee, args, argTypes⟩ := c
    have hb : ∃ b, callee = .builtin b ∧ (b = .len ∨ b = .cap ∨ b = .min ∨ b = .max) := by
      cases callee with
      | value f => simp at hq
      | invoke r n => simp at hq
      | builtin b => cases b <;> simp at hq ⊢
    obtain ⟨b, rfl, hb⟩ := hb
    obtain ⟨v, h1, h2⟩ := builtin_det hb h
    exact ⟨v, h1, fun K' hk => h2 S K' hk⟩

theorem pure_det {o : Oper} {ρ : Operand → AV} {K : AV → ASt → Prop} (hq : pureOp o = true) (h : opG P M.own o ρ S K) :
    ∃ v, K v S ∧ ∀ (S' : ASt) (K' : AV → ASt → Prop), K' v S' → opG P M.own o ρ S' K' := by
  obtain ⟨dst, op, ty, pos, after, guard⟩ := o
  cases op <;> simp only [pureOp] at hq <;> try (simp at hq; done)
  all_goals simp only [opG] at h ⊢
  case move x => exact ⟨_, h, fun S' K' hk => hk⟩
  case pick c a b => split at h; exact ⟨_, h, fun S' K' hk => hk⟩; exact h.elim
  case build t ps =>
    split at h
    · split at h
      · exact ⟨_, h, fun S' K' hk => hk⟩
      · exact h.elim
    · exact h.elim
  case nilCheck x =>
    split at h
    · exact ⟨_, h, fun S' K' hk => hk⟩
    · exact ⟨_, h, fun S' K' hk => hk⟩
    · exact h.elim
  case binOp op t x y yt =>
    have hq' : isNilC y = false := by simpa using hq
    rw [hq'] at h ⊢
    simp only [Bool.false_eq_true, if_false] at h ⊢
    obtain ⟨v, h1, h2⟩ := binA_det h
    exact ⟨v, h1, fun S' K' hk => h2 _ hk⟩
  case unOp op t x =>
    split at h
    · exact ⟨_, h, fun S' K' hk => hk⟩
    · exact ⟨_, h, fun S' K' hk => hk⟩
    · exact h.elim
  case makeInterface t x => exact ⟨_, h.2, fun S' K' hk => ⟨h.1, hk⟩⟩
  case index t x y =>
    obtain ⟨v, h1, h2⟩ := ixA_det h
    exact ⟨v, h1, fun S' K' hk => h2 _ hk⟩
  case extract x i =>
    split at h
    · split at h
      · exact ⟨_, h, fun S' K' hk => hk⟩
      · exact h.elim
    · exact h.elim
  case call c =>
    obtain ⟨callee, args, argTypes⟩ := c
    have hb : ∃ b, callee = .builtin b ∧ (b = .len ∨ b = .cap ∨ b = .min ∨ b = .max) := by
      cases callee with
      | value f => simp at hq
      | invoke r n => simp at hq
      | builtin b => cases b <;> simp at hq ⊢
    obtain ⟨b, rfl, hb⟩ := hb
    obtain ⟨v, h1, h2⟩ := builtin_det hb h
    exact ⟨v, h1, h2⟩
end
end Go.Proofs.Ytmfkocmbmadkmaa.Abs
