/- Each operation of the model does what its abstract reading says: addresses, numbers, strings, slicing. -/
import Derived.Test.YtmfkocmbmadkmaaAbs4
namespace Go.Proofs.Ytmfkocmbmadkmaa.Abs
open Go Go.RowKit
set_option linter.unusedVariables false
set_option linter.unusedSimpArgs false

section
variable {P : Program} {M : Modes} {E : Env} {S : ASt} {w : World} {o : Oper} {a : Act} {next : Act → World → Prop} {Q : Exit → Act → World → Prop} {F : List AV} {K : AV → List AV → ASt → Prop}

theorem snd_nilCheck {x : Operand} (ho : o.op = .nilCheck x) (hR : Rel E S w) (hF : FRel E S w F a.tmps)
    (h : match ev F x with | .ptr (some p) => K (.ptr (some p)) F S | .iface t v => K (.iface t v) F S | _ => False) (hn : Cont E S w o a next K) : o.wp P a w next Q := by
  have hx := ev_rel hF x
  split at h
  · rename_i p hev
    rw [hev] at hx
    refine wp_val (v := a.eval x) (w' := w) ?_ (hn.same hR hF hx h)
    cases hq : a.eval x <;> rw [hq] at hx <;> cases hx
    simp [execOp, ho, hq]
  · rename_i t v hev
    rw [hev] at hx
    refine wp_val (v := a.eval x) (w' := w) ?_ (hn.same hR hF hx h)
    cases hq : a.eval x <;> rw [hq] at hx <;> cases hx
    simp [execOp, ho, hq]
  · exact h.elim

theorem fieldA_some {s f off : Nat} (h : fieldA P s f = some off) : ∃ fs fl i, P.underlying s = some (.struct fs) ∧ fs[f]? = some fl ∧ P.info? fl.type = some i ∧ i.size ≠ 0 ∧ fl.offset = off := by
  unfold fieldA at h
  split at h
  · rename_i fs hu
    split at h
    · rename_i fl hf
      split at h
      · rename_i i hi
        split at h
        · cases h
        · rename_i hs; cases h; exact ⟨fs, fl, i, hu, hf, hi, hs, rfl⟩
      · cases h
    · cases h
  · cases h

theorem run_fieldAt {s f off : Nat} (h : fieldA P s f = some off) (w : World) (ad : Addr) : (Instr.fieldAt s (.pointer (some ad)) f).run P w = .ok (.pointer (some (ad.add off))) w := by
  obtain ⟨fs, fl, i, h1, h2, h3, h4, rfl⟩ := fieldA_some h
  simp [Instr.fieldAt, run_underlying h1, h2, Instr.sureAddr, fieldPlace, sizeOf, typeInfo, h3, h4]

theorem ep_add {ow : Own} {sz i k d : Nat} {xs : List AV} {v : Value} (h : VRel E S w (.eptr ow sz xs i k) v) : ∃ ad : Addr, v = .pointer (some ad) ∧ VRel E S w (.eptr ow sz xs i (k + d)) (.pointer (some (ad.add d))) := by
  cases h with
  | ep_dead o' t sz xs i k a' ho ht hd => exact ⟨_, rfl, .ep_dead ow t sz xs i (k + d) _ ho ht hd⟩
  | ep_mem o' sz' xs' i' k' b off vs hacc hi hsz h1 hv hr hroom =>
    refine ⟨_, rfl, ?_⟩
    rw [Addr.add_lit]
    have := VRel.ep_mem ow sz xs i (k + d) b off vs hacc hi hsz h1 hv hr hroom
    rwa [show off + i * sz + (k + d) = off + i * sz + k + d by omega] at this

theorem snd_fieldAddr {s f off : Nat} {x : Operand} (ho : o.op = .fieldAddr s x f) (hfa : fieldA P s f = some off) (hR : Rel E S w) (hF : FRel E S w F a.tmps)
    (h : match ev F x with | .ptr (some (ob, i)) => K (.ptr (some (ob, i + off))) F S | .eptr ow sz xs i k => rdA S ow ∧ K (.eptr ow sz xs i (k + off)) F S | _ => False)
    (hn : Cont E S w o a next K) : o.wp P a w next Q := by
  have hx := ev_rel hF x
  split at h
  · rename_i ob i hev
    rw [hev] at hx
    cases hq : a.eval x <;> rw [hq] at hx <;> cases hx
    rename_i hol
    refine wp_val ?_ (hn.same hR hF (cv := .pointer (some ⟨E.mu ob, i + off, none⟩)) (.ptr ob (i + off) hol) h)
    simp [execOp, ho, hq, run_fieldAt hfa, Addr.add_lit]
  · rename_i ow sz xs i k hev
    rw [hev] at hx
    obtain ⟨ad, hq, hr⟩ := ep_add (d := off) hx
    refine wp_val ?_ (hn.same hR hF hr h.2)
    simp [execOp, ho, hq, run_fieldAt hfa]
  · exact h.elim

theorem sliceT_some {t e : TypeId} (h : sliceT P t = some e) : P.underlying t = some (.slice e) := by
  unfold sliceT at h; split at h
  · rename_i e' hu; cases h; exact hu
  · cases h
theorem arrT_some {t e : TypeId} {n : Nat} (h : arrT P t = some (n, e)) : P.underlying t = some (.array n e) := by
  unfold arrT at h; split at h
  · rename_i n' e' hu; cases h; exact hu
  · cases h
theorem intT_some {t : TypeId} {k : IntKind} (h : intT P t = some k) : P.underlying t = some (.int k) := by
  unfold intT at h; split at h
  · rename_i k' hu; cases h; exact hu
  · cases h
theorem isStrT_true {t : TypeId} (h : isStrT P t = true) : P.underlying t = some .string := by
  unfold isStrT at h; split at h
  · assumption
  · cases h
theorem isBoolT_true {t : TypeId} (h : isBoolT P t = true) : P.underlying t = some .bool := by
  unfold isBoolT at h; split at h
  · assumption
  · cases h
theorem isPtrT_true {t : TypeId} (h : isPtrT P t = true) : ∃ e, P.underlying t = some (.pointer e) := by
  unfold isPtrT at h; split at h
  · rename_i e hu; exact ⟨e, hu⟩
  · cases h

/-- A pointer to an element of a slice. -/
theorem sl_elem {ow : Own} {sz : Nat} {xs : List AV} {v : Value} (h : VRel E S w (.sl ow sz xs) v) (hrd : rdA S ow) {i : Nat} (hi : i < xs.length) :
    ∃ ad c, v = .slice (some ad) xs.length c ∧ VRel E S w (.eptr ow sz xs i 0) (.pointer (some (ad.add (i * sz)))) := by
  cases h with
  | sl_nil sz => simp at hi
  | sl_emp sz a c => simp at hi
  | sl_own_nil t sz ht => simp at hi
  | sl_sub_emp t sz a c ht => simp at hi
  | sl_dead o' t sz xs a c ho ht hd => have := rd_tok hrd ho; rw [hd] at this; cases this
  | sl_mem o' sz' xs' b off c vs hacc hc hsz h1 hv hr hroom =>
    refine ⟨_, c, rfl, ?_⟩
    rw [Addr.add_lit]
    exact VRel.ep_mem ow sz xs i 0 b off vs hacc hi hsz h1 hv hr (fun t ht => let ⟨h0, cur, e, h1, _⟩ := hroom t ht; ⟨h0, cur, e, h1⟩)

theorem snd_indexAddr {t : TypeId} {x ix : Operand} (ho : o.op = .indexAddr t x ix) (hR : Rel E S w) (hF : FRel E S w F a.tmps)
    (h : idxA P t (ev F x) (ev F ix) S (fun v => K v F S)) (hn : Cont E S w o a next K) : o.wp P a w next Q := by
  have hx := ev_rel hF x
  have hix := ev_rel hF ix
  unfold idxA at h
  split at h
  · rename_i kk i hevi
    rw [hevi] at hix
    have hqi : a.eval ix = .int kk i := by cases hq : a.eval ix <;> rw [hq] at hix <;> cases hix <;> rfl
    split at h
    · rename_i ow sz xs hev
      rw [hev] at hx
      split at h
      · rename_i e hse
        obtain ⟨hsz, hrd, hi, hK⟩ := h
        obtain ⟨ad, c, hq, hr⟩ := sl_elem hx hrd (i := i.toNat) (by omega)
        refine wp_val ?_ (hn.same hR hF hr hK)
        simp [execOp, ho, hq, hqi, Instr.indexAt, asIntOf, run_underlying (sliceT_some hse), hi, run_sizeOf hsz]
      · exact h.elim
    · rename_i ob j hev
      rw [hev] at hx
      cases hq : a.eval x <;> rw [hq] at hx <;> cases hx
      rename_i hol
      split at h
      · rename_i n e hae
        split at h
        · rename_i s hs
          obtain ⟨hi, hK⟩ := h
          refine wp_val ?_ (hn.same hR hF (cv := .pointer (some ⟨E.mu ob, j + i.toNat * s, none⟩)) (.ptr ob _ hol) hK)
          simp [execOp, ho, hq, hqi, Instr.indexAt, asIntOf, run_underlying (arrT_some hae), hi, run_sizeOf hs, Instr.sureAddr, Addr.add_lit]
        · exact h.elim
      · exact h.elim
    · rename_i ow sz xs aa k hev
      rw [hev] at hx
      split at h
      · rename_i n e hae
        split at h
        · rename_i s hs
          obtain ⟨hi, hrd, hK⟩ := h
          obtain ⟨ad, hq, hr⟩ := ep_add (d := i.toNat * s) hx
          refine wp_val ?_ (hn.same hR hF hr hK)
          simp [execOp, ho, hq, hqi, Instr.indexAt, asIntOf, run_underlying (arrT_some hae), hi, run_sizeOf hs, Instr.sureAddr]
        · exact h.elim
      · exact h.elim
    · exact h.elim
  · exact h.elim

theorem arr_get {vs : Array Value} {i : Nat} (h : i < vs.size) : ∃ cv, vs[i]? = some cv ∧ vs.getD i undef = cv :=
  ⟨vs[i], by simp [h], by simp [Array.getD, h]⟩

theorem snd_index {t : TypeId} {x ix : Operand} (ho : o.op = .index t x ix) (hR : Rel E S w) (hF : FRel E S w F a.tmps)
    (h : ixA P t (ev F x) (ev F ix) (fun v => K v F S)) (hn : Cont E S w o a next K) : o.wp P a w next Q := by
  have hx := ev_rel hF x
  have hix := ev_rel hF ix
  unfold ixA at h
  split at h
  · rename_i kk i hevi
    rw [hevi] at hix
    have hqi : a.eval ix = .int kk i := by cases hq : a.eval ix <;> rw [hq] at hix <;> cases hix <;> rfl
    split at h
    · rename_i cs hev
      rw [hev] at hx
      split at h
      · rename_i n e hae
        obtain ⟨hsz, hag, hi, hn', hK⟩ := h
        cases hq : a.eval x <;> rw [hq] at hx <;> cases hx
        rename_i vs hl h1 hr
        have hlt : i.toNat < vs.size := by omega
        have hcs : cs[i.toNat]? = some (cs.getD i.toNat .top) := by
          have : i.toNat < cs.length := by omega
          simp [List.getD, List.getElem?_eq_getElem this]
        obtain ⟨cv, hg, hgd⟩ := arr_get hlt
        refine wp_val (v := cv) (w' := w) ?_ (hn.same hR hF (hgd ▸ hr _ _ hcs) hK)
        simp [execOp, ho, hq, hqi, Instr.index, asIntOf, run_underlying (arrT_some hae), hi, run_sizeOf hsz, part, run_isAgg hag, hg]
      · exact h.elim
    · rename_i l hev
      rw [hev] at hx
      obtain ⟨hst, hi, hK⟩ := h
      cases hq : a.eval x <;> rw [hq] at hx <;> cases hx
      have hlt : i.toNat < l.length := by omega
      refine wp_val ?_ (hn.same hR hF (VRel.int .u8 _) hK)
      simp only [execOp, ho, hq, hqi, Instr.index, asIntOf, Sem.run_bind, Sem.run_pure, Result.andThen_ok, run_underlying (isStrT_true hst), hi.1, if_true]
      have h1 : i.toNat < (⟨l.toArray⟩ : ByteArray).size := by simpa [ByteArray.size] using hlt
      have h2 : (⟨l.toArray⟩ : ByteArray)[i.toNat]? = some (l.getD i.toNat 0) := by
        rw [getElem?_pos (⟨l.toArray⟩ : ByteArray) i.toNat h1]
        simp [List.getD, List.getElem?_eq_getElem hlt]
        rfl
      rw [h2]
      rfl
    · exact h.elim
  · exact h.elim

theorem snd_extract {x : Operand} {i : Nat} {vs : List AV} {v : AV} (ho : o.op = .extract x i) (hev : ev F x = .tuple vs) (hv : vs[i]? = some v) (hR : Rel E S w) (hF : FRel E S w F a.tmps)
    (h : K v F S) (hn : Cont E S w o a next K) : o.wp P a w next Q := by
  have hx := ev_rel hF x
  rw [hev] at hx
  cases hq : a.eval x <;> rw [hq] at hx <;> cases hx
  rename_i cvs hl hr
  have hlt : i < cvs.size := by rw [hl]; exact (List.getElem?_eq_some_iff.1 hv).1
  obtain ⟨cv, hg, hgd⟩ := arr_get hlt
  refine wp_val (v := cv) (w' := w) ?_ (hn.same hR hF (hgd ▸ hr _ _ hv) h)
  simp [execOp, ho, hq, Instr.extract, hg]

theorem snd_not {t : TypeId} {x : Operand} {b : Bool} (ho : o.op = .unOp .not t x) (hev : ev F x = .bool b) (hR : Rel E S w) (hF : FRel E S w F a.tmps)
    (h : K (.bool (!b)) F S) (hn : Cont E S w o a next K) : o.wp P a w next Q := by
  have hx := ev_rel hF x
  rw [hev] at hx
  have hq : a.eval x = .bool b := by cases hq : a.eval x <;> rw [hq] at hx <;> cases hx <;> rfl
  exact wp_val (by simp [execOp, ho, hq, Op.unary]) (hn.same hR hF (.bool _) h)

theorem snd_neg {t : TypeId} {x : Operand} {k : IntKind} {n : Int} (ho : o.op = .unOp .neg t x) (hev : ev F x = .int k n) (hR : Rel E S w) (hF : FRel E S w F a.tmps)
    (h : K (.int k (k.wrap (0 - n))) F S) (hn : Cont E S w o a next K) : o.wp P a w next Q := by
  have hx := ev_rel hF x
  rw [hev] at hx
  have hq : a.eval x = .int k n := by cases hq : a.eval x <;> rw [hq] at hx <;> cases hx <;> rfl
  exact wp_val (v := .int k (k.wrap (0 - n))) (w' := w) (by simp [execOp, ho, hq, Op.unary, Op.intArith]) (hn.same hR hF (.int _ _) h)

theorem snd_makeInterface {t : TypeId} {x : Operand} (ho : o.op = .makeInterface t x) (ht : isIfaceT P t = some false) (hR : Rel E S w) (hF : FRel E S w F a.tmps)
    (h : K (.iface t (ev F x)) F S) (hn : Cont E S w o a next K) : o.wp P a w next Q := by
  have hx := ev_rel hF x
  refine wp_val ?_ (hn.same hR hF (.iface t _ _ hx) h)
  unfold isIfaceT at ht
  split at ht
  · cases ht
  · rename_i d hd hu
    simp only [execOp, ho, Instr.makeInterface, Sem.run_bind, run_underlying hu, Result.andThen_ok]
    rfl
  · cases ht

theorem str_eq (x y : List UInt8) : ((⟨x.toArray⟩ : ByteArray).toList == (⟨y.toArray⟩ : ByteArray).toList) = (x == y) := by
  rw [ByteArray.toList_mk, ByteArray.toList_mk]

theorem run_intA {op : BinOp} {k k' : IntKind} {x y : Int} {K : AV → Prop} (t : TypeId) (w : World) (h : intA op k k' x y K) :
    ∃ v cv, (binOp op t (.int k x) (.int k' y)).run P w = .ok cv w ∧ (∀ E S, VRel E S w v cv) ∧ K v := by
  unfold intA at h
  split at h
  · exact ⟨_, _, by simp [binOp, Op.shift, Int.not_lt.2 h.1], fun _ _ => .int _ _, h.2⟩
  · exact ⟨_, _, by simp [binOp, Op.shift, Int.not_lt.2 h.1], fun _ _ => .int _ _, h.2⟩
  · obtain ⟨rfl, h⟩ := h; exact ⟨_, _, by simp [binOp, Op.intArith], fun _ _ => .int _ _, h⟩
  · obtain ⟨rfl, h⟩ := h; exact ⟨_, _, by simp [binOp, Op.intArith], fun _ _ => .int _ _, h⟩
  · obtain ⟨rfl, h⟩ := h; exact ⟨_, _, by simp [binOp, Op.intArith], fun _ _ => .int _ _, h⟩
  · obtain ⟨rfl, h0, h⟩ := h; exact ⟨_, _, by simp [binOp, Op.intDiv, h0], fun _ _ => .int _ _, h⟩
  · obtain ⟨rfl, h0, h⟩ := h; exact ⟨_, _, by simp [binOp, Op.intDiv, h0], fun _ _ => .int _ _, h⟩
  · obtain ⟨rfl, h⟩ := h; exact ⟨_, _, by simp [binOp, Op.intBits], fun _ _ => .int _ _, h⟩
  · obtain ⟨rfl, h⟩ := h; exact ⟨_, _, by simp [binOp, Op.intBits], fun _ _ => .int _ _, h⟩
  · obtain ⟨rfl, h⟩ := h; exact ⟨_, _, by simp [binOp, Op.intBits], fun _ _ => .int _ _, h⟩
  · obtain ⟨rfl, h⟩ := h; exact ⟨_, _, by simp [binOp, Op.intCmp], fun _ _ => .bool _, h⟩
  · obtain ⟨rfl, h⟩ := h; exact ⟨_, _, by simp [binOp, Op.intCmp], fun _ _ => .bool _, h⟩
  · obtain ⟨rfl, h⟩ := h; exact ⟨_, _, by simp [binOp, Op.intCmp], fun _ _ => .bool _, h⟩
  · obtain ⟨rfl, h⟩ := h; exact ⟨_, _, by simp [binOp, Op.intCmp], fun _ _ => .bool _, h⟩
  · obtain ⟨rfl, h⟩ := h; exact ⟨_, _, by simp [binOp, Op.intCmp], fun _ _ => .bool _, h⟩
  · obtain ⟨rfl, h⟩ := h; exact ⟨_, _, by simp [binOp, Op.intCmp], fun _ _ => .bool _, h⟩
  · exact h.elim

theorem run_strA {op : BinOp} {x y : List UInt8} {K : AV → Prop} (t : TypeId) (w : World) (h : strA op x y K) :
    ∃ v cv, (binOp op t (.string ⟨x.toArray⟩) (.string ⟨y.toArray⟩)).run P w = .ok cv w ∧ (∀ E S, VRel E S w v cv) ∧ K v := by
  unfold strA at h
  split at h
  · refine ⟨_, .string ⟨(x ++ y).toArray⟩, ?_, fun _ _ => .str _, h.2⟩
    have hs : ¬ (((⟨x.toArray⟩ : ByteArray).size + (⟨y.toArray⟩ : ByteArray).size : Nat) : Int) > IntKind.i64.max := by
      have h1 : (⟨x.toArray⟩ : ByteArray).size = x.length := by simp [ByteArray.size]
      have h2 : (⟨y.toArray⟩ : ByteArray).size = y.length := by simp [ByteArray.size]
      rw [h1, h2]
      have := h.1
      simp [IntKind.max, IntKind.signed, IntKind.bits]; omega
    have he : (⟨x.toArray⟩ : ByteArray) ++ ⟨y.toArray⟩ = ⟨(x ++ y).toArray⟩ := by
      apply ByteArray.ext
      rw [ByteArray.data_append]
      simp
    simp only [binOp, Op.stringOp, if_neg hs, Sem.run_pure, he]
  · exact ⟨_, _, by simp only [binOp, Op.stringOp, Sem.run_pure, str_eq], fun _ _ => .bool _, h⟩
  · exact ⟨_, _, by simp only [binOp, Op.stringOp, Sem.run_pure, str_eq], fun _ _ => .bool _, h⟩
  · exact h.elim

theorem nilSl {ow : Own} {sz : Nat} {xs : List AV} {v : Value} {K : Bool → Prop} (hx : VRel E S w (.sl ow sz xs) v) (h : nilSlA S ow xs K) :
    ∃ a n c, v = .slice a n c ∧ K a.isNone := by
  unfold nilSlA at h
  cases hx with
  | sl_nil sz => exact ⟨_, _, _, rfl, h⟩
  | sl_emp sz a c => exact ⟨_, _, _, rfl, by cases a; exact h.1; exact h.2⟩
  | sl_own_nil t sz ht => exact ⟨_, _, _, rfl, h.1⟩
  | sl_sub_emp t sz a c ht => exact ⟨_, _, _, rfl, by cases a; exact h.1; exact h.2⟩
  | sl_dead o' t sz xs a c ho ht hd =>
    cases ow with
    | nil => cases ho
    | ro => cases ho
    | own u =>
      cases ho
      cases xs with
      | nil => exact ⟨_, _, _, rfl, by cases a; exact h.1; exact h.2⟩
      | cons x xs => have := h.1; simp only [rdA] at this; rw [hd] at this; cases this
    | sub u =>
      cases ho
      cases xs with
      | nil => exact ⟨_, _, _, rfl, by cases a; exact h.1; exact h.2⟩
      | cons x xs => have := h.1; simp only [rdA] at this; rw [hd] at this; cases this
  | sl_mem o' sz' xs' b off c vs hacc hc hsz h1 hv hr hroom =>
    refine ⟨_, _, _, rfl, ?_⟩
    cases ow with
    | nil => exact hacc.elim
    | ro => cases xs with
      | nil => exact h.2
      | cons x xs => exact h.2
    | own t => cases xs with
      | nil => exact h.2
      | cons x xs => exact h.2
    | sub t => cases xs with
      | nil => exact h.2
      | cons x xs => exact h.2

end
end Go.Proofs.Ytmfkocmbmadkmaa.Abs
