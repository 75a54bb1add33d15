/- Each operation of the model does what its abstract reading says: slicing, two operands, literals. -/
import Derived.Test.YtmfkocmbmadkmaaAbs6
namespace Go.Proofs.Ytmfkocmbmadkmaa.Abs
open Go Go.RowKit
set_option linter.unusedVariables false
set_option linter.unusedSimpArgs false

section
variable {P : Program} {M : Modes} {E : Env} {S : ASt} {w : World} {o : Oper} {a : Act} {next : Act → World → Prop} {Q : Exit → Act → World → Prop} {F : List AV} {K : AV → List AV → ASt → Prop}

theorem bnd_int {x : AV} {K : Int → Prop} (h : bndA x K) : ∃ k n, x = .int k n ∧ K n := by
  unfold bndA at h; split at h
  · exact ⟨_, _, rfl, h⟩
  · exact h.elim

theorem opt_int {x : Option Operand} {d : Int} {K : Int → Prop} (hF : FRel E S w F a.tmps) (h : optA F x d K) :
    (x = none ∧ K d) ∨ ∃ y k n, x = some y ∧ a.eval y = .int k n ∧ K n := by
  unfold optA at h
  cases x with
  | none => exact .inl ⟨rfl, h⟩
  | some y =>
    obtain ⟨k, n, he, hk⟩ := bnd_int h
    have hy := ev_rel hF y
    rw [he] at hy
    refine .inr ⟨y, k, n, rfl, ?_, hk⟩
    cases hq : a.eval y <;> rw [hq] at hy <;> cases hy <;> rfl

theorem run_sliceBound {k : IntKind} {i : Int} {y : Nat} {c : BoundsCode} (h : 0 ≤ i ∧ i ≤ y) : (Instr.sliceBound (.int k i) y c).run P w = .ok i.toNat w := by
  simp [Instr.sliceBound, asIntOf, h]

theorem run_bounds {b : Bool} {len cap : Nat} {lo hi : Option Value} {l h : Int} (hl : (lo = none ∧ l = 0) ∨ ∃ k, lo = some (.int k l))
    (hh : (hi = none ∧ h = len) ∨ ∃ k, hi = some (.int k h)) (hb : 0 ≤ l ∧ l ≤ h ∧ h ≤ cap) :
    (Instr.sliceBounds b len cap lo hi none).run P w = .ok (l.toNat, h.toNat, cap) w := by
  have e1 : ∀ c, (Instr.sliceBound (.int .i64 0) 0 c).run P w = .ok 0 w := fun c => by simp [Instr.sliceBound, asIntOf]
  rcases hl with ⟨rfl, rfl⟩ | ⟨k, rfl⟩ <;> rcases hh with ⟨rfl, rfl⟩ | ⟨k', rfl⟩
  · simp [Instr.sliceBounds]
  · have : ∀ c, (Instr.sliceBound (.int k' h) cap c).run P w = .ok h.toNat w := fun c => run_sliceBound ⟨by omega, by omega⟩
    simp [Instr.sliceBounds, this]
  · have : ∀ c, (Instr.sliceBound (.int k l) len c).run P w = .ok l.toNat w := fun c => run_sliceBound ⟨by omega, by omega⟩
    simp [Instr.sliceBounds, this]
  · have h1 : ∀ c, (Instr.sliceBound (.int k' h) cap c).run P w = .ok h.toNat w := fun c => run_sliceBound ⟨by omega, by omega⟩
    have h2 : ∀ c, (Instr.sliceBound (.int k l) h.toNat c).run P w = .ok l.toNat w := fun c => run_sliceBound ⟨by omega, by omega⟩
    simp [Instr.sliceBounds, h1, h2]

theorem flat_cut {sz : Nat} (xs : List AV) (hs : ∀ x ∈ xs, x.cells.length = sz) (l h : Nat) : ∀ j u, (flat ((xs.take h).drop l))[j]? = some u → (flat xs)[l * sz + j]? = some u := by
  intro j u hu
  have h1 : flat xs = flat (xs.take h) ++ flat (xs.drop h) := by rw [← flat_append, List.take_append_drop]
  have h2 : flat (xs.take h) = flat ((xs.take h).take l) ++ flat ((xs.take h).drop l) := by rw [← flat_append, List.take_append_drop]
  by_cases hl : l ≤ (xs.take h).length
  · have hlen : (flat ((xs.take h).take l)).length = l * sz := by
      rw [flat_length _ (fun x hx => hs x (List.mem_of_mem_take (List.mem_of_mem_take hx)))]
      rw [List.length_take, Nat.min_eq_left hl]
    have hj := (List.getElem?_eq_some_iff.1 hu).1
    rw [h1, List.getElem?_append_left (by rw [h2, List.length_append, hlen]; omega), h2, List.getElem?_append_right (by omega), hlen]
    rw [show l * sz + j - l * sz = j by omega]; exact hu
  · rw [List.drop_of_length_le (by omega)] at hu
    simp [flat] at hu

theorem snd_slice {t : TypeId} {x : Operand} {lo hi : Option Operand} (ho : o.op = .slice t x lo hi none) (hR : Rel E S w) (hF : FRel E S w F a.tmps)
    (h : sliceA P F t (ev F x) lo hi S (fun v => K v F S)) (hn : Cont E S w o a next K) : o.wp P a w next Q := by
  have hx := ev_rel hF x
  unfold sliceA at h
  split at h
  · rename_i ow sz xs hev
    rw [hev] at hx
    split at h
    · rename_i e hse
      obtain ⟨hsz, hrd, hsome, h⟩ := h
      obtain ⟨sz', hsz'⟩ := Option.isSome_iff_exists.1 hsome
      -- the bounds
      obtain ⟨l, hl, h⟩ : ∃ l : Int, ((lo.map a.eval = none ∧ l = 0) ∨ ∃ k, lo.map a.eval = some (.int k l)) ∧ optA F hi xs.length fun h => (0 ≤ l ∧ l ≤ h ∧ h ≤ xs.length) ∧ K (.sl (subA lo ow) sz ((xs.take h.toNat).drop l.toNat)) F S := by
        rcases opt_int hF h with ⟨rfl, h⟩ | ⟨y, k, n, rfl, hy, h⟩
        · exact ⟨0, .inl ⟨rfl, rfl⟩, h⟩
        · exact ⟨n, .inr ⟨k, by simp [hy]⟩, h⟩
      obtain ⟨hh, hhh, hb, hK⟩ : ∃ hh : Int, ((hi.map a.eval = none ∧ hh = xs.length) ∨ ∃ k, hi.map a.eval = some (.int k hh)) ∧ (0 ≤ l ∧ l ≤ hh ∧ hh ≤ xs.length) ∧ K (.sl (subA lo ow) sz ((xs.take hh.toNat).drop l.toNat)) F S := by
        rcases opt_int hF h with ⟨rfl, h⟩ | ⟨y, k, n, rfl, hy, h⟩
        · exact ⟨xs.length, .inl ⟨rfl, rfl⟩, h.1, h.2⟩
        · exact ⟨n, .inr ⟨k, by simp [hy]⟩, h.1, h.2⟩
      have run : ∀ (ad : Option Addr) (c : Nat), xs.length ≤ c → a.eval x = .slice ad xs.length c →
          (execOp a.eval o).run P w = .ok (.value (.slice (if c = l.toNat then ad else ad.map (·.add (l.toNat * sz'))) (hh.toNat - l.toNat) (c - l.toNat))) w := by
        intro ad c hc hq
        have hbd := run_bounds (P := P) (w := w) (b := true) (len := xs.length) (cap := c) hl hhh ⟨hb.1, hb.2.1, by omega⟩
        simp only [execOp, ho, hq, Instr.sliceAt, Sem.run_bind, run_underlying (sliceT_some hse), Result.andThen_ok, Instr.slice, Option.map_none, hbd, run_sizeOf hsz', Sem.run_pure]
      have hlen : ((xs.take hh.toNat).drop l.toNat).length = hh.toNat - l.toNat := by
        rw [List.length_drop, List.length_take, Nat.min_eq_left (by omega)]
      generalize hq : a.eval x = cv at hx
      cases hx with
      | sl_nil sz =>
        have hl0 : l = 0 := by simp at hb; omega
        have hh0 : hh = 0 := by simp at hb; omega
        subst hl0; subst hh0
        refine wp_val (run none 0 (Nat.le_refl _) hq) (hn.same hR hF ?_ hK)
        simpa [subA] using VRel.sl_nil sz
      | sl_emp sz a' c =>
        have hl0 : l = 0 := by simp at hb; omega
        have hh0 : hh = 0 := by simp at hb; omega
        subst hl0; subst hh0
        refine wp_val (run a' c (Nat.zero_le _) hq) (hn.same hR hF ?_ hK)
        simpa [subA] using VRel.sl_emp sz _ c
      | sl_own_nil t sz ht =>
        have hl0 : l = 0 := by simp at hb; omega
        have hh0 : hh = 0 := by simp at hb; omega
        subst hl0; subst hh0
        refine wp_val (run none 0 (Nat.le_refl _) hq) (hn.same hR hF ?_ hK)
        cases lo with
        | none => simpa [subA] using VRel.sl_own_nil t sz ht
        | some lo => simpa [subA] using VRel.sl_sub_emp t sz none 0 ht
      | sl_sub_emp t sz a' c ht =>
        have hl0 : l = 0 := by simp at hb; omega
        have hh0 : hh = 0 := by simp at hb; omega
        subst hl0; subst hh0
        refine wp_val (run a' c (Nat.zero_le _) hq) (hn.same hR hF ?_ hK)
        simpa [subA] using VRel.sl_sub_emp t sz _ c ht
      | sl_dead o' t sz xs a' c ho ht hd' => have := rd_tok hrd ho; rw [hd'] at this; cases this
      | sl_mem ow' sz0 xs' b off c vs hacc hc hsz0 h1 hv hr hroom =>
        refine wp_val (run _ c hc hq) (hn.same hR hF ?_ hK)
        rw [← hlen]
        have hacc' : Acc E S (subA lo ow) b := by
          cases ow with
          | own t => cases lo <;> exact hacc
          | _ => exact hacc
        have hown : ∀ t, subA lo ow = .own t → ow = .own t ∧ l = 0 := by
          intro t ht
          cases ow with
          | own t' =>
            cases lo with
            | none =>
              refine ⟨ht, ?_⟩
              rcases hl with ⟨_, h0⟩ | ⟨k, hk⟩
              · exact h0
              · cases hk
            | some lo => cases ht
          | nil => cases ht
          | ro => cases ht
          | sub t' => cases ht
        by_cases he : xs = []
        · subst he
          have hl0 : l = 0 := by simp at hb; omega
          have hh0 : hh = 0 := by simp at hb; omega
          subst hl0; subst hh0
          have := VRel.sl_mem (E := E) (S := S) (w := w) (subA lo ow) sz [] b off c vs hacc' hc hsz0 h1 hv hr (fun t ht => hroom t (hown t ht).1)
          simpa [Addr.add] using this
        have hszz : sz' = sz := by
          rcases hsz with hsz | hsz
          · rw [hsz'] at hsz; exact (Option.some.inj hsz)
          · exact absurd hsz he
        subst hszz
        by_cases hcl : c = l.toNat
        · rw [if_pos hcl]
          have hnil : (xs.take hh.toNat).drop l.toNat = [] := List.eq_nil_of_length_eq_zero (by rw [hlen]; omega)
          rw [hnil]
          exact VRel.sl_mem (subA lo ow) sz' [] b off (c - l.toNat) vs hacc' (Nat.zero_le _) (by simp) (by simp [flat]) (by simp [flat]) (by simp [flat])
            (fun t ht => by
              obtain ⟨g0, cur, e', g1, g2⟩ := hroom t (hown t ht).1
              exact ⟨g0, cur, e', g1, by rw [hcl]; simp; exact Nat.le_trans (Nat.le_add_right _ _) g2⟩)
        · rw [if_neg hcl]
          simp only [Option.map_some, Addr.add_lit]
          refine VRel.sl_mem (subA lo ow) sz' _ b (off + l.toNat * sz') (c - l.toNat) (fun j => vs (l.toNat * sz' + j)) hacc' (by rw [hlen]; omega) ?_ ?_ ?_ ?_ ?_
          · intro y hy; exact hsz0 y (List.mem_of_mem_take (List.mem_of_mem_drop hy))
          · intro u hu
            obtain ⟨j, hj⟩ := List.mem_iff_getElem?.1 hu
            exact h1 u (List.mem_of_getElem? (flat_cut xs hsz0 _ _ j u hj))
          · intro j u hj
            have := hv _ u (flat_cut xs hsz0 _ _ j u hj)
            rwa [← Nat.add_assoc] at this
          · intro j u hj; exact hr _ u (flat_cut xs hsz0 _ _ j u hj)
          · intro t ht
            obtain ⟨ht', hl0⟩ := hown t ht
            obtain ⟨g0, cur, e', g1, g2⟩ := hroom t ht'
            subst hl0
            exact ⟨by simpa using g0, cur, e', g1, by simpa using g2⟩
    · exact h.elim
  · rename_i s hev
    rw [hev] at hx
    obtain ⟨hst, h⟩ := h
    have hq : a.eval x = .string ⟨s.toArray⟩ := by cases hq : a.eval x <;> rw [hq] at hx <;> cases hx <;> rfl
    obtain ⟨l, hl, h⟩ : ∃ l : Int, ((lo.map a.eval = none ∧ l = 0) ∨ ∃ k, lo.map a.eval = some (.int k l)) ∧ optA F hi s.length fun h => (0 ≤ l ∧ l ≤ h ∧ h ≤ s.length) ∧ K (.str ((s.take h.toNat).drop l.toNat)) F S := by
      rcases opt_int hF h with ⟨rfl, h⟩ | ⟨y, k, n, rfl, hy, h⟩
      · exact ⟨0, .inl ⟨rfl, rfl⟩, h⟩
      · exact ⟨n, .inr ⟨k, by simp [hy]⟩, h⟩
    obtain ⟨hh, hhh, hb, hK⟩ : ∃ hh : Int, ((hi.map a.eval = none ∧ hh = s.length) ∨ ∃ k, hi.map a.eval = some (.int k hh)) ∧ (0 ≤ l ∧ l ≤ hh ∧ hh ≤ s.length) ∧ K (.str ((s.take hh.toNat).drop l.toNat)) F S := by
      rcases opt_int hF h with ⟨rfl, h⟩ | ⟨y, k, n, rfl, hy, h⟩
      · exact ⟨s.length, .inl ⟨rfl, rfl⟩, h.1, h.2⟩
      · exact ⟨n, .inr ⟨k, by simp [hy]⟩, h.1, h.2⟩
    have hsz : (⟨s.toArray⟩ : ByteArray).size = s.length := by simp [ByteArray.size]
    have hbd := run_bounds (P := P) (w := w) (b := false) (len := s.length) (cap := s.length) hl hhh hb
    refine wp_val (v := .string ⟨((s.take hh.toNat).drop l.toNat).toArray⟩) (w' := w) ?_ (hn.same hR hF (.str _) hK)
    have hex : (⟨s.toArray⟩ : ByteArray).extract l.toNat hh.toNat = ⟨((s.take hh.toNat).drop l.toNat).toArray⟩ := by
      apply ByteArray.ext
      rw [ByteArray.data_extract]
      apply Array.ext'
      simp [Array.toList_extract]
      rw [List.drop_take]
    simp only [execOp, ho, hq, Instr.sliceAt, Sem.run_bind, run_underlying (isStrT_true hst), Result.andThen_ok, Instr.slice, Option.map_none, Option.isSome_none, Bool.false_eq_true, if_false, hsz, hbd, Sem.run_pure, hex]
  · exact h.elim
end
end Go.Proofs.Ytmfkocmbmadkmaa.Abs
