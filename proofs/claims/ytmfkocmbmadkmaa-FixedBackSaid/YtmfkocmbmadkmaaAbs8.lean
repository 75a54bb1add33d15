/- Each operation of the model does what its abstract reading says: comparisons of structs and arrays; operators; literals. -/
import Derived.Test.YtmfkocmbmadkmaaAbs7
import Derived.ChangeKeysEq
namespace Go.Proofs.Ytmfkocmbmadkmaa.Abs
open Go Go.RowKit
set_option linter.unusedVariables false
set_option linter.unusedSimpArgs false

section
variable {P : Program} {M : Modes} {E : Env} {S : ASt} {w : World} {o : Oper} {a : Act} {next : Act → World → Prop} {Q : Exit → Act → World → Prop} {F : List AV} {K : AV → List AV → ASt → Prop}

theorem plain_notAgg {t : TypeId} (h : plainT P t = true) : aggT P t = some false := by
  unfold plainT isBoolT intT isStrT at h
  unfold aggT
  cases hu : P.underlying t with
  | none => rw [hu] at h; simp at h
  | some d => rw [hu] at h; cases d <;> simp at h <;> rfl

theorem eq_one {t : TypeId} (hp : plainT P t = true) {x y : AV} {cx cy : Value} (hx : VRel E S w x cx) (hy : VRel E S w y cy) (sx : x.sort = sortT P t) (sy : y.sort = sortT P t) (d : Nat) :
    (Op.equalIn (d + 1) t cx cy).run P w = .ok (x.eq1 y) w := by
  unfold plainT isBoolT intT isStrT at hp
  unfold sortT at sx sy
  cases hu : P.underlying t with
  | none => rw [hu] at hp; simp at hp
  | some ds =>
    rw [hu] at hp sx sy
    cases ds with
    | bool =>
      cases x <;> simp [AV.sort] at sx
      case bool b1 =>
        cases y <;> simp [AV.sort] at sy
        case bool b2 => cases hx; cases hy; exact run_equalIn_bool' w d t _ _ hu
        case int k n => cases k <;> simp at sy
      case int k n => cases k <;> simp at sx
    | string =>
      cases x <;> simp [AV.sort] at sx
      case str b1 =>
        cases y <;> simp [AV.sort] at sy
        case str b2 =>
          cases hx; cases hy
          rw [run_equalIn_string w d t _ _ hu, str_eq]; rfl
        case int k n => cases k <;> simp at sy
      case int k n => cases k <;> simp at sx
    | int k =>
      have key : ∀ (k1 k2 : IntKind) (n1 n2 : Int), k1 = k → k2 = k → x = .int k1 n1 → y = .int k2 n2 → (Op.equalIn (d + 1) t cx cy).run P w = .ok (x.eq1 y) w := by
        rintro k1 k2 n1 n2 rfl rfl rfl rfl
        cases hx; cases hy
        exact run_equalIn_int w d t _ _ _ _ hu
      cases x <;> (try (cases k <;> simp [AV.sort] at sx; done))
      case int k1 n1 =>
        cases y <;> (try (cases k <;> simp [AV.sort] at sy; done))
        case int k2 n2 =>
          refine key k1 k2 n1 n2 ?_ ?_ rfl rfl
          · cases k <;> cases k1 <;> simp [AV.sort] at sx <;> rfl
          · cases k <;> cases k2 <;> simp [AV.sort] at sy <;> rfl
    | _ => simp at hp

theorem part_one {t : TypeId} (hp : plainT P t = true) {cs : List AV} {vs : Array Value} (hl : vs.size = cs.length) {off : Nat} (ho : off < cs.length) :
    (part t vs off).run P w = .ok (vs.getD off undef) w := by
  obtain ⟨cv, h1, h2⟩ := arr_get (vs := vs) (i := off) (by omega)
  rw [h2]; simp [part, run_isAgg (plain_notAgg hp), h1]

def eqAt (l : List Nat) (xs ys : List AV) : Bool := l.all fun i => (xs.getD i .top).eq1 (ys.getD i .top)

theorem eqAt_range : ∀ (xs ys : List AV), xs.length = ys.length → eqAt (List.range xs.length) xs ys = eqL xs ys
  | [], [], _ => rfl
  | x :: xs, y :: ys, h => by
    have ih := eqAt_range xs ys (by simpa using h)
    simp only [eqAt, List.length_cons, List.range_succ_eq_map, List.all_cons, List.getD_cons_zero, eqL, List.all_map] at ih ⊢
    rw [← ih]
    congr 1
  | [], y :: ys, h => by simp at h
  | x :: xs, [], h => by simp at h

theorem run_fields {xs ys : List AV} {cx cy : Array Value} (hx : cx.size = xs.length) (hy : cy.size = ys.length)
    (rx : ∀ i u, xs[i]? = some u → VRel E S w u (cx.getD i undef)) (ry : ∀ i u, ys[i]? = some u → VRel E S w u (cy.getD i undef)) (d : Nat) :
    ∀ (fs : List Field), (∀ f ∈ fs, plainT P f.type = true ∧ (f.name == "_") = false ∧ f.offset < xs.length ∧ f.offset < ys.length ∧ (xs.getD f.offset .top).sort = sortT P f.type ∧ (ys.getD f.offset .top).sort = sortT P f.type) →
      (Op.eqFields (d + 1) cx cy fs).run P w = .ok (eqAt (fs.map (·.offset)) xs ys) w
  | [], _ => by simp [Op.eqFields, eqAt]
  | f :: fs, h => by
    obtain ⟨h1, h2, h3, h4, h5, h6⟩ := h f (by simp)
    have ih := run_fields hx hy rx ry d fs (fun g hg => h g (by simp [hg]))
    have hname : f.name ≠ "_" := by simpa using h2
    have vx := rx f.offset (xs.getD f.offset .top) (by simp [List.getD, List.getElem?_eq_getElem h3])
    have vy := ry f.offset (ys.getD f.offset .top) (by simp [List.getD, List.getElem?_eq_getElem h4])
    simp only [Op.eqFields, if_pos hname, Sem.run_bind, part_one (w := w) h1 hx h3, part_one (w := w) h1 hy h4, Result.andThen_ok, eq_one h1 vx vy h5 h6]
    simp only [eqAt, List.map_cons, List.all_cons] at ih ⊢
    cases hb : (xs.getD f.offset .top).eq1 (ys.getD f.offset .top)
    · simp
    · simpa using ih

theorem run_items {xs ys : List AV} {cx cy : Array Value} (hx : cx.size = xs.length) (hy : cy.size = ys.length)
    (rx : ∀ i u, xs[i]? = some u → VRel E S w u (cx.getD i undef)) (ry : ∀ i u, ys[i]? = some u → VRel E S w u (cy.getD i undef)) (d : Nat) (e : TypeId) (he : plainT P e = true) :
    ∀ (is : List Nat), (∀ i ∈ is, i < xs.length ∧ i < ys.length ∧ (xs.getD i .top).sort = sortT P e ∧ (ys.getD i .top).sort = sortT P e) →
      (Op.eqItems (d + 1) e 1 cx cy is).run P w = .ok (eqAt is xs ys) w
  | [], _ => by simp [Op.eqItems, eqAt]
  | i :: is, h => by
    obtain ⟨h3, h4, h5, h6⟩ := h i (by simp)
    have ih := run_items hx hy rx ry d e he is (fun g hg => h g (by simp [hg]))
    have vx := rx i (xs.getD i .top) (by simp [List.getD, List.getElem?_eq_getElem h3])
    have vy := ry i (ys.getD i .top) (by simp [List.getD, List.getElem?_eq_getElem h4])
    simp only [Op.eqItems, Nat.mul_one, Sem.run_bind, part_one (w := w) he hx h3, part_one (w := w) he hy h4, Result.andThen_ok, eq_one he vx vy h5 h6]
    simp only [eqAt, List.all_cons] at ih ⊢
    cases hb : (xs.getD i .top).eq1 (ys.getD i .top)
    · simp
    · simpa using ih

theorem sortsA_some {t : TypeId} {ss : List Nat} (h : sortsA P t = some ss) :
    P.eqGuardType P.depth t = false ∧ ((∃ fs, P.underlying t = some (.struct fs) ∧ P.stoodInHeld t = false ∧ (∀ f ∈ fs.toList, plainT P f.type = true ∧ (f.name == "_") = false) ∧
        fs.toList.map (·.offset) = List.range ss.length ∧ ss = fs.toList.map (fun f => sortT P f.type)) ∨
      (∃ n e, P.underlying t = some (.array n e) ∧ plainT P e = true ∧ szA P e = some 1 ∧ ss = List.replicate n (sortT P e))) := by
  unfold sortsA at h
  split at h
  · rename_i l hl
    split at h
    · rename_i hr
      have hr' : l.map (·.1) = List.range l.length := by simpa using hr
      cases h
      unfold flatT at hl
      split at hl
      · rename_i fs hu
        split at hl
        · rename_i hc
          simp only [Bool.and_eq_true, List.all_eq_true, Bool.not_eq_true'] at hc
          cases hl
          refine ⟨hc.2, .inl ⟨fs, hu, hc.1.2, hc.1.1, ?_, by simp⟩⟩
          have h2 := hr'
          rw [List.map_map, List.length_map] at h2
          simpa [Function.comp_def] using h2
        · cases hl
      · rename_i n e hu
        split at hl
        · rename_i hc
          simp only [Bool.and_eq_true, beq_iff_eq, Bool.not_eq_true'] at hc
          cases hl
          refine ⟨hc.2, .inr ⟨n, e, hu, hc.1.1, hc.1.2, ?_⟩⟩
          rw [List.map_map]
          exact List.eq_replicate_iff.2 ⟨by simp, by simp⟩
        · cases hl
      · cases hl
    · cases h
  · cases h

theorem run_eqAgg {t : TypeId} {xs ys : List AV} {cx cy : Array Value} (h : sortsA P t = some (xs.map AV.sort)) (hss : xs.map AV.sort = ys.map AV.sort)
    (hx : cx.size = xs.length) (hy : cy.size = ys.length)
    (rx : ∀ i u, xs[i]? = some u → VRel E S w u (cx.getD i undef)) (ry : ∀ i u, ys[i]? = some u → VRel E S w u (cy.getD i undef)) :
    (Op.equalIn 10000 t (.agg cx) (.agg cy)).run P w = .ok (eqL xs ys) w := by
  have hlen : xs.length = ys.length := by have := congrArg List.length hss; simpa using this
  have hsort : ∀ i, i < xs.length → (xs.getD i .top).sort = (xs.map AV.sort).getD i 0 ∧ (ys.getD i .top).sort = (xs.map AV.sort).getD i 0 := by
    intro i hi
    constructor
    · simp [List.getD, List.getElem?_eq_getElem hi]
    · rw [hss]; simp [List.getD, List.getElem?_eq_getElem (show i < ys.length by omega)]
  obtain ⟨hg, h⟩ := sortsA_some h
  rcases h with ⟨fs, hu, hst, hpl, hoff, hs⟩ | ⟨n, e, hu, hpl, hsz, hs⟩
  · have hfo : P.fieldsOf t = fs := by unfold Program.fieldsOf; rw [hu]
    rw [run_equalIn_struct w 9999 t cx cy (by rw [hfo]; exact hu) hst, hfo]
    have hflen : fs.toList.length = xs.length := by have := congrArg List.length hs; simpa using this.symm
    rw [run_fields hx hy rx ry 9998 fs.toList]
    · rw [hoff, List.length_map, eqAt_range xs ys hlen]
    · intro f hf
      obtain ⟨j, hj⟩ := List.mem_iff_getElem?.1 hf
      have hjl : j < fs.toList.length := (List.getElem?_eq_some_iff.1 hj).1
      have ho : f.offset = j := by
        have h1 : (fs.toList.map (·.offset))[j]? = some f.offset := by rw [List.getElem?_map, hj]; rfl
        rw [hoff, List.getElem?_range (by rw [List.length_map]; omega)] at h1
        exact (Option.some.inj h1).symm
      have hjx : j < xs.length := by omega
      have hst' : (xs.map AV.sort).getD j 0 = sortT P f.type := by
        rw [hs]
        simp [List.getD, hj]
      obtain ⟨s1, s2⟩ := hsort j hjx
      rw [ho]
      exact ⟨(hpl f hf).1, (hpl f hf).2, hjx, by omega, s1.trans hst', s2.trans hst'⟩
  · obtain ⟨i, hi⟩ : ∃ i, P.info? e = some i := by
      unfold szA at hsz; cases hq : P.info? e with
      | none => rw [hq] at hsz; cases hsz
      | some i => exact ⟨i, rfl⟩
    have hc : P.cellsOf e = 1 := by unfold Program.cellsOf; unfold szA at hsz; rw [hsz]; rfl
    have hn : n = xs.length := by have := congrArg List.length hs; simpa using this.symm
    rw [run_equalIn_array w 9999 cx cy hu hi, hc, run_items hx hy rx ry 9998 e hpl]
    · rw [hn, eqAt_range xs ys hlen]
    · intro i hi
      have hix : i < xs.length := by rw [← hn]; simpa using hi
      have hst' : (xs.map AV.sort).getD i 0 = sortT P e := by
        rw [hs]; simp [List.getD, hn, hix]
      obtain ⟨s1, s2⟩ := hsort i hix
      exact ⟨hix, by omega, s1.trans hst', s2.trans hst'⟩

theorem guard_agg {op : BinOp} {t : TypeId} {x y : Operand} {cx cy : Array Value} (hg : P.eqGuardType P.depth t = false) :
    (eqGuard op t x y (.agg cx) (.agg cy)).run P w = .ok () w := run_eqGuard_agg w op t x y cx cy hg

theorem guard_other {op : BinOp} {t : TypeId} {x y : Operand} {u v : Value} (h1 : ∀ cs, u ≠ .agg cs) (h2 : u ≠ .nilIface) : (eqGuard op t x y u v).run P w = .ok () w := by
  cases u <;> first
    | (exfalso; exact h1 _ rfl)
    | (exfalso; exact h2 rfl)
    | (cases op <;> simp [eqGuard])

theorem run_eq_ptr {t e : TypeId} (he : P.underlying t = some (.pointer e)) (d : Nat) (p : Option Addr) : (Op.equalIn (d + 1) t (.pointer p) (.pointer none)).run P w = .ok p.isNone w := by
  cases p <;> simp [Op.equalIn, run_underlying he]
theorem run_eq_nilSl {t e : TypeId} (he : P.underlying t = some (.slice e)) (d : Nat) (p : Option Addr) (n c : Nat) : (Op.equalIn (d + 1) t (.slice p n c) (.slice none 0 0)).run P w = .ok p.isNone w := by
  cases p <;> simp [Op.equalIn, run_underlying he]
theorem run_eql_of {t : TypeId} {x y : Value} {b : Bool} (hd : binOp .eql t x y = do pure (.bool (← Op.equal t x y))) (h : (Op.equalIn (9999 + 1) t x y).run P w = .ok b w) : (binOp .eql t x y).run P w = .ok (.bool b) w := by
  have e : Op.equal t x y = Op.equalIn (9999 + 1) t x y := rfl
  rw [hd, e, Sem.run_bind, h]; rfl
theorem run_neq_of {t : TypeId} {x y : Value} {b : Bool} (hd : binOp .neq t x y = do pure (.bool (!(← Op.equal t x y)))) (h : (Op.equalIn (9999 + 1) t x y).run P w = .ok b w) : (binOp .neq t x y).run P w = .ok (.bool (!b)) w := by
  have e : Op.equal t x y = Op.equalIn (9999 + 1) t x y := rfl
  rw [hd, e, Sem.run_bind, h]; rfl

theorem snd_binOp {op : BinOp} {t yt : TypeId} {x y : Operand} (ho : o.op = .binOp op t x y yt) (hR : Rel E S w) (hF : FRel E S w F a.tmps)
    (h : binA P op t (ev F x) (ev F y) (fun v => K v F S)) (hn : Cont E S w o a next K) : o.wp P a w next Q := by
  have hx := ev_rel hF x
  have hy := ev_rel hF y
  have fin : ∀ v cv, (binOp op t (a.eval x) (a.eval y)).run P w = .ok cv w → (eqGuard op t x y (a.eval x) (a.eval y)).run P w = .ok () w → VRel E S w v cv → K v F S → o.wp P a w next Q := by
    intro v cv h1 h2 h3 h4
    refine wp_val (v := cv) (w' := w) ?_ (hn.same hR hF h3 h4)
    simp only [execOp, ho, Sem.run_bind, h2, Result.andThen_ok, h1, Sem.run_pure]
  unfold binA at h
  generalize hqx : a.eval x = cvx at hx fin
  generalize hqy : a.eval y = cvy at hy fin
  split at h
  · rename_i op' k m k' n h1 h2
    rw [h1] at hx; rw [h2] at hy
    cases hx; cases hy
    obtain ⟨v, cv, e1, e2, e3⟩ := run_intA t w h
    exact fin v cv e1 (guard_other (by intro cs; simp) (by simp)) (e2 E S) e3
  · rename_i op' m n h1 h2
    rw [h1] at hx; rw [h2] at hy
    cases hx; cases hy
    obtain ⟨v, cv, e1, e2, e3⟩ := run_strA t w h
    exact fin v cv e1 (guard_other (by intro cs; simp) (by simp)) (e2 E S) e3
  · rename_i m n h1 h2
    rw [h1] at hx; rw [h2] at hy
    cases hx; cases hy
    exact fin (.bool (m == n)) (.bool (m == n)) (run_eql_of rfl (run_equalIn_bool' w 9999 t m n (isBoolT_true h.1))) (guard_other (by intro cs; simp) (by simp)) (.bool _) h.2
  · rename_i m n h1 h2
    rw [h1] at hx; rw [h2] at hy
    cases hx; cases hy
    exact fin (.bool (!(m == n))) (.bool (!(m == n))) (run_neq_of rfl (run_equalIn_bool' w 9999 t m n (isBoolT_true h.1))) (guard_other (by intro cs; simp) (by simp)) (.bool _) h.2
  · rename_i p h1 h2
    rw [h1] at hx; rw [h2] at hy
    obtain ⟨e, he⟩ := isPtrT_true h.1
    cases hx <;> cases hy
    · exact fin _ (.bool true) (run_eql_of rfl (run_eq_ptr he _ _)) (guard_other (by intro cs; simp) (by simp)) (.bool _) h.2
    · exact fin _ (.bool false) (run_eql_of rfl (run_eq_ptr he _ _)) (guard_other (by intro cs; simp) (by simp)) (.bool _) h.2
  · rename_i p h1 h2
    rw [h1] at hx; rw [h2] at hy
    obtain ⟨e, he⟩ := isPtrT_true h.1
    cases hx <;> cases hy
    · exact fin _ (.bool false) (run_neq_of rfl (run_eq_ptr he _ _)) (guard_other (by intro cs; simp) (by simp)) (.bool _) h.2
    · exact fin _ (.bool true) (run_neq_of rfl (run_eq_ptr he _ _)) (guard_other (by intro cs; simp) (by simp)) (.bool _) h.2
  · rename_i xs ys h1 h2
    rw [h1] at hx; rw [h2] at hy
    cases hx with
    | agg cs vs hl hone hr =>
      cases hy with
      | agg cs' vs' hl' hone' hr' =>
        have := run_eqAgg h.1 h.2.1 hl hl' hr hr'
        exact fin _ (.bool (eqL xs ys)) (by rw [run_eql_struct, this]; rfl) (guard_agg (sortsA_some h.1).1) (.bool _) h.2.2
  · rename_i xs ys h1 h2
    rw [h1] at hx; rw [h2] at hy
    cases hx with
    | agg cs vs hl hone hr =>
      cases hy with
      | agg cs' vs' hl' hone' hr' =>
        have := run_eqAgg h.1 h.2.1 hl hl' hr hr'
        exact fin _ (.bool (!eqL xs ys)) (by rw [run_neq_struct, this]; rfl) (guard_agg (sortsA_some h.1).1) (.bool _) h.2.2
  · exact h.elim

theorem snd_nilcmp {op : BinOp} {t yt : TypeId} {x y : Operand} (ho : o.op = .binOp op t x y yt) (hc : isNilC y = true) (hR : Rel E S w) (hF : FRel E S w F a.tmps)
    (h : nilA P op t (ev F x) S (fun v => K v F S)) (hn : Cont E S w o a next K) : o.wp P a w next Q := by
  have hx := ev_rel hF x
  have hqy : a.eval y = .slice none 0 0 := by
    unfold isNilC at hc
    split at hc
    · rfl
    · cases hc
  have fin : ∀ v cv, (binOp op t (a.eval x) (a.eval y)).run P w = .ok cv w → (eqGuard op t x y (a.eval x) (a.eval y)).run P w = .ok () w → VRel E S w v cv → K v F S → o.wp P a w next Q := by
    intro v cv h1 h2 h3 h4
    refine wp_val (v := cv) (w' := w) ?_ (hn.same hR hF h3 h4)
    simp only [execOp, ho, Sem.run_bind, h2, Result.andThen_ok, h1, Sem.run_pure]
  unfold nilA at h
  generalize hqx : a.eval x = cvx at hx fin
  rw [hqy] at fin
  split at h
  · rename_i ow sz xs h1
    rw [h1] at hx
    obtain ⟨hs, h⟩ := h
    obtain ⟨e, he⟩ := Option.isSome_iff_exists.1 hs
    obtain ⟨aa, n, c, rfl, hk⟩ := nilSl hx h
    exact fin _ (.bool aa.isNone) (run_eql_of rfl (run_eq_nilSl (sliceT_some he) _ _ _ _)) (guard_other (by intro cs; simp) (by simp)) (.bool _) hk
  · rename_i ow sz xs h1
    rw [h1] at hx
    obtain ⟨hs, h⟩ := h
    obtain ⟨e, he⟩ := Option.isSome_iff_exists.1 hs
    obtain ⟨aa, n, c, rfl, hk⟩ := nilSl hx h
    exact fin _ (.bool (!aa.isNone)) (run_neq_of rfl (run_eq_nilSl (sliceT_some he) _ _ _ _)) (guard_other (by intro cs; simp) (by simp)) (.bool _) hk
  · exact h.elim
end
end Go.Proofs.Ytmfkocmbmadkmaa.Abs
