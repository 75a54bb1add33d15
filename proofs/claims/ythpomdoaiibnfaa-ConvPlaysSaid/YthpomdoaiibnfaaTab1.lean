/- Map, the document's Map, Then: contracts. -/
import Derived.Test.YthpomdoaiibnfaaLib0
import Derived.Test.YthpomdoaiibnfaaTabK1
namespace Go.Proofs.Ythpomdoaiibnfaa.Abs
open Go Go.Proofs
set_option linter.unusedVariables false
set_option linter.unusedSimpArgs false
attribute [local irreducible] wpI wpR ropK chk ASt.push ASt.put ASt.fresh ASt.kill appS

def mapL (t b : List UInt8) : List UInt8 := b.map fun x => t.getD x.toNat 0
theorem mapL_len (t b : List UInt8) : (mapL t b).length = b.length := by simp [mapL]
theorem mapL_app (t a b : List UInt8) : mapL t (a ++ b) = mapL t a ++ mapL t b := by simp [mapL]
theorem mapL_get (t b : List UInt8) {i : Nat} (h : i < b.length) : mapL t [b[i]] = [t.getD b[i].toNat 0] := rfl
theorem i_tab {r : List RI} {K : Fr → ASt → Prop} {F : Fr} {S : ASt} {P : Program} {d o m : Nat} {a : RO} {t : List UInt8} (ha : ro F a = .ptr (some (o, m))) (ho : S.objs[o]? = some (u8s t)) (hm : m < t.length) (k : wpI P r K ((d, u8 (t.getD m 0)) :: F) S) :
    wpI P (⟨false, none, .load a, some d⟩ :: r) K F S := by
  refine i_load ha ho ?_ k
  rw [List.getElem?_map, List.getElem?_eq_getElem hm]
  simp [List.getD, hm]

theorem tabMap (t : List UInt8) (o1 : Own) (s1 : Nat) (b : List UInt8) (S : ASt) (ht : t.length = 256) (hs : s1 = 1 ∨ b = []) (hr : Rd S o1) (hb : b.length ≤ 1000000) :
    ACalls Try.prog 19 [.agg (u8s t), .sl o1 s1 (u8s b)] S fun v S' => Stays S S' [] ∧ BA S S' v (mapL t b) := by
  refine en_19 (by exact Nat.le_of_ble_eq_true rfl) ?_
  unfold rc_19
  refine r_reg ?_
  apply i_boxA
  · exact rfl
  apply i_mov
  · exact tS0 rfl
  refine i_nil ?_
  refine r_reg ?_
  apply i_mov
  · exact tS0 rfl
  refine i_nil ?_
  refine r_reg ?_
  apply i_mov
  · exact tS rfl
  apply i_lenM
  · exact rfl
  apply i_mov
  · exact tI rfl
  refine i_nil ?_
  refine r_block ?_
  refine r_loopP [2, 5, 8, 9, 10] (fun m G S' => ∃ (i : Nat) (o5 : Own) (s5 : Nat), G = [(2, .ptr (some (S.objs.length, 0))), (5, .sl o5 s5 (u8s (mapL t (b.take i)))), (8, .sl o1 s1 (u8s b)), (9, .int .i64 (b.length : Nat)), (10, .int .i64 (i : Nat))] ∧ m = b.length - i ∧ i ≤ b.length ∧
    Stays S S' [] ∧ S'.objs[S.objs.length]? = some (u8s t) ∧ App S' o5 1 s5 i ∧ (∀ t, o5 = .own t → S.next ≤ t)) ?_ ?_
  · exact ⟨_, 0, .nil, 0, rfl, rfl, Nat.zero_le _, by ((refine Stays.push ?_; exact Stays.refl _ _)), by (exact Ob.new), App.none, by (intro t ht; cases ht; first | done | ((try simp only [next_fresh, next_kill, next_push, next_put, appS_next]); omega))⟩
  rintro m G S2 ⟨i, o5, s5, rfl, rfl, hi, hst, hob, ha5, hn5⟩
  have hne : ∀ t, o5 = .own t → o1.tok ≠ some t := by
    intro t h h2
    have h3 := hn5 t h
    have h4 := hr.2 t h2
    omega
  by_cases hc : i < b.length
  · obtain rfl := sz_pos hs (by omega)
    have hlt := (b[i]).toNat_lt
    have hml := mapL_len t (b.take i)
    rw [List.length_take, Nat.min_eq_left hi] at hml
    have hbt : (b[i]).toNat < t.length := by omega
    have ht1 : mapL t (b.take i) ++ [t[b[i].toNat]] = mapL t (b.take (i + 1)) := by
      rw [List.take_succ_eq_append_getElem hc, mapL_app]; simp [mapL, List.getD, hbt]
    refine r_reg ?_
    apply i_ltT
    · exact rfl
    · exact rfl
    · omega
    refine i_nil ?_
    apply r_condT
    · exact rfl
    refine r_nop ?_
    refine r_block ?_
    refine r_reg ?_
    apply i_idxM
    · exact rfl
    · exact rfl
    · exact rfl
    · exact rfl
    · (refine Rd.rd ?_; exact Rd.stays (S := S) (by assumption) (by assumption))
    · omega
    apply i_loadM
    · exact rfl
    · (refine Rd.rd ?_; exact Rd.stays (S := S) (by assumption) (by assumption))
    · omega
    · exact fun _ => rfl
    (refine ⟨by omega, ?_⟩)
    apply i_mov
    · exact tI rfl
    refine i_nil ?_
    refine r_reg ?_
    apply i_mov
    · exact tS rfl
    apply i_mov
    · exact tI rfl
    apply i_idxA
    · exact rfl
    · exact rfl
    · exact rfl
    · exact rfl
    · omega
    apply i_load
    · exact rfl
    · assumption
    · exact map_get (by omega)
    apply i_mk1B
    · exact rfl
    refine i_appX (a := mapL t (b.take i)) (b := [t[b[i].toNat]]) rfl rfl (by rw [hml]; exact ha5) (.inl rfl) (by exact True.intro) (by rw [hml]; simp; omega) ?_
    rw [ht1]
    apply i_mov
    · exact tS rfl
    refine i_nil ?_
    refine r_nop ?_
    refine r_reg ?_
    apply i_add
    · exact rfl
    · exact rfl
    · omega
    apply i_mov
    · exact tI rfl
    refine i_nil ?_
    refine r_nop ?_
    apply q_l
    · refine ⟨i + 1, _, _, rfl, rfl, hc, by ((refine Stays.app ?_ (by (first | assumption | (intro t ht; cases ht; done) | (intro t ht; cases ht; ((try simp only [next_fresh, next_kill, next_push, next_put, appS_next]); omega)))); assumption)), by ((apply Ob.app; assumption)), App.new, ?_⟩
      have := hst.next; (intro t ht; cases ht; first | done | ((try simp only [next_fresh, next_kill, next_push, next_put, appS_next]); omega))
    · omega
    · exact ⟨rfl, rfl, rfl, rfl, int_eq (by omega), trivial⟩
  · have e : i = b.length := by omega
    subst e
    rw [List.take_length]
    refine r_reg ?_
    apply i_ltF
    · exact rfl
    · exact rfl
    · omega
    refine i_nil ?_
    apply r_condF
    · exact rfl
    refine r_exit ?_
    refine r_reg ?_
    apply i_mov
    · exact tS rfl
    apply i_mov
    · exact tS rfl
    refine i_nil ?_
    refine r_ret ?_
    apply q_ret1
    · exact tS rfl
    exact ⟨by (assumption), ⟨o5, s5, rfl, by rw [mapL_len]; exact ha5, hn5⟩⟩
theorem refMap (t : List UInt8) (o1 : Own) (s1 : Nat) (b : List UInt8) (S : ASt) (ht : t.length = 256) (hs : s1 = 1 ∨ b = []) (hr : Rd S o1) (hb : b.length ≤ 1000000) :
    ACalls Try.prog 57 [.agg (u8s t), .sl o1 s1 (u8s b)] S fun v S' => Stays S S' [] ∧ BA S S' v (mapL t b) := by
  refine en_57 (by exact Nat.le_of_ble_eq_true rfl) ?_
  unfold rc_57
  refine r_reg ?_
  apply i_boxA
  · exact rfl
  apply i_mov
  · exact tS0 rfl
  refine i_nil ?_
  refine r_reg ?_
  apply i_mov
  · exact tS0 rfl
  refine i_nil ?_
  refine r_reg ?_
  apply i_mov
  · exact tI rfl
  refine i_nil ?_
  refine r_block ?_
  refine r_loopP [1, 2, 5, 6] (fun m G S' => ∃ (i : Nat) (o5 : Own) (s5 : Nat), G = [(1, .sl o1 s1 (u8s b)), (2, .ptr (some (S.objs.length, 0))), (5, .sl o5 s5 (u8s (mapL t (b.take i)))), (6, .int .i64 (i : Nat))] ∧ m = b.length - i ∧ i ≤ b.length ∧
    Stays S S' [] ∧ S'.objs[S.objs.length]? = some (u8s t) ∧ App S' o5 1 s5 i ∧ (∀ t, o5 = .own t → S.next ≤ t)) ?_ ?_
  · exact ⟨_, 0, .nil, 0, rfl, rfl, Nat.zero_le _, by ((refine Stays.push ?_; exact Stays.refl _ _)), by (exact Ob.new), App.none, by (intro t ht; cases ht; first | done | ((try simp only [next_fresh, next_kill, next_push, next_put, appS_next]); omega))⟩
  rintro m G S2 ⟨i, o5, s5, rfl, rfl, hi, hst, hob, ha5, hn5⟩
  have hne : ∀ t, o5 = .own t → o1.tok ≠ some t := by
    intro t h h2
    have h3 := hn5 t h
    have h4 := hr.2 t h2
    omega
  by_cases hc : i < b.length
  · obtain rfl := sz_pos hs (by omega)
    have hlt := (b[i]).toNat_lt
    have hml := mapL_len t (b.take i)
    rw [List.length_take, Nat.min_eq_left hi] at hml
    have hbt : (b[i]).toNat < t.length := by omega
    have ht1 : mapL t (b.take i) ++ [t[b[i].toNat]] = mapL t (b.take (i + 1)) := by
      rw [List.take_succ_eq_append_getElem hc, mapL_app]; simp [mapL, List.getD, hbt]
    refine r_reg ?_
    apply i_mov
    · exact tI rfl
    apply i_mov
    · exact tS rfl
    apply i_lenM
    · exact rfl
    apply i_ltT
    · exact rfl
    · exact rfl
    · omega
    refine i_nil ?_
    apply r_condT
    · exact rfl
    refine r_nop ?_
    refine r_block ?_
    refine r_reg ?_
    apply i_mov
    · exact tS rfl
    apply i_mov
    · exact tS rfl
    apply i_mov
    · exact tI rfl
    apply i_idxM
    · exact rfl
    · exact rfl
    · exact rfl
    · exact rfl
    · (refine Rd.rd ?_; exact Rd.stays (S := S) (by assumption) (by assumption))
    · omega
    apply i_loadM
    · exact rfl
    · (refine Rd.rd ?_; exact Rd.stays (S := S) (by assumption) (by assumption))
    · omega
    · exact fun _ => rfl
    (refine ⟨by omega, ?_⟩)
    apply i_idxA
    · exact rfl
    · exact rfl
    · exact rfl
    · exact rfl
    · omega
    apply i_load
    · exact rfl
    · assumption
    · exact map_get (by omega)
    apply i_mk1B
    · exact rfl
    refine i_appX (a := mapL t (b.take i)) (b := [t[b[i].toNat]]) rfl rfl (by rw [hml]; exact ha5) (.inl rfl) (by exact True.intro) (by rw [hml]; simp; omega) ?_
    rw [ht1]
    apply i_mov
    · exact tS rfl
    refine i_nil ?_
    refine r_nop ?_
    refine r_reg ?_
    apply i_mov
    · exact tI rfl
    apply i_add
    · exact rfl
    · exact rfl
    · omega
    apply i_mov
    · exact tI rfl
    refine i_nil ?_
    refine r_nop ?_
    apply q_l
    · refine ⟨i + 1, _, _, rfl, rfl, hc, by ((refine Stays.app ?_ (by (first | assumption | (intro t ht; cases ht; done) | (intro t ht; cases ht; ((try simp only [next_fresh, next_kill, next_push, next_put, appS_next]); omega)))); assumption)), by ((apply Ob.app; assumption)), App.new, ?_⟩
      have := hst.next; (intro t ht; cases ht; first | done | ((try simp only [next_fresh, next_kill, next_push, next_put, appS_next]); omega))
    · omega
    · exact ⟨rfl, rfl, rfl, int_eq (by omega), trivial⟩
  · have e : i = b.length := by omega
    subst e
    rw [List.take_length]
    refine r_reg ?_
    apply i_mov
    · exact tI rfl
    apply i_mov
    · exact tS rfl
    apply i_lenM
    · exact rfl
    apply i_ltF
    · exact rfl
    · exact rfl
    · omega
    refine i_nil ?_
    apply r_condF
    · exact rfl
    refine r_exit ?_
    refine r_reg ?_
    apply i_mov
    · exact tS rfl
    apply i_mov
    · exact tS rfl
    refine i_nil ?_
    refine r_ret ?_
    apply q_ret1
    · exact tS rfl
    exact ⟨by (assumption), ⟨o5, s5, rfl, by rw [mapL_len]; exact ha5, hn5⟩⟩

/-! ### one behind the other -/
def idL : List UInt8 := (List.range 256).map fun i => UInt8.ofNat i
def thenL (ts : List (List UInt8)) : List UInt8 := ts.foldl (fun acc t => mapL t acc) idL
theorem idL_len : idL.length = 256 := by simp [idL]
theorem foldl_len (ts : List (List UInt8)) : ∀ acc : List UInt8, (ts.foldl (fun acc t => mapL t acc) acc).length = acc.length := by
  induction ts with
  | nil => intro acc; rfl
  | cons t ts ih => intro acc; rw [List.foldl_cons, ih, mapL_len]
theorem thenL_len (ts : List (List UInt8)) : (thenL ts).length = 256 := by rw [thenL, foldl_len, idL_len]
theorem mapL_getD (t acc : List UInt8) {i : Nat} (h : i < acc.length) : (mapL t acc).getD i 0 = t.getD (acc.getD i 0).toNat 0 := by
  simp [mapL, List.getD, h]
theorem mapL_id (b : List UInt8) : mapL idL b = b := by
  unfold mapL
  conv => rhs; rw [← List.map_id b]
  apply List.map_congr_left
  intro x _
  have := x.toNat_lt
  simp [idL, List.getD, this]
theorem mapL_mapL (t acc b : List UInt8) (h : acc.length = 256) : mapL (mapL t acc) b = mapL t (mapL acc b) := by
  unfold mapL
  rw [List.map_map]
  apply List.map_congr_left
  intro x _
  have := x.toNat_lt
  exact mapL_getD t acc (by omega)
theorem foldl_map (ts : List (List UInt8)) : ∀ (acc b : List UInt8), acc.length = 256 → mapL (ts.foldl (fun acc t => mapL t acc) acc) b = ts.foldl (fun x t => mapL t x) (mapL acc b) := by
  induction ts with
  | nil => intro acc b h; rfl
  | cons t ts ih =>
    intro acc b h
    rw [List.foldl_cons, List.foldl_cons, ih _ _ (by rw [mapL_len]; exact h), mapL_mapL t acc b h]
theorem thenL_map (ts : List (List UInt8)) (b : List UInt8) : mapL (thenL ts) b = ts.foldl (fun x t => mapL t x) b := by
  rw [thenL, foldl_map ts idL b idL_len, mapL_id]
theorem tSame (S : ASt) : ACalls Try.prog 45 [] S (fun u T => u = .agg (u8s idL) ∧ T = S) :=
  runT_ok code_ok (knX_ok .nil) (N := 300) (d := 8) (by kernel_rfl) nil_plain (plain_u8s _) S
abbrev tabv (t : List UInt8) : AV := .agg (u8s t)
/-- A table of which the first i bytes have gone through s. -/
def part (s acc : List UInt8) (i : Nat) : List UInt8 := mapL s (acc.take i) ++ acc.drop i
theorem part_zero (s acc : List UInt8) : part s acc 0 = acc := rfl
theorem part_len (s acc : List UInt8) (i : Nat) : (part s acc i).length = acc.length := by simp [part, mapL_len]; omega
theorem part_all (s acc : List UInt8) {i : Nat} (h : acc.length ≤ i) : part s acc i = mapL s acc := by
  simp [part, List.take_of_length_le h, List.drop_of_length_le h]
theorem part_get (s acc : List UInt8) {i : Nat} (h : i < acc.length) : (part s acc i).getD i 0 = acc[i] := by
  have e : (mapL s (acc.take i)).length = i := by rw [mapL_len, List.length_take]; omega
  simp [part, List.getD, List.getElem?_append_right (Nat.le_of_eq e), e, h]
theorem part_set (s acc : List UInt8) {i : Nat} (h : i < acc.length) : (part s acc i).set i (s.getD acc[i].toNat 0) = part s acc (i + 1) := by
  have e : (mapL s (acc.take i)).length = i := by rw [mapL_len, List.length_take]; omega
  unfold part
  rw [List.set_append_right _ _ (by omega), e, Nat.sub_self, List.drop_eq_getElem_cons h, List.set_cons_zero, List.take_succ_eq_append_getElem h, mapL_app, List.append_assoc]
  rfl

theorem i_loadT {r : List RI} {K : Fr → ASt → Prop} {F : Fr} {S : ASt} {P : Program} {d j n : Nat} {a : RO} {o : Own} {ts : List (List UInt8)} (ha : ro F a = .eptr o n (ts.map tabv) j 0) (hr : rdA S o) (hl : ∀ t ∈ ts, t.length = n) (k : ∃ hj : j < ts.length, wpI P r K ((d, tabv ts[j]) :: F) S) :
    wpI P (⟨false, none, .loadN n a, some d⟩ :: r) K F S := by
  obtain ⟨hj, k⟩ := k
  exact i_loadNE ha hr (Nat.le_refl n) (by rw [map_getD hj]) (by rw [List.length_map]; exact hl _ (List.getElem_mem hj)) k
theorem thenL_step {ts : List (List UInt8)} {i : Nat} (h : i < ts.length) : thenL (ts.take (i + 1)) = mapL ts[i] (thenL (ts.take i)) := by
  rw [List.take_succ_eq_append_getElem h, thenL, List.foldl_append]; rfl

theorem tabThen (ts : List (List UInt8)) (S : ASt) (ht : ∀ t ∈ ts, t.length = 256) (hb : ts.length ≤ 1000000) (o0 : Own) (s0 : Nat) (hr : Rd S o0) (hs : s0 = 256 ∨ ts = []) :
    ACalls Try.prog 24 [.sl o0 s0 (ts.map tabv)] S fun v S' => Stays S S' [] ∧ v = tabv (thenL ts) := by
  refine en_24 (by exact Nat.le_of_ble_eq_true rfl) ?_
  unfold rc_24
  have hid : (u8s idL).length = 256 := by rw [List.length_map, idL_len]
  have hz0 : (List.replicate 256 (AV.int .u8 0)).length = 256 := List.length_replicate
  generalize hz : List.replicate 256 (AV.int .u8 0) = z0 at hz0 ⊢
  refine r_reg ?_
  refine i_alloc ?_
  refine i_nil ?_
  refine r_reg ?_
  refine i_call (tSame _) rfl ?_
  rintro v S1 ⟨rfl, rfl⟩
  refine i_alloc ?_
  apply i_stN
  · exact rfl
  · exact rfl
  · exact Ob.new
  · with_reducible assumption
  · with_reducible assumption
  · exact rfl
  refine i_nil ?_
  refine r_reg ?_
  apply i_mov
  · exact tS rfl
  apply i_lenM
  · exact rfl
  apply i_mov
  · exact tI rfl
  refine i_nil ?_
  refine r_block ?_
  refine r_loopP [2, 3, 8, 9, 10] (fun m G S' => ∃ (i o3 : Nat), G = [(2, .ptr (some (S.objs.length, 0))), (3, .ptr (some (o3, 0))), (8, .sl o0 s0 (ts.map tabv)), (9, .int .i64 (ts.length : Nat)), (10, .int .i64 (i : Nat))] ∧ m = ts.length - i ∧ i ≤ ts.length ∧
    Stays S S' [] ∧ S.objs.length < o3 ∧ o3 < S'.objs.length ∧ S'.objs[S.objs.length]? = some z0 ∧ S'.objs[o3]? = some (u8s (thenL (ts.take i)))) ?_ ?_
  · refine ⟨_, 0, (S.push z0).objs.length, rfl, rfl, Nat.zero_le _, by ((refine Stays.put ?_ (by (first | exact Or.inl (List.mem_cons_self ..) | exact Or.inl (List.mem_cons_of_mem _ (List.mem_cons_self ..)) | exact Or.inr (by simp only [Ob.len_push, Ob.len_put, appS_objs, objs_fresh, objs_kill]; omega) | exact Or.inr (by omega))); refine Stays.push ?_; refine Stays.push ?_; exact Stays.refl _ _)), by (simp only [Ob.len_push]; omega), by (simp only [Ob.len_push, Ob.len_put]; omega), (by (apply Ob.putNe' (by simp only [Ob.len_push]; omega)); (apply Ob.push); exact Ob.new), Ob.put (by (simp only [Ob.len_push]; omega))⟩
  rintro m G S2 ⟨i, o3, rfl, rfl, hi, hst, h23, hlt, ho2, ho3⟩
  have htl := thenL_len (ts.take i)
  have htm : (u8s (thenL (ts.take i))).length = 256 := by rw [List.length_map]; exact htl
  by_cases hc : i < ts.length
  · obtain rfl : s0 = 256 := by
      rcases hs with h | h
      · exact h
      · subst h; simp at hc
    have hti := ht _ (List.getElem_mem hc)
    have htj : (u8s ts[i]).length = 256 := by rw [List.length_map]; exact hti
    refine r_reg ?_
    apply i_ltT
    · exact rfl
    · exact rfl
    · omega
    refine i_nil ?_
    apply r_condT
    · exact rfl
    refine r_nop ?_
    refine r_block ?_
    refine r_reg ?_
    apply i_idxM
    · exact rfl
    · exact rfl
    · exact rfl
    · exact rfl
    · (refine Rd.rd ?_; exact Rd.stays (S := S) (by assumption) (by assumption))
    · omega
    refine i_loadT rfl (by (refine Rd.rd ?_; exact Rd.stays (S := S) (by assumption) (by assumption))) ht ⟨hc, ?_⟩
    refine i_alloc ?_
    apply i_stN
    · exact rfl
    · exact rfl
    · exact Ob.new
    · with_reducible assumption
    · with_reducible assumption
    · exact rfl
    refine i_nil ?_
    refine r_reg ?_
    apply i_mov
    · exact tI rfl
    refine i_nil ?_
    refine r_block ?_
    refine r_loopP [2, 3, 5, 8, 9, 10, 14] (fun m G S' => ∃ (j : Nat) (c : List UInt8), G = [(2, .ptr (some (S.objs.length, 0))), (3, .ptr (some (o3, 0))), (5, .ptr (some (S2.objs.length, 0))), (8, .sl o0 256 (ts.map tabv)), (9, .int .i64 (ts.length : Nat)), (10, .int .i64 (i : Nat)), (14, .int .i64 (j : Nat))] ∧ m = 256 - j ∧ j ≤ 256 ∧
      c = part ts[i] (thenL (ts.take i)) j ∧ Stays S S' [] ∧ o3 < S'.objs.length ∧ S2.objs.length < S'.objs.length ∧ S'.objs[S.objs.length]? = some z0 ∧ S'.objs[o3]? = some (u8s c) ∧ S'.objs[S2.objs.length]? = some (u8s ts[i])) ?_ ?_
    · refine ⟨_, 0, _, rfl, rfl, by omega, (part_zero _ _).symm, by ((refine Stays.put ?_ (by (first | exact Or.inl (List.mem_cons_self ..) | exact Or.inl (List.mem_cons_of_mem _ (List.mem_cons_self ..)) | exact Or.inr (by simp only [Ob.len_push, Ob.len_put, appS_objs, objs_fresh, objs_kill]; omega) | exact Or.inr (by omega))); refine Stays.push ?_; assumption)), by (simp only [Ob.len_push, Ob.len_put]; omega), by (simp only [Ob.len_push, Ob.len_put]; omega), by (((apply Ob.putNe' (by (try simp only [Ob.len_push, Ob.len_put, appS_objs, objs_fresh, objs_kill]); omega)); apply Ob.push; assumption)), by (((apply Ob.putNe' (by (try simp only [Ob.len_push, Ob.len_put, appS_objs, objs_fresh, objs_kill]); omega)); apply Ob.push; assumption)), Ob.put (by (simp only [Ob.len_push]; omega))⟩
    rintro m G S3 ⟨j, c, rfl, rfl, hj, hcp, hst3, hl3, hl2, hp2, hp3, hp5⟩
    by_cases hj2 : j < 256
    · have hcl : c.length = 256 := by rw [hcp, part_len]; exact htl
      have hjc : j < c.length := by omega
      have hg : c[j] = (thenL (ts.take i))[j]'(by omega) := by
        have := part_get ts[i] (thenL (ts.take i)) (i := j) (by omega)
        rw [← hcp] at this
        rw [← this]; simp [List.getD, hjc]
      have hb2 : (c[j]).toNat < 256 := (c[j]).toNat_lt
      have hb3 : (c[j]).toNat < ts[i].length := by omega
      have hset : c.set j ts[i][(c[j]).toNat] = part ts[i] (thenL (ts.take i)) (j + 1) := by
        have h1 := part_set ts[i] (thenL (ts.take i)) (i := j) (by omega)
        rw [← hcp, ← hg] at h1
        rw [← h1]; simp [List.getD, hb3]
      refine r_reg ?_
      apply i_ltT
      · exact rfl
      · exact rfl
      · omega
      refine i_nil ?_
      apply r_condT
      · exact rfl
      refine r_nop ?_
      refine r_block ?_
      refine r_reg ?_
      apply i_mov
      · exact tI rfl
      apply i_mov
      · exact tI rfl
      refine i_nil ?_
      refine r_reg ?_
      apply i_mov
      · exact tI rfl
      apply i_mov
      · exact tI rfl
      apply i_idxA
      · exact rfl
      · exact rfl
      · exact rfl
      · exact rfl
      · omega
      apply i_load
      · exact rfl
      · assumption
      · exact map_get (by omega)
      apply i_idxA
      · exact rfl
      · exact rfl
      · exact rfl
      · exact rfl
      · omega
      apply i_load
      · exact rfl
      · assumption
      · exact map_get (by omega)
      apply i_idxA
      · exact rfl
      · exact rfl
      · exact rfl
      · exact rfl
      · omega
      apply i_st
      · exact rfl
      · exact tI rfl
      · exact rfl
      · assumption
      · (simp only [List.length_map]; omega)
      refine i_nil ?_
      refine r_nop ?_
      refine r_reg ?_
      apply i_add
      · exact rfl
      · exact rfl
      · omega
      apply i_mov
      · exact tI rfl
      refine i_nil ?_
      refine r_nop ?_
      apply q_l
      · refine ⟨j + 1, _, rfl, rfl, by omega, rfl, by ((refine Stays.put ?_ (by (first | exact Or.inl (List.mem_cons_self ..) | exact Or.inl (List.mem_cons_of_mem _ (List.mem_cons_self ..)) | exact Or.inr (by simp only [Ob.len_push, Ob.len_put, appS_objs, objs_fresh, objs_kill]; omega) | exact Or.inr (by omega))); assumption)), by (simp only [Ob.len_put]; omega), by (simp only [Ob.len_put]; omega), (by (apply Ob.putNe' (by omega)); exact hp2), ?_, (by (apply Ob.putNe' (by omega)); exact hp5)⟩
        rw [← hset, show u8s (c.set j ts[i][(c[j]).toNat]) = (u8s c).set j (u8 ts[i][(c[j]).toNat]) from List.map_set]
        exact Ob.put hl3
      · omega
      · exact ⟨rfl, rfl, rfl, rfl, rfl, rfl, int_eq (by omega), trivial⟩
    · have e : j = 256 := by omega
      subst e
      have hcq : c = thenL (ts.take (i + 1)) := by rw [thenL_step hc, hcp]; exact part_all _ _ (by omega)
      rw [hcq] at hp3
      refine r_reg ?_
      apply i_ltF
      · exact rfl
      · exact rfl
      · omega
      refine i_nil ?_
      apply r_condF
      · exact rfl
      refine r_exit ?_
      refine r_nop ?_
      refine r_reg ?_
      apply i_add
      · exact rfl
      · exact rfl
      · omega
      apply i_mov
      · exact tI rfl
      refine i_nil ?_
      refine r_nop ?_
      apply q_l
      · refine ⟨i + 1, o3, rfl, rfl, hc, by (assumption), h23, hl3, hp2, hp3⟩
      · omega
      · exact ⟨rfl, rfl, rfl, rfl, int_eq (by omega), trivial⟩
  · have e : i = ts.length := by omega
    subst e
    rw [List.take_length] at ho3 htm
    refine r_reg ?_
    apply i_ltF
    · exact rfl
    · exact rfl
    · omega
    refine i_nil ?_
    apply r_condF
    · exact rfl
    refine r_exit ?_
    refine r_reg ?_
    apply i_loadN
    · exact rfl
    · assumption
    · with_reducible assumption
    apply i_stN
    · exact rfl
    · exact rfl
    · assumption
    · with_reducible assumption
    · with_reducible assumption
    · exact rfl
    refine i_nil ?_
    refine r_ret ?_
    apply q_retN
    · exact rfl
    · (apply Ob.put'; assumption)
    · with_reducible assumption
    exact ⟨by ((refine Stays.put ?_ (by (first | exact Or.inl (List.mem_cons_self ..) | exact Or.inl (List.mem_cons_of_mem _ (List.mem_cons_self ..)) | exact Or.inr (by simp only [Ob.len_push, Ob.len_put, appS_objs, objs_fresh, objs_kill]; omega) | exact Or.inr (by omega))); assumption)), rfl⟩
end Go.Proofs.Ythpomdoaiibnfaa.Abs
