/- Lines that go to records and back: the plain law. -/
import Derived.Test.YthpomdoaiibnfaaFx1
namespace Go.Proofs.Ythpomdoaiibnfaa.Abs
open Go Go.Proofs
set_option linter.unusedVariables false

def recsL (n : Nat) (ts : List (List UInt8)) : List UInt8 := ts.flatMap (recP n)
def linesL (ts : List (List UInt8)) : List UInt8 := ts.flatMap (· ++ [10])
def overs (n : Nat) (ts : List (List UInt8)) : Nat := (ts.map (over n)).sum
theorem recsL_len (n : Nat) (ts : List (List UInt8)) : (recsL n ts).length = n * ts.length := by
  induction ts with
  | nil => rfl
  | cons t ts ih =>
    show (recP n t ++ recsL n ts).length = _
    rw [List.length_append, recP_len, ih, List.length_cons, Nat.mul_add, Nat.mul_one, Nat.add_comm]
theorem recsL_take {n : Nat} {ts : List (List UInt8)} {i : Nat} (h : i < ts.length) : recsL n (ts.take (i + 1)) = recsL n (ts.take i) ++ recP n ts[i] := by
  rw [List.take_succ_eq_append_getElem h, recsL, List.flatMap_append]; simp [recsL]
theorem linesL_take {ts : List (List UInt8)} {i : Nat} (h : i < ts.length) : linesL (ts.take (i + 1)) = linesL (ts.take i) ++ (ts[i] ++ [10]) := by
  rw [List.take_succ_eq_append_getElem h, linesL, List.flatMap_append]; simp [linesL]
theorem overs_take {n : Nat} {ts : List (List UInt8)} {i : Nat} (h : i < ts.length) : overs n (ts.take (i + 1)) = overs n (ts.take i) + over n ts[i] := by
  rw [List.take_succ_eq_append_getElem h, overs, List.map_append, List.sum_append]; simp [overs]
theorem pk_line (n : Nat) : ∀ (t : List UInt8) (s : PkS), (∀ x ∈ t, x ≠ 10) → pk n s (t ++ [10]) = ⟨s.out ++ recP n (s.line ++ t), [], s.cut + over n (s.line ++ t)⟩
  | [], s, _ => by simp [pk, pkStep]
  | x :: t, s, h => by
    have hx : x ≠ 10 := h x (List.mem_cons_self ..)
    show pk n (pkStep n s x) (t ++ [10]) = _
    rw [pk_line n t _ (fun y hy => h y (List.mem_cons_of_mem _ hy))]
    simp [pkStep, hx]
theorem pk_lines (n : Nat) : ∀ (ts : List (List UInt8)) (o : List UInt8) (c : Nat), (∀ t ∈ ts, ∀ x ∈ t, x ≠ 10) → pk n ⟨o, [], c⟩ (linesL ts) = ⟨o ++ recsL n ts, [], c + overs n ts⟩
  | [], o, c, _ => by simp [pk, linesL, recsL, overs]
  | t :: ts, o, c, h => by
    show pk n ⟨o, [], c⟩ ((t ++ [10]) ++ linesL ts) = _
    rw [pk_app, pk_line n t _ (h t (List.mem_cons_self ..))]
    dsimp only
    rw [List.nil_append, pk_lines n ts _ _ (fun u hu => h u (List.mem_cons_of_mem _ hu))]
    have e1 : recsL n (t :: ts) = recP n t ++ recsL n ts := rfl
    have e2 : overs n (t :: ts) = over n t + overs n ts := by simp [overs]
    rw [e1, e2, List.append_assoc, Nat.add_assoc]
theorem packAll_lines (n : Nat) (ts : List (List UInt8)) (h : ∀ t ∈ ts, ∀ x ∈ t, x ≠ 10) : packAll n (linesL ts) = ⟨recsL n ts, [], overs n ts⟩ := by
  rw [packAll, pk_lines n ts [] 0 h]
  simp [pkEnd]
theorem un_rec (c : Nat) : ∀ (b : List UInt8) (s : UnS), s.b.length + b.length = c → b ≠ [] → un c s b = ⟨s.out ++ lineU (s.b ++ b), []⟩
  | [], s, _, h => absurd rfl h
  | [x], s, h, _ => by
    have h' : s.b.length + 1 = c := h
    simp [un, unStep, h']
  | x :: y :: r, s, h, _ => by
    have h' : ¬ s.b.length + 1 = c := by simp at h; omega
    show un c (unStep c s x) (y :: r) = _
    rw [show unStep c s x = ⟨s.out, s.b ++ [x]⟩ by simp [unStep, h']]
    rw [un_rec c (y :: r) _ (by simp at h ⊢; omega) (by simp)]
    simp
theorem un_recs (c : Nat) (hc : 0 < c) : ∀ (ts : List (List UInt8)) (o : List UInt8), un c ⟨o, []⟩ (recsL c ts) = ⟨o ++ ts.flatMap (fun t => lineU (recP c t)), []⟩
  | [], o => by simp [un, recsL]
  | t :: ts, o => by
    show un c ⟨o, []⟩ (recP c t ++ recsL c ts) = _
    have hl := recP_len c t
    rw [un_app, un_rec c (recP c t) ⟨o, []⟩ (by simp [hl]) (by intro e; rw [e] at hl; simp at hl; omega)]
    dsimp only
    rw [List.nil_append, un_recs c hc ts]
    simp
theorem strip_rep (x : List UInt8) (k : Nat) : strip (x ++ List.replicate k 32) = strip x := by
  unfold strip
  rw [List.reverse_append, List.reverse_replicate]
  congr 1
  induction k with
  | zero => simp
  | succ k ih => rw [List.replicate_succ, List.cons_append, List.dropWhile_cons_of_pos (by simp)]; exact ih
theorem strip_id {x : List UInt8} (h : ∀ hp : 0 < x.length, ¬ x[x.length - 1] = 32) : strip x = x := by
  rcases Nat.eq_zero_or_pos x.length with h0 | h0
  · rw [List.length_eq_zero_iff.1 h0]; rfl
  · have h1 := h h0
    have h2 := strip_stop x (n := x.length - 1) (by omega) h1
    rw [Nat.sub_add_cancel (by omega), List.take_length] at h2
    exact h2
/-- A line that is short enough, and does not end with a blank. -/
theorem lineU_rec {n : Nat} {t : List UInt8} (hl : t.length ≤ n) (h : ∀ hp : 0 < t.length, ¬ t[t.length - 1] = 32) : lineU (recP n t) = t ++ [10] := by
  rw [lineU, recP, strip_rep, List.take_of_length_le hl, strip_id h]
theorem unpackAll_recs {n : Nat} (hn : 0 < n) {ts : List (List UInt8)} (h : ∀ t ∈ ts, t.length ≤ n ∧ ∀ hp : 0 < t.length, ¬ t[t.length - 1] = 32) : unpackAll n (recsL n ts) = ⟨linesL ts, []⟩ := by
  rw [unpackAll, un_recs n hn ts []]
  have e : ts.flatMap (fun t => lineU (recP n t)) = linesL ts := by
    unfold linesL
    induction ts with
    | nil => rfl
    | cons t ts ih =>
      rw [List.flatMap_cons, List.flatMap_cons, ih (fun u hu => h u (List.mem_cons_of_mem _ hu)), lineU_rec (h t (List.mem_cons_self ..)).1 (h t (List.mem_cons_self ..)).2]
  rw [List.nil_append, e]
  rfl
theorem overs_zero {n : Nat} {ts : List (List UInt8)} (h : ∀ t ∈ ts, t.length ≤ n) : overs n ts = 0 := by
  unfold overs
  induction ts with
  | nil => rfl
  | cons t ts ih =>
    rw [List.map_cons, List.sum_cons, ih (fun u hu => h u (List.mem_cons_of_mem _ hu))]
    have := h t (List.mem_cons_self ..)
    simp [over]; omega
theorem linesL_len {n : Nat} {ts : List (List UInt8)} (h : ∀ t ∈ ts, t.length ≤ n) : (linesL ts).length ≤ (n + 1) * ts.length := by
  induction ts with
  | nil => simp [linesL]
  | cons t ts ih =>
    have h1 := ih (fun u hu => h u (List.mem_cons_of_mem _ hu))
    have h2 := h t (List.mem_cons_self ..)
    show ((t ++ [10]) ++ linesL ts).length ≤ _
    have e : (n + 1) * (t :: ts).length = (n + 1) * ts.length + (n + 1) := by rw [List.length_cons, Nat.mul_add, Nat.mul_one]
    rw [e, List.length_append, List.length_append, List.length_singleton]
    omega
end Go.Proofs.Ythpomdoaiibnfaa.Abs
