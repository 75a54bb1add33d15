/- Records of lines, lines of records: the plain law. -/
import Derived.Test.YthpomdoaiibnfaaFx0
namespace Go.Proofs.Ythpomdoaiibnfaa.Abs
open Go Go.Proofs
set_option linter.unusedVariables false

/-! ### records of lines -/
def recP (c : Nat) (line : List UInt8) : List UInt8 := line.take c ++ List.replicate (c - line.length) 32
theorem recP_len (c : Nat) (line : List UInt8) : (recP c line).length = c := by simp [recP]; omega
def over (c : Nat) (line : List UInt8) : Nat := if c < line.length then 1 else 0
structure PkS where
  out : List UInt8
  line : List UInt8
  cut : Nat
def pkStep (c : Nat) (s : PkS) (x : UInt8) : PkS := if x = 10 then ⟨s.out ++ recP c s.line, [], s.cut + over c s.line⟩ else ⟨s.out, s.line ++ [x], s.cut⟩
def pk (c : Nat) (s : PkS) (b : List UInt8) : PkS := b.foldl (pkStep c) s
def pkEnd (c : Nat) (s : PkS) : PkS := if s.line = [] then s else ⟨s.out ++ recP c s.line, [], s.cut + over c s.line⟩
theorem pk_snoc (c : Nat) (s : PkS) (b : List UInt8) (x : UInt8) : pk c s (b ++ [x]) = pkStep c (pk c s b) x := by simp [pk]
theorem pk_app (c : Nat) (s : PkS) (a b : List UInt8) : pk c s (a ++ b) = pk c (pk c s a) b := by simp [pk]
theorem pk_take (c : Nat) (s : PkS) (b : List UInt8) {i : Nat} (h : i < b.length) : pk c s (b.take (i + 1)) = pkStep c (pk c s (b.take i)) b[i] := by
  rw [List.take_succ_eq_append_getElem h, pk_snoc]
/-- What came out before stands ahead. -/
def PkS.ahead (p : List UInt8) (s : PkS) : PkS := ⟨p ++ s.out, s.line, s.cut⟩
theorem pkStep_ahead (c : Nat) (p : List UInt8) (s : PkS) (x : UInt8) : pkStep c (s.ahead p) x = (pkStep c s x).ahead p := by
  unfold pkStep PkS.ahead
  split <;> simp
theorem pk_ahead (c : Nat) (p : List UInt8) : ∀ (b : List UInt8) (s : PkS), pk c (s.ahead p) b = (pk c s b).ahead p
  | [], s => rfl
  | x :: b, s => by
    show pk c (pkStep c (s.ahead p) x) b = (pk c (pkStep c s x) b).ahead p
    rw [pkStep_ahead, pk_ahead c p b]
theorem pkEnd_ahead (c : Nat) (p : List UInt8) (s : PkS) : pkEnd c (s.ahead p) = (pkEnd c s).ahead p := by
  unfold pkEnd PkS.ahead
  split <;> simp_all
theorem pk_len (c : Nat) : ∀ (b : List UInt8) (s : PkS), (pk c s b).out.length ≤ s.out.length + c * b.length ∧ (pk c s b).line.length ≤ s.line.length + b.length ∧ (pk c s b).cut ≤ s.cut + b.length
  | [], s => by simp [pk]
  | x :: b, s => by
    have h := pk_len c b (pkStep c s x)
    show (pk c (pkStep c s x) b).out.length ≤ _ ∧ _
    have h1 : (pkStep c s x).out.length ≤ s.out.length + c ∧ (pkStep c s x).line.length ≤ s.line.length + 1 ∧ (pkStep c s x).cut ≤ s.cut + 1 := by
      unfold pkStep over
      split
      · refine ⟨by simp [recP_len], by simp, ?_⟩
        show s.cut + (if _ then _ else _) ≤ _
        split <;> omega
      · exact ⟨by simp, by simp, by simp⟩
    rw [List.length_cons, Nat.mul_add, Nat.mul_one]
    show _ ∧ (pk c (pkStep c s x) b).line.length ≤ _ ∧ (pk c (pkStep c s x) b).cut ≤ _
    generalize c * b.length = m at h ⊢
    omega
/-- One put: what comes out of it alone. -/
def pkOut (c : Nat) (line : List UInt8) (cut : Nat) (b : List UInt8) : PkS := pk c ⟨[], line, cut⟩ b
theorem pk_out (c : Nat) (s : PkS) (b : List UInt8) : pk c s b = (pkOut c s.line s.cut b).ahead s.out := by
  rw [pkOut, ← pk_ahead]
  simp [PkS.ahead]
def pkE (c : Nat) (line : List UInt8) (cut : Nat) : PkS := pkEnd c ⟨[], line, cut⟩
theorem pkE_out (c : Nat) (s : PkS) : pkEnd c s = (pkE c s.line s.cut).ahead s.out := by
  rw [pkE, ← pkEnd_ahead]
  simp [PkS.ahead]
theorem pkE_line (c : Nat) (line : List UInt8) (cut : Nat) : (pkE c line cut).line = [] := by
  unfold pkE pkEnd
  split
  · assumption
  · rfl
theorem pkE_len (c : Nat) (line : List UInt8) (cut : Nat) : (pkE c line cut).out.length ≤ c ∧ (pkE c line cut).cut ≤ cut + 1 := by
  unfold pkE pkEnd over
  split
  · simp
  · refine ⟨by simp [recP_len], ?_⟩
    show cut + (if _ then _ else _) ≤ _
    split <;> omega
/-- All of some pieces. -/
def packAll (c : Nat) (b : List UInt8) : PkS := pkEnd c (pk c ⟨[], [], 0⟩ b)

/-! ### lines of records -/
def strip (b : List UInt8) : List UInt8 := (b.reverse.dropWhile (· == 32)).reverse
def lineU (b : List UInt8) : List UInt8 := strip b ++ [10]
theorem strip_step (b : List UInt8) {n : Nat} (h : n < b.length) (h2 : b[n] = 32) : strip (b.take (n + 1)) = strip (b.take n) := by
  rw [List.take_succ_eq_append_getElem h, h2]
  simp [strip]
theorem strip_stop (b : List UInt8) {n : Nat} (h : n < b.length) (h2 : ¬ b[n] = 32) : strip (b.take (n + 1)) = b.take (n + 1) := by
  have : (b[n] == 32) = false := by simpa using h2
  have e := List.take_succ_eq_append_getElem h
  generalize b.take (n + 1) = x at e ⊢
  subst e
  unfold strip
  rw [List.reverse_append, List.reverse_singleton, List.singleton_append, List.dropWhile_cons_of_neg (by simpa using this), List.reverse_cons, List.reverse_reverse]
theorem strip_nil (b : List UInt8) : strip (b.take 0) = b.take 0 := by simp [strip]
theorem strip_len (b : List UInt8) : (strip b).length ≤ b.length := by
  unfold strip
  rw [List.length_reverse]
  have := (List.dropWhile_sublist (fun x => x == (32 : UInt8)) (l := b.reverse)).length_le
  rw [List.length_reverse] at this
  exact this
theorem lineU_len (b : List UInt8) : (lineU b).length ≤ b.length + 1 := by
  have := strip_len b
  simp [lineU]; omega
structure UnS where
  out : List UInt8
  b : List UInt8
def unStep (c : Nat) (s : UnS) (x : UInt8) : UnS := if s.b.length + 1 = c then ⟨s.out ++ lineU (s.b ++ [x]), []⟩ else ⟨s.out, s.b ++ [x]⟩
def un (c : Nat) (s : UnS) (b : List UInt8) : UnS := b.foldl (unStep c) s
def unEnd (s : UnS) : UnS := if s.b = [] then s else ⟨s.out ++ lineU s.b, []⟩
theorem un_app (c : Nat) (s : UnS) (a b : List UInt8) : un c s (a ++ b) = un c (un c s a) b := by simp [un]
theorem un_take (c : Nat) (s : UnS) (b : List UInt8) {i : Nat} (h : i < b.length) : un c s (b.take (i + 1)) = unStep c (un c s (b.take i)) b[i] := by
  rw [List.take_succ_eq_append_getElem h]; unfold un; rw [List.foldl_append]; rfl
def UnS.ahead (p : List UInt8) (s : UnS) : UnS := ⟨p ++ s.out, s.b⟩
theorem unStep_ahead (c : Nat) (p : List UInt8) (s : UnS) (x : UInt8) : unStep c (s.ahead p) x = (unStep c s x).ahead p := by
  unfold unStep UnS.ahead
  split <;> simp
theorem un_ahead (c : Nat) (p : List UInt8) : ∀ (b : List UInt8) (s : UnS), un c (s.ahead p) b = (un c s b).ahead p
  | [], s => rfl
  | x :: b, s => by
    show un c (unStep c (s.ahead p) x) b = (un c (unStep c s x) b).ahead p
    rw [unStep_ahead, un_ahead c p b]
theorem unEnd_ahead (p : List UInt8) (s : UnS) : unEnd (s.ahead p) = (unEnd s).ahead p := by
  unfold unEnd UnS.ahead
  split <;> simp_all
theorem un_len (c : Nat) : ∀ (b : List UInt8) (s : UnS), (un c s b).out.length + (un c s b).b.length ≤ s.out.length + s.b.length + 2 * b.length
  | [], s => by simp [un]
  | x :: b, s => by
    have h := un_len c b (unStep c s x)
    show (un c (unStep c s x) b).out.length + (un c (unStep c s x) b).b.length ≤ _
    have h1 : (unStep c s x).out.length + (unStep c s x).b.length ≤ s.out.length + s.b.length + 2 := by
      unfold unStep
      split
      · have := lineU_len (s.b ++ [x])
        simp at this ⊢; omega
      · simp; omega
    rw [List.length_cons]
    omega
theorem un_b (c : Nat) (hc : 0 < c) : ∀ (b : List UInt8) (s : UnS), s.b.length < c → (un c s b).b.length < c
  | [], s, h => h
  | x :: b, s, h => by
    refine un_b c hc b (unStep c s x) ?_
    unfold unStep
    split
    · simpa using hc
    · simp; omega
def unOut (c : Nat) (p : List UInt8) (b : List UInt8) : UnS := un c ⟨[], p⟩ b
theorem un_out (c : Nat) (s : UnS) (b : List UInt8) : un c s b = (unOut c s.b b).ahead s.out := by
  rw [unOut, ← un_ahead]
  simp [UnS.ahead]
def unE (p : List UInt8) : UnS := unEnd ⟨[], p⟩
theorem unE_out (s : UnS) : unEnd s = (unE s.b).ahead s.out := by
  rw [unE, ← unEnd_ahead]
  simp [UnS.ahead]
theorem unE_b (p : List UInt8) : (unE p).b = [] := by
  unfold unE unEnd
  split
  · assumption
  · rfl
def unpackAll (c : Nat) (b : List UInt8) : UnS := unEnd (un c ⟨[], []⟩ b)
end Go.Proofs.Ythpomdoaiibnfaa.Abs
