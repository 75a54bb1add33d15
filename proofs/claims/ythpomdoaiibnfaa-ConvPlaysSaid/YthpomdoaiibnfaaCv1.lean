/- Conversions: the plain law. -/
import Derived.Test.YthpomdoaiibnfaaFx2
import Derived.Test.YthpomdoaiibnfaaLib1
import Derived.Test.YthpomdoaiibnfaaTab1
namespace Go.Proofs.Ythpomdoaiibnfaa.Abs
open Go Go.Proofs
set_option linter.unusedVariables false
set_option linter.unusedSimpArgs false

/-! ### pairs turned about -/
theorem swap_len : ∀ l : List UInt8, (swapL l).length + (restL l).length = l.length
  | [] => rfl
  | [a] => rfl
  | a :: b :: r => by have := swap_len r; simp only [swapL, restL, List.length_cons]; omega
theorem rest_le (l : List UInt8) : (restL l).length ≤ 1 := by
  match l with
  | [] => simp [restL]
  | [a] => simp [restL]
  | a :: b :: r => exact rest_le r
theorem swap_app : ∀ (x b : List UInt8), swapL (x ++ b) = swapL x ++ swapL (restL x ++ b) ∧ restL (x ++ b) = restL (restL x ++ b)
  | [], b => by simp [swapL, restL]
  | [a], b => by simp [swapL, restL]
  | a :: c :: r, b => by
    obtain ⟨h1, h2⟩ := swap_app r b
    simp only [List.cons_append, swapL, restL, h1, h2, and_self]
def swF (on : Bool) (F : List UInt8) : List UInt8 := if on then swapL F else F
def kpF (on : Bool) (F : List UInt8) : List UInt8 := if on then restL F else []
theorem swF_app (on : Bool) (F b : List UInt8) : swF on (F ++ b) = swF on F ++ (if on then swapL (kpF on F ++ b) else b) := by
  cases on
  · rfl
  · exact (swap_app F b).1
theorem kpF_app (on : Bool) (F b : List UInt8) : kpF on (F ++ b) = if on then restL (kpF on F ++ b) else kpF on F := by
  cases on
  · rfl
  · exact (swap_app F b).2
theorem kpF_le (on : Bool) (F : List UInt8) : (kpF on F).length ≤ 1 := by
  cases on
  · simp [kpF]
  · exact rest_le F
theorem swF_len (on : Bool) (F : List UInt8) : (swF on F).length + (kpF on F).length = F.length := by
  cases on
  · simp [swF, kpF]
  · exact swap_len F

/-! ### what may be together -/
structure CV where
  swab : Bool
  block : Bool
  unblock : Bool
  lcase : Bool
  ucase : Bool
  ascii : Bool
  ebcdic : Bool
  ibm : Bool
  cbs : Int
def CV.cells (c : CV) : List AV := [.bool c.swab, .bool c.block, .bool c.unblock, .bool c.lcase, .bool c.ucase, .bool c.ascii, .bool c.ebcdic, .bool c.ibm, .int .i64 c.cbs]
def CV.zero : CV := ⟨false, false, false, false, false, false, false, false, 0⟩
def CV.blocks (c : CV) : Bool := c.block || c.ebcdic || c.ibm
def CV.unblocks (c : CV) : Bool := c.unblock || c.ascii
def CV.least (c : CV) : Int := if c.blocks || c.unblocks then 1 else 0
def cnt (l : List Bool) : Nat := (l.map Bool.toNat).sum
def two (l : List Bool) : Bool := decide (1 < cnt l)
def CV.may (c : CV) : Bool := !(two [c.ascii, c.ebcdic, c.ibm]) && !(two [c.lcase, c.ucase]) && !(two [c.blocks, c.unblocks]) && decide (c.least ≤ c.cbs) && decide (c.cbs ≤ 4096)
def CV.norm (c : CV) : CV := if c.may then c else CV.zero
theorem may_zero : CV.zero.may = true := by decide
theorem may_norm (c : CV) : c.norm.may = true := by
  unfold CV.norm
  split
  · assumption
  · exact may_zero
inductive Md where
  | thr
  | pck
  | unp
def CV.md (c : CV) : Md := if c.blocks then .pck else if c.unblocks then .unp else .thr
def CV.n (c : CV) : Nat := c.cbs.toNat
theorem may_cbs {c : CV} (h : c.may = true) : c.least ≤ c.cbs ∧ c.cbs ≤ 4096 := by
  simp only [CV.may, Bool.and_eq_true, decide_eq_true_eq] at h
  exact ⟨h.1.2, h.2⟩
theorem may_n {c : CV} (h : c.may = true) : (c.n : Int) = c.cbs ∧ c.n ≤ 4096 := by
  obtain ⟨h1, h2⟩ := may_cbs h
  have : 0 ≤ c.least := by unfold CV.least; split <;> omega
  unfold CV.n
  omega
theorem may_pos {c : CV} (h : c.may = true) (hm : (c.blocks || c.unblocks) = true) : 0 < c.n := by
  obtain ⟨h1, h2⟩ := may_cbs h
  unfold CV.least at h1
  rw [if_pos hm] at h1
  unfold CV.n
  omega

/-! ### tables ahead and behind -/
def CV.first (c : CV) (b : List UInt8) : List UInt8 :=
  let b1 := if c.ascii then mapL asciiL b else b
  let b2 := if c.lcase then mapL lowerL b1 else b1
  if c.ucase then mapL upperL b2 else b2
def CV.last (c : CV) (b : List UInt8) : List UInt8 :=
  let b1 := if c.ebcdic then mapL ebcdicL b else b
  if c.ibm then mapL ibmL b1 else b1
theorem first_app (c : CV) (a b : List UInt8) : c.first (a ++ b) = c.first a ++ c.first b := by
  unfold CV.first
  cases c.ascii <;> cases c.lcase <;> cases c.ucase <;> simp [mapL_app]
theorem last_app (c : CV) (a b : List UInt8) : c.last (a ++ b) = c.last a ++ c.last b := by
  unfold CV.last
  cases c.ebcdic <;> cases c.ibm <;> simp [mapL_app]
theorem first_len (c : CV) (b : List UInt8) : (c.first b).length = b.length := by
  unfold CV.first
  cases c.ascii <;> cases c.lcase <;> cases c.ucase <;> simp [mapL_len]
theorem last_len (c : CV) (b : List UInt8) : (c.last b).length = b.length := by
  unfold CV.last
  cases c.ebcdic <;> cases c.ibm <;> simp [mapL_len]

/-! ### records, lines, or all as it is -/
def mdOut (m : Md) (n : Nat) (line : List UInt8) (cut : Nat) (y : List UInt8) : PkS :=
  match m with
  | .thr => ⟨y, line, cut⟩
  | .pck => pkOut n line cut y
  | .unp => ⟨(unOut n line y).out, (unOut n line y).b, cut⟩
def mdEnd (m : Md) (n : Nat) (line : List UInt8) (cut : Nat) : PkS :=
  match m with
  | .thr => ⟨[], line, cut⟩
  | .pck => pkE n line cut
  | .unp => ⟨(unE line).out, [], cut⟩
def mdT (m : Md) (n : Nat) (y : List UInt8) : PkS :=
  match m with
  | .thr => ⟨y, [], 0⟩
  | .pck => pk n ⟨[], [], 0⟩ y
  | .unp => ⟨(un n ⟨[], []⟩ y).out, (un n ⟨[], []⟩ y).b, 0⟩
theorem mdT_app (m : Md) (n : Nat) (y z : List UInt8) : mdT m n (y ++ z) = (mdOut m n (mdT m n y).line (mdT m n y).cut z).ahead (mdT m n y).out := by
  cases m
  · rfl
  · show pk n _ (y ++ z) = _
    rw [pk_app, pk_out]; rfl
  · simp only [mdT, mdOut, PkS.ahead]
    rw [un_app, un_out]; rfl
def mdAll (m : Md) (n : Nat) (y : List UInt8) : List UInt8 :=
  match m with
  | .thr => y
  | .pck => (packAll n y).out
  | .unp => (unpackAll n y).out
theorem mdAll_eq (m : Md) (n : Nat) (y : List UInt8) : (mdT m n y).out ++ (mdEnd m n (mdT m n y).line (mdT m n y).cut).out = mdAll m n y := by
  cases m
  · simp [mdT, mdEnd, mdAll]
  · show _ = (pkEnd n (pk n ⟨[], [], 0⟩ y)).out
    rw [pkE_out]; rfl
  · show _ = (unEnd (un n ⟨[], []⟩ y)).out
    rw [unE_out]; rfl
/-- What is held stays small. -/
def mdOk (m : Md) (n : Nat) (line : List UInt8) (cut k : Nat) : Prop :=
  match m with
  | .thr => line = [] ∧ cut = 0
  | .pck => line.length ≤ k ∧ cut ≤ k
  | .unp => line.length < n ∧ cut = 0
theorem mdOut_ok {m : Md} {n : Nat} {line : List UInt8} {cut k : Nat} {y : List UInt8} (hn : m ≠ .thr → 0 < n) (h : mdOk m n line cut k) : mdOk m n (mdOut m n line cut y).line (mdOut m n line cut y).cut (k + y.length) ∧ (mdOut m n line cut y).out.length ≤ (n + 2) * y.length + n := by
  have h2 : (n + 2) * y.length = n * y.length + 2 * y.length := Nat.add_mul ..
  cases m
  · exact ⟨h, by rw [h2]; simp only [mdOut]; omega⟩
  · have := pk_len n y ⟨[], line, cut⟩
    simp only [List.length_nil] at this
    obtain ⟨h3, h4⟩ := h
    refine ⟨⟨?_, ?_⟩, ?_⟩
    · show (pk n ⟨[], line, cut⟩ y).line.length ≤ _
      omega
    · show (pk n ⟨[], line, cut⟩ y).cut ≤ _
      omega
    · show (pk n ⟨[], line, cut⟩ y).out.length ≤ _
      omega
  · have := un_len n y ⟨[], line⟩
    simp only [List.length_nil] at this
    obtain ⟨h3, h4⟩ := h
    refine ⟨⟨un_b n (hn (by intro h; cases h)) y ⟨[], line⟩ h3, h4⟩, ?_⟩
    show (un n ⟨[], line⟩ y).out.length ≤ _
    omega
theorem mdEnd_ok {m : Md} {n : Nat} {line : List UInt8} {cut k : Nat} (hn : m ≠ .thr → 0 < n) (h : mdOk m n line cut k) : mdOk m n (mdEnd m n line cut).line (mdEnd m n line cut).cut (k + 1) ∧ (mdEnd m n line cut).out.length ≤ n + 1 := by
  cases m
  · exact ⟨h, by simp [mdEnd]⟩
  · have h1 := pkE_len n line cut
    have h2 := pkE_line n line cut
    obtain ⟨h3, h4⟩ := h
    refine ⟨⟨?_, ?_⟩, ?_⟩
    · show (pkE n line cut).line.length ≤ _
      rw [h2]; simp
    · show (pkE n line cut).cut ≤ _
      omega
    · show (pkE n line cut).out.length ≤ _
      omega
  · obtain ⟨h3, h4⟩ := h
    refine ⟨⟨hn (by intro h; cases h), h4⟩, ?_⟩
    show (unE line).out.length ≤ _
    unfold unE unEnd
    split
    · simp
    · have := lineU_len line
      simp; omega

/-! ### a conversion -/
structure CvS where
  kept : List UInt8
  line : List UInt8
  cut : Nat
def cvX (c : CV) (s : CvS) (b : List UInt8) : List UInt8 := if c.swab then swapL (s.kept ++ b) else b
def cvK (c : CV) (s : CvS) (b : List UInt8) : List UInt8 := if c.swab then restL (s.kept ++ b) else s.kept
def cvM (c : CV) (s : CvS) (x : List UInt8) : PkS := mdOut c.md c.n s.line s.cut (c.first x)
def cvN (c : CV) (s : CvS) : PkS := mdEnd c.md c.n (cvM c s s.kept).line (cvM c s s.kept).cut
def cvPut (c : CV) (s : CvS) (b : List UInt8) : CvS := ⟨cvK c s b, (cvM c s (cvX c s b)).line, (cvM c s (cvX c s b)).cut⟩
def cvPutO (c : CV) (s : CvS) (b : List UInt8) : List UInt8 := c.last (cvM c s (cvX c s b)).out
def cvEnd (c : CV) (s : CvS) : CvS := ⟨[], (cvN c s).line, (cvN c s).cut⟩
def cvEndO (c : CV) (s : CvS) : List UInt8 := c.last (cvM c s s.kept).out ++ c.last (cvN c s).out
def cvOk (c : CV) (s : CvS) (k : Nat) : Prop := s.kept.length ≤ 1 ∧ mdOk c.md c.n s.line s.cut k
theorem md_pos {c : CV} (h : c.may = true) : c.md ≠ .thr → 0 < c.n := by
  intro hm
  apply may_pos h
  unfold CV.md at hm
  revert hm
  cases c.blocks <;> cases c.unblocks <;> simp
theorem cvX_len (c : CV) (s : CvS) (b : List UInt8) : (cvX c s b).length ≤ s.kept.length + b.length := by
  unfold cvX
  split
  · have := swap_len (s.kept ++ b)
    rw [List.length_append] at this; omega
  · omega
theorem cvK_len {c : CV} {s : CvS} {b : List UInt8} (h : s.kept.length ≤ 1) : (cvK c s b).length ≤ 1 := by
  unfold cvK
  split
  · exact rest_le _
  · exact h
theorem cvM_ok {c : CV} {s : CvS} {k : Nat} (x : List UInt8) (hc : c.may = true) (h : mdOk c.md c.n s.line s.cut k) : mdOk c.md c.n (cvM c s x).line (cvM c s x).cut (k + x.length) ∧ (cvM c s x).out.length ≤ (c.n + 2) * x.length + c.n := by
  have := mdOut_ok (y := c.first x) (md_pos hc) h
  rw [first_len] at this
  exact this
theorem mdOk_mono {m : Md} {n : Nat} {line : List UInt8} {cut k k2 : Nat} (h : mdOk m n line cut k) (hk : k ≤ k2) : mdOk m n line cut k2 := by
  cases m
  · exact h
  · exact ⟨Nat.le_trans h.1 hk, Nat.le_trans h.2 hk⟩
  · exact h
theorem cvPut_ok {c : CV} {s : CvS} {k : Nat} (b : List UInt8) (hc : c.may = true) (h : cvOk c s k) : cvOk c (cvPut c s b) (k + 1 + b.length) := by
  have h1 := (cvM_ok (cvX c s b) hc h.2).1
  have h2 := cvX_len c s b
  have h3 := h.1
  exact ⟨cvK_len h.1, mdOk_mono h1 (by omega)⟩
theorem cvEnd_ok {c : CV} {s : CvS} {k : Nat} (hc : c.may = true) (h : cvOk c s k) : cvOk c (cvEnd c s) (k + 2) := by
  have h1 := (cvM_ok s.kept hc h.2).1
  have h3 := h.1
  exact ⟨by simp [cvEnd], mdOk_mono (mdEnd_ok (md_pos hc) h1).1 (by omega)⟩

/-! ### all that comes out -/
def outF (c : CV) (F : List UInt8) : List UInt8 := c.last (mdT c.md c.n (c.first (swF c.swab F))).out
def cvF (c : CV) (F : List UInt8) : CvS := ⟨kpF c.swab F, (mdT c.md c.n (c.first (swF c.swab F))).line, (mdT c.md c.n (c.first (swF c.swab F))).cut⟩
theorem mdT_F (c : CV) (F b : List UInt8) : mdT c.md c.n (c.first (swF c.swab (F ++ b))) = (cvM c (cvF c F) (cvX c (cvF c F) b)).ahead (mdT c.md c.n (c.first (swF c.swab F))).out := by
  rw [swF_app, first_app, mdT_app]; rfl
theorem put_F (c : CV) (F b : List UInt8) : cvPut c (cvF c F) b = cvF c (F ++ b) ∧ outF c (F ++ b) = outF c F ++ cvPutO c (cvF c F) b := by
  constructor
  · unfold cvF
    rw [mdT_F, kpF_app]; rfl
  · unfold outF
    rw [mdT_F]
    show c.last (_ ++ _) = _
    rw [last_app]; rfl
def turnF (on : Bool) (F : List UInt8) : List UInt8 := swF on F ++ kpF on F
def cvAll (c : CV) (F : List UInt8) : List UInt8 := c.last (mdAll c.md c.n (c.first (turnF c.swab F)))
theorem all_F (c : CV) (F : List UInt8) : outF c F ++ cvEndO c (cvF c F) = cvAll c F := by
  unfold cvAll turnF
  rw [first_app, ← mdAll_eq, mdT_app, last_app]
  show _ = c.last ((mdT c.md c.n (c.first (swF c.swab F))).out ++ (cvM c (cvF c F) (cvF c F).kept).out) ++ c.last (cvN c (cvF c F)).out
  rw [last_app, List.append_assoc]; rfl
theorem st_F (c : CV) : cvF c [] = ⟨[], [], 0⟩ := by
  have h1 : swF c.swab [] = [] := by unfold swF; split <;> rfl
  have h2 : kpF c.swab [] = [] := by unfold kpF; split <;> rfl
  have h3 : c.first [] = [] := List.length_eq_zero_iff.1 (first_len c [])
  unfold cvF
  rw [h1, h2, h3]
  cases c.md <;> rfl
theorem out_F (c : CV) : outF c [] = [] := by
  have h1 : swF c.swab [] = [] := by unfold swF; split <;> rfl
  have h3 : c.first [] = [] := List.length_eq_zero_iff.1 (first_len c [])
  have h4 : c.last [] = [] := List.length_eq_zero_iff.1 (last_len c [])
  unfold outF
  rw [h1, h3]
  cases c.md <;> exact h4
theorem ok_F {c : CV} (hc : c.may = true) (F : List UInt8) : cvOk c (cvF c F) F.length := by
  have h0 : mdOk c.md c.n [] 0 0 := by
    have := md_pos hc
    cases hm : c.md
    · exact ⟨rfl, rfl⟩
    · exact ⟨Nat.le_refl _, Nat.le_refl _⟩
    · rw [hm] at this; exact ⟨this (by intro h; cases h), rfl⟩
  have h := (mdOut_ok (y := c.first (swF c.swab F)) (md_pos hc) h0).1
  rw [first_len, Nat.zero_add] at h
  have h2 := mdT_app c.md c.n [] (c.first (swF c.swab F))
  have h3 := swF_len c.swab F
  refine ⟨kpF_le _ _, ?_⟩
  show mdOk c.md c.n (mdT c.md c.n (c.first (swF c.swab F))).line (mdT c.md c.n (c.first (swF c.swab F))).cut F.length
  rw [List.nil_append] at h2
  rw [h2]
  have e1 : (mdT c.md c.n []).line = [] := by cases c.md <;> rfl
  have e2 : (mdT c.md c.n []).cut = 0 := by cases c.md <;> rfl
  rw [e1, e2]
  exact mdOk_mono h (by omega)
theorem outF_len {c : CV} (hc : c.may = true) (F : List UInt8) : (outF c F).length ≤ (c.n + 2) * F.length + c.n := by
  have h0 : mdOk c.md c.n [] 0 0 := by
    have := md_pos hc
    cases hm : c.md
    · exact ⟨rfl, rfl⟩
    · exact ⟨Nat.le_refl _, Nat.le_refl _⟩
    · rw [hm] at this; exact ⟨this (by intro h; cases h), rfl⟩
  have h := (mdOut_ok (y := c.first (swF c.swab F)) (md_pos hc) h0).2
  rw [first_len] at h
  have h2 := mdT_app c.md c.n [] (c.first (swF c.swab F))
  have h3 := swF_len c.swab F
  rw [List.nil_append] at h2
  unfold outF
  rw [last_len, h2]
  have e1 : (mdT c.md c.n []).line = [] := by cases c.md <;> rfl
  have e2 : (mdT c.md c.n []).cut = 0 := by cases c.md <;> rfl
  have e3 : (mdT c.md c.n []).out = [] := by cases c.md <;> rfl
  rw [e1, e2, e3]
  have h4 : (c.n + 2) * (swF c.swab F).length ≤ (c.n + 2) * F.length := Nat.mul_le_mul_left _ (by omega)
  simp only [PkS.ahead, List.nil_append]
  omega
end Go.Proofs.Ythpomdoaiibnfaa.Abs
