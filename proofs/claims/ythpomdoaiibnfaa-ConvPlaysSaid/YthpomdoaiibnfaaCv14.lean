/- The document's own conversion: contracts. -/
import Derived.Test.YthpomdoaiibnfaaCv6
import Derived.Test.YthpomdoaiibnfaaCv13
import Derived.Test.YthpomdoaiibnfaaTabR4
namespace Go.Proofs.Ythpomdoaiibnfaa.Abs
open Go Go.Proofs
set_option linter.unusedVariables false

def CV.f2 (c : CV) (b : List UInt8) : List UInt8 := if c.lcase then mapL lowerL (c.f1 b) else c.f1 b
def CV.g1 (c : CV) (b : List UInt8) : List UInt8 := if c.ebcdic then mapL ebcdicL b else b
theorem first_f2 (c : CV) (b : List UInt8) : c.first b = if c.ucase then mapL upperL (c.f2 b) else c.f2 b := rfl
theorem last_g1 (c : CV) (b : List UInt8) : c.last b = if c.ibm then mapL ibmL (c.g1 b) else c.g1 b := rfl
theorem f1_len (c : CV) (b : List UInt8) : (c.f1 b).length = b.length := by unfold CV.f1; split <;> simp [mapL_len]
theorem f2_len (c : CV) (b : List UInt8) : (c.f2 b).length = b.length := by unfold CV.f2; split <;> simp [mapL_len, f1_len]
theorem g1_len (c : CV) (b : List UInt8) : (c.g1 b).length = b.length := by unfold CV.g1; split <;> simp [mapL_len]
/-- A slice that can be read, an argument's own or new; and more can be put behind, if it could behind the argument. -/
def BSO (S S' : ASt) (o1 : Own) (s1 n1 : Nat) (o2 : Own) (s2 : Nat) (x : List UInt8) : Prop :=
  (s2 = 1 ∨ x = []) ∧ (o2 = .nil → x = []) ∧ Rd S' o2 ∧ OwnNew S o1 o2 ∧ (App S o1 1 s1 n1 → App S' o2 1 s2 x.length)
theorem BSO.refl {S : ASt} {o1 : Own} {s1 : Nat} {x : List UInt8} (h1 : s1 = 1 ∨ x = []) (h2 : o1 = .nil → x = []) (h3 : Rd S o1) : BSO S S o1 s1 x.length o1 s1 x := ⟨h1, h2, h3, OwnNew.refl, id⟩
theorem BSO.ba {S0 S S' : ASt} {o1 : Own} {s1 n1 : Nat} {o2 : Own} {s2 : Nat} {x : List UInt8} (ha : App S' o2 1 s2 x.length) (hn : ∀ t, o2 = .own t → S.next ≤ t) (h0 : S0.next ≤ S.next) : BSO S0 S' o1 s1 n1 o2 s2 x :=
  ⟨ha.sz.imp id (fun h => List.length_eq_zero_iff.1 h), fun h => List.length_eq_zero_iff.1 (ha.nil h), ha.rd, .inr fun t ht => Nat.le_trans h0 (tok_own ha hn t ht), fun _ => ha⟩

/-- What the document's conversion holds of lines, or of records. -/
def RmAt (S : ASt) (m : Md) (line : List UInt8) (ob : Own) (lv uv : AV) : Prop :=
  match m with
  | .thr => ob = .nil ∧ lv = .sl .nil 0 [] ∧ uv = .sl .nil 0 []
  | .pck => uv = .sl .nil 0 [] ∧ ∃ sb, lv = .sl ob sb (u8s line) ∧ App S ob 1 sb line.length
  | .unp => lv = .sl .nil 0 [] ∧ ∃ sb, uv = .sl ob sb (u8s line) ∧ App S ob 1 sb line.length
def rcc (C : CV) (kv : AV) (cut : Nat) (lv uv : AV) : List AV := C.cells ++ [.bool C.swab, kv, .int .i64 C.cbs, .int .i64 (cut : Nat), lv, .int .i64 C.cbs, uv]
def RcAt (S : ASt) (C : CV) (o : Nat) (s : CvS) (ok ob : Own) : Prop :=
  ∃ sk lv uv, S.objs[o]? = some (rcc C (.sl ok sk (u8s s.kept)) s.cut lv uv) ∧ (sk = 1 ∨ s.kept = []) ∧ (ok = .nil → s.kept = []) ∧ Rd S ok ∧ Apart ok ob ∧ RmAt S C.md s.line ob lv uv
section
variable {S S' : ASt} {C : CV} {o : Nat} {s : CvS} {ok ob o2 : Own} {m : Md} {line : List UInt8} {lv uv : AV} {os : List Nat}
theorem RmAt.rd (h : RmAt S m line ob lv uv) : Rd S ob := by
  cases m
  · rw [h.1]; exact Rd.nil
  · obtain ⟨_, sb, _, ha⟩ := h; exact ha.rd
  · obtain ⟨_, sb, _, ha⟩ := h; exact ha.rd
theorem RmAt.stayx (h : RmAt S m line ob lv uv) (hs : StayX S S' os o2.ts) (hn : Apart ob o2) : RmAt S' m line ob lv uv := by
  cases m
  · exact h
  · obtain ⟨h1, sb, h2, ha⟩ := h; exact ⟨h1, sb, h2, ha.stayo hs hn⟩
  · obtain ⟨h1, sb, h2, ha⟩ := h; exact ⟨h1, sb, h2, ha.stayo hs hn⟩
theorem RmAt.stays (h : RmAt S m line ob lv uv) (hs : Stays S S' os) : RmAt S' m line ob lv uv := h.stayx (o2 := .nil) (StayX.of hs) Apart.nilR
theorem RmAt.app (h : RmAt S m line ob lv uv) (hn : Apart ob o2) : RmAt (appS S o2) m line ob lv uv := by
  cases m
  · exact h
  · obtain ⟨h1, sb, h2, ha⟩ := h; exact ⟨h1, sb, h2, ha.app hn⟩
  · obtain ⟨h1, sb, h2, ha⟩ := h; exact ⟨h1, sb, h2, ha.app hn⟩
theorem RcAt.stayx (h : RcAt S C o s ok ob) (hs : StayX S S' os o2.ts) (ho : o ∉ os) (h1 : Apart ok o2) (h2 : Apart ob o2) : RcAt S' C o s ok ob := by
  obtain ⟨sk, lv, uv, hob, hk1, hk2, hk3, hap, hm⟩ := h
  exact ⟨sk, lv, uv, Ob.stayx hob hs ho, hk1, hk2, hk3.stayo hs h1, hap, hm.stayx hs h2⟩
theorem RcAt.stays0 (h : RcAt S C o s ok ob) (hs : Stays S S' []) : RcAt S' C o s ok ob := h.stayx (o2 := .nil) (StayX.of hs) (by simp) Apart.nilR Apart.nilR
theorem RcAt.app (h : RcAt S C o s ok ob) (h1 : Apart ok o2) (h2 : Apart ob o2) : RcAt (appS S o2) C o s ok ob := by
  obtain ⟨sk, lv, uv, hob, hk1, hk2, hk3, hap, hm⟩ := h
  exact ⟨sk, lv, uv, Ob.app hob, hk1, hk2, hk3.app (fun t ht h => h1 t h (by rw [ht]; rfl)), hap, hm.app h2⟩
theorem RcAt.rd (h : RcAt S C o s ok ob) : Rd S ok ∧ Rd S ob := by
  obtain ⟨sk, lv, uv, hob, hk1, hk2, hk3, hap, hm⟩ := h
  exact ⟨hk3, hm.rd⟩
theorem RcAt.lt (h : RcAt S C o s ok ob) : o < S.objs.length := by
  obtain ⟨sk, lv, uv, hob, _⟩ := h
  exact Ob.lt hob
end
set_option linter.unusedSimpArgs false
attribute [local irreducible] wpI wpR ropK chk ASt.push ASt.put ASt.fresh ASt.kill appS

theorem rNewConv (c : CV) (S : ASt) : ACalls Try.prog 26 [.agg c.cells] S fun v S' => ∃ o, v = .ptr (some (o, 0)) ∧ S.objs.length ≤ o ∧ Stays S S' [] ∧ RcAt S' c.norm o ⟨[], [], 0⟩ .nil .nil := by
  refine en_26 (by exact Nat.le_of_ble_eq_true rfl) ?_
  unfold rc_26
  refine r_reg ?_
  apply i_boxA
  · exact rfl
  apply i_mov
  · exact tP rfl
  refine i_nil ?_
  refine r_reg ?_
  apply i_loadN
  · exact rfl
  · exact Ob.new
  · exact rfl
  have hoc : (S.push c.cells).objs[S.objs.length]? = some c.cells := Ob.new
  have hst0 : Stays S (S.push c.cells) [] := by (refine Stays.push ?_; exact Stays.refl _ _)
  have hge : S.objs.length ≤ S.objs.length := Nat.le_refl _
  generalize hoce : S.objs.length = oc at hoc
  generalize S.push c.cells = S0' at hoc hst0 ⊢
  refine i_call (rMay c _) rfl ?_
  rintro v S1 ⟨rfl, hst1⟩
  replace hoc := Ob.stays0 hoc hst1
  replace hst1 := hst0.then0 hst1
  refine i_notB rfl ?_
  refine i_nil ?_
  refine r_join (fun G S' => G = [(1, .ptr (some (oc, 0)))] ∧ S'.objs[oc]? = some c.norm.cells ∧ Stays S S' []) rfl ?_ ?_ ?_
  rotate_left
  · intro h
    have hm : c.may = false := by simpa using h
    have hn : c.norm = CV.zero := by simp [CV.norm, hm]
    rw [hn]
    refine r_reg ?_
    refine i_build (cs := CV.zero.cells) rfl ?_
    apply i_stN
    · exact rfl
    · exact rfl
    · assumption
    · exact rfl
    · exact rfl
    · exact rfl
    refine i_nil ?_
    refine r_nop ?_
    refine q_k ?_
    exact ⟨_, pick_sub _ [1], by rw [← hoce]; rfl, by ((apply Ob.put'; assumption)), hst1.put (.inr (by omega))⟩
  · intro h
    have hm : c.may = true := by simpa using h
    have hn : c.norm = c := by simp [CV.norm, hm]
    rw [hn]
    refine r_nop ?_
    refine q_k ?_
    exact ⟨_, pick_sub _ [1], by rw [← hoce]; rfl, hoc, hst1⟩
  clear hoc hst1 hst0
  rintro G S2 ⟨rfl, hoc, hst2⟩
  generalize c.norm = C at hoc ⊢
  refine r_reg ?_
  apply i_loadN
  · exact rfl
  · assumption
  · exact rfl
  apply i_fld0
  · exact rfl
  apply i_load
  · exact rfl
  · assumption
  · exact rfl
  refine i_build (cs := [.bool C.swab, .sl .nil 0 []]) rfl ?_
  apply i_fld0
  · exact rfl
  apply i_load
  · exact rfl
  · assumption
  · exact rfl
  refine i_build (cs := [.int .i64 C.cbs, .int .i64 0, .sl .nil 0 []]) rfl ?_
  apply i_fld0
  · exact rfl
  apply i_load
  · exact rfl
  · assumption
  · exact rfl
  refine i_build (cs := [.int .i64 C.cbs, .sl .nil 0 []]) rfl ?_
  skip
  refine i_build (cs := rcc C (.sl .nil 0 []) 0 (.sl .nil 0 []) (.sl .nil 0 [])) rfl ?_
  apply i_boxA
  · exact rfl
  apply i_mov
  · exact tP rfl
  refine i_nil ?_
  refine r_ret ?_
  apply q_ret1
  · exact tP rfl
  refine ⟨_, rfl, by rw [← hoce]; exact hst2.objs, hst2.push, 0, .sl .nil 0 [], .sl .nil 0 [], Ob.new, .inr rfl, fun _ => rfl, Rd.nil, Apart.nil, ?_⟩
  cases hm : C.md
  · exact ⟨rfl, rfl, rfl⟩
  · exact ⟨rfl, 0, rfl, App.none⟩
  · exact ⟨rfl, 0, rfl, App.none⟩

theorem rFirst (C : CV) (rest : List AV) (o : Nat) (o1 : Own) (s1 : Nat) (b : List UInt8) (S : ASt) (hob : S.objs[o]? = some (C.cells ++ rest)) (hs : s1 = 1 ∨ b = []) (hn : o1 = .nil → b = []) (hr : Rd S o1) (hb : b.length ≤ 1000000) :
    ACalls Try.prog 48 [.ptr (some (o, 0)), .sl o1 s1 (u8s b)] S fun v S' => Stays S S' [] ∧ ∃ o2 s2, v = .sl o2 s2 (u8s (C.first b)) ∧ BSO S S' o1 s1 b.length o2 s2 (C.first b) := by
  refine en_48 (by exact Nat.le_of_ble_eq_true rfl) ?_
  unfold rc_48
  have hB0 := BSO.refl hs hn hr
  have hst0 := Stays.refl S []
  have hx0 : b = b := rfl
  have hl0 : b.length = b.length := rfl
  refine r_reg ?_
  apply i_mov
  · exact tS0 rfl
  refine i_nil ?_
  refine r_reg ?_
  apply i_mov
  · exact tP rfl
  apply i_nckP
  · exact rfl
  apply i_fld0
  · exact rfl
  apply i_fld0
  · exact rfl
  apply i_load
  · exact rfl
  · assumption
  · exact rfl
  refine i_nil ?_
  refine r_join (fun G S' => ∃ (o2 : Own) (s2 : Nat) (x : List UInt8), G = [(0, .ptr (some (o, 0))), (1, .sl o2 s2 (u8s x))] ∧ x = C.f1 b ∧ Stays S S' [] ∧ BSO S S' o1 s1 b.length o2 s2 x) rfl ?_ ?_ ?_
  rotate_left
  · intro h
    refine r_reg ?_
    refine i_call (rAscii _) rfl ?_
    rintro v T1 ⟨rfl, rfl⟩
    have hTl := asciiL_len
    have hTm : mapL asciiL b = C.f1 b := by simp [CV.f1, h]
    have hml := mapL_len asciiL b
    generalize asciiL = T at hTl hTm hml ⊢
    apply i_mov
    · exact tS rfl
    refine i_call (refMap T o1 s1 b _ hTl hB0.1 hB0.2.2.1 (by omega)) rfl ?_
    rintro v T2 ⟨hT2, o2, s2, rfl, ha2, hn2⟩
    apply i_mov
    · exact tS rfl
    refine i_nil ?_
    refine r_nop ?_
    refine q_k ?_
    exact ⟨_, pick_sub _ [0, 1], o2, s2, _, rfl, hTm, hst0.then0 hT2, BSO.ba ha2 hn2 hst0.next⟩
  · intro h
    refine r_nop ?_
    refine q_k ?_
    exact ⟨_, pick_sub _ [0, 1], o1, s1, b, rfl, by simp [CV.f1, h], hst0, hB0⟩
  rintro G S2 ⟨o2', s2', x1, rfl, hx1, hst1, hB1⟩
  have hob1 := Ob.stays0 hob hst1
  have hl1 : x1.length = b.length := by rw [hx1, f1_len]
  refine r_reg ?_
  apply i_mov
  · exact tP rfl
  apply i_nckP
  · exact rfl
  apply i_fld0
  · exact rfl
  apply i_fld0
  · exact rfl
  apply i_load
  · exact rfl
  · assumption
  · exact rfl
  refine i_nil ?_
  refine r_join (fun G S' => ∃ (o2 : Own) (s2 : Nat) (x : List UInt8), G = [(0, .ptr (some (o, 0))), (1, .sl o2 s2 (u8s x))] ∧ x = C.f2 b ∧ Stays S S' [] ∧ BSO S S' o1 s1 b.length o2 s2 x) rfl ?_ ?_ ?_
  rotate_left
  · intro h
    refine r_reg ?_
    refine i_call (rLower _) rfl ?_
    rintro v T1 ⟨rfl, rfl⟩
    have hTl := lowerL_len
    have hTm : mapL lowerL x1 = C.f2 b := by rw [hx1]; simp [CV.f2, h]
    have hml := mapL_len lowerL x1
    generalize lowerL = T at hTl hTm hml ⊢
    apply i_mov
    · exact tS rfl
    refine i_call (refMap T o2' s2' x1 _ hTl hB1.1 hB1.2.2.1 (by omega)) rfl ?_
    rintro v T2 ⟨hT2, o2, s2, rfl, ha2, hn2⟩
    apply i_mov
    · exact tS rfl
    refine i_nil ?_
    refine r_nop ?_
    refine q_k ?_
    exact ⟨_, pick_sub _ [0, 1], o2, s2, _, rfl, hTm, hst1.then0 hT2, BSO.ba ha2 hn2 hst1.next⟩
  · intro h
    refine r_nop ?_
    refine q_k ?_
    exact ⟨_, pick_sub _ [0, 1], o2', s2', x1, rfl, by rw [hx1]; simp [CV.f2, h], hst1, hB1⟩
  rintro G S3 ⟨o3', s3', x2, rfl, hx2, hst2, hB2⟩
  have hob2 := Ob.stays0 hob hst2
  have hl2 : x2.length = b.length := by rw [hx2, f2_len]
  refine r_reg ?_
  apply i_mov
  · exact tP rfl
  apply i_nckP
  · exact rfl
  apply i_fld0
  · exact rfl
  apply i_fld0
  · exact rfl
  apply i_load
  · exact rfl
  · assumption
  · exact rfl
  refine i_nil ?_
  refine r_join (fun G S' => ∃ (o2 : Own) (s2 : Nat) (x : List UInt8), G = [(0, .ptr (some (o, 0))), (1, .sl o2 s2 (u8s x))] ∧ x = C.first b ∧ Stays S S' [] ∧ BSO S S' o1 s1 b.length o2 s2 x) rfl ?_ ?_ ?_
  rotate_left
  · intro h
    refine r_reg ?_
    refine i_call (rUpper _) rfl ?_
    rintro v T1 ⟨rfl, rfl⟩
    have hTl := upperL_len
    have hTm : mapL upperL x2 = C.first b := by rw [hx2, first_f2]; simp [h]
    have hml := mapL_len upperL x2
    generalize upperL = T at hTl hTm hml ⊢
    apply i_mov
    · exact tS rfl
    refine i_call (refMap T o3' s3' x2 _ hTl hB2.1 hB2.2.2.1 (by omega)) rfl ?_
    rintro v T2 ⟨hT2, o2, s2, rfl, ha2, hn2⟩
    apply i_mov
    · exact tS rfl
    refine i_nil ?_
    refine r_nop ?_
    refine q_k ?_
    exact ⟨_, pick_sub _ [0, 1], o2, s2, _, rfl, hTm, hst2.then0 hT2, BSO.ba ha2 hn2 hst2.next⟩
  · intro h
    refine r_nop ?_
    refine q_k ?_
    exact ⟨_, pick_sub _ [0, 1], o3', s3', x2, rfl, by rw [hx2, first_f2]; simp [h], hst2, hB2⟩
  rintro G S4 ⟨o4', s4', x3, rfl, hx3, hst3, hB3⟩
  have hob3 := Ob.stays0 hob hst3
  have hl3 : x3.length = b.length := by rw [hx3, first_len]
  refine r_reg ?_
  apply i_mov
  · exact tS rfl
  apply i_mov
  · exact tS rfl
  refine i_nil ?_
  refine r_ret ?_
  apply q_ret1
  · exact tS rfl
  rw [← hx3]
  exact ⟨hst3, _, _, rfl, hB3⟩

theorem rLast (C : CV) (rest : List AV) (o : Nat) (o1 : Own) (s1 : Nat) (b : List UInt8) (S : ASt) (hob : S.objs[o]? = some (C.cells ++ rest)) (hs : s1 = 1 ∨ b = []) (hn : o1 = .nil → b = []) (hr : Rd S o1) (hb : b.length ≤ 1000000) :
    ACalls Try.prog 46 [.ptr (some (o, 0)), .sl o1 s1 (u8s b)] S fun v S' => Stays S S' [] ∧ ∃ o2 s2, v = .sl o2 s2 (u8s (C.last b)) ∧ BSO S S' o1 s1 b.length o2 s2 (C.last b) := by
  refine en_46 (by exact Nat.le_of_ble_eq_true rfl) ?_
  unfold rc_46
  have hB0 := BSO.refl hs hn hr
  have hst0 := Stays.refl S []
  have hx0 : b = b := rfl
  have hl0 : b.length = b.length := rfl
  refine r_reg ?_
  apply i_mov
  · exact tS0 rfl
  refine i_nil ?_
  refine r_reg ?_
  apply i_mov
  · exact tP rfl
  apply i_nckP
  · exact rfl
  apply i_fld0
  · exact rfl
  apply i_fld0
  · exact rfl
  apply i_load
  · exact rfl
  · assumption
  · exact rfl
  refine i_nil ?_
  refine r_join (fun G S' => ∃ (o2 : Own) (s2 : Nat) (x : List UInt8), G = [(0, .ptr (some (o, 0))), (1, .sl o2 s2 (u8s x))] ∧ x = C.g1 b ∧ Stays S S' [] ∧ BSO S S' o1 s1 b.length o2 s2 x) rfl ?_ ?_ ?_
  rotate_left
  · intro h
    refine r_reg ?_
    refine i_call (rEbcdic _) rfl ?_
    rintro v T1 ⟨rfl, rfl⟩
    have hTl := ebcdicL_len
    have hTm : mapL ebcdicL b = C.g1 b := by simp [CV.g1, h]
    have hml := mapL_len ebcdicL b
    generalize ebcdicL = T at hTl hTm hml ⊢
    apply i_mov
    · exact tS rfl
    refine i_call (refMap T o1 s1 b _ hTl hB0.1 hB0.2.2.1 (by omega)) rfl ?_
    rintro v T2 ⟨hT2, o2, s2, rfl, ha2, hn2⟩
    apply i_mov
    · exact tS rfl
    refine i_nil ?_
    refine r_nop ?_
    refine q_k ?_
    exact ⟨_, pick_sub _ [0, 1], o2, s2, _, rfl, hTm, hst0.then0 hT2, BSO.ba ha2 hn2 hst0.next⟩
  · intro h
    refine r_nop ?_
    refine q_k ?_
    exact ⟨_, pick_sub _ [0, 1], o1, s1, b, rfl, by simp [CV.g1, h], hst0, hB0⟩
  rintro G S2 ⟨o2', s2', x1, rfl, hx1, hst1, hB1⟩
  have hob1 := Ob.stays0 hob hst1
  have hl1 : x1.length = b.length := by rw [hx1, g1_len]
  refine r_reg ?_
  apply i_mov
  · exact tP rfl
  apply i_nckP
  · exact rfl
  apply i_fld0
  · exact rfl
  apply i_fld0
  · exact rfl
  apply i_load
  · exact rfl
  · assumption
  · exact rfl
  refine i_nil ?_
  refine r_join (fun G S' => ∃ (o2 : Own) (s2 : Nat) (x : List UInt8), G = [(0, .ptr (some (o, 0))), (1, .sl o2 s2 (u8s x))] ∧ x = C.last b ∧ Stays S S' [] ∧ BSO S S' o1 s1 b.length o2 s2 x) rfl ?_ ?_ ?_
  rotate_left
  · intro h
    refine r_reg ?_
    refine i_call (rIbm _) rfl ?_
    rintro v T1 ⟨rfl, rfl⟩
    have hTl := ibmL_len
    have hTm : mapL ibmL x1 = C.last b := by rw [hx1, last_g1]; simp [h]
    have hml := mapL_len ibmL x1
    generalize ibmL = T at hTl hTm hml ⊢
    apply i_mov
    · exact tS rfl
    refine i_call (refMap T o2' s2' x1 _ hTl hB1.1 hB1.2.2.1 (by omega)) rfl ?_
    rintro v T2 ⟨hT2, o2, s2, rfl, ha2, hn2⟩
    apply i_mov
    · exact tS rfl
    refine i_nil ?_
    refine r_nop ?_
    refine q_k ?_
    exact ⟨_, pick_sub _ [0, 1], o2, s2, _, rfl, hTm, hst1.then0 hT2, BSO.ba ha2 hn2 hst1.next⟩
  · intro h
    refine r_nop ?_
    refine q_k ?_
    exact ⟨_, pick_sub _ [0, 1], o2', s2', x1, rfl, by rw [hx1, last_g1]; simp [h], hst1, hB1⟩
  rintro G S3 ⟨o3', s3', x2, rfl, hx2, hst2, hB2⟩
  have hob2 := Ob.stays0 hob hst2
  have hl2 : x2.length = b.length := by rw [hx2, last_len]
  refine r_reg ?_
  apply i_mov
  · exact tS rfl
  apply i_mov
  · exact tS rfl
  refine i_nil ?_
  refine r_ret ?_
  apply q_ret1
  · exact tS rfl
  rw [← hx2]
  exact ⟨hst2, _, _, rfl, hB2⟩
end Go.Proofs.Ythpomdoaiibnfaa.Abs
