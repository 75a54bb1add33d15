/- The document's Packer and Unpacker, wherever they lie: contracts. -/
import Derived.Test.YthpomdoaiibnfaaFixed3
namespace Go.Proofs.Ythpomdoaiibnfaa.Abs
open Go Go.Proofs
set_option linter.unusedVariables false
set_option linter.unusedSimpArgs false
attribute [local irreducible] wpI wpR ropK chk ASt.push ASt.put ASt.fresh ASt.kill appS

theorem gs_ne {cs : List AV} {i j : Nat} {v w : AV} (hne : i ≠ j) (h : cs[j]? = some v) : (cs.set i w)[j]? = some v := by rw [List.getElem?_set_ne hne]; exact h
theorem gs_ne3 (cs : List AV) (i j : Nat) (v w : AV) (h : cs[j]? = some v) (hne : i ≠ j) : (cs.set i w)[j]? = some v := gs_ne hne h
theorem gs_eq {cs : List AV} {i : Nat} {w : AV} (h : i < cs.length) : (cs.set i w)[i]? = some w := by simp [h]
/-- Cells that are as they were but for some in a row. -/
def Off (j n : Nat) (cs cs' : List AV) : Prop := cs'.length = cs.length ∧ ∀ k, k < j ∨ j + n ≤ k → cs'[k]? = cs[k]?
theorem Off.refl (j n : Nat) (cs : List AV) : Off j n cs cs := ⟨rfl, fun _ _ => rfl⟩
theorem Off.set {j n i : Nat} {cs cs' : List AV} {v : AV} (h : Off j n cs cs') (h1 : j ≤ i) (h2 : i < j + n) : Off j n cs (cs'.set i v) :=
  ⟨by rw [List.length_set]; exact h.1, fun k hk => by rw [List.getElem?_set_ne (by omega)]; exact h.2 k hk⟩
theorem Off.trans {j n : Nat} {a b c : List AV} (h : Off j n a b) (k : Off j n b c) : Off j n a c := ⟨k.1.trans h.1, fun i hi => (k.2 i hi).trans (h.2 i hi)⟩
theorem Off.get {j n k : Nat} {cs cs' : List AV} {v : AV} (h : Off j n cs cs') (hk : k < j ∨ j + n ≤ k) (hv : cs[k]? = some v) : cs'[k]? = some v := by rw [h.2 k hk]; exact hv

/-- The document's packer, at a place of an object. -/
def RpAt (S : ASt) (o j c : Nat) (line : List UInt8) (cut : Nat) (ob : Own) (cs : List AV) : Prop :=
  ∃ sb, S.objs[o]? = some cs ∧ cs[j]? = some (.int .i64 (c : Nat)) ∧ cs[j + 1]? = some (.int .i64 (cut : Nat)) ∧ cs[j + 2]? = some (.sl ob sb (u8s line)) ∧ App S ob 1 sb line.length
def RuAt (S : ASt) (o j c : Nat) (line : List UInt8) (ob : Own) (cs : List AV) : Prop :=
  ∃ sb, S.objs[o]? = some cs ∧ cs[j]? = some (.int .i64 (c : Nat)) ∧ cs[j + 1]? = some (.sl ob sb (u8s line)) ∧ App S ob 1 sb line.length
section
variable {S S' : ASt} {o j c cut : Nat} {line : List UInt8} {ob ob2 : Own} {cs : List AV} {os ts : List Nat}
theorem RpAt.stayx (h : RpAt S o j c line cut ob cs) (hs : StayX S S' os ob2.ts) (ho : o ∉ os) (hn : Apart ob ob2) : RpAt S' o j c line cut ob cs := by
  obtain ⟨sb, h1, h2, h3, h4, h5⟩ := h
  exact ⟨sb, Ob.stayx h1 hs ho, h2, h3, h4, h5.stayo hs hn⟩
theorem RpAt.stays (h : RpAt S o j c line cut ob cs) (hs : Stays S S' os) (ho : o ∉ os) : RpAt S' o j c line cut ob cs := by
  obtain ⟨sb, h1, h2, h3, h4, h5⟩ := h
  exact ⟨sb, Ob.stays h1 hs ho, h2, h3, h4, h5.stays hs⟩
theorem RpAt.rd (h : RpAt S o j c line cut ob cs) : Rd S ob := by
  obtain ⟨sb, h1, h2, h3, h4, h5⟩ := h
  exact h5.rd
theorem RpAt.app {o2 : Own} (h : RpAt S o j c line cut ob cs) (hn : Apart ob o2) : RpAt (appS S o2) o j c line cut ob cs := by
  obtain ⟨sb, h1, h2, h3, h4, h5⟩ := h
  exact ⟨sb, Ob.app h1, h2, h3, h4, h5.app hn⟩
theorem RpAt.push {cs2 : List AV} (h : RpAt S o j c line cut ob cs) : RpAt (S.push cs2) o j c line cut ob cs := by
  obtain ⟨sb, h1, h2, h3, h4, h5⟩ := h
  exact ⟨sb, Ob.push h1, h2, h3, h4, h5.push⟩
theorem RpAt.len (h : RpAt S o j c line cut ob cs) : j + 2 < cs.length ∧ o < S.objs.length := by
  obtain ⟨sb, h1, h2, h3, h4, h5⟩ := h
  exact ⟨(List.getElem?_eq_some_iff.1 h4).1, Ob.lt h1⟩
theorem RuAt.stayx (h : RuAt S o j c line ob cs) (hs : StayX S S' os ob2.ts) (ho : o ∉ os) (hn : Apart ob ob2) : RuAt S' o j c line ob cs := by
  obtain ⟨sb, h1, h2, h4, h5⟩ := h
  exact ⟨sb, Ob.stayx h1 hs ho, h2, h4, h5.stayo hs hn⟩
theorem RuAt.stays (h : RuAt S o j c line ob cs) (hs : Stays S S' os) (ho : o ∉ os) : RuAt S' o j c line ob cs := by
  obtain ⟨sb, h1, h2, h4, h5⟩ := h
  exact ⟨sb, Ob.stays h1 hs ho, h2, h4, h5.stays hs⟩
theorem RuAt.rd (h : RuAt S o j c line ob cs) : Rd S ob := by
  obtain ⟨sb, h1, h2, h4, h5⟩ := h
  exact h5.rd
theorem RuAt.app {o2 : Own} (h : RuAt S o j c line ob cs) (hn : Apart ob o2) : RuAt (appS S o2) o j c line ob cs := by
  obtain ⟨sb, h1, h2, h4, h5⟩ := h
  exact ⟨sb, Ob.app h1, h2, h4, h5.app hn⟩
theorem RuAt.push {cs2 : List AV} (h : RuAt S o j c line ob cs) : RuAt (S.push cs2) o j c line ob cs := by
  obtain ⟨sb, h1, h2, h4, h5⟩ := h
  exact ⟨sb, Ob.push h1, h2, h4, h5.push⟩
theorem RuAt.len (h : RuAt S o j c line ob cs) : j + 1 < cs.length ∧ o < S.objs.length := by
  obtain ⟨sb, h1, h2, h4, h5⟩ := h
  exact ⟨(List.getElem?_eq_some_iff.1 h4).1, Ob.lt h1⟩
end

theorem refRecord (o j c : Nat) (line : List UInt8) (cut : Nat) (ob : Own) (cs : List AV) (S : ASt) (hat : RpAt S o j c line cut ob cs) (hc : c ≤ 4096) (hl : line.length ≤ 100000000) (hcut : cut ≤ 100000000) :
    ACalls Try.prog 65 [.ptr (some (o, j))] S fun v S' => Stays S S' [o] ∧ BA S S' v (recP c line) ∧ ∃ cs', RpAt S' o j c [] (cut + over c line) .nil cs' ∧ Off j 3 cs cs' := by
  refine en_65 (by exact Nat.le_of_ble_eq_true rfl) ?_
  unfold rc_65
  obtain ⟨hlen, hlt⟩ := hat.len
  obtain ⟨sb, hob, h0, h1, h2, ha⟩ := hat
  have hrd := ha.rd
  have hsz := ha.sz
  have hsb : sb = 1 ∨ line = [] := hsz.imp id fun h => List.length_eq_zero_iff.1 h
  have hsb1 : 1 = sb ∨ line = [] := hsb.imp (·.symm) id
  have htl : (line.take c).length ≤ c := by rw [List.length_take]; omega
  have hst : sb = 1 ∨ line.take c = [] := hsb.imp id fun h => by rw [h]; simp
  by_cases h : c < line.length
  · have hov : over c line = 1 := (by simp only [over, if_pos h])
    rw [hov]
    have etk : line.take c = line.take c := by first | rfl | exact List.take_of_length_le (by omega)
    refine r_reg ?_
    apply i_mov
    · exact tS0 rfl
    refine i_nil ?_
    refine r_reg ?_
    apply i_mov
    · exact tP rfl
    apply i_nckP
    · exact rfl
    apply i_fldP
    · exact rfl
    apply i_load
    · exact rfl
    · assumption
    · assumption
    apply i_lenM
    · exact rfl
    apply i_mov
    · exact tP rfl
    apply i_nckP
    · exact rfl
    apply i_fldP
    · exact rfl
    apply i_load
    · exact rfl
    · assumption
    · assumption
    apply i_gtT
    · exact rfl
    · exact rfl
    · omega
    refine i_nil ?_
    apply r_condT
    · exact rfl
    refine r_reg ?_
    apply i_mov
    · exact tP rfl
    apply i_nckP
    · exact rfl
    apply i_fldP
    · exact rfl
    apply i_load
    · exact rfl
    · assumption
    · assumption
    apply i_add
    · exact rfl
    · exact rfl
    · omega
    apply i_nckP
    · exact rfl
    apply i_fldP
    · exact rfl
    apply i_st
    · exact rfl
    · exact tI rfl
    · exact rfl
    · assumption
    · omega
    refine i_nil ?_
    refine r_reg ?_
    apply i_mov
    · exact tP rfl
    apply i_mov
    · exact tP rfl
    apply i_nckP
    · exact rfl
    apply i_fldP
    · exact rfl
    apply i_load
    · exact rfl
    · (apply Ob.put'; assumption)
    · ((apply gs_ne3; rotate_left; (· omega)); assumption)
    apply i_mov
    · exact tP rfl
    apply i_nckP
    · exact rfl
    apply i_fldP
    · exact rfl
    apply i_load
    · exact rfl
    · (apply Ob.put'; assumption)
    · ((apply gs_ne3; rotate_left; (· omega)); assumption)
    apply i_sliceHi
    · exact rfl
    · assumption
    · (refine Rd.rd ?_; (refine Rd.put ?_; assumption))
    · exact rfl
    · exact rfl
    · omega
    apply i_nckP
    · exact rfl
    apply i_fldP
    · exact rfl
    apply i_st
    · exact rfl
    · exact tS rfl
    · exact rfl
    · (apply Ob.put'; assumption)
    · (simp only [List.length_set]; omega)
    refine i_nil ?_
    refine r_nop ?_
    refine r_reg ?_
    apply i_mov
    · exact tP rfl
    apply i_nckP
    · exact rfl
    apply i_fldP
    · exact rfl
    apply i_load
    · exact rfl
    · (apply Ob.put'; apply Ob.put'; assumption)
    · exact gs_eq (by (simp only [List.length_set]; omega))
    apply i_app0M
    · exact rfl
    · exact rfl
    · assumption
    · (refine Rd.rd ?_; (refine Rd.put ?_; refine Rd.put ?_; assumption))
    · omega
    apply i_mov
    · exact tS rfl
    refine i_nil ?_
    refine r_block ?_
    refine r_loopP [0, 3] (fun m G S' => ∃ (k : Nat) (ov : Own) (cs1 : List AV), G = [(0, .ptr (some (o, j))), (3, .sl ov 1 (u8s (line.take c ++ List.replicate k 32)))] ∧ m = c - (line.take c).length - k ∧ (line.take c).length + k ≤ c ∧
      Stays S S' [o] ∧ App S' ov 1 1 ((line.take c ++ List.replicate k 32).length) ∧ (∀ t, ov = .own t → S.next ≤ t) ∧ Off j 3 cs cs1 ∧ S'.objs[o]? = some cs1 ∧ cs1[j]? = some (.int .i64 (c : Nat)) ∧ cs1[j + 1]? = some (.int .i64 ((cut + 1 : Nat) : Int))) ?_ ?_
    · refine ⟨_, 0, _, _, (by rw [List.replicate_zero, List.append_nil, etk]; rfl), rfl, by omega, by ((refine Stays.fresh ?_; refine Stays.put ?_ (by (first | exact Or.inl (List.mem_cons_self ..) | exact Or.inl (List.mem_cons_of_mem _ (List.mem_cons_self ..)) | exact Or.inr (by simp only [Ob.len_push, Ob.len_put, appS_objs, objs_fresh, objs_kill]; omega) | exact Or.inr (by omega))); refine Stays.put ?_ (by (first | exact Or.inl (List.mem_cons_self ..) | exact Or.inl (List.mem_cons_of_mem _ (List.mem_cons_self ..)) | exact Or.inr (by simp only [Ob.len_push, Ob.len_put, appS_objs, objs_fresh, objs_kill]; omega) | exact Or.inr (by omega))); exact Stays.refl _ _)), App.some ?_, by (intro t ht; cases ht; first | done | ((try simp only [next_fresh, next_kill, next_push, next_put, appS_next]); omega)), ?_, by ((apply Ob.fresh; apply Ob.put'; apply Ob.put'; assumption)), by ((apply gs_ne3; rotate_left; (· omega)); (apply gs_ne3; rotate_left; (· omega)); assumption), by ((apply gs_ne3; rotate_left; (· omega)); exact gs_eq (by omega))⟩
      · first | exact Rd.new | exact Rd.appN
      · first | exact Off.refl _ _ _ | exact Off.set (Off.set (Off.refl _ _ _) (by omega) (by omega)) (by omega) (by omega)
    rintro m G S2 ⟨k, ov, cs1, rfl, rfl, hk, hst2, hav, hnv, hoff, hob2, g0, g1⟩
    have hlr : (line.take c ++ List.replicate k 32).length = (line.take c).length + k := by simp
    have hlen2 := hoff.1
    have hrv := hav.rd
    by_cases hck : (line.take c).length + k < c
    · refine r_reg ?_
      apply i_mov
      · exact tS rfl
      apply i_lenM
      · exact rfl
      apply i_mov
      · exact tP rfl
      apply i_nckP
      · exact rfl
      apply i_fldP
      · exact rfl
      apply i_load
      · exact rfl
      · assumption
      · assumption
      apply i_ltT
      · exact rfl
      · exact rfl
      · omega
      refine i_nil ?_
      apply r_condT
      · exact rfl
      refine r_nop ?_
      refine r_block ?_
      refine r_reg ?_
      apply i_mov
      · exact tS rfl
      apply i_mk1
      · exact tI rfl
      · exact rfl
      refine i_appX (f := u8) (a := line.take c ++ List.replicate k 32) (b := [32]) rfl rfl hav (.inl rfl) (by exact True.intro) (by rw [hlr]; simp only [List.length_singleton]; omega) ?_
      apply i_mov
      · exact tS rfl
      refine i_nil ?_
      refine r_nop ?_
      refine r_nop ?_
      apply q_lp [0, 3]
      · refine ⟨k + 1, _, _, ?_, rfl, by omega, by ((refine Stays.app ?_ (by (first | assumption | (intro t ht; cases ht; done) | (intro t ht; cases ht; ((try simp only [next_fresh, next_kill, next_push, next_put, appS_next]); omega)))); assumption)), App.new, ?_, hoff, by ((apply Ob.app; assumption)), g0, g1⟩
        · rw [List.replicate_succ', ← List.append_assoc]; rfl
        · have := hst2.next; (intro t ht; cases ht; first | done | ((try simp only [next_fresh, next_kill, next_push, next_put, appS_next]); omega))
      · omega
    · have hrec : line.take c ++ List.replicate k 32 = recP c line := by
        rw [recP]; congr 2
        rw [List.length_take] at hck hk htl; omega
      refine r_reg ?_
      apply i_mov
      · exact tS rfl
      apply i_lenM
      · exact rfl
      apply i_mov
      · exact tP rfl
      apply i_nckP
      · exact rfl
      apply i_fldP
      · exact rfl
      apply i_load
      · exact rfl
      · assumption
      · assumption
      apply i_ltF
      · exact rfl
      · exact rfl
      · omega
      refine i_nil ?_
      apply r_condF
      · exact rfl
      refine r_exit ?_
      refine r_reg ?_
      apply i_mov
      · exact tP rfl
      apply i_nckP
      · exact rfl
      apply i_fldP
      · exact rfl
      apply i_st
      · exact rfl
      · exact tS0 rfl
      · exact rfl
      · assumption
      · omega
      refine i_nil ?_
      refine r_reg ?_
      apply i_mov
      · exact tS rfl
      apply i_mov
      · exact tS rfl
      refine i_nil ?_
      refine r_ret ?_
      apply q_ret1
      · exact tS rfl
      refine ⟨by ((refine Stays.put ?_ (by (first | exact Or.inl (List.mem_cons_self ..) | exact Or.inl (List.mem_cons_of_mem _ (List.mem_cons_self ..)) | exact Or.inr (by simp only [Ob.len_push, Ob.len_put, appS_objs, objs_fresh, objs_kill]; omega) | exact Or.inr (by omega))); assumption)), ⟨ov, 1, by rw [← hrec], by rw [← hrec]; exact App.put hav, hnv⟩, _, ⟨0, by ((apply Ob.put'; assumption)), by ((apply gs_ne3; rotate_left; (· omega)); assumption), by ((apply gs_ne3; rotate_left; (· omega)); assumption), by exact gs_eq (by omega), App.none⟩, hoff.set (by omega) (by omega)⟩
  · have hov : over c line = 0 := (by simp only [over, if_neg h])
    rw [hov]
    have etk : line.take c = line := by first | rfl | exact List.take_of_length_le (by omega)
    refine r_reg ?_
    apply i_mov
    · exact tS0 rfl
    refine i_nil ?_
    refine r_reg ?_
    apply i_mov
    · exact tP rfl
    apply i_nckP
    · exact rfl
    apply i_fldP
    · exact rfl
    apply i_load
    · exact rfl
    · assumption
    · assumption
    apply i_lenM
    · exact rfl
    apply i_mov
    · exact tP rfl
    apply i_nckP
    · exact rfl
    apply i_fldP
    · exact rfl
    apply i_load
    · exact rfl
    · assumption
    · assumption
    apply i_gtF
    · exact rfl
    · exact rfl
    · omega
    refine i_nil ?_
    apply r_condF
    · exact rfl
    refine r_nop ?_
    refine r_reg ?_
    apply i_mov
    · exact tP rfl
    apply i_nckP
    · exact rfl
    apply i_fldP
    · exact rfl
    apply i_load
    · exact rfl
    · assumption
    · assumption
    apply i_app0M
    · exact rfl
    · exact rfl
    · assumption
    · (refine Rd.rd ?_; assumption)
    · omega
    apply i_mov
    · exact tS rfl
    refine i_nil ?_
    refine r_block ?_
    refine r_loopP [0, 3] (fun m G S' => ∃ (k : Nat) (ov : Own) (cs1 : List AV), G = [(0, .ptr (some (o, j))), (3, .sl ov 1 (u8s (line.take c ++ List.replicate k 32)))] ∧ m = c - (line.take c).length - k ∧ (line.take c).length + k ≤ c ∧
      Stays S S' [o] ∧ App S' ov 1 1 ((line.take c ++ List.replicate k 32).length) ∧ (∀ t, ov = .own t → S.next ≤ t) ∧ Off j 3 cs cs1 ∧ S'.objs[o]? = some cs1 ∧ cs1[j]? = some (.int .i64 (c : Nat)) ∧ cs1[j + 1]? = some (.int .i64 ((cut + 0 : Nat) : Int))) ?_ ?_
    · refine ⟨_, 0, _, _, (by rw [List.replicate_zero, List.append_nil, etk]; rfl), rfl, by omega, by ((refine Stays.fresh ?_; exact Stays.refl _ _)), App.some ?_, by (intro t ht; cases ht; first | done | ((try simp only [next_fresh, next_kill, next_push, next_put, appS_next]); omega)), ?_, by ((apply Ob.fresh; assumption)), by assumption, by assumption⟩
      · first | exact Rd.new | exact Rd.appN
      · first | exact Off.refl _ _ _ | exact Off.set (Off.set (Off.refl _ _ _) (by omega) (by omega)) (by omega) (by omega)
    rintro m G S2 ⟨k, ov, cs1, rfl, rfl, hk, hst2, hav, hnv, hoff, hob2, g0, g1⟩
    have hlr : (line.take c ++ List.replicate k 32).length = (line.take c).length + k := by simp
    have hlen2 := hoff.1
    have hrv := hav.rd
    by_cases hck : (line.take c).length + k < c
    · refine r_reg ?_
      apply i_mov
      · exact tS rfl
      apply i_lenM
      · exact rfl
      apply i_mov
      · exact tP rfl
      apply i_nckP
      · exact rfl
      apply i_fldP
      · exact rfl
      apply i_load
      · exact rfl
      · assumption
      · assumption
      apply i_ltT
      · exact rfl
      · exact rfl
      · omega
      refine i_nil ?_
      apply r_condT
      · exact rfl
      refine r_nop ?_
      refine r_block ?_
      refine r_reg ?_
      apply i_mov
      · exact tS rfl
      apply i_mk1
      · exact tI rfl
      · exact rfl
      refine i_appX (f := u8) (a := line.take c ++ List.replicate k 32) (b := [32]) rfl rfl hav (.inl rfl) (by exact True.intro) (by rw [hlr]; simp only [List.length_singleton]; omega) ?_
      apply i_mov
      · exact tS rfl
      refine i_nil ?_
      refine r_nop ?_
      refine r_nop ?_
      apply q_lp [0, 3]
      · refine ⟨k + 1, _, _, ?_, rfl, by omega, by ((refine Stays.app ?_ (by (first | assumption | (intro t ht; cases ht; done) | (intro t ht; cases ht; ((try simp only [next_fresh, next_kill, next_push, next_put, appS_next]); omega)))); assumption)), App.new, ?_, hoff, by ((apply Ob.app; assumption)), g0, g1⟩
        · rw [List.replicate_succ', ← List.append_assoc]; rfl
        · have := hst2.next; (intro t ht; cases ht; first | done | ((try simp only [next_fresh, next_kill, next_push, next_put, appS_next]); omega))
      · omega
    · have hrec : line.take c ++ List.replicate k 32 = recP c line := by
        rw [recP]; congr 2
        rw [List.length_take] at hck hk htl; omega
      refine r_reg ?_
      apply i_mov
      · exact tS rfl
      apply i_lenM
      · exact rfl
      apply i_mov
      · exact tP rfl
      apply i_nckP
      · exact rfl
      apply i_fldP
      · exact rfl
      apply i_load
      · exact rfl
      · assumption
      · assumption
      apply i_ltF
      · exact rfl
      · exact rfl
      · omega
      refine i_nil ?_
      apply r_condF
      · exact rfl
      refine r_exit ?_
      refine r_reg ?_
      apply i_mov
      · exact tP rfl
      apply i_nckP
      · exact rfl
      apply i_fldP
      · exact rfl
      apply i_st
      · exact rfl
      · exact tS0 rfl
      · exact rfl
      · assumption
      · omega
      refine i_nil ?_
      refine r_reg ?_
      apply i_mov
      · exact tS rfl
      apply i_mov
      · exact tS rfl
      refine i_nil ?_
      refine r_ret ?_
      apply q_ret1
      · exact tS rfl
      refine ⟨by ((refine Stays.put ?_ (by (first | exact Or.inl (List.mem_cons_self ..) | exact Or.inl (List.mem_cons_of_mem _ (List.mem_cons_self ..)) | exact Or.inr (by simp only [Ob.len_push, Ob.len_put, appS_objs, objs_fresh, objs_kill]; omega) | exact Or.inr (by omega))); assumption)), ⟨ov, 1, by rw [← hrec], by rw [← hrec]; exact App.put hav, hnv⟩, _, ⟨0, by ((apply Ob.put'; assumption)), by ((apply gs_ne3; rotate_left; (· omega)); assumption), by ((apply gs_ne3; rotate_left; (· omega)); assumption), by exact gs_eq (by omega), App.none⟩, hoff.set (by omega) (by omega)⟩

theorem refPackPut (o j c : Nat) (line : List UInt8) (ob : Own) (cut : Nat) (o1 : Own) (s1 : Nat) (b : List UInt8) (cs : List AV) (S : ASt) (hs : s1 = 1 ∨ b = []) (hr : Rd S o1) (hap : Apart o1 ob) (hat : RpAt S o j c line cut ob cs)
    (hc : c ≤ 4096) (hb : b.length ≤ 10000) (hl : line.length ≤ 1000000) (hcut : cut ≤ 1000000) :
    ACalls Try.prog 60 [.ptr (some (o, j)), .sl o1 s1 (u8s b)] S fun v S' => StayX S S' [o] ob.ts ∧
      ∃ ov sv ob' cs', v = .sl ov sv (u8s (pkOut c line cut b).out) ∧ App S' ov 1 sv (pkOut c line cut b).out.length ∧ (∀ t, ov = .own t → S.next ≤ t) ∧ RpAt S' o j c (pkOut c line cut b).line (pkOut c line cut b).cut ob' cs' ∧ OwnNew S ob ob' ∧ Apart ov ob' ∧ Off j 3 cs cs' := by
  refine en_60 (by exact Nat.le_of_ble_eq_true rfl) ?_
  unfold rc_60
  have hlt := hat.len.2
  refine r_reg ?_
  apply i_mov
  · exact tS0 rfl
  refine i_nil ?_
  refine r_reg ?_
  apply i_mov
  · exact tS0 rfl
  refine i_nil ?_
  refine r_reg ?_
  apply i_mov
  · exact tI rfl
  refine i_nil ?_
  refine r_block ?_
  refine r_loopP [0, 1, 5, 6] (fun m G S' => ∃ (i : Nat) (ov : Own) (sv : Nat) (ob' : Own) (p : PkS) (cs' : List AV), G = [(0, .ptr (some (o, j))), (1, .sl o1 s1 (u8s b)), (5, .sl ov sv (u8s p.out)), (6, .int .i64 (i : Nat))] ∧ m = b.length - i ∧ i ≤ b.length ∧ p = pk c ⟨[], line, cut⟩ (b.take i) ∧
    StayX S S' [o] ob.ts ∧ App S' ov 1 sv p.out.length ∧ (∀ t, ov = .own t → S.next ≤ t) ∧ RpAt S' o j c p.line p.cut ob' cs' ∧ OwnNew S ob ob' ∧ Apart ov ob' ∧ Off j 3 cs cs') ?_ ?_
  · exact ⟨_, 0, .nil, 0, ob, ⟨[], line, cut⟩, cs, rfl, rfl, Nat.zero_le _, rfl, StayX.refl _ _ _, App.none, by (intro t ht; cases ht; first | done | ((try simp only [next_fresh, next_kill, next_push, next_put, appS_next]); omega)), hat, OwnNew.refl, Apart.nil, Off.refl _ _ _⟩
  rintro m G S2 ⟨i, ov, sv, ob', p, cs2, rfl, rfl, hi, hp, hst, hav, hnv, hat2, hnew, hapv, hoff⟩
  have hplen := pk_len c (b.take i) ⟨[], line, cut⟩
  rw [← hp, List.length_take, Nat.min_eq_left hi] at hplen
  have hmul : c * i ≤ 4096 * 10000 := Nat.mul_le_mul hc (by omega)
  simp only [List.length_nil] at hplen
  have hr2 := hr.stayo hst hap
  by_cases h : i < b.length
  · obtain rfl := sz_pos hs (by omega)
    have hstep := pk_take c ⟨[], line, cut⟩ b h
    rw [← hp] at hstep
    by_cases hx : b[i] = 10
    · have hxn := u8_eq hx
      simp only [pkStep, if_pos hx] at hstep
      have hrl := recP_len c p.line
      refine r_reg ?_
      apply i_mov
      · exact tI rfl
      apply i_mov
      · exact tS rfl
      apply i_lenM
      · exact rfl
      apply i_ltT
      · exact rfl
      · exact rfl
      · omega
      refine i_nil ?_
      apply r_condT
      · exact rfl
      refine r_nop ?_
      refine r_block ?_
      refine r_reg ?_
      apply i_mov
      · exact tS rfl
      apply i_mov
      · exact tI rfl
      apply i_idxM
      · exact rfl
      · exact rfl
      · exact rfl
      · exact rfl
      · (refine Rd.rd ?_; assumption)
      · omega
      apply i_loadM
      · exact rfl
      · (refine Rd.rd ?_; assumption)
      · omega
      · exact fun _ => rfl
      (refine ⟨by omega, ?_⟩)
      apply i_eqT
      · exact rfl
      · exact rfl
      · omega
      refine i_nil ?_
      apply r_condT
      · exact rfl
      refine r_reg ?_
      apply i_mov
      · exact tS rfl
      apply i_mov
      · exact tP rfl
      refine i_call (refRecord o j c p.line p.cut ob' cs2 _ hat2 hc (by omega) (by omega)) rfl ?_
      rintro v S3 ⟨hst3, ⟨o3, s3, rfl, ha3, hn3⟩, cs3, hat3, hoff3⟩
      have hav3 := hav.stays hst3
      have hs3 : s3 = 1 ∨ recP c p.line = [] := ha3.sz.imp id (fun h => List.length_eq_zero_iff.1 h)
      have hr3 := ha3.rd
      apply i_appX
      · exact rfl
      · exact rfl
      · assumption
      · assumption
      · (refine Rd.rd ?_; assumption)
      · omega
      apply i_mov
      · exact tS rfl
      refine i_nil ?_
      refine r_nop ?_
      refine r_nop ?_
      refine r_reg ?_
      apply i_mov
      · exact tI rfl
      apply i_add
      · exact rfl
      · exact rfl
      · omega
      apply i_mov
      · exact tI rfl
      refine i_nil ?_
      refine r_nop ?_
      apply q_lp [0, 1, 5, 6]
      · refine ⟨i + 1, _, _, _, _, cs3, rfl, rfl, h, hstep.symm, by ((refine StayX.appN ?_ (by (first | assumption | (intro t ht; cases ht; done) | (intro t ht; cases ht; ((try simp only [next_fresh, next_kill, next_push, next_put, appS_next]); omega)))); refine StayX.thenS ?_ (by assumption) (by (first | (intro o ho; cases ho; done) | (intro o ho; exact Or.inl ho) | (intro o ho; simp only [List.mem_cons, List.not_mem_nil, or_false] at ho ⊢; omega))); assumption)), App.new, ?_, hat3.app Apart.nil, OwnNew.nil, Apart.nilR, hoff.trans hoff3⟩
        have := hst.next; have := hst3.next; (intro t ht; cases ht; first | done | ((try simp only [next_fresh, next_kill, next_push, next_put, appS_next]); omega))
      · omega
    · have hxn := u8_ne hx
      simp only [pkStep, if_neg hx] at hstep
      obtain ⟨hlen2, hlt2⟩ := hat2.len
      obtain ⟨sb, hob, h0, h1, h2, ha⟩ := hat2
      have hrv := hav.rd
      have hn2 := hst.next
      have hlen3 := hoff.1
      have ho1 : ∀ t, ob' = .own t → o1.tok ≠ some t := fun t ht h => by
        rcases hnew with rfl | hnew
        · exact hap t h (by rw [ht]; rfl)
        · have := hr.2 t h; have := hnew t (by rw [ht]; rfl); omega
      refine r_reg ?_
      apply i_mov
      · exact tI rfl
      apply i_mov
      · exact tS rfl
      apply i_lenM
      · exact rfl
      apply i_ltT
      · exact rfl
      · exact rfl
      · omega
      refine i_nil ?_
      apply r_condT
      · exact rfl
      refine r_nop ?_
      refine r_block ?_
      refine r_reg ?_
      apply i_mov
      · exact tS rfl
      apply i_mov
      · exact tI rfl
      apply i_idxM
      · exact rfl
      · exact rfl
      · exact rfl
      · exact rfl
      · (refine Rd.rd ?_; assumption)
      · omega
      apply i_loadM
      · exact rfl
      · (refine Rd.rd ?_; assumption)
      · omega
      · exact fun _ => rfl
      (refine ⟨by omega, ?_⟩)
      apply i_eqF
      · exact rfl
      · exact rfl
      · omega
      refine i_nil ?_
      apply r_condF
      · exact rfl
      refine r_reg ?_
      apply i_mov
      · exact tP rfl
      apply i_mov
      · exact tP rfl
      apply i_nckP
      · exact rfl
      apply i_fldP
      · exact rfl
      apply i_load
      · exact rfl
      · assumption
      · assumption
      apply i_mov
      · exact tS rfl
      apply i_mov
      · exact tI rfl
      apply i_idxM
      · exact rfl
      · exact rfl
      · exact rfl
      · exact rfl
      · (refine Rd.rd ?_; assumption)
      · omega
      apply i_loadM
      · exact rfl
      · (refine Rd.rd ?_; assumption)
      · omega
      · exact fun _ => rfl
      (refine ⟨by omega, ?_⟩)
      apply i_mk1B
      · exact rfl
      apply i_appX
      · exact rfl
      · exact rfl
      · assumption
      · exact Or.inl rfl
      · exact True.intro
      · (simp only [List.length_map, List.length_append, List.length_cons, List.length_nil, List.length_take, List.length_drop, List.length_replicate]; omega)
      apply i_nckP
      · exact rfl
      apply i_fldP
      · exact rfl
      apply i_st
      · exact rfl
      · exact tS rfl
      · exact rfl
      · (apply Ob.app; assumption)
      · omega
      refine i_nil ?_
      refine r_nop ?_
      refine r_nop ?_
      refine r_reg ?_
      apply i_mov
      · exact tI rfl
      apply i_add
      · exact rfl
      · exact rfl
      · omega
      apply i_mov
      · exact tI rfl
      refine i_nil ?_
      refine r_nop ?_
      apply q_lp [0, 1, 5, 6]
      · refine ⟨i + 1, _, _, .own S2.next, ⟨p.out, p.line ++ [b[i]], p.cut⟩, _, rfl, rfl, h, hstep.symm, by ((refine StayX.put ?_ (by (first | exact Or.inl (List.mem_cons_self ..) | exact Or.inl (List.mem_cons_of_mem _ (List.mem_cons_self ..)) | exact Or.inr (by simp only [Ob.len_push, Ob.len_put, appS_objs, objs_fresh, objs_kill]; omega) | exact Or.inr (by omega))); refine StayX.app ?_ (by (first | (intro t ht; exact new_own (by assumption) t ht) | (intro t ht; cases ht; first | exact Or.inl (List.mem_singleton.2 rfl) | (refine Or.inr ?_; first | done | ((try simp only [next_fresh, next_kill, next_push, next_put, appS_next]); omega))) | (intro t ht; exact Or.inl (by rw [ht]; exact List.mem_singleton.2 rfl)))); assumption)), ?_, hnv, ⟨1, by ((apply Ob.put'; apply Ob.app; assumption)), by ((apply gs_ne3; rotate_left; (· omega)); assumption), by ((apply gs_ne3; rotate_left; (· omega)); assumption), by exact gs_eq (by omega), ?_⟩, ?_, ?_, ?_⟩
        · exact App.put (hav.app hapv)
        · exact App.put App.new
        · exact OwnNew.ge hn2
        · exact Apart.lt hrv (by intro t ht; cases ht; exact Nat.le_refl _)
        · exact hoff.set (by omega) (by omega)
      · omega
  · have e : i = b.length := by omega
    subst e
    rw [List.take_length] at hp
    refine r_reg ?_
    apply i_mov
    · exact tI rfl
    apply i_mov
    · exact tS rfl
    apply i_lenM
    · exact rfl
    apply i_ltF
    · exact rfl
    · exact rfl
    · omega
    refine i_nil ?_
    apply r_condF
    · exact rfl
    refine r_exit ?_
    refine r_reg ?_
    apply i_mov
    · exact tS rfl
    apply i_mov
    · exact tS rfl
    refine i_nil ?_
    refine r_ret ?_
    apply q_ret1
    · exact tS rfl
    rw [pkOut, ← hp]
    exact ⟨hst, ov, sv, ob', cs2, rfl, hav, hnv, hat2, hnew, hapv, hoff⟩

theorem refPackEnd (o j c : Nat) (line : List UInt8) (ob : Own) (cut : Nat) (cs : List AV) (S : ASt) (hat : RpAt S o j c line cut ob cs) (hc : c ≤ 4096) (hl : line.length ≤ 100000000) (hcut : cut ≤ 100000000) :
    ACalls Try.prog 52 [.ptr (some (o, j))] S fun v S' => Stays S S' [o] ∧ BA S S' v (pkE c line cut).out ∧ ∃ ob' cs', RpAt S' o j c [] (pkE c line cut).cut ob' cs' ∧ (ob' = ob ∨ ob' = .nil) ∧ (∀ ov sv xs, v = .sl ov sv xs → Apart ov ob') ∧ Off j 3 cs cs' := by
  refine en_52 (by exact Nat.le_of_ble_eq_true rfl) ?_
  unfold rc_52
  obtain ⟨sb, hob, h0, h1, h2, ha⟩ := id hat
  by_cases h : line = []
  · have hz : line.length = 0 := by rw [h]; rfl
    have he : pkE c line cut = ⟨[], [], cut⟩ := by simp [pkE, pkEnd, h]
    rw [he]
    refine r_reg ?_
    apply i_mov
    · exact tS0 rfl
    refine i_nil ?_
    refine r_reg ?_
    apply i_mov
    · exact tP rfl
    apply i_nckP
    · exact rfl
    apply i_fldP
    · exact rfl
    apply i_load
    · exact rfl
    · assumption
    · assumption
    apply i_lenM
    · exact rfl
    apply i_eqT
    · exact rfl
    · exact rfl
    · omega
    refine i_nil ?_
    apply r_condT
    · exact rfl
    refine r_reg ?_
    apply i_mov
    · exact tS0 rfl
    refine i_nil ?_
    refine r_ret ?_
    refine q_kr ?_
    apply q_ret1
    · exact tS0 rfl
    exact ⟨Stays.refl _ _, ⟨.nil, 0, rfl, App.none, by (intro t ht; cases ht; first | done | ((try simp only [next_fresh, next_kill, next_push, next_put, appS_next]); omega))⟩, ob, cs, by rw [← h]; exact hat, .inl rfl, (by rintro ov sv xs h; cases h; exact Apart.nil), Off.refl _ _ _⟩
  · have hpos : 0 < line.length := List.length_pos_iff.2 h
    have he : pkE c line cut = ⟨recP c line, [], cut + over c line⟩ := by simp [pkE, pkEnd, h]
    rw [he]
    refine r_reg ?_
    apply i_mov
    · exact tS0 rfl
    refine i_nil ?_
    refine r_reg ?_
    apply i_mov
    · exact tP rfl
    apply i_nckP
    · exact rfl
    apply i_fldP
    · exact rfl
    apply i_load
    · exact rfl
    · assumption
    · assumption
    apply i_lenM
    · exact rfl
    apply i_eqF
    · exact rfl
    · exact rfl
    · omega
    refine i_nil ?_
    apply r_condF
    · exact rfl
    refine r_nop ?_
    refine r_reg ?_
    apply i_mov
    · exact tP rfl
    refine i_call (refRecord o j c line cut ob cs _ hat hc hl hcut) rfl ?_
    rintro v S3 ⟨hst3, ⟨o3, s3, rfl, ha3, hn3⟩, cs3, hat3, hoff3⟩
    apply i_mov
    · exact tS rfl
    refine i_nil ?_
    refine r_ret ?_
    apply q_ret1
    · exact tS rfl
    exact ⟨hst3, ⟨o3, s3, rfl, ha3, hn3⟩, .nil, cs3, hat3, .inr rfl, (fun ov sv xs h => Apart.nilR), hoff3⟩
end Go.Proofs.Ythpomdoaiibnfaa.Abs
