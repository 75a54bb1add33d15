/- Package fixed: contracts. -/
import Derived.Test.YthpomdoaiibnfaaFx1
import Derived.Test.YthpomdoaiibnfaaRep2
namespace Go.Proofs.Ythpomdoaiibnfaa.Abs
open Go Go.Proofs
set_option linter.unusedVariables false
set_option linter.unusedSimpArgs false
attribute [local irreducible] wpI wpR ropK chk ASt.push ASt.put ASt.fresh ASt.kill appS

theorem Ob.eq {S : ASt} {b : Nat} {cs cs' : List AV} (h : S.objs[b]? = some cs) (e : cs = cs') : S.objs[b]? = some cs' := by rw [h, e]
/-- A record that is held. -/
def RecAt (S : ASt) (o c : Nat) (line : List UInt8) (ob : Own) (rest : List AV) : Prop :=
  ∃ sb, S.objs[o]? = some (.int .i64 (c : Nat) :: .sl ob sb (u8s (line.take c)) :: .int .i64 (line.length : Nat) :: rest) ∧ App S ob 1 sb (line.take c).length
theorem RecAt.stayx {S S' : ASt} {os : List Nat} {o c : Nat} {line : List UInt8} {ob ob2 : Own} {rest : List AV} (h : RecAt S o c line ob rest) (hs : StayX S S' os ob2.ts) (ho : o ∉ os) (hn : Apart ob ob2) : RecAt S' o c line ob rest := by
  obtain ⟨sb, h1, h2⟩ := h
  exact ⟨sb, Ob.stayx h1 hs ho, h2.stayo hs hn⟩
theorem RecAt.stays {S S' : ASt} {os : List Nat} {o c : Nat} {line : List UInt8} {ob : Own} {rest : List AV} (h : RecAt S o c line ob rest) (hs : Stays S S' os) (ho : o ∉ os) : RecAt S' o c line ob rest := by
  obtain ⟨sb, h1, h2⟩ := h
  exact ⟨sb, Ob.stays h1 hs ho, h2.stays hs⟩
theorem RecAt.rd {S : ASt} {o c : Nat} {line : List UInt8} {ob : Own} {rest : List AV} (h : RecAt S o c line ob rest) : Rd S ob := by
  obtain ⟨sb, h1, h2⟩ := h
  exact h2.rd

def heldC (cbs : Int) : Nat := (min (max cbs 1) 4096).toNat
theorem heldC_ok (cbs : Int) : min (max cbs 1) 4096 = (heldC cbs : Int) ∧ 1 ≤ heldC cbs ∧ heldC cbs ≤ 4096 := by
  unfold heldC
  omega
theorem heldC_le {cbs : Int} {n : Nat} (h : cbs ≤ n) (hn : 1 ≤ n) : heldC cbs ≤ n := by
  unfold heldC
  omega
theorem heldC_nat {n : Nat} (h : 1 ≤ n) (hn : n ≤ 4096) : heldC (n : Int) = n := by
  unfold heldC
  omega

theorem fRec (cbs : Int) (S : ASt) : ACalls Try.prog 54 [.int .i64 cbs] S fun v S' => v = .agg [.int .i64 (heldC cbs : Nat), .sl .nil 0 (u8s []), .int .i64 0] ∧ Stays S S' [] := by
  refine en_54 (by exact Nat.le_of_ble_eq_true rfl) ?_
  unfold rc_54
  obtain ⟨e, _⟩ := heldC_ok cbs
  refine r_reg ?_
  refine i_alloc ?_
  refine i_nil ?_
  refine r_reg ?_
  apply i_mov
  · exact tI rfl
  apply i_max
  · exact rfl
  · exact rfl
  apply i_min
  · exact rfl
  · exact rfl
  rw [e]
  refine i_build (cs := [.int .i64 (heldC cbs : Nat), .sl .nil 0 (u8s []), .int .i64 0]) rfl ?_
  apply i_stN
  · exact rfl
  · exact rfl
  · exact Ob.new
  · exact rfl
  · exact rfl
  · exact rfl
  refine i_nil ?_
  refine r_ret ?_
  apply q_retN
  · exact rfl
  · (apply Ob.put'; exact Ob.new)
  · exact rfl
  exact ⟨rfl, by ((refine Stays.put ?_ (by (first | exact Or.inl (List.mem_cons_self ..) | exact Or.inl (List.mem_cons_of_mem _ (List.mem_cons_self ..)) | exact Or.inr (by simp only [Ob.len_push, Ob.len_put, appS_objs, objs_fresh, objs_kill]; omega) | exact Or.inr (by omega))); refine Stays.push ?_; exact Stays.refl _ _))⟩
theorem newPacker (cbs : Int) (S : ASt) : ACalls Try.prog 37 [.int .i64 cbs] S fun v S' => ∃ o, v = .ptr (some (o, 0)) ∧ S.objs.length ≤ o ∧ Stays S S' [] ∧ RecAt S' o (heldC cbs) [] .nil [.int .i64 (0 : Nat)] := by
  refine en_37 (by exact Nat.le_of_ble_eq_true rfl) ?_
  unfold rc_37
  refine r_reg ?_
  apply i_mov
  · exact tP rfl
  refine i_nil ?_
  refine r_reg ?_
  apply i_mov
  · exact tI rfl
  refine i_call (fRec cbs _) rfl ?_
  rintro v S1 ⟨rfl, hst1⟩
  refine i_build (cs := [.int .i64 (heldC cbs : Nat), .sl .nil 0 (u8s []), .int .i64 0, .int .i64 0]) rfl ?_
  apply i_boxA
  · exact rfl
  apply i_mov
  · exact tP rfl
  refine i_nil ?_
  refine r_ret ?_
  apply q_ret1
  · exact tP rfl
  exact ⟨_, rfl, hst1.objs, by ((refine Stays.push ?_; assumption)), 0, Ob.eq Ob.new (by simp), App.len App.none (by simp)⟩
theorem newUnpacker (cbs : Int) (S : ASt) : ACalls Try.prog 38 [.int .i64 cbs] S fun v S' => ∃ o, v = .ptr (some (o, 0)) ∧ S.objs.length ≤ o ∧ Stays S S' [] ∧ RecAt S' o (heldC cbs) [] .nil [] := by
  refine en_38 (by exact Nat.le_of_ble_eq_true rfl) ?_
  unfold rc_38
  refine r_reg ?_
  apply i_mov
  · exact tP rfl
  refine i_nil ?_
  refine r_reg ?_
  apply i_mov
  · exact tI rfl
  refine i_call (fRec cbs _) rfl ?_
  rintro v S1 ⟨rfl, hst1⟩
  refine i_build (cs := [.int .i64 (heldC cbs : Nat), .sl .nil 0 (u8s []), .int .i64 0]) rfl ?_
  apply i_boxA
  · exact rfl
  apply i_mov
  · exact tP rfl
  refine i_nil ?_
  refine r_ret ?_
  apply q_ret1
  · exact tP rfl
  exact ⟨_, rfl, hst1.objs, by ((refine Stays.push ?_; assumption)), 0, Ob.eq Ob.new (by simp), App.len App.none (by simp)⟩

theorem packCut (o c : Nat) (line : List UInt8) (ob : Own) (cut : Nat) (S : ASt) (hat : RecAt S o c line ob [.int .i64 (cut : Nat)]) :
    ACalls Try.prog 50 [.ptr (some (o, 0))] S fun v S' => v = .int .i64 (cut : Nat) ∧ S' = S := by
  refine en_50 (by exact Nat.le_of_ble_eq_true rfl) ?_
  unfold rc_50
  obtain ⟨sb, hob, ha⟩ := hat
  refine r_reg ?_
  apply i_mov
  · exact tI rfl
  refine i_nil ?_
  refine r_reg ?_
  apply i_mov
  · exact tP rfl
  apply i_nckP
  · exact rfl
  apply i_fld0
  · exact rfl
  apply i_load
  · exact rfl
  · assumption
  · exact rfl
  apply i_mov
  · exact tI rfl
  refine i_nil ?_
  refine r_ret ?_
  apply q_ret1
  · exact tI rfl
  exact ⟨rfl, rfl⟩

theorem recHold (o c : Nat) (line : List UInt8) (ob : Own) (rest : List AV) (x : UInt8) (S : ASt) (hat : RecAt S o c line ob rest) (hl : line.length ≤ 100000000) (hc0 : c ≤ 4096) :
    ACalls Try.prog 93 [.ptr (some (o, 0)), u8 x] S fun v S' => StayX S S' [o] ob.ts ∧ ∃ ob', RecAt S' o c (line ++ [x]) ob' rest ∧ OwnNew S ob ob' := by
  refine en_93 (by exact Nat.le_of_ble_eq_true rfl) ?_
  unfold rc_93
  obtain ⟨sb, hob, ha⟩ := hat
  have hlt := Ob.lt hob
  have hlen : (line.take c).length ≤ 4096 := by rw [List.length_take]; omega
  by_cases hc : line.length < c
  · have e : (line ++ [x]).take c = line.take c ++ [x] := by
      rw [List.take_of_length_le (by simp; omega), List.take_of_length_le (by omega)]
    refine r_reg ?_
    apply i_mov
    · exact tP rfl
    apply i_nckP
    · exact rfl
    apply i_fld0
    · exact rfl
    apply i_load
    · exact rfl
    · assumption
    · exact rfl
    apply i_mov
    · exact tP rfl
    apply i_nckP
    · exact rfl
    apply i_fld0
    · exact rfl
    apply i_load
    · exact rfl
    · assumption
    · exact rfl
    apply i_ltT
    · exact rfl
    · exact rfl
    · omega
    refine i_nil ?_
    apply r_condT
    · exact rfl
    refine r_reg ?_
    apply i_mov
    · exact tP rfl
    apply i_mov
    · exact tP rfl
    apply i_nckP
    · exact rfl
    apply i_fld0
    · exact rfl
    apply i_load
    · exact rfl
    · assumption
    · exact rfl
    apply i_mov
    · exact tI rfl
    apply i_mk1B
    · exact rfl
    apply i_appX
    · exact rfl
    · exact rfl
    · assumption
    · exact Or.inl rfl
    · exact True.intro
    · (simp only [List.length_map, List.length_append, List.length_cons, List.length_nil, List.length_take, List.length_drop, List.length_replicate]; omega)
    apply i_nckP
    · exact rfl
    apply i_fld0
    · exact rfl
    apply i_st
    · exact rfl
    · exact tS rfl
    · exact rfl
    · (apply Ob.app; assumption)
    · exact Nat.le_of_ble_eq_true rfl
    refine i_nil ?_
    refine r_nop ?_
    refine r_reg ?_
    apply i_mov
    · exact tP rfl
    apply i_nckP
    · exact rfl
    apply i_fld0
    · exact rfl
    apply i_load
    · exact rfl
    · (apply Ob.put'; apply Ob.app; assumption)
    · exact rfl
    apply i_add
    · exact rfl
    · exact rfl
    · omega
    apply i_nckP
    · exact rfl
    apply i_fld0
    · exact rfl
    apply i_st
    · exact rfl
    · exact tI rfl
    · exact rfl
    · (apply Ob.put'; apply Ob.app; assumption)
    · exact Nat.le_of_ble_eq_true rfl
    refine i_nil ?_
    refine r_nop ?_
    refine q_end0 ?_
    refine ⟨by ((refine StayX.put ?_ (by (first | exact Or.inl (List.mem_cons_self ..) | exact Or.inl (List.mem_cons_of_mem _ (List.mem_cons_self ..)) | exact Or.inr (by simp only [Ob.len_push, Ob.len_put, appS_objs, objs_fresh, objs_kill]; omega) | exact Or.inr (by omega))); refine StayX.put ?_ (by (first | exact Or.inl (List.mem_cons_self ..) | exact Or.inl (List.mem_cons_of_mem _ (List.mem_cons_self ..)) | exact Or.inr (by simp only [Ob.len_push, Ob.len_put, appS_objs, objs_fresh, objs_kill]; omega) | exact Or.inr (by omega))); refine StayX.app ?_ (by (first | (intro t ht; exact new_own (by assumption) t ht) | (intro t ht; cases ht; first | exact Or.inl (List.mem_singleton.2 rfl) | (refine Or.inr ?_; first | done | ((try simp only [next_fresh, next_kill, next_push, next_put, appS_next]); omega))) | (intro t ht; exact Or.inl (by rw [ht]; exact List.mem_singleton.2 rfl)))); exact StayX.refl _ _ _)), .own S.next, ⟨1, ?_, ?_⟩, OwnNew.ge (Nat.le_refl _)⟩
    · rw [e]
      exact Ob.eq (by ((apply Ob.put'; apply Ob.put'; apply Ob.app; assumption))) (by simp)
    · exact App.put (App.put App.new)
  · have e : (line ++ [x]).take c = line.take c := by
      rw [List.take_append_of_le_length (by omega)]
    refine r_reg ?_
    apply i_mov
    · exact tP rfl
    apply i_nckP
    · exact rfl
    apply i_fld0
    · exact rfl
    apply i_load
    · exact rfl
    · assumption
    · exact rfl
    apply i_mov
    · exact tP rfl
    apply i_nckP
    · exact rfl
    apply i_fld0
    · exact rfl
    apply i_load
    · exact rfl
    · assumption
    · exact rfl
    apply i_ltF
    · exact rfl
    · exact rfl
    · omega
    refine i_nil ?_
    apply r_condF
    · exact rfl
    refine r_nop ?_
    refine r_reg ?_
    apply i_mov
    · exact tP rfl
    apply i_nckP
    · exact rfl
    apply i_fld0
    · exact rfl
    apply i_load
    · exact rfl
    · assumption
    · exact rfl
    apply i_add
    · exact rfl
    · exact rfl
    · omega
    apply i_nckP
    · exact rfl
    apply i_fld0
    · exact rfl
    apply i_st
    · exact rfl
    · exact tI rfl
    · exact rfl
    · assumption
    · exact Nat.le_of_ble_eq_true rfl
    refine i_nil ?_
    refine r_nop ?_
    refine q_end0 ?_
    refine ⟨by ((refine StayX.put ?_ (by (first | exact Or.inl (List.mem_cons_self ..) | exact Or.inl (List.mem_cons_of_mem _ (List.mem_cons_self ..)) | exact Or.inr (by simp only [Ob.len_push, Ob.len_put, appS_objs, objs_fresh, objs_kill]; omega) | exact Or.inr (by omega))); exact StayX.refl _ _ _)), ob, ⟨sb, ?_, ?_⟩, OwnNew.refl⟩
    · rw [e]
      exact Ob.eq (by ((apply Ob.put'; assumption))) (by simp)
    · rw [e]; exact App.put ha

theorem recFree (o c : Nat) (line : List UInt8) (ob : Own) (rest : List AV) (S : ASt) (hat : RecAt S o c line ob rest) :
    ACalls Try.prog 94 [.ptr (some (o, 0))] S fun v S' => Stays S S' [o] ∧ RecAt S' o c [] .nil rest ∧ ∃ sb, v = .sl ob sb (u8s (line.take c)) ∧ App S' ob 1 sb (line.take c).length := by
  refine en_94 (by exact Nat.le_of_ble_eq_true rfl) ?_
  unfold rc_94
  obtain ⟨sb, hob, ha⟩ := hat
  have hlt := Ob.lt hob
  refine r_reg ?_
  apply i_mov
  · exact tS0 rfl
  refine i_nil ?_
  refine r_reg ?_
  apply i_mov
  · exact tP rfl
  apply i_nckP
  · exact rfl
  apply i_fld0
  · exact rfl
  apply i_load
  · exact rfl
  · assumption
  · exact rfl
  apply i_mov
  · exact tS rfl
  refine i_nil ?_
  refine r_reg ?_
  apply i_mov
  · exact tP rfl
  apply i_mov
  · exact tP rfl
  apply i_nckP
  · exact rfl
  apply i_fld0
  · exact rfl
  apply i_st
  · exact rfl
  · exact tS0 rfl
  · exact rfl
  · assumption
  · exact Nat.le_of_ble_eq_true rfl
  apply i_nckP
  · exact rfl
  apply i_fld0
  · exact rfl
  apply i_st
  · exact rfl
  · exact tI rfl
  · exact rfl
  · (apply Ob.put'; assumption)
  · exact Nat.le_of_ble_eq_true rfl
  refine i_nil ?_
  refine r_reg ?_
  apply i_mov
  · exact tS rfl
  apply i_mov
  · exact tS rfl
  refine i_nil ?_
  refine r_ret ?_
  apply q_ret1
  · exact tS rfl
  refine ⟨by ((refine Stays.put ?_ (by (first | exact Or.inl (List.mem_cons_self ..) | exact Or.inl (List.mem_cons_of_mem _ (List.mem_cons_self ..)) | exact Or.inr (by simp only [Ob.len_push, Ob.len_put, appS_objs, objs_fresh, objs_kill]; omega) | exact Or.inr (by omega))); refine Stays.put ?_ (by (first | exact Or.inl (List.mem_cons_self ..) | exact Or.inl (List.mem_cons_of_mem _ (List.mem_cons_self ..)) | exact Or.inr (by simp only [Ob.len_push, Ob.len_put, appS_objs, objs_fresh, objs_kill]; omega) | exact Or.inr (by omega))); exact Stays.refl _ _)), ⟨0, Ob.eq (by ((apply Ob.put'; apply Ob.put'; assumption))) (by simp), App.len App.none (by simp)⟩, sb, rfl, App.put (App.put ha)⟩
end Go.Proofs.Ythpomdoaiibnfaa.Abs
