/- The law TabOnce: that it answers true. -/
import Derived.Test.YtffckkiboeiljaaTab1
import Derived.Test.YtffckkiboeiljaaTabK5
namespace Go.Proofs.Ytffckkiboeiljaa.Abs
open Go Go.Proofs
set_option linter.unusedVariables false
set_option linter.unusedSimpArgs false
attribute [local irreducible] wpI wpR ropK chk ASt.push ASt.put ASt.fresh ASt.kill appS

/-- No two bytes become one: a table back is there. -/
def backB (t : List UInt8) : Bool := (List.range 256).all fun i => Nat.beq (t.findIdx (fun x => x == t.getD i 0)) i
theorem backB_inj {t : List UInt8} (h : backB t = true) {i j : Nat} (hi : i < 256) (hj : j < 256) (e : t.getD i 0 = t.getD j 0) : i = j := by
  have h1 := Nat.eq_of_beq_eq_true (List.all_eq_true.1 h i (List.mem_range.2 hi))
  have h2 := Nat.eq_of_beq_eq_true (List.all_eq_true.1 h j (List.mem_range.2 hj))
  rw [e] at h1
  rw [← h1, h2]
theorem once {t : List UInt8} (ht : t.length = 256) (h : backB t = true) (a b : UInt8) (hne : ¬ a = b) (ha : a.toNat < t.length) (hb : b.toNat < t.length) : ¬ (t[a.toNat].toNat : Int) = t[b.toNat].toNat := by
  intro e
  have e2 : t[a.toNat].toNat = t[b.toNat].toNat := by omega
  have e3 : t[a.toNat] = t[b.toNat] := UInt8.toNat.inj e2
  have := backB_inj h a.toNat_lt b.toNat_lt (by simp [List.getD, ha, hb, e3])
  exact hne (UInt8.toNat.inj this)
theorem ebcdic_back : backB ebcdicL = true := by kernel_rfl
theorem ibm_back : backB ibmL = true := by kernel_rfl
theorem ascii_back : backB asciiL = true := by kernel_rfl
theorem ebcdic_len2 : ebcdicL.length = 256 := by kernel_rfl
theorem ibm_len2 : ibmL.length = 256 := by kernel_rfl
theorem ascii_len2 : asciiL.length = 256 := by kernel_rfl

theorem tabOnce (a b : UInt8) (S : ASt) : ACalls Try.prog 8 [u8 a, u8 b] S fun v S' => v = .bool true := by
  refine en_8 (by exact Nat.le_of_ble_eq_true rfl) ?_
  unfold rc_8
  dsimp only
  have hz0 : (List.replicate 256 (AV.int .u8 0)).length = 256 := List.length_replicate
  generalize hz : List.replicate 256 (AV.int .u8 0) = z0 at hz0 ⊢
  have ha := a.toNat_lt
  have hb := b.toNat_lt
  have he := ebcdic_len2
  have hi := ibm_len2
  have hs := ascii_len2
  have le : (u8s ebcdicL).length = 256 := by rw [List.length_map]; exact he
  have li : (u8s ibmL).length = 256 := by rw [List.length_map]; exact hi
  have ls : (u8s asciiL).length = 256 := by rw [List.length_map]; exact hs
  have be := ebcdic_back
  have bi := ibm_back
  have bs := ascii_back
  refine r_reg ?_
  apply i_mov
  · exact tB rfl
  refine i_nil ?_
  refine r_reg ?_
  refine i_call (tEbcdic _) rfl ?_
  rintro v S1 ⟨rfl, rfl⟩
  skip
  refine i_call (tIbm _) rfl ?_
  rintro v S1 ⟨rfl, rfl⟩
  skip
  refine i_call (tAscii _) rfl ?_
  rintro v S1 ⟨rfl, rfl⟩
  generalize ebcdicL = e at he le be ⊢
  generalize ibmL = i at hi li bi ⊢
  generalize asciiL = s at hs ls bs ⊢
  by_cases hab : a = b
  · subst hab
    refine i_alloc ?_
    refine i_alloc ?_
    refine i_alloc ?_
    apply i_stN
    · exact rfl
    · exact rfl
    · (apply Ob.push; apply Ob.push; exact Ob.new)
    · with_reducible assumption
    · with_reducible assumption
    · exact rfl
    apply i_stN
    · exact rfl
    · exact rfl
    · ((apply Ob.putNe' (by (try simp only [Ob.len_push, Ob.len_put, appS_objs, objs_fresh, objs_kill]); omega)); apply Ob.push; exact Ob.new)
    · with_reducible assumption
    · with_reducible assumption
    · exact rfl
    apply i_stN
    · exact rfl
    · exact rfl
    · ((apply Ob.putNe' (by (try simp only [Ob.len_push, Ob.len_put, appS_objs, objs_fresh, objs_kill]); omega)); (apply Ob.putNe' (by (try simp only [Ob.len_push, Ob.len_put, appS_objs, objs_fresh, objs_kill]); omega)); exact Ob.new)
    · with_reducible assumption
    · with_reducible assumption
    · exact rfl
    refine i_nil ?_
    refine r_reg ?_
    apply i_mov
    · exact tI rfl
    apply i_idxA
    · exact rfl
    · exact rfl
    · exact rfl
    · exact rfl
    · omega
    apply i_load
    · exact rfl
    · ((apply Ob.putNe' (by (try simp only [Ob.len_push, Ob.len_put, appS_objs, objs_fresh, objs_kill]); omega)); (apply Ob.putNe' (by (try simp only [Ob.len_push, Ob.len_put, appS_objs, objs_fresh, objs_kill]); omega)); apply Ob.put'; apply Ob.push; apply Ob.push; exact Ob.new)
    · exact map_get (by omega)
    apply i_mov
    · exact tI rfl
    apply i_idxA
    · exact rfl
    · exact rfl
    · exact rfl
    · exact rfl
    · omega
    apply i_load
    · exact rfl
    · ((apply Ob.putNe' (by (try simp only [Ob.len_push, Ob.len_put, appS_objs, objs_fresh, objs_kill]); omega)); (apply Ob.putNe' (by (try simp only [Ob.len_push, Ob.len_put, appS_objs, objs_fresh, objs_kill]); omega)); apply Ob.put'; apply Ob.push; apply Ob.push; exact Ob.new)
    · exact map_get (by omega)
    apply i_eqT
    · exact rfl
    · exact rfl
    · omega
    apply i_mov
    · exact tI rfl
    apply i_mov
    · exact tI rfl
    apply i_eqT
    · exact rfl
    · exact rfl
    · omega
    apply i_eqbT
    · exact rfl
    · exact rfl
    · exact rfl
    apply i_mov
    · exact tB rfl
    apply i_gT
    · exact rfl
    apply i_mov
    · exact tI rfl
    apply i_gT
    · exact rfl
    apply i_idxA
    · exact rfl
    · exact rfl
    · exact rfl
    · exact rfl
    · omega
    apply i_gT
    · exact rfl
    apply i_load
    · exact rfl
    · ((apply Ob.putNe' (by (try simp only [Ob.len_push, Ob.len_put, appS_objs, objs_fresh, objs_kill]); omega)); apply Ob.put'; (apply Ob.putNe' (by (try simp only [Ob.len_push, Ob.len_put, appS_objs, objs_fresh, objs_kill]); omega)); apply Ob.push; exact Ob.new)
    · exact map_get (by omega)
    apply i_gT
    · exact rfl
    apply i_mov
    · exact tI rfl
    apply i_gT
    · exact rfl
    apply i_idxA
    · exact rfl
    · exact rfl
    · exact rfl
    · exact rfl
    · omega
    apply i_gT
    · exact rfl
    apply i_load
    · exact rfl
    · ((apply Ob.putNe' (by (try simp only [Ob.len_push, Ob.len_put, appS_objs, objs_fresh, objs_kill]); omega)); apply Ob.put'; (apply Ob.putNe' (by (try simp only [Ob.len_push, Ob.len_put, appS_objs, objs_fresh, objs_kill]); omega)); apply Ob.push; exact Ob.new)
    · exact map_get (by omega)
    apply i_gT
    · exact rfl
    apply i_eqT
    · exact rfl
    · exact rfl
    · omega
    apply i_gT
    · exact rfl
    apply i_mov
    · exact tI rfl
    apply i_gT
    · exact rfl
    apply i_mov
    · exact tI rfl
    apply i_gT
    · exact rfl
    apply i_eqT
    · exact rfl
    · exact rfl
    · omega
    apply i_gT
    · exact rfl
    apply i_eqbT
    · exact rfl
    · exact rfl
    · exact rfl
    apply i_pickT
    · exact rfl
    · exact tB rfl
    apply i_mov
    · exact tB rfl
    apply i_gT
    · exact rfl
    apply i_mov
    · exact tI rfl
    apply i_gT
    · exact rfl
    apply i_idxA
    · exact rfl
    · exact rfl
    · exact rfl
    · exact rfl
    · omega
    apply i_gT
    · exact rfl
    apply i_load
    · exact rfl
    · (apply Ob.put'; (apply Ob.putNe' (by (try simp only [Ob.len_push, Ob.len_put, appS_objs, objs_fresh, objs_kill]); omega)); (apply Ob.putNe' (by (try simp only [Ob.len_push, Ob.len_put, appS_objs, objs_fresh, objs_kill]); omega)); exact Ob.new)
    · exact map_get (by omega)
    apply i_gT
    · exact rfl
    apply i_mov
    · exact tI rfl
    apply i_gT
    · exact rfl
    apply i_idxA
    · exact rfl
    · exact rfl
    · exact rfl
    · exact rfl
    · omega
    apply i_gT
    · exact rfl
    apply i_load
    · exact rfl
    · (apply Ob.put'; (apply Ob.putNe' (by (try simp only [Ob.len_push, Ob.len_put, appS_objs, objs_fresh, objs_kill]); omega)); (apply Ob.putNe' (by (try simp only [Ob.len_push, Ob.len_put, appS_objs, objs_fresh, objs_kill]); omega)); exact Ob.new)
    · exact map_get (by omega)
    apply i_gT
    · exact rfl
    apply i_eqT
    · exact rfl
    · exact rfl
    · omega
    apply i_gT
    · exact rfl
    apply i_mov
    · exact tI rfl
    apply i_gT
    · exact rfl
    apply i_mov
    · exact tI rfl
    apply i_gT
    · exact rfl
    apply i_eqT
    · exact rfl
    · exact rfl
    · omega
    apply i_gT
    · exact rfl
    apply i_eqbT
    · exact rfl
    · exact rfl
    · exact rfl
    apply i_pickT
    · exact rfl
    · exact tB rfl
    apply i_mov
    · exact tB rfl
    apply i_gT
    · exact rfl
    refine i_call (tabRuns _) rfl ?_
    rintro v S5 ⟨rfl, rfl⟩
    apply i_pickT
    · exact rfl
    · exact tB rfl
    apply i_mov
    · exact tB rfl
    refine i_nil ?_
    refine r_ret ?_
    apply q_ret1
    · exact tB rfl
    rfl
  · have hab2 : ¬ (a.toNat : Int) = b.toNat := fun h => hab (UInt8.toNat.inj (by omega))
    have o1 := once he be a b hab (by omega) (by omega)
    have o2 := once hi bi a b hab (by omega) (by omega)
    have o3 := once hs bs a b hab (by omega) (by omega)
    refine i_alloc ?_
    refine i_alloc ?_
    refine i_alloc ?_
    apply i_stN
    · exact rfl
    · exact rfl
    · (apply Ob.push; apply Ob.push; exact Ob.new)
    · with_reducible assumption
    · with_reducible assumption
    · exact rfl
    apply i_stN
    · exact rfl
    · exact rfl
    · ((apply Ob.putNe' (by (try simp only [Ob.len_push, Ob.len_put, appS_objs, objs_fresh, objs_kill]); omega)); apply Ob.push; exact Ob.new)
    · with_reducible assumption
    · with_reducible assumption
    · exact rfl
    apply i_stN
    · exact rfl
    · exact rfl
    · ((apply Ob.putNe' (by (try simp only [Ob.len_push, Ob.len_put, appS_objs, objs_fresh, objs_kill]); omega)); (apply Ob.putNe' (by (try simp only [Ob.len_push, Ob.len_put, appS_objs, objs_fresh, objs_kill]); omega)); exact Ob.new)
    · with_reducible assumption
    · with_reducible assumption
    · exact rfl
    refine i_nil ?_
    refine r_reg ?_
    apply i_mov
    · exact tI rfl
    apply i_idxA
    · exact rfl
    · exact rfl
    · exact rfl
    · exact rfl
    · omega
    apply i_load
    · exact rfl
    · ((apply Ob.putNe' (by (try simp only [Ob.len_push, Ob.len_put, appS_objs, objs_fresh, objs_kill]); omega)); (apply Ob.putNe' (by (try simp only [Ob.len_push, Ob.len_put, appS_objs, objs_fresh, objs_kill]); omega)); apply Ob.put'; apply Ob.push; apply Ob.push; exact Ob.new)
    · exact map_get (by omega)
    apply i_mov
    · exact tI rfl
    apply i_idxA
    · exact rfl
    · exact rfl
    · exact rfl
    · exact rfl
    · omega
    apply i_load
    · exact rfl
    · ((apply Ob.putNe' (by (try simp only [Ob.len_push, Ob.len_put, appS_objs, objs_fresh, objs_kill]); omega)); (apply Ob.putNe' (by (try simp only [Ob.len_push, Ob.len_put, appS_objs, objs_fresh, objs_kill]); omega)); apply Ob.put'; apply Ob.push; apply Ob.push; exact Ob.new)
    · exact map_get (by omega)
    apply i_eqF
    · exact rfl
    · exact rfl
    · omega
    apply i_mov
    · exact tI rfl
    apply i_mov
    · exact tI rfl
    apply i_eqF
    · exact rfl
    · exact rfl
    · omega
    apply i_eqbT
    · exact rfl
    · exact rfl
    · exact rfl
    apply i_mov
    · exact tB rfl
    apply i_gT
    · exact rfl
    apply i_mov
    · exact tI rfl
    apply i_gT
    · exact rfl
    apply i_idxA
    · exact rfl
    · exact rfl
    · exact rfl
    · exact rfl
    · omega
    apply i_gT
    · exact rfl
    apply i_load
    · exact rfl
    · ((apply Ob.putNe' (by (try simp only [Ob.len_push, Ob.len_put, appS_objs, objs_fresh, objs_kill]); omega)); apply Ob.put'; (apply Ob.putNe' (by (try simp only [Ob.len_push, Ob.len_put, appS_objs, objs_fresh, objs_kill]); omega)); apply Ob.push; exact Ob.new)
    · exact map_get (by omega)
    apply i_gT
    · exact rfl
    apply i_mov
    · exact tI rfl
    apply i_gT
    · exact rfl
    apply i_idxA
    · exact rfl
    · exact rfl
    · exact rfl
    · exact rfl
    · omega
    apply i_gT
    · exact rfl
    apply i_load
    · exact rfl
    · ((apply Ob.putNe' (by (try simp only [Ob.len_push, Ob.len_put, appS_objs, objs_fresh, objs_kill]); omega)); apply Ob.put'; (apply Ob.putNe' (by (try simp only [Ob.len_push, Ob.len_put, appS_objs, objs_fresh, objs_kill]); omega)); apply Ob.push; exact Ob.new)
    · exact map_get (by omega)
    apply i_gT
    · exact rfl
    apply i_eqF
    · exact rfl
    · exact rfl
    · omega
    apply i_gT
    · exact rfl
    apply i_mov
    · exact tI rfl
    apply i_gT
    · exact rfl
    apply i_mov
    · exact tI rfl
    apply i_gT
    · exact rfl
    apply i_eqF
    · exact rfl
    · exact rfl
    · omega
    apply i_gT
    · exact rfl
    apply i_eqbT
    · exact rfl
    · exact rfl
    · exact rfl
    apply i_pickT
    · exact rfl
    · exact tB rfl
    apply i_mov
    · exact tB rfl
    apply i_gT
    · exact rfl
    apply i_mov
    · exact tI rfl
    apply i_gT
    · exact rfl
    apply i_idxA
    · exact rfl
    · exact rfl
    · exact rfl
    · exact rfl
    · omega
    apply i_gT
    · exact rfl
    apply i_load
    · exact rfl
    · (apply Ob.put'; (apply Ob.putNe' (by (try simp only [Ob.len_push, Ob.len_put, appS_objs, objs_fresh, objs_kill]); omega)); (apply Ob.putNe' (by (try simp only [Ob.len_push, Ob.len_put, appS_objs, objs_fresh, objs_kill]); omega)); exact Ob.new)
    · exact map_get (by omega)
    apply i_gT
    · exact rfl
    apply i_mov
    · exact tI rfl
    apply i_gT
    · exact rfl
    apply i_idxA
    · exact rfl
    · exact rfl
    · exact rfl
    · exact rfl
    · omega
    apply i_gT
    · exact rfl
    apply i_load
    · exact rfl
    · (apply Ob.put'; (apply Ob.putNe' (by (try simp only [Ob.len_push, Ob.len_put, appS_objs, objs_fresh, objs_kill]); omega)); (apply Ob.putNe' (by (try simp only [Ob.len_push, Ob.len_put, appS_objs, objs_fresh, objs_kill]); omega)); exact Ob.new)
    · exact map_get (by omega)
    apply i_gT
    · exact rfl
    apply i_eqF
    · exact rfl
    · exact rfl
    · omega
    apply i_gT
    · exact rfl
    apply i_mov
    · exact tI rfl
    apply i_gT
    · exact rfl
    apply i_mov
    · exact tI rfl
    apply i_gT
    · exact rfl
    apply i_eqF
    · exact rfl
    · exact rfl
    · omega
    apply i_gT
    · exact rfl
    apply i_eqbT
    · exact rfl
    · exact rfl
    · exact rfl
    apply i_pickT
    · exact rfl
    · exact tB rfl
    apply i_mov
    · exact tB rfl
    apply i_gT
    · exact rfl
    refine i_call (tabRuns _) rfl ?_
    rintro v S5 ⟨rfl, rfl⟩
    apply i_pickT
    · exact rfl
    · exact tB rfl
    apply i_mov
    · exact tB rfl
    refine i_nil ?_
    refine r_ret ?_
    apply q_ret1
    · exact tB rfl
    rfl
end Go.Proofs.Ytffckkiboeiljaa.Abs
