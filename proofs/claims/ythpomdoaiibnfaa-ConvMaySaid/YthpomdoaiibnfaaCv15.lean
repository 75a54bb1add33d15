/- The law ConvMay: that it answers true. -/
import Derived.Test.YthpomdoaiibnfaaCv13
import Derived.Test.YthpomdoaiibnfaaCv8
namespace Go.Proofs.Ythpomdoaiibnfaa.Abs
open Go Go.Proofs
set_option linter.unusedVariables false
set_option linter.unusedSimpArgs false
attribute [local irreducible] wpI wpR ropK chk ASt.push ASt.put ASt.fresh ASt.kill appS

theorem convMay (c : CV) (S : ASt) : ACalls Try.prog 4 [.agg c.cells] S fun v S' => v = .bool true := by
  refine en_4 (by exact Nat.le_of_ble_eq_true rfl) ?_
  unfold rc_4
  refine r_reg ?_
  apply i_boxA
  · exact rfl
  apply i_mov
  · exact tB rfl
  refine i_nil ?_
  refine r_reg ?_
  apply i_loadN
  · exact rfl
  · exact Ob.new
  · exact rfl
  apply i_loadN
  · exact rfl
  · exact Ob.new
  · exact rfl
  have hoc : (S.push c.cells).objs[S.objs.length]? = some c.cells := Ob.new
  generalize S.objs.length = oc at hoc ⊢
  generalize S.push c.cells = S1 at hoc ⊢
  refine i_call (cMay c _) rfl ?_
  rintro v S2 ⟨rfl, hst2⟩
  apply c_re
  · (apply c_loadNO; (· exact rfl); (· ((apply Ob.stays0'; (· assumption)); assumption)); (· first | assumption | exact rfl); (· exact rfl); (· exact Nat.le_of_ble_eq_true rfl); (· exact rfl))
  refine i_call (rMay c _) rfl ?_
  rintro v S3 ⟨rfl, hst3⟩
  apply i_eqbT
  · exact rfl
  · exact rfl
  · exact rfl
  apply i_mov
  · exact tB rfl
  apply i_gT
  · exact rfl
  apply i_loadN
  · exact rfl
  · ((apply Ob.stays0'; (· assumption)); (apply Ob.stays0'; (· assumption)); assumption)
  · exact rfl
  apply i_gT
  · exact rfl
  apply i_loadN
  · exact rfl
  · ((apply Ob.stays0'; (· assumption)); (apply Ob.stays0'; (· assumption)); assumption)
  · exact rfl
  apply i_gT
  · exact rfl
  refine i_call (cPad c _) rfl ?_
  rintro v S4 ⟨rfl, hst4⟩
  generalize hz : (if (c.blocks || c.unblocks) = true then (32 : Int) else 0) = z
  apply i_gT
  · exact rfl
  apply c_re
  · (apply c_loadNO; (· exact rfl); (· ((apply Ob.stays0'; (· assumption)); (apply Ob.stays0'; (· assumption)); (apply Ob.stays0'; (· assumption)); assumption)); (· first | assumption | exact rfl); (· exact rfl); (· exact Nat.le_of_ble_eq_true rfl); (· exact rfl))
  apply i_gT
  · exact rfl
  refine i_call (rPad c _) rfl ?_
  rw [hz]
  rintro v S5 ⟨rfl, hst5⟩
  apply i_gT
  · exact rfl
  apply i_eqT
  · exact rfl
  · exact rfl
  · omega
  apply i_pickT
  · exact rfl
  · exact tB rfl
  apply i_mov
  · exact tB rfl
  apply i_gT
  · exact rfl
  refine i_call (convRuns _) rfl ?_
  rintro v S6 ⟨rfl, hst6⟩
  apply i_pickT
  · exact rfl
  · exact tB rfl
  apply i_mov
  · exact tB rfl
  refine i_nil ?_
  refine r_ret ?_
  apply q_ret1
  · exact tB rfl
  rfl
end Go.Proofs.Ythpomdoaiibnfaa.Abs
