/- Functions of the library, and package swab, and the document's: contracts. -/
import Derived.Test.YthpomdoaiibnfaaLibC
namespace Go.Proofs.Ythpomdoaiibnfaa.Abs
open Go Go.Proofs
set_option linter.unusedVariables false
set_option linter.unusedSimpArgs false
attribute [local irreducible] wpI wpR ropK chk ASt.push ASt.put ASt.fresh ASt.kill appS

theorem clone (o : Own) (sz : Nat) (bs : List UInt8) (S : ASt) (hs : sz = 1 ∨ bs = []) (hn : o = .nil → bs = []) (hr : Rd S o) (hb : bs.length ≤ 100000000) :
    ACalls Try.prog 55 [.sl o sz (u8s bs)] S fun v S' => Stays S S' [] ∧ BA S S' v bs := by
  refine en_55 (by exact Nat.le_of_ble_eq_true rfl) ?_
  unfold rc_55
  refine r_reg ?_
  apply i_mov
  · exact tS0 rfl
  refine i_nil ?_
  refine r_reg ?_
  apply i_mov
  · exact tS rfl
  refine i_eqn rfl (fun h => by rw [hn h]; rfl) (by (refine Rd.rd ?_; assumption)) (fun he => ?_) ?_
  · have hbe : bs = [] := by simpa using he
    subst hbe
    refine i_nil ?_
    apply r_condT
    · exact rfl
    refine r_reg ?_
    apply i_mov
    · exact tS0 rfl
    refine i_nil ?_
    refine r_ret ?_
    refine q_kr ?_
    apply q_ret1
    · exact tS0 rfl
    exact ⟨Stays.refl _ _, .nil, 0, rfl, App.none, by intro t h; cases h⟩
  · refine i_nil ?_
    apply r_condF
    · exact rfl
    refine r_nop ?_
    refine r_reg ?_
    refine i_mk0BO ?_
    apply i_mov
    · exact tS rfl
    apply i_appX
    · exact rfl
    · exact rfl
    · exact App.some (by exact Rd.new)
    · assumption
    · (refine Rd.rd ?_; (refine Rd.fresh ?_; assumption))
    · (simp only [List.length_map, List.length_append, List.length_cons, List.length_nil, List.length_take, List.length_drop, List.length_replicate]; omega)
    apply i_mov
    · exact tS rfl
    refine i_nil ?_
    refine r_ret ?_
    apply q_ret1
    · exact tS rfl
    refine ⟨by ((refine Stays.app ?_ (by (first | assumption | (intro t ht; cases ht; done) | (intro t ht; cases ht; ((try simp only [next_fresh, next_kill, next_push, next_put, appS_next]); omega)))); refine Stays.fresh ?_; exact Stays.refl _ _)), _, 1, rfl, App.new, ?_⟩
    (intro t ht; cases ht; first | done | ((try simp only [next_fresh, next_kill, next_push, next_put, appS_next]); omega))

/-! ### pairs turned about -/
def swapL : List UInt8 → List UInt8
  | a :: b :: r => b :: a :: swapL r
  | _ => []
def restL : List UInt8 → List UInt8
  | _ :: _ :: r => restL r
  | l => l
end Go.Proofs.Ythpomdoaiibnfaa.Abs
