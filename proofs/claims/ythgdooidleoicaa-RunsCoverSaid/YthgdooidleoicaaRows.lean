/-
  No cell of these rows narrows 'for every input' (looked for: loops, veiled, ifaces, maps, wideKeys, modest, calm, conditions, laid).
  DERIVED. THE GIVEN ROWS OF THIS SEAT. 5 by the template 'for every input the law returns true; each argument reads behind the call as it read before'; 0 by the template 'total and deterministic' (their statements: YthgdooidleoicaaTotals.lean).
  GIVEN WITH THE SEED: the statements are not yours to turn. If you find one false, say at which input.
  Laid BY PROGRAM, IN A SANDBOX (cutbox-rows.mjs): the forced cells as the released guide's own fill.sh prints them over the translation 8e33bf282cb174d2… (all of the seat's roots in one cut). By AI agents, Wed Nov 11 2026. No macro, syntax, notation, axiom, sorry.
-/
import Derived.Test.YthgdooidleoicaaChecked
import GoSem.Claim
import GoSem.ClaimJoined
import GoSem.ClaimMapViews
import Derived.JoinedTies
import Derived.KernelRfl
namespace Go.Proofs.Ythgdooidleoicaa
/- THE CELL 'sum', in the pinned program and in every row, IS THE sha256 OF THE DUMP (.gsa) THAT YthgdooidleoicaaProg.lean LOADS. Nothing in Lean hashes anything: it is a label: what it is worth is what the hold of that sum in a sandbox is worth. -/
noncomputable def Try.pinned : Pinned := { name := "ythgdooidleoicaa", sum := "8e33bf282cb174d2dc7eefe7e17b01eb531f425cfb5dc6f1e17bfdf0cc2dbcae", checked := Try.checked }
namespace Rows
def none {H : Type} : Left H := { results := [], args := [] }

/-- 'salvorlaw3.RunsRuns': WHATEVER THE INPUT: true; the input reads as it did. -/
def runsRunsSpec : ChangeSpec := { name := "runsRuns", fn := fun _ => fun
  | [] => { results := [.lit (.bool true)], args := [] }
  | _ => none }
def runsRunsRow : OpenClaim := { program := "ythgdooidleoicaa", sum := "8e33bf282cb174d2dc7eefe7e17b01eb531f425cfb5dc6f1e17bfdf0cc2dbcae", func := "salvor/salvorlaw3.RunsRuns", spec := "runsRuns", apart := false }
def RunsRunsSaid : Prop := runsRunsRow.holds Try.pinned (OpenSpec.ofChange runsRunsSpec)

/-- ITS FALSE NEIGHBOUR: 'it returns false'. Refute it at one input. -/
def runsRunsWrong : ChangeSpec := { name := "runsRuns", fn := fun _ => fun
  | [] => { results := [.lit (.bool false)], args := [] }
  | _ => none }
def RunsRunsWrongFalsely : Prop := runsRunsRow.holds Try.pinned (OpenSpec.ofChange runsRunsWrong)

/-- 'salvorlaw3.RunsTell': WHATEVER THE INPUT: true; the input reads as it did. -/
def runsTellSpec : ChangeSpec := { name := "runsTell", fn := fun _ => fun
  | [d1, d2] => { results := [.lit (.bool true)], args := [d1, d2] }
  | _ => none }
def runsTellRow : OpenClaim := { program := "ythgdooidleoicaa", sum := "8e33bf282cb174d2dc7eefe7e17b01eb531f425cfb5dc6f1e17bfdf0cc2dbcae", func := "salvor/salvorlaw3.RunsTell", spec := "runsTell", apart := false }
def RunsTellSaid : Prop := runsTellRow.holds Try.pinned (OpenSpec.ofChange runsTellSpec)

/-- ITS FALSE NEIGHBOUR: 'it returns false'. Refute it at one input. -/
def runsTellWrong : ChangeSpec := { name := "runsTell", fn := fun _ => fun
  | [d1, d2] => { results := [.lit (.bool false)], args := [d1, d2] }
  | _ => none }
def RunsTellWrongFalsely : Prop := runsTellRow.holds Try.pinned (OpenSpec.ofChange runsTellWrong)

/-- 'salvorlaw3.RunsZero': WHATEVER THE INPUT: true; the input reads as it did. -/
def runsZeroSpec : ChangeSpec := { name := "runsZero", fn := fun _ => fun
  | [d] => { results := [.lit (.bool true)], args := [d] }
  | _ => none }
def runsZeroRow : OpenClaim := { program := "ythgdooidleoicaa", sum := "8e33bf282cb174d2dc7eefe7e17b01eb531f425cfb5dc6f1e17bfdf0cc2dbcae", func := "salvor/salvorlaw3.RunsZero", spec := "runsZero", apart := false }
def RunsZeroSaid : Prop := runsZeroRow.holds Try.pinned (OpenSpec.ofChange runsZeroSpec)

/-- ITS FALSE NEIGHBOUR: 'it returns false'. Refute it at one input. -/
def runsZeroWrong : ChangeSpec := { name := "runsZero", fn := fun _ => fun
  | [d] => { results := [.lit (.bool false)], args := [d] }
  | _ => none }
def RunsZeroWrongFalsely : Prop := runsZeroRow.holds Try.pinned (OpenSpec.ofChange runsZeroWrong)

/-- 'salvorlaw3.RunsCover': WHATEVER THE INPUT: true; the input reads as it did. -/
def runsCoverSpec : ChangeSpec := { name := "runsCover", fn := fun _ => fun
  | [d1, d2] => { results := [.lit (.bool true)], args := [d1, d2] }
  | _ => none }
def runsCoverRow : OpenClaim := { program := "ythgdooidleoicaa", sum := "8e33bf282cb174d2dc7eefe7e17b01eb531f425cfb5dc6f1e17bfdf0cc2dbcae", func := "salvor/salvorlaw3.RunsCover", spec := "runsCover", apart := false }
def RunsCoverSaid : Prop := runsCoverRow.holds Try.pinned (OpenSpec.ofChange runsCoverSpec)

/-- ITS FALSE NEIGHBOUR: 'it returns false'. Refute it at one input. -/
def runsCoverWrong : ChangeSpec := { name := "runsCover", fn := fun _ => fun
  | [d1, d2] => { results := [.lit (.bool false)], args := [d1, d2] }
  | _ => none }
def RunsCoverWrongFalsely : Prop := runsCoverRow.holds Try.pinned (OpenSpec.ofChange runsCoverWrong)

/-- 'salvorlaw3.RunsJoin': WHATEVER THE INPUT: true; the input reads as it did. -/
def runsJoinSpec : ChangeSpec := { name := "runsJoin", fn := fun _ => fun
  | [d1, d2] => { results := [.lit (.bool true)], args := [d1, d2] }
  | _ => none }
def runsJoinRow : OpenClaim := { program := "ythgdooidleoicaa", sum := "8e33bf282cb174d2dc7eefe7e17b01eb531f425cfb5dc6f1e17bfdf0cc2dbcae", func := "salvor/salvorlaw3.RunsJoin", spec := "runsJoin", apart := false }
def RunsJoinSaid : Prop := runsJoinRow.holds Try.pinned (OpenSpec.ofChange runsJoinSpec)

/-- ITS FALSE NEIGHBOUR: 'it returns false'. Refute it at one input. -/
def runsJoinWrong : ChangeSpec := { name := "runsJoin", fn := fun _ => fun
  | [d1, d2] => { results := [.lit (.bool false)], args := [d1, d2] }
  | _ => none }
def RunsJoinWrongFalsely : Prop := runsJoinRow.holds Try.pinned (OpenSpec.ofChange runsJoinWrong)

/- THE SECOND FORM. 'bulk': how many values and letters a reading holds, each counted each time it is reached (what is shared counts as often as it is met; a slice's spare places count too). A statement '..UptoSaid' is the law's where the arguments, and the package variables that the reading takes, are together of bulk at most 1048576: NARROWER than '..Said'. Prove '..Said' where nothing that the law and all that it calls make is longer than what came in: it says more and counts as full. Else prove '..UptoSaid'. A law counts once. -/
mutual
def uptoBulk {H : Type} : DataW H → Nat
  | .lit (.string bytes) => bytes.length + 1
  | .lit _ => 1
  | .nil => 1
  | .ptr d => uptoBulk d + 1
  | .slice elems spare => uptoBulkAll elems + uptoBulkAll spare + 1
  | .agg parts => uptoBulkAll parts + 1
  | .iface _ d => uptoBulk d + 1
  | .map entries => uptoBulkEntries entries + 1
  | .held _ => 1
def uptoBulkAll {H : Type} : List (DataW H) → Nat
  | [] => 0
  | d :: r => uptoBulk d + uptoBulkAll r
def uptoBulkEntries {H : Type} : List (Lit × DataW H) → Nat
  | [] => 0
  | x :: r => uptoBulkEntry x + uptoBulkEntries r
def uptoBulkEntry {H : Type} : Lit × DataW H → Nat
  | (.string bytes, d) => bytes.length + uptoBulk d + 1
  | (_, d) => uptoBulk d + 1
 end
def uptoSmall : (H : Type) → List (DataW H) → Bool := fun _ ds => decide (uptoBulkAll ds ≤ 1048576)
def OpenSpec.upto (s : _root_.Go.ChangeSpec) : _root_.Go.OpenSpec := { _root_.Go.OpenSpec.ofChange s with cond := some uptoSmall }

/-- 'salvorlaw3.RunsRuns', WHERE WHAT IT READS IS OF BULK AT MOST 1048576: true; the input reads as it did. -/
def runsRunsUptoRow : OpenClaim := { program := "ythgdooidleoicaa", sum := "8e33bf282cb174d2dc7eefe7e17b01eb531f425cfb5dc6f1e17bfdf0cc2dbcae", func := "salvor/salvorlaw3.RunsRuns", spec := "runsRuns", apart := false, narrowed := true }
def RunsRunsUptoSaid : Prop := runsRunsUptoRow.holds Try.pinned (OpenSpec.upto runsRunsSpec)

/-- 'salvorlaw3.RunsTell', WHERE WHAT IT READS IS OF BULK AT MOST 1048576: true; the input reads as it did. -/
def runsTellUptoRow : OpenClaim := { program := "ythgdooidleoicaa", sum := "8e33bf282cb174d2dc7eefe7e17b01eb531f425cfb5dc6f1e17bfdf0cc2dbcae", func := "salvor/salvorlaw3.RunsTell", spec := "runsTell", apart := false, narrowed := true }
def RunsTellUptoSaid : Prop := runsTellUptoRow.holds Try.pinned (OpenSpec.upto runsTellSpec)

/-- 'salvorlaw3.RunsZero', WHERE WHAT IT READS IS OF BULK AT MOST 1048576: true; the input reads as it did. -/
def runsZeroUptoRow : OpenClaim := { program := "ythgdooidleoicaa", sum := "8e33bf282cb174d2dc7eefe7e17b01eb531f425cfb5dc6f1e17bfdf0cc2dbcae", func := "salvor/salvorlaw3.RunsZero", spec := "runsZero", apart := false, narrowed := true }
def RunsZeroUptoSaid : Prop := runsZeroUptoRow.holds Try.pinned (OpenSpec.upto runsZeroSpec)

/-- 'salvorlaw3.RunsCover', WHERE WHAT IT READS IS OF BULK AT MOST 1048576: true; the input reads as it did. -/
def runsCoverUptoRow : OpenClaim := { program := "ythgdooidleoicaa", sum := "8e33bf282cb174d2dc7eefe7e17b01eb531f425cfb5dc6f1e17bfdf0cc2dbcae", func := "salvor/salvorlaw3.RunsCover", spec := "runsCover", apart := false, narrowed := true }
def RunsCoverUptoSaid : Prop := runsCoverUptoRow.holds Try.pinned (OpenSpec.upto runsCoverSpec)

/-- 'salvorlaw3.RunsJoin', WHERE WHAT IT READS IS OF BULK AT MOST 1048576: true; the input reads as it did. -/
def runsJoinUptoRow : OpenClaim := { program := "ythgdooidleoicaa", sum := "8e33bf282cb174d2dc7eefe7e17b01eb531f425cfb5dc6f1e17bfdf0cc2dbcae", func := "salvor/salvorlaw3.RunsJoin", spec := "runsJoin", apart := false, narrowed := true }
def RunsJoinUptoSaid : Prop := runsJoinUptoRow.holds Try.pinned (OpenSpec.upto runsJoinSpec)

end Rows
end Go.Proofs.Ythgdooidleoicaa
