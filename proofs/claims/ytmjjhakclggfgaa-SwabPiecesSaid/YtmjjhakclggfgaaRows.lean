/-
  No cell of these rows narrows 'for every input' (looked for: loops, veiled, ifaces, maps, wideKeys, modest, calm, conditions, laid).
  DERIVED. THE GIVEN ROWS OF THIS SEAT. 4 by the template 'for every input the law returns true; each argument reads behind the call as it read before'; 0 by the template 'total and deterministic' (their statements: YtmjjhakclggfgaaTotals.lean).
  GIVEN WITH THE SEED: the statements are not yours to turn. If you find one false, say at which input.
  Laid BY PROGRAM, IN A SANDBOX (cutbox-rows.mjs): the forced cells as the released guide's own fill.sh prints them over the translation 5b1d910816a5678c… (all of the seat's roots in one cut). By AI agents, Wed Nov 11 2026. No macro, syntax, notation, axiom, sorry.
-/
import Derived.Test.YtmjjhakclggfgaaChecked
import GoSem.Claim
import GoSem.ClaimJoined
import GoSem.ClaimMapViews
import Derived.JoinedTies
import Derived.KernelRfl
namespace Go.Proofs.Ytmjjhakclggfgaa
/- THE CELL 'sum', in the pinned program and in every row, IS THE sha256 OF THE DUMP (.gsa) THAT YtmjjhakclggfgaaProg.lean LOADS. Nothing in Lean hashes anything: it is a label: what it is worth is what the hold of that sum in a sandbox is worth. -/
noncomputable def Try.pinned : Pinned := { name := "ytmjjhakclggfgaa", sum := "5b1d910816a5678c1c59a0e3d687f960b8c34d82a9e1c9f4782d9ebddbd733f8", checked := Try.checked }
namespace Rows
def none {H : Type} : Left H := { results := [], args := [] }

/-- 'salvorlaw6.SwabRuns': WHATEVER THE INPUT: true; the input reads as it did. -/
def swabRunsSpec : ChangeSpec := { name := "swabRuns", fn := fun _ => fun
  | [] => { results := [.lit (.bool true)], args := [] }
  | _ => none }
def swabRunsRow : OpenClaim := { program := "ytmjjhakclggfgaa", sum := "5b1d910816a5678c1c59a0e3d687f960b8c34d82a9e1c9f4782d9ebddbd733f8", func := "salvor/salvorlaw6.SwabRuns", spec := "swabRuns", apart := false }
def SwabRunsSaid : Prop := swabRunsRow.holds Try.pinned (OpenSpec.ofChange swabRunsSpec)

/-- ITS FALSE NEIGHBOUR: 'it returns false'. Refute it at one input. -/
def swabRunsWrong : ChangeSpec := { name := "swabRuns", fn := fun _ => fun
  | [] => { results := [.lit (.bool false)], args := [] }
  | _ => none }
def SwabRunsWrongFalsely : Prop := swabRunsRow.holds Try.pinned (OpenSpec.ofChange swabRunsWrong)

/-- 'salvorlaw6.SwabPlays': WHATEVER THE INPUT: true; the input reads as it did. -/
def swabPlaysSpec : ChangeSpec := { name := "swabPlays", fn := fun _ => fun
  | [d1, d2, d3] => { results := [.lit (.bool true)], args := [d1, d2, d3] }
  | _ => none }
def swabPlaysRow : OpenClaim := { program := "ytmjjhakclggfgaa", sum := "5b1d910816a5678c1c59a0e3d687f960b8c34d82a9e1c9f4782d9ebddbd733f8", func := "salvor/salvorlaw6.SwabPlays", spec := "swabPlays", apart := false }
def SwabPlaysSaid : Prop := swabPlaysRow.holds Try.pinned (OpenSpec.ofChange swabPlaysSpec)

/-- ITS FALSE NEIGHBOUR: 'it returns false'. Refute it at one input. -/
def swabPlaysWrong : ChangeSpec := { name := "swabPlays", fn := fun _ => fun
  | [d1, d2, d3] => { results := [.lit (.bool false)], args := [d1, d2, d3] }
  | _ => none }
def SwabPlaysWrongFalsely : Prop := swabPlaysRow.holds Try.pinned (OpenSpec.ofChange swabPlaysWrong)

/-- 'salvorlaw6.SwabPieces': WHATEVER THE INPUT: true; the input reads as it did. -/
def swabPiecesSpec : ChangeSpec := { name := "swabPieces", fn := fun _ => fun
  | [d1, d2] => { results := [.lit (.bool true)], args := [d1, d2] }
  | _ => none }
def swabPiecesRow : OpenClaim := { program := "ytmjjhakclggfgaa", sum := "5b1d910816a5678c1c59a0e3d687f960b8c34d82a9e1c9f4782d9ebddbd733f8", func := "salvor/salvorlaw6.SwabPieces", spec := "swabPieces", apart := false }
def SwabPiecesSaid : Prop := swabPiecesRow.holds Try.pinned (OpenSpec.ofChange swabPiecesSpec)

/-- ITS FALSE NEIGHBOUR: 'it returns false'. Refute it at one input. -/
def swabPiecesWrong : ChangeSpec := { name := "swabPieces", fn := fun _ => fun
  | [d1, d2] => { results := [.lit (.bool false)], args := [d1, d2] }
  | _ => none }
def SwabPiecesWrongFalsely : Prop := swabPiecesRow.holds Try.pinned (OpenSpec.ofChange swabPiecesWrong)

/-- 'salvorlaw6.SwabTwice': WHATEVER THE INPUT: true; the input reads as it did. -/
def swabTwiceSpec : ChangeSpec := { name := "swabTwice", fn := fun _ => fun
  | [d] => { results := [.lit (.bool true)], args := [d] }
  | _ => none }
def swabTwiceRow : OpenClaim := { program := "ytmjjhakclggfgaa", sum := "5b1d910816a5678c1c59a0e3d687f960b8c34d82a9e1c9f4782d9ebddbd733f8", func := "salvor/salvorlaw6.SwabTwice", spec := "swabTwice", apart := false }
def SwabTwiceSaid : Prop := swabTwiceRow.holds Try.pinned (OpenSpec.ofChange swabTwiceSpec)

/-- ITS FALSE NEIGHBOUR: 'it returns false'. Refute it at one input. -/
def swabTwiceWrong : ChangeSpec := { name := "swabTwice", fn := fun _ => fun
  | [d] => { results := [.lit (.bool false)], args := [d] }
  | _ => none }
def SwabTwiceWrongFalsely : Prop := swabTwiceRow.holds Try.pinned (OpenSpec.ofChange swabTwiceWrong)

/- THE SECOND FORM. 'bulk': how many values and letters a reading holds, each counted each time it is reached (what is shared counts as often as it is met; a slice's spare places count too). A statement '..UptoSaid' is the law's where the arguments, and the package variables that the reading takes, are together of bulk at most 1048576: NARROWER than '..Said'. Prove '..Said' where nothing that the law and all that it calls make is longer than what came in: it says more and counts as full. Else prove '..UptoSaid'. A law counts once. -/
mutual
def uptoBulk {H : Type} : DataW H → Nat
  | .lit (.string bytes) => bytes.length + 1
  | .lit _ => 1
  | .nil => 1
  | .ptr d => uptoBulk d + 1
  | .slice elems spare => uptoBulkAll elems + uptoBulkAll spare + 1
  | .agg parts => uptoBulkAll parts + 1
  | .iface _ d => uptoBulk d + 1
  | .map entries => uptoBulkEntries entries + 1
  | .held _ => 1
def uptoBulkAll {H : Type} : List (DataW H) → Nat
  | [] => 0
  | d :: r => uptoBulk d + uptoBulkAll r
def uptoBulkEntries {H : Type} : List (Lit × DataW H) → Nat
  | [] => 0
  | x :: r => uptoBulkEntry x + uptoBulkEntries r
def uptoBulkEntry {H : Type} : Lit × DataW H → Nat
  | (.string bytes, d) => bytes.length + uptoBulk d + 1
  | (_, d) => uptoBulk d + 1
 end
def uptoSmall : (H : Type) → List (DataW H) → Bool := fun _ ds => decide (uptoBulkAll ds ≤ 1048576)
def OpenSpec.upto (s : _root_.Go.ChangeSpec) : _root_.Go.OpenSpec := { _root_.Go.OpenSpec.ofChange s with cond := some uptoSmall }

/-- 'salvorlaw6.SwabRuns', WHERE WHAT IT READS IS OF BULK AT MOST 1048576: true; the input reads as it did. -/
def swabRunsUptoRow : OpenClaim := { program := "ytmjjhakclggfgaa", sum := "5b1d910816a5678c1c59a0e3d687f960b8c34d82a9e1c9f4782d9ebddbd733f8", func := "salvor/salvorlaw6.SwabRuns", spec := "swabRuns", apart := false, narrowed := true }
def SwabRunsUptoSaid : Prop := swabRunsUptoRow.holds Try.pinned (OpenSpec.upto swabRunsSpec)

/-- 'salvorlaw6.SwabPlays', WHERE WHAT IT READS IS OF BULK AT MOST 1048576: true; the input reads as it did. -/
def swabPlaysUptoRow : OpenClaim := { program := "ytmjjhakclggfgaa", sum := "5b1d910816a5678c1c59a0e3d687f960b8c34d82a9e1c9f4782d9ebddbd733f8", func := "salvor/salvorlaw6.SwabPlays", spec := "swabPlays", apart := false, narrowed := true }
def SwabPlaysUptoSaid : Prop := swabPlaysUptoRow.holds Try.pinned (OpenSpec.upto swabPlaysSpec)

/-- 'salvorlaw6.SwabPieces', WHERE WHAT IT READS IS OF BULK AT MOST 1048576: true; the input reads as it did. -/
def swabPiecesUptoRow : OpenClaim := { program := "ytmjjhakclggfgaa", sum := "5b1d910816a5678c1c59a0e3d687f960b8c34d82a9e1c9f4782d9ebddbd733f8", func := "salvor/salvorlaw6.SwabPieces", spec := "swabPieces", apart := false, narrowed := true }
def SwabPiecesUptoSaid : Prop := swabPiecesUptoRow.holds Try.pinned (OpenSpec.upto swabPiecesSpec)

/-- 'salvorlaw6.SwabTwice', WHERE WHAT IT READS IS OF BULK AT MOST 1048576: true; the input reads as it did. -/
def swabTwiceUptoRow : OpenClaim := { program := "ytmjjhakclggfgaa", sum := "5b1d910816a5678c1c59a0e3d687f960b8c34d82a9e1c9f4782d9ebddbd733f8", func := "salvor/salvorlaw6.SwabTwice", spec := "swabTwice", apart := false, narrowed := true }
def SwabTwiceUptoSaid : Prop := swabTwiceUptoRow.holds Try.pinned (OpenSpec.upto swabTwiceSpec)

end Rows
end Go.Proofs.Ytmjjhakclggfgaa
