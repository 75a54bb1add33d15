/-
  No cell of these rows narrows 'for every input' (looked for: loops, veiled, ifaces, maps, wideKeys, modest, calm, conditions, laid).
  DERIVED. THE GIVEN ROWS OF THIS SEAT. 7 by the template 'for every input the law returns true; each argument reads behind the call as it read before'; 0 by the template 'total and deterministic' (their statements: YthpomdoaiibnfaaTotals.lean).
  GIVEN WITH THE SEED: the statements are not yours to turn. If you find one false, say at which input.
  Laid BY PROGRAM, IN A SANDBOX (cutbox-rows.mjs): the forced cells as the released guide's own fill.sh prints them over the translation afd26ac8a5b9bf05… (all of the seat's roots in one cut). By AI agents, Wed Nov 11 2026. No macro, syntax, notation, axiom, sorry.
-/
import Derived.Test.YthpomdoaiibnfaaChecked
import GoSem.Claim
import GoSem.ClaimJoined
import GoSem.ClaimMapViews
import Derived.JoinedTies
import Derived.KernelRfl
namespace Go.Proofs.Ythpomdoaiibnfaa
/- THE CELL 'sum', in the pinned program and in every row, IS THE sha256 OF THE DUMP (.gsa) THAT YthpomdoaiibnfaaProg.lean LOADS. Nothing in Lean hashes anything: it is a label: what it is worth is what the hold of that sum in a sandbox is worth. -/
noncomputable def Try.pinned : Pinned := { name := "ythpomdoaiibnfaa", sum := "afd26ac8a5b9bf059adfe2318d40526b6b464a849a78c269071a6d8eed648d0e", checked := Try.checked }
namespace Rows
def none {H : Type} : Left H := { results := [], args := [] }

/-- 'salvorlaw8.ConvRuns': WHATEVER THE INPUT: true; the input reads as it did. -/
def convRunsSpec : ChangeSpec := { name := "convRuns", fn := fun _ => fun
  | [] => { results := [.lit (.bool true)], args := [] }
  | _ => none }
def convRunsRow : OpenClaim := { program := "ythpomdoaiibnfaa", sum := "afd26ac8a5b9bf059adfe2318d40526b6b464a849a78c269071a6d8eed648d0e", func := "salvor/salvorlaw8.ConvRuns", spec := "convRuns", unfollowed := true, recurses := true, apart := false }
def ConvRunsSaid : Prop := convRunsRow.holds Try.pinned (OpenSpec.ofChange convRunsSpec)

/-- ITS FALSE NEIGHBOUR: 'it returns false'. Refute it at one input. -/
def convRunsWrong : ChangeSpec := { name := "convRuns", fn := fun _ => fun
  | [] => { results := [.lit (.bool false)], args := [] }
  | _ => none }
def ConvRunsWrongFalsely : Prop := convRunsRow.holds Try.pinned (OpenSpec.ofChange convRunsWrong)

/-- 'salvorlaw8.ConvMay': WHATEVER THE INPUT: true; the input reads as it did. -/
def convMaySpec : ChangeSpec := { name := "convMay", fn := fun _ => fun
  | [d] => { results := [.lit (.bool true)], args := [d] }
  | _ => none }
def convMayRow : OpenClaim := { program := "ythpomdoaiibnfaa", sum := "afd26ac8a5b9bf059adfe2318d40526b6b464a849a78c269071a6d8eed648d0e", func := "salvor/salvorlaw8.ConvMay", spec := "convMay", unfollowed := true, recurses := true, apart := false }
def ConvMaySaid : Prop := convMayRow.holds Try.pinned (OpenSpec.ofChange convMaySpec)

/-- ITS FALSE NEIGHBOUR: 'it returns false'. Refute it at one input. -/
def convMayWrong : ChangeSpec := { name := "convMay", fn := fun _ => fun
  | [d] => { results := [.lit (.bool false)], args := [d] }
  | _ => none }
def ConvMayWrongFalsely : Prop := convMayRow.holds Try.pinned (OpenSpec.ofChange convMayWrong)

/-- 'salvorlaw8.ConvPieces': WHATEVER THE INPUT: true; the input reads as it did. -/
def convPiecesSpec : ChangeSpec := { name := "convPieces", fn := fun _ => fun
  | [d1, d2] => { results := [.lit (.bool true)], args := [d1, d2] }
  | _ => none }
def convPiecesRow : OpenClaim := { program := "ythpomdoaiibnfaa", sum := "afd26ac8a5b9bf059adfe2318d40526b6b464a849a78c269071a6d8eed648d0e", func := "salvor/salvorlaw8.ConvPieces", spec := "convPieces", unfollowed := true, recurses := true, apart := false }
def ConvPiecesSaid : Prop := convPiecesRow.holds Try.pinned (OpenSpec.ofChange convPiecesSpec)

/-- ITS FALSE NEIGHBOUR: 'it returns false'. Refute it at one input. -/
def convPiecesWrong : ChangeSpec := { name := "convPieces", fn := fun _ => fun
  | [d1, d2] => { results := [.lit (.bool false)], args := [d1, d2] }
  | _ => none }
def ConvPiecesWrongFalsely : Prop := convPiecesRow.holds Try.pinned (OpenSpec.ofChange convPiecesWrong)

/-- 'salvorlaw8.ConvNone': WHATEVER THE INPUT: true; the input reads as it did. -/
def convNoneSpec : ChangeSpec := { name := "convNone", fn := fun _ => fun
  | [d1, d2] => { results := [.lit (.bool true)], args := [d1, d2] }
  | _ => none }
def convNoneRow : OpenClaim := { program := "ythpomdoaiibnfaa", sum := "afd26ac8a5b9bf059adfe2318d40526b6b464a849a78c269071a6d8eed648d0e", func := "salvor/salvorlaw8.ConvNone", spec := "convNone", unfollowed := true, recurses := true, apart := false }
def ConvNoneSaid : Prop := convNoneRow.holds Try.pinned (OpenSpec.ofChange convNoneSpec)

/-- ITS FALSE NEIGHBOUR: 'it returns false'. Refute it at one input. -/
def convNoneWrong : ChangeSpec := { name := "convNone", fn := fun _ => fun
  | [d1, d2] => { results := [.lit (.bool false)], args := [d1, d2] }
  | _ => none }
def ConvNoneWrongFalsely : Prop := convNoneRow.holds Try.pinned (OpenSpec.ofChange convNoneWrong)

/-- 'salvorlaw8.ConvCodes': WHATEVER THE INPUT: true; the input reads as it did. -/
def convCodesSpec : ChangeSpec := { name := "convCodes", fn := fun _ => fun
  | [d1, d2] => { results := [.lit (.bool true)], args := [d1, d2] }
  | _ => none }
def convCodesRow : OpenClaim := { program := "ythpomdoaiibnfaa", sum := "afd26ac8a5b9bf059adfe2318d40526b6b464a849a78c269071a6d8eed648d0e", func := "salvor/salvorlaw8.ConvCodes", spec := "convCodes", unfollowed := true, recurses := true, apart := false }
def ConvCodesSaid : Prop := convCodesRow.holds Try.pinned (OpenSpec.ofChange convCodesSpec)

/-- ITS FALSE NEIGHBOUR: 'it returns false'. Refute it at one input. -/
def convCodesWrong : ChangeSpec := { name := "convCodes", fn := fun _ => fun
  | [d1, d2] => { results := [.lit (.bool false)], args := [d1, d2] }
  | _ => none }
def ConvCodesWrongFalsely : Prop := convCodesRow.holds Try.pinned (OpenSpec.ofChange convCodesWrong)

/-- 'salvorlaw8.ConvOrder': WHATEVER THE INPUT: true; the input reads as it did. -/
def convOrderSpec : ChangeSpec := { name := "convOrder", fn := fun _ => fun
  | [d1, d2] => { results := [.lit (.bool true)], args := [d1, d2] }
  | _ => none }
def convOrderRow : OpenClaim := { program := "ythpomdoaiibnfaa", sum := "afd26ac8a5b9bf059adfe2318d40526b6b464a849a78c269071a6d8eed648d0e", func := "salvor/salvorlaw8.ConvOrder", spec := "convOrder", unfollowed := true, recurses := true, apart := false }
def ConvOrderSaid : Prop := convOrderRow.holds Try.pinned (OpenSpec.ofChange convOrderSpec)

/-- ITS FALSE NEIGHBOUR: 'it returns false'. Refute it at one input. -/
def convOrderWrong : ChangeSpec := { name := "convOrder", fn := fun _ => fun
  | [d1, d2] => { results := [.lit (.bool false)], args := [d1, d2] }
  | _ => none }
def ConvOrderWrongFalsely : Prop := convOrderRow.holds Try.pinned (OpenSpec.ofChange convOrderWrong)

/-- 'salvorlaw8.ConvPlays': WHATEVER THE INPUT: true; the input reads as it did. -/
def convPlaysSpec : ChangeSpec := { name := "convPlays", fn := fun _ => fun
  | [d1, d2, d3] => { results := [.lit (.bool true)], args := [d1, d2, d3] }
  | _ => none }
def convPlaysRow : OpenClaim := { program := "ythpomdoaiibnfaa", sum := "afd26ac8a5b9bf059adfe2318d40526b6b464a849a78c269071a6d8eed648d0e", func := "salvor/salvorlaw8.ConvPlays", spec := "convPlays", unfollowed := true, recurses := true, apart := false }
def ConvPlaysSaid : Prop := convPlaysRow.holds Try.pinned (OpenSpec.ofChange convPlaysSpec)

/-- ITS FALSE NEIGHBOUR: 'it returns false'. Refute it at one input. -/
def convPlaysWrong : ChangeSpec := { name := "convPlays", fn := fun _ => fun
  | [d1, d2, d3] => { results := [.lit (.bool false)], args := [d1, d2, d3] }
  | _ => none }
def ConvPlaysWrongFalsely : Prop := convPlaysRow.holds Try.pinned (OpenSpec.ofChange convPlaysWrong)

/- THE SECOND FORM. 'bulk': how many values and letters a reading holds, each counted each time it is reached (what is shared counts as often as it is met; a slice's spare places count too). A statement '..UptoSaid' is the law's where the arguments, and the package variables that the reading takes, are together of bulk at most 1048576: NARROWER than '..Said'. Prove '..Said' where nothing that the law and all that it calls make is longer than what came in: it says more and counts as full. Else prove '..UptoSaid'. A law counts once. -/
mutual
def uptoBulk {H : Type} : DataW H → Nat
  | .lit (.string bytes) => bytes.length + 1
  | .lit _ => 1
  | .nil => 1
  | .ptr d => uptoBulk d + 1
  | .slice elems spare => uptoBulkAll elems + uptoBulkAll spare + 1
  | .agg parts => uptoBulkAll parts + 1
  | .iface _ d => uptoBulk d + 1
  | .map entries => uptoBulkEntries entries + 1
  | .held _ => 1
def uptoBulkAll {H : Type} : List (DataW H) → Nat
  | [] => 0
  | d :: r => uptoBulk d + uptoBulkAll r
def uptoBulkEntries {H : Type} : List (Lit × DataW H) → Nat
  | [] => 0
  | x :: r => uptoBulkEntry x + uptoBulkEntries r
def uptoBulkEntry {H : Type} : Lit × DataW H → Nat
  | (.string bytes, d) => bytes.length + uptoBulk d + 1
  | (_, d) => uptoBulk d + 1
 end
def uptoSmall : (H : Type) → List (DataW H) → Bool := fun _ ds => decide (uptoBulkAll ds ≤ 1048576)
def OpenSpec.upto (s : _root_.Go.ChangeSpec) : _root_.Go.OpenSpec := { _root_.Go.OpenSpec.ofChange s with cond := some uptoSmall }

/-- 'salvorlaw8.ConvRuns', WHERE WHAT IT READS IS OF BULK AT MOST 1048576: true; the input reads as it did. -/
def convRunsUptoRow : OpenClaim := { program := "ythpomdoaiibnfaa", sum := "afd26ac8a5b9bf059adfe2318d40526b6b464a849a78c269071a6d8eed648d0e", func := "salvor/salvorlaw8.ConvRuns", spec := "convRuns", unfollowed := true, recurses := true, apart := false, narrowed := true }
def ConvRunsUptoSaid : Prop := convRunsUptoRow.holds Try.pinned (OpenSpec.upto convRunsSpec)

/-- 'salvorlaw8.ConvMay', WHERE WHAT IT READS IS OF BULK AT MOST 1048576: true; the input reads as it did. -/
def convMayUptoRow : OpenClaim := { program := "ythpomdoaiibnfaa", sum := "afd26ac8a5b9bf059adfe2318d40526b6b464a849a78c269071a6d8eed648d0e", func := "salvor/salvorlaw8.ConvMay", spec := "convMay", unfollowed := true, recurses := true, apart := false, narrowed := true }
def ConvMayUptoSaid : Prop := convMayUptoRow.holds Try.pinned (OpenSpec.upto convMaySpec)

/-- 'salvorlaw8.ConvPieces', WHERE WHAT IT READS IS OF BULK AT MOST 1048576: true; the input reads as it did. -/
def convPiecesUptoRow : OpenClaim := { program := "ythpomdoaiibnfaa", sum := "afd26ac8a5b9bf059adfe2318d40526b6b464a849a78c269071a6d8eed648d0e", func := "salvor/salvorlaw8.ConvPieces", spec := "convPieces", unfollowed := true, recurses := true, apart := false, narrowed := true }
def ConvPiecesUptoSaid : Prop := convPiecesUptoRow.holds Try.pinned (OpenSpec.upto convPiecesSpec)

/-- 'salvorlaw8.ConvNone', WHERE WHAT IT READS IS OF BULK AT MOST 1048576: true; the input reads as it did. -/
def convNoneUptoRow : OpenClaim := { program := "ythpomdoaiibnfaa", sum := "afd26ac8a5b9bf059adfe2318d40526b6b464a849a78c269071a6d8eed648d0e", func := "salvor/salvorlaw8.ConvNone", spec := "convNone", unfollowed := true, recurses := true, apart := false, narrowed := true }
def ConvNoneUptoSaid : Prop := convNoneUptoRow.holds Try.pinned (OpenSpec.upto convNoneSpec)

/-- 'salvorlaw8.ConvCodes', WHERE WHAT IT READS IS OF BULK AT MOST 1048576: true; the input reads as it did. -/
def convCodesUptoRow : OpenClaim := { program := "ythpomdoaiibnfaa", sum := "afd26ac8a5b9bf059adfe2318d40526b6b464a849a78c269071a6d8eed648d0e", func := "salvor/salvorlaw8.ConvCodes", spec := "convCodes", unfollowed := true, recurses := true, apart := false, narrowed := true }
def ConvCodesUptoSaid : Prop := convCodesUptoRow.holds Try.pinned (OpenSpec.upto convCodesSpec)

/-- 'salvorlaw8.ConvOrder', WHERE WHAT IT READS IS OF BULK AT MOST 1048576: true; the input reads as it did. -/
def convOrderUptoRow : OpenClaim := { program := "ythpomdoaiibnfaa", sum := "afd26ac8a5b9bf059adfe2318d40526b6b464a849a78c269071a6d8eed648d0e", func := "salvor/salvorlaw8.ConvOrder", spec := "convOrder", unfollowed := true, recurses := true, apart := false, narrowed := true }
def ConvOrderUptoSaid : Prop := convOrderUptoRow.holds Try.pinned (OpenSpec.upto convOrderSpec)

/-- 'salvorlaw8.ConvPlays', WHERE WHAT IT READS IS OF BULK AT MOST 1048576: true; the input reads as it did. -/
def convPlaysUptoRow : OpenClaim := { program := "ythpomdoaiibnfaa", sum := "afd26ac8a5b9bf059adfe2318d40526b6b464a849a78c269071a6d8eed648d0e", func := "salvor/salvorlaw8.ConvPlays", spec := "convPlays", unfollowed := true, recurses := true, apart := false, narrowed := true }
def ConvPlaysUptoSaid : Prop := convPlaysUptoRow.holds Try.pinned (OpenSpec.upto convPlaysSpec)

end Rows
end Go.Proofs.Ythpomdoaiibnfaa
