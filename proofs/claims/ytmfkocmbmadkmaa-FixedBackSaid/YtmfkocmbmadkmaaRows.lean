/-
  No cell of these rows narrows 'for every input' (looked for: loops, veiled, ifaces, maps, wideKeys, modest, calm, conditions, laid).
  DERIVED. THE GIVEN ROWS OF THIS SEAT. 6 by the template 'for every input the law returns true; each argument reads behind the call as it read before'; 0 by the template 'total and deterministic' (their statements: YtmfkocmbmadkmaaTotals.lean).
  GIVEN WITH THE SEED: the statements are not yours to turn. If you find one false, say at which input.
  Laid BY PROGRAM, IN A SANDBOX (cutbox-rows.mjs): the forced cells as the released guide's own fill.sh prints them over the translation 0826c6783dcea8d3… (all of the seat's roots in one cut). By AI agents, Wed Nov 11 2026. No macro, syntax, notation, axiom, sorry.
-/
import Derived.Test.YtmfkocmbmadkmaaChecked
import GoSem.Claim
import GoSem.ClaimJoined
import GoSem.ClaimMapViews
import Derived.JoinedTies
import Derived.KernelRfl
namespace Go.Proofs.Ytmfkocmbmadkmaa
/- THE CELL 'sum', in the pinned program and in every row, IS THE sha256 OF THE DUMP (.gsa) THAT YtmfkocmbmadkmaaProg.lean LOADS. Nothing in Lean hashes anything: it is a label: what it is worth is what the hold of that sum in a sandbox is worth. -/
noncomputable def Try.pinned : Pinned := { name := "ytmfkocmbmadkmaa", sum := "0826c6783dcea8d3bd943604b19cc751d359b3fa60e12400cf0b17efeb37fd0c", checked := Try.checked }
namespace Rows
def none {H : Type} : Left H := { results := [], args := [] }

/-- 'salvorlaw7.FixedRuns': WHATEVER THE INPUT: true; the input reads as it did. -/
def fixedRunsSpec : ChangeSpec := { name := "fixedRuns", fn := fun _ => fun
  | [] => { results := [.lit (.bool true)], args := [] }
  | _ => none }
def fixedRunsRow : OpenClaim := { program := "ytmfkocmbmadkmaa", sum := "0826c6783dcea8d3bd943604b19cc751d359b3fa60e12400cf0b17efeb37fd0c", func := "salvor/salvorlaw7.FixedRuns", spec := "fixedRuns", inPlace := ["internal/bytealg.MakeNoZero"], apart := false }
def FixedRunsSaid : Prop := fixedRunsRow.holds Try.pinned (OpenSpec.ofChange fixedRunsSpec)

/-- ITS FALSE NEIGHBOUR: 'it returns false'. Refute it at one input. -/
def fixedRunsWrong : ChangeSpec := { name := "fixedRuns", fn := fun _ => fun
  | [] => { results := [.lit (.bool false)], args := [] }
  | _ => none }
def FixedRunsWrongFalsely : Prop := fixedRunsRow.holds Try.pinned (OpenSpec.ofChange fixedRunsWrong)

/-- 'salvorlaw7.FixedUnpacks': WHATEVER THE INPUT: true; the input reads as it did. -/
def fixedUnpacksSpec : ChangeSpec := { name := "fixedUnpacks", fn := fun _ => fun
  | [d1, d2, d3] => { results := [.lit (.bool true)], args := [d1, d2, d3] }
  | _ => none }
def fixedUnpacksRow : OpenClaim := { program := "ytmfkocmbmadkmaa", sum := "0826c6783dcea8d3bd943604b19cc751d359b3fa60e12400cf0b17efeb37fd0c", func := "salvor/salvorlaw7.FixedUnpacks", spec := "fixedUnpacks", inPlace := ["internal/bytealg.MakeNoZero"], apart := false }
def FixedUnpacksSaid : Prop := fixedUnpacksRow.holds Try.pinned (OpenSpec.ofChange fixedUnpacksSpec)

/-- ITS FALSE NEIGHBOUR: 'it returns false'. Refute it at one input. -/
def fixedUnpacksWrong : ChangeSpec := { name := "fixedUnpacks", fn := fun _ => fun
  | [d1, d2, d3] => { results := [.lit (.bool false)], args := [d1, d2, d3] }
  | _ => none }
def FixedUnpacksWrongFalsely : Prop := fixedUnpacksRow.holds Try.pinned (OpenSpec.ofChange fixedUnpacksWrong)

/-- 'salvorlaw7.FixedPacks': WHATEVER THE INPUT: true; the input reads as it did. -/
def fixedPacksSpec : ChangeSpec := { name := "fixedPacks", fn := fun _ => fun
  | [d1, d2, d3] => { results := [.lit (.bool true)], args := [d1, d2, d3] }
  | _ => none }
def fixedPacksRow : OpenClaim := { program := "ytmfkocmbmadkmaa", sum := "0826c6783dcea8d3bd943604b19cc751d359b3fa60e12400cf0b17efeb37fd0c", func := "salvor/salvorlaw7.FixedPacks", spec := "fixedPacks", inPlace := ["internal/bytealg.MakeNoZero"], apart := false }
def FixedPacksSaid : Prop := fixedPacksRow.holds Try.pinned (OpenSpec.ofChange fixedPacksSpec)

/-- ITS FALSE NEIGHBOUR: 'it returns false'. Refute it at one input. -/
def fixedPacksWrong : ChangeSpec := { name := "fixedPacks", fn := fun _ => fun
  | [d1, d2, d3] => { results := [.lit (.bool false)], args := [d1, d2, d3] }
  | _ => none }
def FixedPacksWrongFalsely : Prop := fixedPacksRow.holds Try.pinned (OpenSpec.ofChange fixedPacksWrong)

/-- 'salvorlaw7.FixedPieces': WHATEVER THE INPUT: true; the input reads as it did. -/
def fixedPiecesSpec : ChangeSpec := { name := "fixedPieces", fn := fun _ => fun
  | [d1, d2] => { results := [.lit (.bool true)], args := [d1, d2] }
  | _ => none }
def fixedPiecesRow : OpenClaim := { program := "ytmfkocmbmadkmaa", sum := "0826c6783dcea8d3bd943604b19cc751d359b3fa60e12400cf0b17efeb37fd0c", func := "salvor/salvorlaw7.FixedPieces", spec := "fixedPieces", inPlace := ["internal/bytealg.MakeNoZero"], apart := false }
def FixedPiecesSaid : Prop := fixedPiecesRow.holds Try.pinned (OpenSpec.ofChange fixedPiecesSpec)

/-- ITS FALSE NEIGHBOUR: 'it returns false'. Refute it at one input. -/
def fixedPiecesWrong : ChangeSpec := { name := "fixedPieces", fn := fun _ => fun
  | [d1, d2] => { results := [.lit (.bool false)], args := [d1, d2] }
  | _ => none }
def FixedPiecesWrongFalsely : Prop := fixedPiecesRow.holds Try.pinned (OpenSpec.ofChange fixedPiecesWrong)

/-- 'salvorlaw7.FixedBack': WHATEVER THE INPUT: true; the input reads as it did. -/
def fixedBackSpec : ChangeSpec := { name := "fixedBack", fn := fun _ => fun
  | [d1, d2] => { results := [.lit (.bool true)], args := [d1, d2] }
  | _ => none }
def fixedBackRow : OpenClaim := { program := "ytmfkocmbmadkmaa", sum := "0826c6783dcea8d3bd943604b19cc751d359b3fa60e12400cf0b17efeb37fd0c", func := "salvor/salvorlaw7.FixedBack", spec := "fixedBack", inPlace := ["internal/bytealg.MakeNoZero"], apart := false }
def FixedBackSaid : Prop := fixedBackRow.holds Try.pinned (OpenSpec.ofChange fixedBackSpec)

/-- ITS FALSE NEIGHBOUR: 'it returns false'. Refute it at one input. -/
def fixedBackWrong : ChangeSpec := { name := "fixedBack", fn := fun _ => fun
  | [d1, d2] => { results := [.lit (.bool false)], args := [d1, d2] }
  | _ => none }
def FixedBackWrongFalsely : Prop := fixedBackRow.holds Try.pinned (OpenSpec.ofChange fixedBackWrong)

/-- 'salvorlaw7.FixedLong': WHATEVER THE INPUT: true; the input reads as it did. -/
def fixedLongSpec : ChangeSpec := { name := "fixedLong", fn := fun _ => fun
  | [d1, d2, d3] => { results := [.lit (.bool true)], args := [d1, d2, d3] }
  | _ => none }
def fixedLongRow : OpenClaim := { program := "ytmfkocmbmadkmaa", sum := "0826c6783dcea8d3bd943604b19cc751d359b3fa60e12400cf0b17efeb37fd0c", func := "salvor/salvorlaw7.FixedLong", spec := "fixedLong", inPlace := ["internal/bytealg.MakeNoZero"], apart := false }
def FixedLongSaid : Prop := fixedLongRow.holds Try.pinned (OpenSpec.ofChange fixedLongSpec)

/-- ITS FALSE NEIGHBOUR: 'it returns false'. Refute it at one input. -/
def fixedLongWrong : ChangeSpec := { name := "fixedLong", fn := fun _ => fun
  | [d1, d2, d3] => { results := [.lit (.bool false)], args := [d1, d2, d3] }
  | _ => none }
def FixedLongWrongFalsely : Prop := fixedLongRow.holds Try.pinned (OpenSpec.ofChange fixedLongWrong)

/- THE SECOND FORM. 'bulk': how many values and letters a reading holds, each counted each time it is reached (what is shared counts as often as it is met; a slice's spare places count too). A statement '..UptoSaid' is the law's where the arguments, and the package variables that the reading takes, are together of bulk at most 1048576: NARROWER than '..Said'. Prove '..Said' where nothing that the law and all that it calls make is longer than what came in: it says more and counts as full. Else prove '..UptoSaid'. A law counts once. -/
mutual
def uptoBulk {H : Type} : DataW H → Nat
  | .lit (.string bytes) => bytes.length + 1
  | .lit _ => 1
  | .nil => 1
  | .ptr d => uptoBulk d + 1
  | .slice elems spare => uptoBulkAll elems + uptoBulkAll spare + 1
  | .agg parts => uptoBulkAll parts + 1
  | .iface _ d => uptoBulk d + 1
  | .map entries => uptoBulkEntries entries + 1
  | .held _ => 1
def uptoBulkAll {H : Type} : List (DataW H) → Nat
  | [] => 0
  | d :: r => uptoBulk d + uptoBulkAll r
def uptoBulkEntries {H : Type} : List (Lit × DataW H) → Nat
  | [] => 0
  | x :: r => uptoBulkEntry x + uptoBulkEntries r
def uptoBulkEntry {H : Type} : Lit × DataW H → Nat
  | (.string bytes, d) => bytes.length + uptoBulk d + 1
  | (_, d) => uptoBulk d + 1
 end
def uptoSmall : (H : Type) → List (DataW H) → Bool := fun _ ds => decide (uptoBulkAll ds ≤ 1048576)
def OpenSpec.upto (s : _root_.Go.ChangeSpec) : _root_.Go.OpenSpec := { _root_.Go.OpenSpec.ofChange s with cond := some uptoSmall }

/-- 'salvorlaw7.FixedRuns', WHERE WHAT IT READS IS OF BULK AT MOST 1048576: true; the input reads as it did. -/
def fixedRunsUptoRow : OpenClaim := { program := "ytmfkocmbmadkmaa", sum := "0826c6783dcea8d3bd943604b19cc751d359b3fa60e12400cf0b17efeb37fd0c", func := "salvor/salvorlaw7.FixedRuns", spec := "fixedRuns", inPlace := ["internal/bytealg.MakeNoZero"], apart := false, narrowed := true }
def FixedRunsUptoSaid : Prop := fixedRunsUptoRow.holds Try.pinned (OpenSpec.upto fixedRunsSpec)

/-- 'salvorlaw7.FixedUnpacks', WHERE WHAT IT READS IS OF BULK AT MOST 1048576: true; the input reads as it did. -/
def fixedUnpacksUptoRow : OpenClaim := { program := "ytmfkocmbmadkmaa", sum := "0826c6783dcea8d3bd943604b19cc751d359b3fa60e12400cf0b17efeb37fd0c", func := "salvor/salvorlaw7.FixedUnpacks", spec := "fixedUnpacks", inPlace := ["internal/bytealg.MakeNoZero"], apart := false, narrowed := true }
def FixedUnpacksUptoSaid : Prop := fixedUnpacksUptoRow.holds Try.pinned (OpenSpec.upto fixedUnpacksSpec)

/-- 'salvorlaw7.FixedPacks', WHERE WHAT IT READS IS OF BULK AT MOST 1048576: true; the input reads as it did. -/
def fixedPacksUptoRow : OpenClaim := { program := "ytmfkocmbmadkmaa", sum := "0826c6783dcea8d3bd943604b19cc751d359b3fa60e12400cf0b17efeb37fd0c", func := "salvor/salvorlaw7.FixedPacks", spec := "fixedPacks", inPlace := ["internal/bytealg.MakeNoZero"], apart := false, narrowed := true }
def FixedPacksUptoSaid : Prop := fixedPacksUptoRow.holds Try.pinned (OpenSpec.upto fixedPacksSpec)

/-- 'salvorlaw7.FixedPieces', WHERE WHAT IT READS IS OF BULK AT MOST 1048576: true; the input reads as it did. -/
def fixedPiecesUptoRow : OpenClaim := { program := "ytmfkocmbmadkmaa", sum := "0826c6783dcea8d3bd943604b19cc751d359b3fa60e12400cf0b17efeb37fd0c", func := "salvor/salvorlaw7.FixedPieces", spec := "fixedPieces", inPlace := ["internal/bytealg.MakeNoZero"], apart := false, narrowed := true }
def FixedPiecesUptoSaid : Prop := fixedPiecesUptoRow.holds Try.pinned (OpenSpec.upto fixedPiecesSpec)

/-- 'salvorlaw7.FixedBack', WHERE WHAT IT READS IS OF BULK AT MOST 1048576: true; the input reads as it did. -/
def fixedBackUptoRow : OpenClaim := { program := "ytmfkocmbmadkmaa", sum := "0826c6783dcea8d3bd943604b19cc751d359b3fa60e12400cf0b17efeb37fd0c", func := "salvor/salvorlaw7.FixedBack", spec := "fixedBack", inPlace := ["internal/bytealg.MakeNoZero"], apart := false, narrowed := true }
def FixedBackUptoSaid : Prop := fixedBackUptoRow.holds Try.pinned (OpenSpec.upto fixedBackSpec)

/-- 'salvorlaw7.FixedLong', WHERE WHAT IT READS IS OF BULK AT MOST 1048576: true; the input reads as it did. -/
def fixedLongUptoRow : OpenClaim := { program := "ytmfkocmbmadkmaa", sum := "0826c6783dcea8d3bd943604b19cc751d359b3fa60e12400cf0b17efeb37fd0c", func := "salvor/salvorlaw7.FixedLong", spec := "fixedLong", inPlace := ["internal/bytealg.MakeNoZero"], apart := false, narrowed := true }
def FixedLongUptoSaid : Prop := fixedLongUptoRow.holds Try.pinned (OpenSpec.upto fixedLongSpec)

end Rows
end Go.Proofs.Ytmfkocmbmadkmaa
