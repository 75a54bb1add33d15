/-
  No cell of these rows narrows 'for every input' (looked for: loops, veiled, ifaces, maps, wideKeys, modest, calm, conditions, laid).
  DERIVED. THE GIVEN ROWS OF THIS SEAT. 7 by the template 'for every input the law returns true; each argument reads behind the call as it read before'; 0 by the template 'total and deterministic' (their statements: YtffckkiboeiljaaTotals.lean).
  GIVEN WITH THE SEED: the statements are not yours to turn. If you find one false, say at which input.
  Laid BY PROGRAM, IN A SANDBOX (cutbox-rows.mjs): the forced cells as the released guide's own fill.sh prints them over the translation ac195041d9a9921c… (all of the seat's roots in one cut). By AI agents, Wed Nov 11 2026. No macro, syntax, notation, axiom, sorry.
-/
import Derived.Test.YtffckkiboeiljaaChecked
import GoSem.Claim
import GoSem.ClaimJoined
import GoSem.ClaimMapViews
import Derived.JoinedTies
import Derived.KernelRfl
namespace Go.Proofs.Ytffckkiboeiljaa
/- THE CELL 'sum', in the pinned program and in every row, IS THE sha256 OF THE DUMP (.gsa) THAT YtffckkiboeiljaaProg.lean LOADS. Nothing in Lean hashes anything: it is a label: what it is worth is what the hold of that sum in a sandbox is worth. -/
noncomputable def Try.pinned : Pinned := { name := "ytffckkiboeiljaa", sum := "ac195041d9a9921ca2ae79afa213fe48682c5cd66b6a657434a69e2887b2754d", checked := Try.checked }
namespace Rows
def none {H : Type} : Left H := { results := [], args := [] }

/-- 'salvorlaw5.TabRuns': WHATEVER THE INPUT: true; the input reads as it did. -/
def tabRunsSpec : ChangeSpec := { name := "tabRuns", fn := fun _ => fun
  | [] => { results := [.lit (.bool true)], args := [] }
  | _ => none }
def tabRunsRow : OpenClaim := { program := "ytffckkiboeiljaa", sum := "ac195041d9a9921ca2ae79afa213fe48682c5cd66b6a657434a69e2887b2754d", func := "salvor/salvorlaw5.TabRuns", spec := "tabRuns", apart := false }
def TabRunsSaid : Prop := tabRunsRow.holds Try.pinned (OpenSpec.ofChange tabRunsSpec)

/-- ITS FALSE NEIGHBOUR: 'it returns false'. Refute it at one input. -/
def tabRunsWrong : ChangeSpec := { name := "tabRuns", fn := fun _ => fun
  | [] => { results := [.lit (.bool false)], args := [] }
  | _ => none }
def TabRunsWrongFalsely : Prop := tabRunsRow.holds Try.pinned (OpenSpec.ofChange tabRunsWrong)

/-- 'salvorlaw5.TabMaps': WHATEVER THE INPUT: true; the input reads as it did. -/
def tabMapsSpec : ChangeSpec := { name := "tabMaps", fn := fun _ => fun
  | [d1, d2] => { results := [.lit (.bool true)], args := [d1, d2] }
  | _ => none }
def tabMapsRow : OpenClaim := { program := "ytffckkiboeiljaa", sum := "ac195041d9a9921ca2ae79afa213fe48682c5cd66b6a657434a69e2887b2754d", func := "salvor/salvorlaw5.TabMaps", spec := "tabMaps", apart := false }
def TabMapsSaid : Prop := tabMapsRow.holds Try.pinned (OpenSpec.ofChange tabMapsSpec)

/-- ITS FALSE NEIGHBOUR: 'it returns false'. Refute it at one input. -/
def tabMapsWrong : ChangeSpec := { name := "tabMaps", fn := fun _ => fun
  | [d1, d2] => { results := [.lit (.bool false)], args := [d1, d2] }
  | _ => none }
def TabMapsWrongFalsely : Prop := tabMapsRow.holds Try.pinned (OpenSpec.ofChange tabMapsWrong)

/-- 'salvorlaw5.TabCodes': WHATEVER THE INPUT: true; the input reads as it did. -/
def tabCodesSpec : ChangeSpec := { name := "tabCodes", fn := fun _ => fun
  | [d] => { results := [.lit (.bool true)], args := [d] }
  | _ => none }
def tabCodesRow : OpenClaim := { program := "ytffckkiboeiljaa", sum := "ac195041d9a9921ca2ae79afa213fe48682c5cd66b6a657434a69e2887b2754d", func := "salvor/salvorlaw5.TabCodes", spec := "tabCodes", apart := false }
def TabCodesSaid : Prop := tabCodesRow.holds Try.pinned (OpenSpec.ofChange tabCodesSpec)

/-- ITS FALSE NEIGHBOUR: 'it returns false'. Refute it at one input. -/
def tabCodesWrong : ChangeSpec := { name := "tabCodes", fn := fun _ => fun
  | [d] => { results := [.lit (.bool false)], args := [d] }
  | _ => none }
def TabCodesWrongFalsely : Prop := tabCodesRow.holds Try.pinned (OpenSpec.ofChange tabCodesWrong)

/-- 'salvorlaw5.TabCase': WHATEVER THE INPUT: true; the input reads as it did. -/
def tabCaseSpec : ChangeSpec := { name := "tabCase", fn := fun _ => fun
  | [d] => { results := [.lit (.bool true)], args := [d] }
  | _ => none }
def tabCaseRow : OpenClaim := { program := "ytffckkiboeiljaa", sum := "ac195041d9a9921ca2ae79afa213fe48682c5cd66b6a657434a69e2887b2754d", func := "salvor/salvorlaw5.TabCase", spec := "tabCase", apart := false }
def TabCaseSaid : Prop := tabCaseRow.holds Try.pinned (OpenSpec.ofChange tabCaseSpec)

/-- ITS FALSE NEIGHBOUR: 'it returns false'. Refute it at one input. -/
def tabCaseWrong : ChangeSpec := { name := "tabCase", fn := fun _ => fun
  | [d] => { results := [.lit (.bool false)], args := [d] }
  | _ => none }
def TabCaseWrongFalsely : Prop := tabCaseRow.holds Try.pinned (OpenSpec.ofChange tabCaseWrong)

/-- 'salvorlaw5.TabBack': WHATEVER THE INPUT: true; the input reads as it did. -/
def tabBackSpec : ChangeSpec := { name := "tabBack", fn := fun _ => fun
  | [d] => { results := [.lit (.bool true)], args := [d] }
  | _ => none }
def tabBackRow : OpenClaim := { program := "ytffckkiboeiljaa", sum := "ac195041d9a9921ca2ae79afa213fe48682c5cd66b6a657434a69e2887b2754d", func := "salvor/salvorlaw5.TabBack", spec := "tabBack", apart := false }
def TabBackSaid : Prop := tabBackRow.holds Try.pinned (OpenSpec.ofChange tabBackSpec)

/-- ITS FALSE NEIGHBOUR: 'it returns false'. Refute it at one input. -/
def tabBackWrong : ChangeSpec := { name := "tabBack", fn := fun _ => fun
  | [d] => { results := [.lit (.bool false)], args := [d] }
  | _ => none }
def TabBackWrongFalsely : Prop := tabBackRow.holds Try.pinned (OpenSpec.ofChange tabBackWrong)

/-- 'salvorlaw5.TabOnce': WHATEVER THE INPUT: true; the input reads as it did. -/
def tabOnceSpec : ChangeSpec := { name := "tabOnce", fn := fun _ => fun
  | [d1, d2] => { results := [.lit (.bool true)], args := [d1, d2] }
  | _ => none }
def tabOnceRow : OpenClaim := { program := "ytffckkiboeiljaa", sum := "ac195041d9a9921ca2ae79afa213fe48682c5cd66b6a657434a69e2887b2754d", func := "salvor/salvorlaw5.TabOnce", spec := "tabOnce", apart := false }
def TabOnceSaid : Prop := tabOnceRow.holds Try.pinned (OpenSpec.ofChange tabOnceSpec)

/-- ITS FALSE NEIGHBOUR: 'it returns false'. Refute it at one input. -/
def tabOnceWrong : ChangeSpec := { name := "tabOnce", fn := fun _ => fun
  | [d1, d2] => { results := [.lit (.bool false)], args := [d1, d2] }
  | _ => none }
def TabOnceWrongFalsely : Prop := tabOnceRow.holds Try.pinned (OpenSpec.ofChange tabOnceWrong)

/-- 'salvorlaw5.TabAll': WHATEVER THE INPUT: true; the input reads as it did. -/
def tabAllSpec : ChangeSpec := { name := "tabAll", fn := fun _ => fun
  | [] => { results := [.lit (.bool true)], args := [] }
  | _ => none }
def tabAllRow : OpenClaim := { program := "ytffckkiboeiljaa", sum := "ac195041d9a9921ca2ae79afa213fe48682c5cd66b6a657434a69e2887b2754d", func := "salvor/salvorlaw5.TabAll", spec := "tabAll", apart := false }
def TabAllSaid : Prop := tabAllRow.holds Try.pinned (OpenSpec.ofChange tabAllSpec)

/-- ITS FALSE NEIGHBOUR: 'it returns false'. Refute it at one input. -/
def tabAllWrong : ChangeSpec := { name := "tabAll", fn := fun _ => fun
  | [] => { results := [.lit (.bool false)], args := [] }
  | _ => none }
def TabAllWrongFalsely : Prop := tabAllRow.holds Try.pinned (OpenSpec.ofChange tabAllWrong)

/- THE SECOND FORM. 'bulk': how many values and letters a reading holds, each counted each time it is reached (what is shared counts as often as it is met; a slice's spare places count too). A statement '..UptoSaid' is the law's where the arguments, and the package variables that the reading takes, are together of bulk at most 1048576: NARROWER than '..Said'. Prove '..Said' where nothing that the law and all that it calls make is longer than what came in: it says more and counts as full. Else prove '..UptoSaid'. A law counts once. -/
mutual
def uptoBulk {H : Type} : DataW H → Nat
  | .lit (.string bytes) => bytes.length + 1
  | .lit _ => 1
  | .nil => 1
  | .ptr d => uptoBulk d + 1
  | .slice elems spare => uptoBulkAll elems + uptoBulkAll spare + 1
  | .agg parts => uptoBulkAll parts + 1
  | .iface _ d => uptoBulk d + 1
  | .map entries => uptoBulkEntries entries + 1
  | .held _ => 1
def uptoBulkAll {H : Type} : List (DataW H) → Nat
  | [] => 0
  | d :: r => uptoBulk d + uptoBulkAll r
def uptoBulkEntries {H : Type} : List (Lit × DataW H) → Nat
  | [] => 0
  | x :: r => uptoBulkEntry x + uptoBulkEntries r
def uptoBulkEntry {H : Type} : Lit × DataW H → Nat
  | (.string bytes, d) => bytes.length + uptoBulk d + 1
  | (_, d) => uptoBulk d + 1
 end
def uptoSmall : (H : Type) → List (DataW H) → Bool := fun _ ds => decide (uptoBulkAll ds ≤ 1048576)
def OpenSpec.upto (s : _root_.Go.ChangeSpec) : _root_.Go.OpenSpec := { _root_.Go.OpenSpec.ofChange s with cond := some uptoSmall }

/-- 'salvorlaw5.TabRuns', WHERE WHAT IT READS IS OF BULK AT MOST 1048576: true; the input reads as it did. -/
def tabRunsUptoRow : OpenClaim := { program := "ytffckkiboeiljaa", sum := "ac195041d9a9921ca2ae79afa213fe48682c5cd66b6a657434a69e2887b2754d", func := "salvor/salvorlaw5.TabRuns", spec := "tabRuns", apart := false, narrowed := true }
def TabRunsUptoSaid : Prop := tabRunsUptoRow.holds Try.pinned (OpenSpec.upto tabRunsSpec)

/-- 'salvorlaw5.TabMaps', WHERE WHAT IT READS IS OF BULK AT MOST 1048576: true; the input reads as it did. -/
def tabMapsUptoRow : OpenClaim := { program := "ytffckkiboeiljaa", sum := "ac195041d9a9921ca2ae79afa213fe48682c5cd66b6a657434a69e2887b2754d", func := "salvor/salvorlaw5.TabMaps", spec := "tabMaps", apart := false, narrowed := true }
def TabMapsUptoSaid : Prop := tabMapsUptoRow.holds Try.pinned (OpenSpec.upto tabMapsSpec)

/-- 'salvorlaw5.TabCodes', WHERE WHAT IT READS IS OF BULK AT MOST 1048576: true; the input reads as it did. -/
def tabCodesUptoRow : OpenClaim := { program := "ytffckkiboeiljaa", sum := "ac195041d9a9921ca2ae79afa213fe48682c5cd66b6a657434a69e2887b2754d", func := "salvor/salvorlaw5.TabCodes", spec := "tabCodes", apart := false, narrowed := true }
def TabCodesUptoSaid : Prop := tabCodesUptoRow.holds Try.pinned (OpenSpec.upto tabCodesSpec)

/-- 'salvorlaw5.TabCase', WHERE WHAT IT READS IS OF BULK AT MOST 1048576: true; the input reads as it did. -/
def tabCaseUptoRow : OpenClaim := { program := "ytffckkiboeiljaa", sum := "ac195041d9a9921ca2ae79afa213fe48682c5cd66b6a657434a69e2887b2754d", func := "salvor/salvorlaw5.TabCase", spec := "tabCase", apart := false, narrowed := true }
def TabCaseUptoSaid : Prop := tabCaseUptoRow.holds Try.pinned (OpenSpec.upto tabCaseSpec)

/-- 'salvorlaw5.TabBack', WHERE WHAT IT READS IS OF BULK AT MOST 1048576: true; the input reads as it did. -/
def tabBackUptoRow : OpenClaim := { program := "ytffckkiboeiljaa", sum := "ac195041d9a9921ca2ae79afa213fe48682c5cd66b6a657434a69e2887b2754d", func := "salvor/salvorlaw5.TabBack", spec := "tabBack", apart := false, narrowed := true }
def TabBackUptoSaid : Prop := tabBackUptoRow.holds Try.pinned (OpenSpec.upto tabBackSpec)

/-- 'salvorlaw5.TabOnce', WHERE WHAT IT READS IS OF BULK AT MOST 1048576: true; the input reads as it did. -/
def tabOnceUptoRow : OpenClaim := { program := "ytffckkiboeiljaa", sum := "ac195041d9a9921ca2ae79afa213fe48682c5cd66b6a657434a69e2887b2754d", func := "salvor/salvorlaw5.TabOnce", spec := "tabOnce", apart := false, narrowed := true }
def TabOnceUptoSaid : Prop := tabOnceUptoRow.holds Try.pinned (OpenSpec.upto tabOnceSpec)

/-- 'salvorlaw5.TabAll', WHERE WHAT IT READS IS OF BULK AT MOST 1048576: true; the input reads as it did. -/
def tabAllUptoRow : OpenClaim := { program := "ytffckkiboeiljaa", sum := "ac195041d9a9921ca2ae79afa213fe48682c5cd66b6a657434a69e2887b2754d", func := "salvor/salvorlaw5.TabAll", spec := "tabAll", apart := false, narrowed := true }
def TabAllUptoSaid : Prop := tabAllUptoRow.holds Try.pinned (OpenSpec.upto tabAllSpec)

end Rows
end Go.Proofs.Ytffckkiboeiljaa
