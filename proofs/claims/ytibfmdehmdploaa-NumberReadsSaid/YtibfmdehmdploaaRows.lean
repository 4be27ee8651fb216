/-
  No cell of these rows narrows 'for every input' (looked for: loops, veiled, ifaces, maps, wideKeys, modest, calm, conditions, laid).
  DERIVED. THE GIVEN ROWS OF THIS SEAT. 6 by the template 'for every input the law returns true; each argument reads behind the call as it read before'; 0 by the template 'total and deterministic' (their statements: YtibfmdehmdploaaTotals.lean).
  GIVEN WITH THE SEED: the statements are not yours to turn. If you find one false, say at which input.
  Laid BY PROGRAM, IN A SANDBOX (cutbox-rows.mjs): the forced cells as the released guide's own fill.sh prints them over the translation 3468ea2cbeb6e40d… (all of the seat's roots in one cut). By AI agents, Wed Nov 11 2026. No macro, syntax, notation, axiom, sorry.
-/
import Derived.Test.YtibfmdehmdploaaChecked
import GoSem.Claim
import GoSem.ClaimJoined
import GoSem.ClaimMapViews
import Derived.JoinedTies
import Derived.KernelRfl
namespace Go.Proofs.Ytibfmdehmdploaa
/- THE CELL 'sum', in the pinned program and in every row, IS THE sha256 OF THE DUMP (.gsa) THAT YtibfmdehmdploaaProg.lean LOADS. Nothing in Lean hashes anything: it is a label: what it is worth is what the hold of that sum in a sandbox is worth. -/
noncomputable def Try.pinned : Pinned := { name := "ytibfmdehmdploaa", sum := "3468ea2cbeb6e40dabda401fa826e58cab1a5ba11e2235317f85c07547cf24bb", checked := Try.checked }
namespace Rows
def none {H : Type} : Left H := { results := [], args := [] }

/-- 'reticulelaw01.NumberReads': WHATEVER THE INPUT: true; the input reads as it did. -/
def numberReadsSpec : ChangeSpec := { name := "numberReads", fn := fun _ => fun
  | [d1, d2, d3] => { results := [.lit (.bool true)], args := [d1, d2, d3] }
  | _ => none }
def numberReadsRow : OpenClaim := { program := "ytibfmdehmdploaa", sum := "3468ea2cbeb6e40dabda401fa826e58cab1a5ba11e2235317f85c07547cf24bb", func := "reticule/reticulelaw01.NumberReads", spec := "numberReads", apart := false }
def NumberReadsSaid : Prop := numberReadsRow.holds Try.pinned (OpenSpec.ofChange numberReadsSpec)

/-- ITS FALSE NEIGHBOUR: 'it returns false'. Refute it at one input. -/
def numberReadsWrong : ChangeSpec := { name := "numberReads", fn := fun _ => fun
  | [d1, d2, d3] => { results := [.lit (.bool false)], args := [d1, d2, d3] }
  | _ => none }
def NumberReadsWrongFalsely : Prop := numberReadsRow.holds Try.pinned (OpenSpec.ofChange numberReadsWrong)

/-- 'reticulelaw01.NumberPuts': WHATEVER THE INPUT: true; the input reads as it did. -/
def numberPutsSpec : ChangeSpec := { name := "numberPuts", fn := fun _ => fun
  | [d1, d2] => { results := [.lit (.bool true)], args := [d1, d2] }
  | _ => none }
def numberPutsRow : OpenClaim := { program := "ytibfmdehmdploaa", sum := "3468ea2cbeb6e40dabda401fa826e58cab1a5ba11e2235317f85c07547cf24bb", func := "reticule/reticulelaw01.NumberPuts", spec := "numberPuts", apart := false }
def NumberPutsSaid : Prop := numberPutsRow.holds Try.pinned (OpenSpec.ofChange numberPutsSpec)

/-- ITS FALSE NEIGHBOUR: 'it returns false'. Refute it at one input. -/
def numberPutsWrong : ChangeSpec := { name := "numberPuts", fn := fun _ => fun
  | [d1, d2] => { results := [.lit (.bool false)], args := [d1, d2] }
  | _ => none }
def NumberPutsWrongFalsely : Prop := numberPutsRow.holds Try.pinned (OpenSpec.ofChange numberPutsWrong)

/-- 'reticulelaw01.NumberBits': WHATEVER THE INPUT: true; the input reads as it did. -/
def numberBitsSpec : ChangeSpec := { name := "numberBits", fn := fun _ => fun
  | [d1, d2, d3] => { results := [.lit (.bool true)], args := [d1, d2, d3] }
  | _ => none }
def numberBitsRow : OpenClaim := { program := "ytibfmdehmdploaa", sum := "3468ea2cbeb6e40dabda401fa826e58cab1a5ba11e2235317f85c07547cf24bb", func := "reticule/reticulelaw01.NumberBits", spec := "numberBits", apart := false }
def NumberBitsSaid : Prop := numberBitsRow.holds Try.pinned (OpenSpec.ofChange numberBitsSpec)

/-- ITS FALSE NEIGHBOUR: 'it returns false'. Refute it at one input. -/
def numberBitsWrong : ChangeSpec := { name := "numberBits", fn := fun _ => fun
  | [d1, d2, d3] => { results := [.lit (.bool false)], args := [d1, d2, d3] }
  | _ => none }
def NumberBitsWrongFalsely : Prop := numberBitsRow.holds Try.pinned (OpenSpec.ofChange numberBitsWrong)

/-- 'reticulelaw01.NumberBack': WHATEVER THE INPUT: true; the input reads as it did. -/
def numberBackSpec : ChangeSpec := { name := "numberBack", fn := fun _ => fun
  | [d1, d2, d3] => { results := [.lit (.bool true)], args := [d1, d2, d3] }
  | _ => none }
def numberBackRow : OpenClaim := { program := "ytibfmdehmdploaa", sum := "3468ea2cbeb6e40dabda401fa826e58cab1a5ba11e2235317f85c07547cf24bb", func := "reticule/reticulelaw01.NumberBack", spec := "numberBack", apart := false }
def NumberBackSaid : Prop := numberBackRow.holds Try.pinned (OpenSpec.ofChange numberBackSpec)

/-- ITS FALSE NEIGHBOUR: 'it returns false'. Refute it at one input. -/
def numberBackWrong : ChangeSpec := { name := "numberBack", fn := fun _ => fun
  | [d1, d2, d3] => { results := [.lit (.bool false)], args := [d1, d2, d3] }
  | _ => none }
def NumberBackWrongFalsely : Prop := numberBackRow.holds Try.pinned (OpenSpec.ofChange numberBackWrong)

/-- 'reticulelaw01.NumberSets': WHATEVER THE INPUT: true; the input reads as it did. -/
def numberSetsSpec : ChangeSpec := { name := "numberSets", fn := fun _ => fun
  | [d1, d2, d3] => { results := [.lit (.bool true)], args := [d1, d2, d3] }
  | _ => none }
def numberSetsRow : OpenClaim := { program := "ytibfmdehmdploaa", sum := "3468ea2cbeb6e40dabda401fa826e58cab1a5ba11e2235317f85c07547cf24bb", func := "reticule/reticulelaw01.NumberSets", spec := "numberSets", apart := false }
def NumberSetsSaid : Prop := numberSetsRow.holds Try.pinned (OpenSpec.ofChange numberSetsSpec)

/-- ITS FALSE NEIGHBOUR: 'it returns false'. Refute it at one input. -/
def numberSetsWrong : ChangeSpec := { name := "numberSets", fn := fun _ => fun
  | [d1, d2, d3] => { results := [.lit (.bool false)], args := [d1, d2, d3] }
  | _ => none }
def NumberSetsWrongFalsely : Prop := numberSetsRow.holds Try.pinned (OpenSpec.ofChange numberSetsWrong)

/-- 'reticulelaw01.NumberTexts': WHATEVER THE INPUT: true; the input reads as it did. -/
def numberTextsSpec : ChangeSpec := { name := "numberTexts", fn := fun _ => fun
  | [d1, d2] => { results := [.lit (.bool true)], args := [d1, d2] }
  | _ => none }
def numberTextsRow : OpenClaim := { program := "ytibfmdehmdploaa", sum := "3468ea2cbeb6e40dabda401fa826e58cab1a5ba11e2235317f85c07547cf24bb", func := "reticule/reticulelaw01.NumberTexts", spec := "numberTexts", apart := false }
def NumberTextsSaid : Prop := numberTextsRow.holds Try.pinned (OpenSpec.ofChange numberTextsSpec)

/-- ITS FALSE NEIGHBOUR: 'it returns false'. Refute it at one input. -/
def numberTextsWrong : ChangeSpec := { name := "numberTexts", fn := fun _ => fun
  | [d1, d2] => { results := [.lit (.bool false)], args := [d1, d2] }
  | _ => none }
def NumberTextsWrongFalsely : Prop := numberTextsRow.holds Try.pinned (OpenSpec.ofChange numberTextsWrong)

/- THE SECOND FORM. 'bulk': how many values and letters a reading holds, each counted each time it is reached (what is shared counts as often as it is met; a slice's spare places count too). A statement '..UptoSaid' is the law's where the arguments, and the package variables that the reading takes, are together of bulk at most 1048576: NARROWER than '..Said'. Prove '..Said' where nothing that the law and all that it calls make is longer than what came in: it says more and counts as full. Else prove '..UptoSaid'. A law counts once. -/
mutual
def uptoBulk {H : Type} : DataW H → Nat
  | .lit (.string bytes) => bytes.length + 1
  | .lit _ => 1
  | .nil => 1
  | .ptr d => uptoBulk d + 1
  | .slice elems spare => uptoBulkAll elems + uptoBulkAll spare + 1
  | .agg parts => uptoBulkAll parts + 1
  | .iface _ d => uptoBulk d + 1
  | .map entries => uptoBulkEntries entries + 1
  | .held _ => 1
def uptoBulkAll {H : Type} : List (DataW H) → Nat
  | [] => 0
  | d :: r => uptoBulk d + uptoBulkAll r
def uptoBulkEntries {H : Type} : List (Lit × DataW H) → Nat
  | [] => 0
  | x :: r => uptoBulkEntry x + uptoBulkEntries r
def uptoBulkEntry {H : Type} : Lit × DataW H → Nat
  | (.string bytes, d) => bytes.length + uptoBulk d + 1
  | (_, d) => uptoBulk d + 1
 end
def uptoSmall : (H : Type) → List (DataW H) → Bool := fun _ ds => decide (uptoBulkAll ds ≤ 1048576)
def OpenSpec.upto (s : _root_.Go.ChangeSpec) : _root_.Go.OpenSpec := { _root_.Go.OpenSpec.ofChange s with cond := some uptoSmall }

/-- 'reticulelaw01.NumberReads', WHERE WHAT IT READS IS OF BULK AT MOST 1048576: true; the input reads as it did. -/
def numberReadsUptoRow : OpenClaim := { program := "ytibfmdehmdploaa", sum := "3468ea2cbeb6e40dabda401fa826e58cab1a5ba11e2235317f85c07547cf24bb", func := "reticule/reticulelaw01.NumberReads", spec := "numberReads", apart := false, narrowed := true }
def NumberReadsUptoSaid : Prop := numberReadsUptoRow.holds Try.pinned (OpenSpec.upto numberReadsSpec)

/-- 'reticulelaw01.NumberPuts', WHERE WHAT IT READS IS OF BULK AT MOST 1048576: true; the input reads as it did. -/
def numberPutsUptoRow : OpenClaim := { program := "ytibfmdehmdploaa", sum := "3468ea2cbeb6e40dabda401fa826e58cab1a5ba11e2235317f85c07547cf24bb", func := "reticule/reticulelaw01.NumberPuts", spec := "numberPuts", apart := false, narrowed := true }
def NumberPutsUptoSaid : Prop := numberPutsUptoRow.holds Try.pinned (OpenSpec.upto numberPutsSpec)

/-- 'reticulelaw01.NumberBits', WHERE WHAT IT READS IS OF BULK AT MOST 1048576: true; the input reads as it did. -/
def numberBitsUptoRow : OpenClaim := { program := "ytibfmdehmdploaa", sum := "3468ea2cbeb6e40dabda401fa826e58cab1a5ba11e2235317f85c07547cf24bb", func := "reticule/reticulelaw01.NumberBits", spec := "numberBits", apart := false, narrowed := true }
def NumberBitsUptoSaid : Prop := numberBitsUptoRow.holds Try.pinned (OpenSpec.upto numberBitsSpec)

/-- 'reticulelaw01.NumberBack', WHERE WHAT IT READS IS OF BULK AT MOST 1048576: true; the input reads as it did. -/
def numberBackUptoRow : OpenClaim := { program := "ytibfmdehmdploaa", sum := "3468ea2cbeb6e40dabda401fa826e58cab1a5ba11e2235317f85c07547cf24bb", func := "reticule/reticulelaw01.NumberBack", spec := "numberBack", apart := false, narrowed := true }
def NumberBackUptoSaid : Prop := numberBackUptoRow.holds Try.pinned (OpenSpec.upto numberBackSpec)

/-- 'reticulelaw01.NumberSets', WHERE WHAT IT READS IS OF BULK AT MOST 1048576: true; the input reads as it did. -/
def numberSetsUptoRow : OpenClaim := { program := "ytibfmdehmdploaa", sum := "3468ea2cbeb6e40dabda401fa826e58cab1a5ba11e2235317f85c07547cf24bb", func := "reticule/reticulelaw01.NumberSets", spec := "numberSets", apart := false, narrowed := true }
def NumberSetsUptoSaid : Prop := numberSetsUptoRow.holds Try.pinned (OpenSpec.upto numberSetsSpec)

/-- 'reticulelaw01.NumberTexts', WHERE WHAT IT READS IS OF BULK AT MOST 1048576: true; the input reads as it did. -/
def numberTextsUptoRow : OpenClaim := { program := "ytibfmdehmdploaa", sum := "3468ea2cbeb6e40dabda401fa826e58cab1a5ba11e2235317f85c07547cf24bb", func := "reticule/reticulelaw01.NumberTexts", spec := "numberTexts", apart := false, narrowed := true }
def NumberTextsUptoSaid : Prop := numberTextsUptoRow.holds Try.pinned (OpenSpec.upto numberTextsSpec)

end Rows
end Go.Proofs.Ytibfmdehmdploaa
