/-
  No cell of these rows narrows 'for every input' (looked for: loops, veiled, ifaces, maps, wideKeys, modest, calm, conditions, laid).
  DERIVED. THE GIVEN ROWS OF THIS SEAT. 3 by the template 'for every input the law returns true; each argument reads behind the call as it read before'; 0 by the template 'total and deterministic' (their statements: YtgonclhpilkpmaaTotals.lean).
  GIVEN WITH THE SEED: the statements are not yours to turn. If you find one false, say at which input.
  Laid BY PROGRAM, IN A SANDBOX (cutbox-rows.mjs): the forced cells as the released guide's own fill.sh prints them over the translation 020450f7a63b48de… (all of the seat's roots in one cut). By AI agents, Wed Nov 11 2026. No macro, syntax, notation, axiom, sorry.
-/
import Derived.Test.YtgonclhpilkpmaaChecked
import GoSem.Claim
import GoSem.ClaimJoined
import GoSem.ClaimMapViews
import Derived.JoinedTies
import Derived.KernelRfl
namespace Go.Proofs.Ytgonclhpilkpmaa
/- THE CELL 'sum', in the pinned program and in every row, IS THE sha256 OF THE DUMP (.gsa) THAT YtgonclhpilkpmaaProg.lean LOADS. Nothing in Lean hashes anything: it is a label: what it is worth is what the hold of that sum in a sandbox is worth. -/
noncomputable def Try.pinned : Pinned := { name := "ytgonclhpilkpmaa", sum := "020450f7a63b48de21980761301a3cea8b6f1dccde2063ab2b33a5a9480317c9", checked := Try.checked }
namespace Rows
def none {H : Type} : Left H := { results := [], args := [] }

/-- 'reticulelaw09.CapacityTells': WHATEVER THE INPUT: true; the input reads as it did. -/
def capacityTellsSpec : ChangeSpec := { name := "capacityTells", fn := fun _ => fun
  | [d1, d2, d3] => { results := [.lit (.bool true)], args := [d1, d2, d3] }
  | _ => none }
def capacityTellsRow : OpenClaim := { program := "ytgonclhpilkpmaa", sum := "020450f7a63b48de21980761301a3cea8b6f1dccde2063ab2b33a5a9480317c9", func := "reticule/reticulelaw09.CapacityTells", spec := "capacityTells", apart := false }
def CapacityTellsSaid : Prop := capacityTellsRow.holds Try.pinned (OpenSpec.ofChange capacityTellsSpec)

/-- ITS FALSE NEIGHBOUR: 'it returns false'. Refute it at one input. -/
def capacityTellsWrong : ChangeSpec := { name := "capacityTells", fn := fun _ => fun
  | [d1, d2, d3] => { results := [.lit (.bool false)], args := [d1, d2, d3] }
  | _ => none }
def CapacityTellsWrongFalsely : Prop := capacityTellsRow.holds Try.pinned (OpenSpec.ofChange capacityTellsWrong)

/-- 'reticulelaw09.CapacityBack': WHATEVER THE INPUT: true; the input reads as it did. -/
def capacityBackSpec : ChangeSpec := { name := "capacityBack", fn := fun _ => fun
  | [d1, d2] => { results := [.lit (.bool true)], args := [d1, d2] }
  | _ => none }
def capacityBackRow : OpenClaim := { program := "ytgonclhpilkpmaa", sum := "020450f7a63b48de21980761301a3cea8b6f1dccde2063ab2b33a5a9480317c9", func := "reticule/reticulelaw09.CapacityBack", spec := "capacityBack", apart := false }
def CapacityBackSaid : Prop := capacityBackRow.holds Try.pinned (OpenSpec.ofChange capacityBackSpec)

/-- ITS FALSE NEIGHBOUR: 'it returns false'. Refute it at one input. -/
def capacityBackWrong : ChangeSpec := { name := "capacityBack", fn := fun _ => fun
  | [d1, d2] => { results := [.lit (.bool false)], args := [d1, d2] }
  | _ => none }
def CapacityBackWrongFalsely : Prop := capacityBackRow.holds Try.pinned (OpenSpec.ofChange capacityBackWrong)

/-- 'reticulelaw09.CapacityCuts': WHATEVER THE INPUT: true; the input reads as it did. -/
def capacityCutsSpec : ChangeSpec := { name := "capacityCuts", fn := fun _ => fun
  | [d1, d2, d3] => { results := [.lit (.bool true)], args := [d1, d2, d3] }
  | _ => none }
def capacityCutsRow : OpenClaim := { program := "ytgonclhpilkpmaa", sum := "020450f7a63b48de21980761301a3cea8b6f1dccde2063ab2b33a5a9480317c9", func := "reticule/reticulelaw09.CapacityCuts", spec := "capacityCuts", apart := false }
def CapacityCutsSaid : Prop := capacityCutsRow.holds Try.pinned (OpenSpec.ofChange capacityCutsSpec)

/-- ITS FALSE NEIGHBOUR: 'it returns false'. Refute it at one input. -/
def capacityCutsWrong : ChangeSpec := { name := "capacityCuts", fn := fun _ => fun
  | [d1, d2, d3] => { results := [.lit (.bool false)], args := [d1, d2, d3] }
  | _ => none }
def CapacityCutsWrongFalsely : Prop := capacityCutsRow.holds Try.pinned (OpenSpec.ofChange capacityCutsWrong)

/- THE SECOND FORM. 'bulk': how many values and letters a reading holds, each counted each time it is reached (what is shared counts as often as it is met; a slice's spare places count too). A statement '..UptoSaid' is the law's where the arguments, and the package variables that the reading takes, are together of bulk at most 1048576: NARROWER than '..Said'. Prove '..Said' where nothing that the law and all that it calls make is longer than what came in: it says more and counts as full. Else prove '..UptoSaid'. A law counts once. -/
mutual
def uptoBulk {H : Type} : DataW H → Nat
  | .lit (.string bytes) => bytes.length + 1
  | .lit _ => 1
  | .nil => 1
  | .ptr d => uptoBulk d + 1
  | .slice elems spare => uptoBulkAll elems + uptoBulkAll spare + 1
  | .agg parts => uptoBulkAll parts + 1
  | .iface _ d => uptoBulk d + 1
  | .map entries => uptoBulkEntries entries + 1
  | .held _ => 1
def uptoBulkAll {H : Type} : List (DataW H) → Nat
  | [] => 0
  | d :: r => uptoBulk d + uptoBulkAll r
def uptoBulkEntries {H : Type} : List (Lit × DataW H) → Nat
  | [] => 0
  | x :: r => uptoBulkEntry x + uptoBulkEntries r
def uptoBulkEntry {H : Type} : Lit × DataW H → Nat
  | (.string bytes, d) => bytes.length + uptoBulk d + 1
  | (_, d) => uptoBulk d + 1
 end
def uptoSmall : (H : Type) → List (DataW H) → Bool := fun _ ds => decide (uptoBulkAll ds ≤ 1048576)
def OpenSpec.upto (s : _root_.Go.ChangeSpec) : _root_.Go.OpenSpec := { _root_.Go.OpenSpec.ofChange s with cond := some uptoSmall }

/-- 'reticulelaw09.CapacityTells', WHERE WHAT IT READS IS OF BULK AT MOST 1048576: true; the input reads as it did. -/
def capacityTellsUptoRow : OpenClaim := { program := "ytgonclhpilkpmaa", sum := "020450f7a63b48de21980761301a3cea8b6f1dccde2063ab2b33a5a9480317c9", func := "reticule/reticulelaw09.CapacityTells", spec := "capacityTells", apart := false, narrowed := true }
def CapacityTellsUptoSaid : Prop := capacityTellsUptoRow.holds Try.pinned (OpenSpec.upto capacityTellsSpec)

/-- 'reticulelaw09.CapacityBack', WHERE WHAT IT READS IS OF BULK AT MOST 1048576: true; the input reads as it did. -/
def capacityBackUptoRow : OpenClaim := { program := "ytgonclhpilkpmaa", sum := "020450f7a63b48de21980761301a3cea8b6f1dccde2063ab2b33a5a9480317c9", func := "reticule/reticulelaw09.CapacityBack", spec := "capacityBack", apart := false, narrowed := true }
def CapacityBackUptoSaid : Prop := capacityBackUptoRow.holds Try.pinned (OpenSpec.upto capacityBackSpec)

/-- 'reticulelaw09.CapacityCuts', WHERE WHAT IT READS IS OF BULK AT MOST 1048576: true; the input reads as it did. -/
def capacityCutsUptoRow : OpenClaim := { program := "ytgonclhpilkpmaa", sum := "020450f7a63b48de21980761301a3cea8b6f1dccde2063ab2b33a5a9480317c9", func := "reticule/reticulelaw09.CapacityCuts", spec := "capacityCuts", apart := false, narrowed := true }
def CapacityCutsUptoSaid : Prop := capacityCutsUptoRow.holds Try.pinned (OpenSpec.upto capacityCutsSpec)

end Rows
end Go.Proofs.Ytgonclhpilkpmaa
