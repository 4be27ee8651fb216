/-
  No cell of these rows narrows 'for every input' (looked for: loops, veiled, ifaces, maps, wideKeys, modest, calm, conditions, laid).
  DERIVED. THE GIVEN ROWS OF THIS SEAT. 5 by the template 'for every input the law returns true; each argument reads behind the call as it read before'; 0 by the template 'total and deterministic' (their statements: YtmkoigeofajhfaaTotals.lean).
  GIVEN WITH THE SEED: the statements are not yours to turn. If you find one false, say at which input.
  Laid BY PROGRAM, IN A SANDBOX (cutbox-rows.mjs): the forced cells as the released guide's own fill.sh prints them over the translation d43114e59a707351… (all of the seat's roots in one cut). By AI agents, Wed Nov 11 2026. No macro, syntax, notation, axiom, sorry.
-/
import Derived.Test.YtmkoigeofajhfaaChecked
import GoSem.Claim
import GoSem.ClaimJoined
import GoSem.ClaimMapViews
import Derived.JoinedTies
import Derived.KernelRfl
namespace Go.Proofs.Ytmkoigeofajhfaa
/- THE CELL 'sum', in the pinned program and in every row, IS THE sha256 OF THE DUMP (.gsa) THAT YtmkoigeofajhfaaProg.lean LOADS. Nothing in Lean hashes anything: it is a label: what it is worth is what the hold of that sum in a sandbox is worth. -/
noncomputable def Try.pinned : Pinned := { name := "ytmkoigeofajhfaa", sum := "d43114e59a707351d9c09107102537363b9cb27a98da077849749f6b887b2752", checked := Try.checked }
namespace Rows
def none {H : Type} : Left H := { results := [], args := [] }

/-- 'reticulelaw22.IuReads': WHATEVER THE INPUT: true; the input reads as it did. -/
def iuReadsSpec : ChangeSpec := { name := "iuReads", fn := fun _ => fun
  | [d] => { results := [.lit (.bool true)], args := [d] }
  | _ => none }
def iuReadsRow : OpenClaim := { program := "ytmkoigeofajhfaa", sum := "d43114e59a707351d9c09107102537363b9cb27a98da077849749f6b887b2752", func := "reticule/reticulelaw22.IuReads", spec := "iuReads", apart := false }
def IuReadsSaid : Prop := iuReadsRow.holds Try.pinned (OpenSpec.ofChange iuReadsSpec)

/-- ITS FALSE NEIGHBOUR: 'it returns false'. Refute it at one input. -/
def iuReadsWrong : ChangeSpec := { name := "iuReads", fn := fun _ => fun
  | [d] => { results := [.lit (.bool false)], args := [d] }
  | _ => none }
def IuReadsWrongFalsely : Prop := iuReadsRow.holds Try.pinned (OpenSpec.ofChange iuReadsWrong)

/-- 'reticulelaw22.IuPuts': WHATEVER THE INPUT: true; the input reads as it did. -/
def iuPutsSpec : ChangeSpec := { name := "iuPuts", fn := fun _ => fun
  | [d1, d2] => { results := [.lit (.bool true)], args := [d1, d2] }
  | _ => none }
def iuPutsRow : OpenClaim := { program := "ytmkoigeofajhfaa", sum := "d43114e59a707351d9c09107102537363b9cb27a98da077849749f6b887b2752", func := "reticule/reticulelaw22.IuPuts", spec := "iuPuts", apart := false }
def IuPutsSaid : Prop := iuPutsRow.holds Try.pinned (OpenSpec.ofChange iuPutsSpec)

/-- ITS FALSE NEIGHBOUR: 'it returns false'. Refute it at one input. -/
def iuPutsWrong : ChangeSpec := { name := "iuPuts", fn := fun _ => fun
  | [d1, d2] => { results := [.lit (.bool false)], args := [d1, d2] }
  | _ => none }
def IuPutsWrongFalsely : Prop := iuPutsRow.holds Try.pinned (OpenSpec.ofChange iuPutsWrong)

/-- 'reticulelaw22.IuTells': WHATEVER THE INPUT: true; the input reads as it did. -/
def iuTellsSpec : ChangeSpec := { name := "iuTells", fn := fun _ => fun
  | [d1, d2, d3] => { results := [.lit (.bool true)], args := [d1, d2, d3] }
  | _ => none }
def iuTellsRow : OpenClaim := { program := "ytmkoigeofajhfaa", sum := "d43114e59a707351d9c09107102537363b9cb27a98da077849749f6b887b2752", func := "reticule/reticulelaw22.IuTells", spec := "iuTells", apart := false }
def IuTellsSaid : Prop := iuTellsRow.holds Try.pinned (OpenSpec.ofChange iuTellsSpec)

/-- ITS FALSE NEIGHBOUR: 'it returns false'. Refute it at one input. -/
def iuTellsWrong : ChangeSpec := { name := "iuTells", fn := fun _ => fun
  | [d1, d2, d3] => { results := [.lit (.bool false)], args := [d1, d2, d3] }
  | _ => none }
def IuTellsWrongFalsely : Prop := iuTellsRow.holds Try.pinned (OpenSpec.ofChange iuTellsWrong)

/-- 'reticulelaw22.IuBack': WHATEVER THE INPUT: true; the input reads as it did. -/
def iuBackSpec : ChangeSpec := { name := "iuBack", fn := fun _ => fun
  | [d1, d2, d3] => { results := [.lit (.bool true)], args := [d1, d2, d3] }
  | _ => none }
def iuBackRow : OpenClaim := { program := "ytmkoigeofajhfaa", sum := "d43114e59a707351d9c09107102537363b9cb27a98da077849749f6b887b2752", func := "reticule/reticulelaw22.IuBack", spec := "iuBack", apart := false }
def IuBackSaid : Prop := iuBackRow.holds Try.pinned (OpenSpec.ofChange iuBackSpec)

/-- ITS FALSE NEIGHBOUR: 'it returns false'. Refute it at one input. -/
def iuBackWrong : ChangeSpec := { name := "iuBack", fn := fun _ => fun
  | [d1, d2, d3] => { results := [.lit (.bool false)], args := [d1, d2, d3] }
  | _ => none }
def IuBackWrongFalsely : Prop := iuBackRow.holds Try.pinned (OpenSpec.ofChange iuBackWrong)

/-- 'reticulelaw22.IuTurned': WHATEVER THE INPUT: true; the input reads as it did. -/
def iuTurnedSpec : ChangeSpec := { name := "iuTurned", fn := fun _ => fun
  | [d1, d2, d3] => { results := [.lit (.bool true)], args := [d1, d2, d3] }
  | _ => none }
def iuTurnedRow : OpenClaim := { program := "ytmkoigeofajhfaa", sum := "d43114e59a707351d9c09107102537363b9cb27a98da077849749f6b887b2752", func := "reticule/reticulelaw22.IuTurned", spec := "iuTurned", apart := false }
def IuTurnedSaid : Prop := iuTurnedRow.holds Try.pinned (OpenSpec.ofChange iuTurnedSpec)

/-- ITS FALSE NEIGHBOUR: 'it returns false'. Refute it at one input. -/
def iuTurnedWrong : ChangeSpec := { name := "iuTurned", fn := fun _ => fun
  | [d1, d2, d3] => { results := [.lit (.bool false)], args := [d1, d2, d3] }
  | _ => none }
def IuTurnedWrongFalsely : Prop := iuTurnedRow.holds Try.pinned (OpenSpec.ofChange iuTurnedWrong)

/- THE SECOND FORM. 'bulk': how many values and letters a reading holds, each counted each time it is reached (what is shared counts as often as it is met; a slice's spare places count too). A statement '..UptoSaid' is the law's where the arguments, and the package variables that the reading takes, are together of bulk at most 1048576: NARROWER than '..Said'. Prove '..Said' where nothing that the law and all that it calls make is longer than what came in: it says more and counts as full. Else prove '..UptoSaid'. A law counts once. -/
mutual
def uptoBulk {H : Type} : DataW H → Nat
  | .lit (.string bytes) => bytes.length + 1
  | .lit _ => 1
  | .nil => 1
  | .ptr d => uptoBulk d + 1
  | .slice elems spare => uptoBulkAll elems + uptoBulkAll spare + 1
  | .agg parts => uptoBulkAll parts + 1
  | .iface _ d => uptoBulk d + 1
  | .map entries => uptoBulkEntries entries + 1
  | .held _ => 1
def uptoBulkAll {H : Type} : List (DataW H) → Nat
  | [] => 0
  | d :: r => uptoBulk d + uptoBulkAll r
def uptoBulkEntries {H : Type} : List (Lit × DataW H) → Nat
  | [] => 0
  | x :: r => uptoBulkEntry x + uptoBulkEntries r
def uptoBulkEntry {H : Type} : Lit × DataW H → Nat
  | (.string bytes, d) => bytes.length + uptoBulk d + 1
  | (_, d) => uptoBulk d + 1
 end
def uptoSmall : (H : Type) → List (DataW H) → Bool := fun _ ds => decide (uptoBulkAll ds ≤ 1048576)
def OpenSpec.upto (s : _root_.Go.ChangeSpec) : _root_.Go.OpenSpec := { _root_.Go.OpenSpec.ofChange s with cond := some uptoSmall }

/-- 'reticulelaw22.IuReads', WHERE WHAT IT READS IS OF BULK AT MOST 1048576: true; the input reads as it did. -/
def iuReadsUptoRow : OpenClaim := { program := "ytmkoigeofajhfaa", sum := "d43114e59a707351d9c09107102537363b9cb27a98da077849749f6b887b2752", func := "reticule/reticulelaw22.IuReads", spec := "iuReads", apart := false, narrowed := true }
def IuReadsUptoSaid : Prop := iuReadsUptoRow.holds Try.pinned (OpenSpec.upto iuReadsSpec)

/-- 'reticulelaw22.IuPuts', WHERE WHAT IT READS IS OF BULK AT MOST 1048576: true; the input reads as it did. -/
def iuPutsUptoRow : OpenClaim := { program := "ytmkoigeofajhfaa", sum := "d43114e59a707351d9c09107102537363b9cb27a98da077849749f6b887b2752", func := "reticule/reticulelaw22.IuPuts", spec := "iuPuts", apart := false, narrowed := true }
def IuPutsUptoSaid : Prop := iuPutsUptoRow.holds Try.pinned (OpenSpec.upto iuPutsSpec)

/-- 'reticulelaw22.IuTells', WHERE WHAT IT READS IS OF BULK AT MOST 1048576: true; the input reads as it did. -/
def iuTellsUptoRow : OpenClaim := { program := "ytmkoigeofajhfaa", sum := "d43114e59a707351d9c09107102537363b9cb27a98da077849749f6b887b2752", func := "reticule/reticulelaw22.IuTells", spec := "iuTells", apart := false, narrowed := true }
def IuTellsUptoSaid : Prop := iuTellsUptoRow.holds Try.pinned (OpenSpec.upto iuTellsSpec)

/-- 'reticulelaw22.IuBack', WHERE WHAT IT READS IS OF BULK AT MOST 1048576: true; the input reads as it did. -/
def iuBackUptoRow : OpenClaim := { program := "ytmkoigeofajhfaa", sum := "d43114e59a707351d9c09107102537363b9cb27a98da077849749f6b887b2752", func := "reticule/reticulelaw22.IuBack", spec := "iuBack", apart := false, narrowed := true }
def IuBackUptoSaid : Prop := iuBackUptoRow.holds Try.pinned (OpenSpec.upto iuBackSpec)

/-- 'reticulelaw22.IuTurned', WHERE WHAT IT READS IS OF BULK AT MOST 1048576: true; the input reads as it did. -/
def iuTurnedUptoRow : OpenClaim := { program := "ytmkoigeofajhfaa", sum := "d43114e59a707351d9c09107102537363b9cb27a98da077849749f6b887b2752", func := "reticule/reticulelaw22.IuTurned", spec := "iuTurned", apart := false, narrowed := true }
def IuTurnedUptoSaid : Prop := iuTurnedUptoRow.holds Try.pinned (OpenSpec.upto iuTurnedSpec)

end Rows
end Go.Proofs.Ytmkoigeofajhfaa
