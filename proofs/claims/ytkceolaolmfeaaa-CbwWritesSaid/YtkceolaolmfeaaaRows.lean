/-
  No cell of these rows narrows 'for every input' (looked for: loops, veiled, ifaces, maps, wideKeys, modest, calm, conditions, laid).
  DERIVED. THE GIVEN ROWS OF THIS SEAT. 5 by the template 'for every input the law returns true; each argument reads behind the call as it read before'; 0 by the template 'total and deterministic' (their statements: YtkceolaolmfeaaaTotals.lean).
  GIVEN WITH THE SEED: the statements are not yours to turn. If you find one false, say at which input.
  Laid BY PROGRAM, IN A SANDBOX (cutbox-rows.mjs): the forced cells as the released guide's own fill.sh prints them over the translation 1f96e09e1fe32ff4… (all of the seat's roots in one cut). By AI agents, Wed Nov 11 2026. No macro, syntax, notation, axiom, sorry.
-/
import Derived.Test.YtkceolaolmfeaaaChecked
import GoSem.Claim
import GoSem.ClaimJoined
import GoSem.ClaimMapViews
import Derived.JoinedTies
import Derived.KernelRfl
namespace Go.Proofs.Ytkceolaolmfeaaa
/- THE CELL 'sum', in the pinned program and in every row, IS THE sha256 OF THE DUMP (.gsa) THAT YtkceolaolmfeaaaProg.lean LOADS. Nothing in Lean hashes anything: it is a label: what it is worth is what the hold of that sum in a sandbox is worth. -/
noncomputable def Try.pinned : Pinned := { name := "ytkceolaolmfeaaa", sum := "1f96e09e1fe32ff43eaeda358851571fe27dc6ee8edbd59ae3a5f7e18db71b38", checked := Try.checked }
namespace Rows
def none {H : Type} : Left H := { results := [], args := [] }

/-- 'reticulelaw19.CbwReads': WHATEVER THE INPUT: true; the input reads as it did. -/
def cbwReadsSpec : ChangeSpec := { name := "cbwReads", fn := fun _ => fun
  | [d1, d2] => { results := [.lit (.bool true)], args := [d1, d2] }
  | _ => none }
def cbwReadsRow : OpenClaim := { program := "ytkceolaolmfeaaa", sum := "1f96e09e1fe32ff43eaeda358851571fe27dc6ee8edbd59ae3a5f7e18db71b38", func := "reticule/reticulelaw19.CbwReads", spec := "cbwReads", apart := false }
def CbwReadsSaid : Prop := cbwReadsRow.holds Try.pinned (OpenSpec.ofChange cbwReadsSpec)

/-- ITS FALSE NEIGHBOUR: 'it returns false'. Refute it at one input. -/
def cbwReadsWrong : ChangeSpec := { name := "cbwReads", fn := fun _ => fun
  | [d1, d2] => { results := [.lit (.bool false)], args := [d1, d2] }
  | _ => none }
def CbwReadsWrongFalsely : Prop := cbwReadsRow.holds Try.pinned (OpenSpec.ofChange cbwReadsWrong)

/-- 'reticulelaw19.CbwWrites': WHATEVER THE INPUT: true; the input reads as it did. -/
def cbwWritesSpec : ChangeSpec := { name := "cbwWrites", fn := fun _ => fun
  | [d1, d2] => { results := [.lit (.bool true)], args := [d1, d2] }
  | _ => none }
def cbwWritesRow : OpenClaim := { program := "ytkceolaolmfeaaa", sum := "1f96e09e1fe32ff43eaeda358851571fe27dc6ee8edbd59ae3a5f7e18db71b38", func := "reticule/reticulelaw19.CbwWrites", spec := "cbwWrites", apart := false }
def CbwWritesSaid : Prop := cbwWritesRow.holds Try.pinned (OpenSpec.ofChange cbwWritesSpec)

/-- ITS FALSE NEIGHBOUR: 'it returns false'. Refute it at one input. -/
def cbwWritesWrong : ChangeSpec := { name := "cbwWrites", fn := fun _ => fun
  | [d1, d2] => { results := [.lit (.bool false)], args := [d1, d2] }
  | _ => none }
def CbwWritesWrongFalsely : Prop := cbwWritesRow.holds Try.pinned (OpenSpec.ofChange cbwWritesWrong)

/-- 'reticulelaw19.CbwStatus': WHATEVER THE INPUT: true; the input reads as it did. -/
def cbwStatusSpec : ChangeSpec := { name := "cbwStatus", fn := fun _ => fun
  | [d1, d2] => { results := [.lit (.bool true)], args := [d1, d2] }
  | _ => none }
def cbwStatusRow : OpenClaim := { program := "ytkceolaolmfeaaa", sum := "1f96e09e1fe32ff43eaeda358851571fe27dc6ee8edbd59ae3a5f7e18db71b38", func := "reticule/reticulelaw19.CbwStatus", spec := "cbwStatus", apart := false }
def CbwStatusSaid : Prop := cbwStatusRow.holds Try.pinned (OpenSpec.ofChange cbwStatusSpec)

/-- ITS FALSE NEIGHBOUR: 'it returns false'. Refute it at one input. -/
def cbwStatusWrong : ChangeSpec := { name := "cbwStatus", fn := fun _ => fun
  | [d1, d2] => { results := [.lit (.bool false)], args := [d1, d2] }
  | _ => none }
def CbwStatusWrongFalsely : Prop := cbwStatusRow.holds Try.pinned (OpenSpec.ofChange cbwStatusWrong)

/-- 'reticulelaw19.CbwBack': WHATEVER THE INPUT: true; the input reads as it did. -/
def cbwBackSpec : ChangeSpec := { name := "cbwBack", fn := fun _ => fun
  | [d1, d2, d3] => { results := [.lit (.bool true)], args := [d1, d2, d3] }
  | _ => none }
def cbwBackRow : OpenClaim := { program := "ytkceolaolmfeaaa", sum := "1f96e09e1fe32ff43eaeda358851571fe27dc6ee8edbd59ae3a5f7e18db71b38", func := "reticule/reticulelaw19.CbwBack", spec := "cbwBack", apart := false }
def CbwBackSaid : Prop := cbwBackRow.holds Try.pinned (OpenSpec.ofChange cbwBackSpec)

/-- ITS FALSE NEIGHBOUR: 'it returns false'. Refute it at one input. -/
def cbwBackWrong : ChangeSpec := { name := "cbwBack", fn := fun _ => fun
  | [d1, d2, d3] => { results := [.lit (.bool false)], args := [d1, d2, d3] }
  | _ => none }
def CbwBackWrongFalsely : Prop := cbwBackRow.holds Try.pinned (OpenSpec.ofChange cbwBackWrong)

/-- 'reticulelaw19.CbwTurned': WHATEVER THE INPUT: true; the input reads as it did. -/
def cbwTurnedSpec : ChangeSpec := { name := "cbwTurned", fn := fun _ => fun
  | [d1, d2, d3] => { results := [.lit (.bool true)], args := [d1, d2, d3] }
  | _ => none }
def cbwTurnedRow : OpenClaim := { program := "ytkceolaolmfeaaa", sum := "1f96e09e1fe32ff43eaeda358851571fe27dc6ee8edbd59ae3a5f7e18db71b38", func := "reticule/reticulelaw19.CbwTurned", spec := "cbwTurned", apart := false }
def CbwTurnedSaid : Prop := cbwTurnedRow.holds Try.pinned (OpenSpec.ofChange cbwTurnedSpec)

/-- ITS FALSE NEIGHBOUR: 'it returns false'. Refute it at one input. -/
def cbwTurnedWrong : ChangeSpec := { name := "cbwTurned", fn := fun _ => fun
  | [d1, d2, d3] => { results := [.lit (.bool false)], args := [d1, d2, d3] }
  | _ => none }
def CbwTurnedWrongFalsely : Prop := cbwTurnedRow.holds Try.pinned (OpenSpec.ofChange cbwTurnedWrong)

/- THE SECOND FORM. 'bulk': how many values and letters a reading holds, each counted each time it is reached (what is shared counts as often as it is met; a slice's spare places count too). A statement '..UptoSaid' is the law's where the arguments, and the package variables that the reading takes, are together of bulk at most 1048576: NARROWER than '..Said'. Prove '..Said' where nothing that the law and all that it calls make is longer than what came in: it says more and counts as full. Else prove '..UptoSaid'. A law counts once. -/
mutual
def uptoBulk {H : Type} : DataW H → Nat
  | .lit (.string bytes) => bytes.length + 1
  | .lit _ => 1
  | .nil => 1
  | .ptr d => uptoBulk d + 1
  | .slice elems spare => uptoBulkAll elems + uptoBulkAll spare + 1
  | .agg parts => uptoBulkAll parts + 1
  | .iface _ d => uptoBulk d + 1
  | .map entries => uptoBulkEntries entries + 1
  | .held _ => 1
def uptoBulkAll {H : Type} : List (DataW H) → Nat
  | [] => 0
  | d :: r => uptoBulk d + uptoBulkAll r
def uptoBulkEntries {H : Type} : List (Lit × DataW H) → Nat
  | [] => 0
  | x :: r => uptoBulkEntry x + uptoBulkEntries r
def uptoBulkEntry {H : Type} : Lit × DataW H → Nat
  | (.string bytes, d) => bytes.length + uptoBulk d + 1
  | (_, d) => uptoBulk d + 1
 end
def uptoSmall : (H : Type) → List (DataW H) → Bool := fun _ ds => decide (uptoBulkAll ds ≤ 1048576)
def OpenSpec.upto (s : _root_.Go.ChangeSpec) : _root_.Go.OpenSpec := { _root_.Go.OpenSpec.ofChange s with cond := some uptoSmall }

/-- 'reticulelaw19.CbwReads', WHERE WHAT IT READS IS OF BULK AT MOST 1048576: true; the input reads as it did. -/
def cbwReadsUptoRow : OpenClaim := { program := "ytkceolaolmfeaaa", sum := "1f96e09e1fe32ff43eaeda358851571fe27dc6ee8edbd59ae3a5f7e18db71b38", func := "reticule/reticulelaw19.CbwReads", spec := "cbwReads", apart := false, narrowed := true }
def CbwReadsUptoSaid : Prop := cbwReadsUptoRow.holds Try.pinned (OpenSpec.upto cbwReadsSpec)

/-- 'reticulelaw19.CbwWrites', WHERE WHAT IT READS IS OF BULK AT MOST 1048576: true; the input reads as it did. -/
def cbwWritesUptoRow : OpenClaim := { program := "ytkceolaolmfeaaa", sum := "1f96e09e1fe32ff43eaeda358851571fe27dc6ee8edbd59ae3a5f7e18db71b38", func := "reticule/reticulelaw19.CbwWrites", spec := "cbwWrites", apart := false, narrowed := true }
def CbwWritesUptoSaid : Prop := cbwWritesUptoRow.holds Try.pinned (OpenSpec.upto cbwWritesSpec)

/-- 'reticulelaw19.CbwStatus', WHERE WHAT IT READS IS OF BULK AT MOST 1048576: true; the input reads as it did. -/
def cbwStatusUptoRow : OpenClaim := { program := "ytkceolaolmfeaaa", sum := "1f96e09e1fe32ff43eaeda358851571fe27dc6ee8edbd59ae3a5f7e18db71b38", func := "reticule/reticulelaw19.CbwStatus", spec := "cbwStatus", apart := false, narrowed := true }
def CbwStatusUptoSaid : Prop := cbwStatusUptoRow.holds Try.pinned (OpenSpec.upto cbwStatusSpec)

/-- 'reticulelaw19.CbwBack', WHERE WHAT IT READS IS OF BULK AT MOST 1048576: true; the input reads as it did. -/
def cbwBackUptoRow : OpenClaim := { program := "ytkceolaolmfeaaa", sum := "1f96e09e1fe32ff43eaeda358851571fe27dc6ee8edbd59ae3a5f7e18db71b38", func := "reticule/reticulelaw19.CbwBack", spec := "cbwBack", apart := false, narrowed := true }
def CbwBackUptoSaid : Prop := cbwBackUptoRow.holds Try.pinned (OpenSpec.upto cbwBackSpec)

/-- 'reticulelaw19.CbwTurned', WHERE WHAT IT READS IS OF BULK AT MOST 1048576: true; the input reads as it did. -/
def cbwTurnedUptoRow : OpenClaim := { program := "ytkceolaolmfeaaa", sum := "1f96e09e1fe32ff43eaeda358851571fe27dc6ee8edbd59ae3a5f7e18db71b38", func := "reticule/reticulelaw19.CbwTurned", spec := "cbwTurned", apart := false, narrowed := true }
def CbwTurnedUptoSaid : Prop := cbwTurnedUptoRow.holds Try.pinned (OpenSpec.upto cbwTurnedSpec)

end Rows
end Go.Proofs.Ytkceolaolmfeaaa
