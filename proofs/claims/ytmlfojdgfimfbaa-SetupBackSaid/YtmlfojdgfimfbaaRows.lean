/-
  No cell of these rows narrows 'for every input' (looked for: loops, veiled, ifaces, maps, wideKeys, modest, calm, conditions, laid).
  DERIVED. THE GIVEN ROWS OF THIS SEAT. 5 by the template 'for every input the law returns true; each argument reads behind the call as it read before'; 0 by the template 'total and deterministic' (their statements: YtmlfojdgfimfbaaTotals.lean).
  GIVEN WITH THE SEED: the statements are not yours to turn. If you find one false, say at which input.
  Laid BY PROGRAM, IN A SANDBOX (cutbox-rows.mjs): the forced cells as the released guide's own fill.sh prints them over the translation f19f7680853be0ad… (all of the seat's roots in one cut). By AI agents, Wed Nov 11 2026. No macro, syntax, notation, axiom, sorry.
-/
import Derived.Test.YtmlfojdgfimfbaaChecked
import GoSem.Claim
import GoSem.ClaimJoined
import GoSem.ClaimMapViews
import Derived.JoinedTies
import Derived.KernelRfl
namespace Go.Proofs.Ytmlfojdgfimfbaa
/- THE CELL 'sum', in the pinned program and in every row, IS THE sha256 OF THE DUMP (.gsa) THAT YtmlfojdgfimfbaaProg.lean LOADS. Nothing in Lean hashes anything: it is a label: what it is worth is what the hold of that sum in a sandbox is worth. -/
noncomputable def Try.pinned : Pinned := { name := "ytmlfojdgfimfbaa", sum := "f19f7680853be0ad278618bcf941cc1fbe7ce2aeced843a9a55953121dd4e173", checked := Try.checked }
namespace Rows
def none {H : Type} : Left H := { results := [], args := [] }

/-- 'reticulelaw15.SetupParses': WHATEVER THE INPUT: true; the input reads as it did. -/
def setupParsesSpec : ChangeSpec := { name := "setupParses", fn := fun _ => fun
  | [d] => { results := [.lit (.bool true)], args := [d] }
  | _ => none }
def setupParsesRow : OpenClaim := { program := "ytmlfojdgfimfbaa", sum := "f19f7680853be0ad278618bcf941cc1fbe7ce2aeced843a9a55953121dd4e173", func := "reticule/reticulelaw15.SetupParses", spec := "setupParses", apart := false }
def SetupParsesSaid : Prop := setupParsesRow.holds Try.pinned (OpenSpec.ofChange setupParsesSpec)

/-- ITS FALSE NEIGHBOUR: 'it returns false'. Refute it at one input. -/
def setupParsesWrong : ChangeSpec := { name := "setupParses", fn := fun _ => fun
  | [d] => { results := [.lit (.bool false)], args := [d] }
  | _ => none }
def SetupParsesWrongFalsely : Prop := setupParsesRow.holds Try.pinned (OpenSpec.ofChange setupParsesWrong)

/-- 'reticulelaw15.SetupBytes': WHATEVER THE INPUT: true; the input reads as it did. -/
def setupBytesSpec : ChangeSpec := { name := "setupBytes", fn := fun _ => fun
  | [d] => { results := [.lit (.bool true)], args := [d] }
  | _ => none }
def setupBytesRow : OpenClaim := { program := "ytmlfojdgfimfbaa", sum := "f19f7680853be0ad278618bcf941cc1fbe7ce2aeced843a9a55953121dd4e173", func := "reticule/reticulelaw15.SetupBytes", spec := "setupBytes", apart := false }
def SetupBytesSaid : Prop := setupBytesRow.holds Try.pinned (OpenSpec.ofChange setupBytesSpec)

/-- ITS FALSE NEIGHBOUR: 'it returns false'. Refute it at one input. -/
def setupBytesWrong : ChangeSpec := { name := "setupBytes", fn := fun _ => fun
  | [d] => { results := [.lit (.bool false)], args := [d] }
  | _ => none }
def SetupBytesWrongFalsely : Prop := setupBytesRow.holds Try.pinned (OpenSpec.ofChange setupBytesWrong)

/-- 'reticulelaw15.SetupKinds': WHATEVER THE INPUT: true; the input reads as it did. -/
def setupKindsSpec : ChangeSpec := { name := "setupKinds", fn := fun _ => fun
  | [d] => { results := [.lit (.bool true)], args := [d] }
  | _ => none }
def setupKindsRow : OpenClaim := { program := "ytmlfojdgfimfbaa", sum := "f19f7680853be0ad278618bcf941cc1fbe7ce2aeced843a9a55953121dd4e173", func := "reticule/reticulelaw15.SetupKinds", spec := "setupKinds", apart := false }
def SetupKindsSaid : Prop := setupKindsRow.holds Try.pinned (OpenSpec.ofChange setupKindsSpec)

/-- ITS FALSE NEIGHBOUR: 'it returns false'. Refute it at one input. -/
def setupKindsWrong : ChangeSpec := { name := "setupKinds", fn := fun _ => fun
  | [d] => { results := [.lit (.bool false)], args := [d] }
  | _ => none }
def SetupKindsWrongFalsely : Prop := setupKindsRow.holds Try.pinned (OpenSpec.ofChange setupKindsWrong)

/-- 'reticulelaw15.SetupBack': WHATEVER THE INPUT: true; the input reads as it did. -/
def setupBackSpec : ChangeSpec := { name := "setupBack", fn := fun _ => fun
  | [d1, d2] => { results := [.lit (.bool true)], args := [d1, d2] }
  | _ => none }
def setupBackRow : OpenClaim := { program := "ytmlfojdgfimfbaa", sum := "f19f7680853be0ad278618bcf941cc1fbe7ce2aeced843a9a55953121dd4e173", func := "reticule/reticulelaw15.SetupBack", spec := "setupBack", apart := false }
def SetupBackSaid : Prop := setupBackRow.holds Try.pinned (OpenSpec.ofChange setupBackSpec)

/-- ITS FALSE NEIGHBOUR: 'it returns false'. Refute it at one input. -/
def setupBackWrong : ChangeSpec := { name := "setupBack", fn := fun _ => fun
  | [d1, d2] => { results := [.lit (.bool false)], args := [d1, d2] }
  | _ => none }
def SetupBackWrongFalsely : Prop := setupBackRow.holds Try.pinned (OpenSpec.ofChange setupBackWrong)

/-- 'reticulelaw15.SetupTurned': WHATEVER THE INPUT: true; the input reads as it did. -/
def setupTurnedSpec : ChangeSpec := { name := "setupTurned", fn := fun _ => fun
  | [d1, d2] => { results := [.lit (.bool true)], args := [d1, d2] }
  | _ => none }
def setupTurnedRow : OpenClaim := { program := "ytmlfojdgfimfbaa", sum := "f19f7680853be0ad278618bcf941cc1fbe7ce2aeced843a9a55953121dd4e173", func := "reticule/reticulelaw15.SetupTurned", spec := "setupTurned", apart := false }
def SetupTurnedSaid : Prop := setupTurnedRow.holds Try.pinned (OpenSpec.ofChange setupTurnedSpec)

/-- ITS FALSE NEIGHBOUR: 'it returns false'. Refute it at one input. -/
def setupTurnedWrong : ChangeSpec := { name := "setupTurned", fn := fun _ => fun
  | [d1, d2] => { results := [.lit (.bool false)], args := [d1, d2] }
  | _ => none }
def SetupTurnedWrongFalsely : Prop := setupTurnedRow.holds Try.pinned (OpenSpec.ofChange setupTurnedWrong)

/- THE SECOND FORM. 'bulk': how many values and letters a reading holds, each counted each time it is reached (what is shared counts as often as it is met; a slice's spare places count too). A statement '..UptoSaid' is the law's where the arguments, and the package variables that the reading takes, are together of bulk at most 1048576: NARROWER than '..Said'. Prove '..Said' where nothing that the law and all that it calls make is longer than what came in: it says more and counts as full. Else prove '..UptoSaid'. A law counts once. -/
mutual
def uptoBulk {H : Type} : DataW H → Nat
  | .lit (.string bytes) => bytes.length + 1
  | .lit _ => 1
  | .nil => 1
  | .ptr d => uptoBulk d + 1
  | .slice elems spare => uptoBulkAll elems + uptoBulkAll spare + 1
  | .agg parts => uptoBulkAll parts + 1
  | .iface _ d => uptoBulk d + 1
  | .map entries => uptoBulkEntries entries + 1
  | .held _ => 1
def uptoBulkAll {H : Type} : List (DataW H) → Nat
  | [] => 0
  | d :: r => uptoBulk d + uptoBulkAll r
def uptoBulkEntries {H : Type} : List (Lit × DataW H) → Nat
  | [] => 0
  | x :: r => uptoBulkEntry x + uptoBulkEntries r
def uptoBulkEntry {H : Type} : Lit × DataW H → Nat
  | (.string bytes, d) => bytes.length + uptoBulk d + 1
  | (_, d) => uptoBulk d + 1
 end
def uptoSmall : (H : Type) → List (DataW H) → Bool := fun _ ds => decide (uptoBulkAll ds ≤ 1048576)
def OpenSpec.upto (s : _root_.Go.ChangeSpec) : _root_.Go.OpenSpec := { _root_.Go.OpenSpec.ofChange s with cond := some uptoSmall }

/-- 'reticulelaw15.SetupParses', WHERE WHAT IT READS IS OF BULK AT MOST 1048576: true; the input reads as it did. -/
def setupParsesUptoRow : OpenClaim := { program := "ytmlfojdgfimfbaa", sum := "f19f7680853be0ad278618bcf941cc1fbe7ce2aeced843a9a55953121dd4e173", func := "reticule/reticulelaw15.SetupParses", spec := "setupParses", apart := false, narrowed := true }
def SetupParsesUptoSaid : Prop := setupParsesUptoRow.holds Try.pinned (OpenSpec.upto setupParsesSpec)

/-- 'reticulelaw15.SetupBytes', WHERE WHAT IT READS IS OF BULK AT MOST 1048576: true; the input reads as it did. -/
def setupBytesUptoRow : OpenClaim := { program := "ytmlfojdgfimfbaa", sum := "f19f7680853be0ad278618bcf941cc1fbe7ce2aeced843a9a55953121dd4e173", func := "reticule/reticulelaw15.SetupBytes", spec := "setupBytes", apart := false, narrowed := true }
def SetupBytesUptoSaid : Prop := setupBytesUptoRow.holds Try.pinned (OpenSpec.upto setupBytesSpec)

/-- 'reticulelaw15.SetupKinds', WHERE WHAT IT READS IS OF BULK AT MOST 1048576: true; the input reads as it did. -/
def setupKindsUptoRow : OpenClaim := { program := "ytmlfojdgfimfbaa", sum := "f19f7680853be0ad278618bcf941cc1fbe7ce2aeced843a9a55953121dd4e173", func := "reticule/reticulelaw15.SetupKinds", spec := "setupKinds", apart := false, narrowed := true }
def SetupKindsUptoSaid : Prop := setupKindsUptoRow.holds Try.pinned (OpenSpec.upto setupKindsSpec)

/-- 'reticulelaw15.SetupBack', WHERE WHAT IT READS IS OF BULK AT MOST 1048576: true; the input reads as it did. -/
def setupBackUptoRow : OpenClaim := { program := "ytmlfojdgfimfbaa", sum := "f19f7680853be0ad278618bcf941cc1fbe7ce2aeced843a9a55953121dd4e173", func := "reticule/reticulelaw15.SetupBack", spec := "setupBack", apart := false, narrowed := true }
def SetupBackUptoSaid : Prop := setupBackUptoRow.holds Try.pinned (OpenSpec.upto setupBackSpec)

/-- 'reticulelaw15.SetupTurned', WHERE WHAT IT READS IS OF BULK AT MOST 1048576: true; the input reads as it did. -/
def setupTurnedUptoRow : OpenClaim := { program := "ytmlfojdgfimfbaa", sum := "f19f7680853be0ad278618bcf941cc1fbe7ce2aeced843a9a55953121dd4e173", func := "reticule/reticulelaw15.SetupTurned", spec := "setupTurned", apart := false, narrowed := true }
def SetupTurnedUptoSaid : Prop := setupTurnedUptoRow.holds Try.pinned (OpenSpec.upto setupTurnedSpec)

end Rows
end Go.Proofs.Ytmlfojdgfimfbaa
