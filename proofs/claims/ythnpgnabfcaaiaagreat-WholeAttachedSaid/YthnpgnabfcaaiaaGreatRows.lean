/-
  No cell of these rows narrows 'for every input' (looked for: loops, veiled, ifaces, maps, wideKeys, modest, calm, conditions, laid).
  DERIVED. THE GIVEN ROWS OF THIS SEAT. 8 by the template 'for every input the law returns true; each argument reads behind the call as it read before'; 0 by the template 'total and deterministic' (their statements: YthnpgnabfcaaiaaGreatTotals.lean).
  GIVEN WITH THE SEED: the statements are not yours to turn. If you find one false, say at which input.
  Laid BY PROGRAM, IN A SANDBOX (cutbox-rows.mjs): the forced cells as the released guide's own fill.sh prints them over the translation 47d3932bd1c6fd95… (all of the seat's roots in one cut). By AI agents, Wed Nov 11 2026. No macro, syntax, notation, axiom, sorry.
-/
import Derived.Test.YthnpgnabfcaaiaaGreatChecked
import GoSem.Claim
import GoSem.ClaimJoined
import GoSem.ClaimMapViews
import Derived.JoinedTies
import Derived.KernelRfl
namespace Go.Proofs.YthnpgnabfcaaiaaGreat
/- THE CELL 'sum', in the pinned program and in every row, IS THE sha256 OF THE DUMP (.gsa) THAT YthnpgnabfcaaiaaGreatProg.lean LOADS. Nothing in Lean hashes anything: it is a label: what it is worth is what the hold of that sum in a sandbox is worth. -/
noncomputable def Tryz.pinned : Pinned := { name := "ythnpgnabfcaaiaagreat", sum := "47d3932bd1c6fd9505601f41f91180cd368b4cf289b9e73315f8f5ed656933f5", checked := Tryz.checked }
namespace Rows
def none {H : Type} : Left H := { results := [], args := [] }

/-- 'reticuletop.WholeAutomaton': WHATEVER THE INPUT: true; the input reads as it did. -/
def wholeAutomatonSpec : ChangeSpec := { name := "wholeAutomaton", fn := fun _ => fun
  | [d1, d2] => { results := [.lit (.bool true)], args := [d1, d2] }
  | _ => none }
def wholeAutomatonRow : OpenClaim := { program := "ythnpgnabfcaaiaagreat", sum := "47d3932bd1c6fd9505601f41f91180cd368b4cf289b9e73315f8f5ed656933f5", func := "reticule/reticuletop.WholeAutomaton", spec := "wholeAutomaton", unfollowed := true, recurses := true, plainKeys := false, apart := false }
def WholeAutomatonSaid : Prop := wholeAutomatonRow.holds Tryz.pinned (OpenSpec.ofChange wholeAutomatonSpec)

/-- ITS FALSE NEIGHBOUR: 'it returns false'. Refute it at one input. -/
def wholeAutomatonWrong : ChangeSpec := { name := "wholeAutomaton", fn := fun _ => fun
  | [d1, d2] => { results := [.lit (.bool false)], args := [d1, d2] }
  | _ => none }
def WholeAutomatonWrongFalsely : Prop := wholeAutomatonRow.holds Tryz.pinned (OpenSpec.ofChange wholeAutomatonWrong)

/-- 'reticuletop.WholeResidue': WHATEVER THE INPUT: true; the input reads as it did. -/
def wholeResidueSpec : ChangeSpec := { name := "wholeResidue", fn := fun _ => fun
  | [d1, d2] => { results := [.lit (.bool true)], args := [d1, d2] }
  | _ => none }
def wholeResidueRow : OpenClaim := { program := "ythnpgnabfcaaiaagreat", sum := "47d3932bd1c6fd9505601f41f91180cd368b4cf289b9e73315f8f5ed656933f5", func := "reticule/reticuletop.WholeResidue", spec := "wholeResidue", unfollowed := true, recurses := true, plainKeys := false, apart := false }
def WholeResidueSaid : Prop := wholeResidueRow.holds Tryz.pinned (OpenSpec.ofChange wholeResidueSpec)

/-- ITS FALSE NEIGHBOUR: 'it returns false'. Refute it at one input. -/
def wholeResidueWrong : ChangeSpec := { name := "wholeResidue", fn := fun _ => fun
  | [d1, d2] => { results := [.lit (.bool false)], args := [d1, d2] }
  | _ => none }
def WholeResidueWrongFalsely : Prop := wholeResidueRow.holds Tryz.pinned (OpenSpec.ofChange wholeResidueWrong)

/-- 'reticuletop.WholePhase': WHATEVER THE INPUT: true; the input reads as it did. -/
def wholePhaseSpec : ChangeSpec := { name := "wholePhase", fn := fun _ => fun
  | [d1, d2] => { results := [.lit (.bool true)], args := [d1, d2] }
  | _ => none }
def wholePhaseRow : OpenClaim := { program := "ythnpgnabfcaaiaagreat", sum := "47d3932bd1c6fd9505601f41f91180cd368b4cf289b9e73315f8f5ed656933f5", func := "reticule/reticuletop.WholePhase", spec := "wholePhase", unfollowed := true, recurses := true, plainKeys := false, apart := false }
def WholePhaseSaid : Prop := wholePhaseRow.holds Tryz.pinned (OpenSpec.ofChange wholePhaseSpec)

/-- ITS FALSE NEIGHBOUR: 'it returns false'. Refute it at one input. -/
def wholePhaseWrong : ChangeSpec := { name := "wholePhase", fn := fun _ => fun
  | [d1, d2] => { results := [.lit (.bool false)], args := [d1, d2] }
  | _ => none }
def WholePhaseWrongFalsely : Prop := wholePhaseRow.holds Tryz.pinned (OpenSpec.ofChange wholePhaseWrong)

/-- 'reticuletop.WholeReads': WHATEVER THE INPUT: true; the input reads as it did. -/
def wholeReadsSpec : ChangeSpec := { name := "wholeReads", fn := fun _ => fun
  | [d1, d2, d3] => { results := [.lit (.bool true)], args := [d1, d2, d3] }
  | _ => none }
def wholeReadsRow : OpenClaim := { program := "ythnpgnabfcaaiaagreat", sum := "47d3932bd1c6fd9505601f41f91180cd368b4cf289b9e73315f8f5ed656933f5", func := "reticule/reticuletop.WholeReads", spec := "wholeReads", unfollowed := true, recurses := true, plainKeys := false, apart := false }
def WholeReadsSaid : Prop := wholeReadsRow.holds Tryz.pinned (OpenSpec.ofChange wholeReadsSpec)

/-- ITS FALSE NEIGHBOUR: 'it returns false'. Refute it at one input. -/
def wholeReadsWrong : ChangeSpec := { name := "wholeReads", fn := fun _ => fun
  | [d1, d2, d3] => { results := [.lit (.bool false)], args := [d1, d2, d3] }
  | _ => none }
def WholeReadsWrongFalsely : Prop := wholeReadsRow.holds Tryz.pinned (OpenSpec.ofChange wholeReadsWrong)

/-- 'reticuletop.WholeAttached': WHATEVER THE INPUT: true; the input reads as it did. -/
def wholeAttachedSpec : ChangeSpec := { name := "wholeAttached", fn := fun _ => fun
  | [d1, d2, d3] => { results := [.lit (.bool true)], args := [d1, d2, d3] }
  | _ => none }
def wholeAttachedRow : OpenClaim := { program := "ythnpgnabfcaaiaagreat", sum := "47d3932bd1c6fd9505601f41f91180cd368b4cf289b9e73315f8f5ed656933f5", func := "reticule/reticuletop.WholeAttached", spec := "wholeAttached", unfollowed := true, recurses := true, plainKeys := false, apart := false }
def WholeAttachedSaid : Prop := wholeAttachedRow.holds Tryz.pinned (OpenSpec.ofChange wholeAttachedSpec)

/-- ITS FALSE NEIGHBOUR: 'it returns false'. Refute it at one input. -/
def wholeAttachedWrong : ChangeSpec := { name := "wholeAttached", fn := fun _ => fun
  | [d1, d2, d3] => { results := [.lit (.bool false)], args := [d1, d2, d3] }
  | _ => none }
def WholeAttachedWrongFalsely : Prop := wholeAttachedRow.holds Tryz.pinned (OpenSpec.ofChange wholeAttachedWrong)

/-- 'reticuletop.WholeLossy': WHATEVER THE INPUT: true; the input reads as it did. -/
def wholeLossySpec : ChangeSpec := { name := "wholeLossy", fn := fun _ => fun
  | [d1, d2, d3] => { results := [.lit (.bool true)], args := [d1, d2, d3] }
  | _ => none }
def wholeLossyRow : OpenClaim := { program := "ythnpgnabfcaaiaagreat", sum := "47d3932bd1c6fd9505601f41f91180cd368b4cf289b9e73315f8f5ed656933f5", func := "reticule/reticuletop.WholeLossy", spec := "wholeLossy", unfollowed := true, recurses := true, plainKeys := false, apart := false }
def WholeLossySaid : Prop := wholeLossyRow.holds Tryz.pinned (OpenSpec.ofChange wholeLossySpec)

/-- ITS FALSE NEIGHBOUR: 'it returns false'. Refute it at one input. -/
def wholeLossyWrong : ChangeSpec := { name := "wholeLossy", fn := fun _ => fun
  | [d1, d2, d3] => { results := [.lit (.bool false)], args := [d1, d2, d3] }
  | _ => none }
def WholeLossyWrongFalsely : Prop := wholeLossyRow.holds Tryz.pinned (OpenSpec.ofChange wholeLossyWrong)

/-- 'reticuletop.WholeRefused': WHATEVER THE INPUT: true; the input reads as it did. -/
def wholeRefusedSpec : ChangeSpec := { name := "wholeRefused", fn := fun _ => fun
  | [d1, d2, d3] => { results := [.lit (.bool true)], args := [d1, d2, d3] }
  | _ => none }
def wholeRefusedRow : OpenClaim := { program := "ythnpgnabfcaaiaagreat", sum := "47d3932bd1c6fd9505601f41f91180cd368b4cf289b9e73315f8f5ed656933f5", func := "reticule/reticuletop.WholeRefused", spec := "wholeRefused", unfollowed := true, recurses := true, plainKeys := false, apart := false }
def WholeRefusedSaid : Prop := wholeRefusedRow.holds Tryz.pinned (OpenSpec.ofChange wholeRefusedSpec)

/-- ITS FALSE NEIGHBOUR: 'it returns false'. Refute it at one input. -/
def wholeRefusedWrong : ChangeSpec := { name := "wholeRefused", fn := fun _ => fun
  | [d1, d2, d3] => { results := [.lit (.bool false)], args := [d1, d2, d3] }
  | _ => none }
def WholeRefusedWrongFalsely : Prop := wholeRefusedRow.holds Tryz.pinned (OpenSpec.ofChange wholeRefusedWrong)

/-- 'reticuletop.WholeEjects': WHATEVER THE INPUT: true; the input reads as it did. -/
def wholeEjectsSpec : ChangeSpec := { name := "wholeEjects", fn := fun _ => fun
  | [d1, d2] => { results := [.lit (.bool true)], args := [d1, d2] }
  | _ => none }
def wholeEjectsRow : OpenClaim := { program := "ythnpgnabfcaaiaagreat", sum := "47d3932bd1c6fd9505601f41f91180cd368b4cf289b9e73315f8f5ed656933f5", func := "reticule/reticuletop.WholeEjects", spec := "wholeEjects", unfollowed := true, recurses := true, plainKeys := false, apart := false }
def WholeEjectsSaid : Prop := wholeEjectsRow.holds Tryz.pinned (OpenSpec.ofChange wholeEjectsSpec)

/-- ITS FALSE NEIGHBOUR: 'it returns false'. Refute it at one input. -/
def wholeEjectsWrong : ChangeSpec := { name := "wholeEjects", fn := fun _ => fun
  | [d1, d2] => { results := [.lit (.bool false)], args := [d1, d2] }
  | _ => none }
def WholeEjectsWrongFalsely : Prop := wholeEjectsRow.holds Tryz.pinned (OpenSpec.ofChange wholeEjectsWrong)

/- THE SECOND FORM. 'bulk': how many values and letters a reading holds, each counted each time it is reached (what is shared counts as often as it is met; a slice's spare places count too). A statement '..UptoSaid' is the law's where the arguments, and the package variables that the reading takes, are together of bulk at most 1048576: NARROWER than '..Said'. Prove '..Said' where nothing that the law and all that it calls make is longer than what came in: it says more and counts as full. Else prove '..UptoSaid'. A law counts once. -/
mutual
def uptoBulk {H : Type} : DataW H → Nat
  | .lit (.string bytes) => bytes.length + 1
  | .lit _ => 1
  | .nil => 1
  | .ptr d => uptoBulk d + 1
  | .slice elems spare => uptoBulkAll elems + uptoBulkAll spare + 1
  | .agg parts => uptoBulkAll parts + 1
  | .iface _ d => uptoBulk d + 1
  | .map entries => uptoBulkEntries entries + 1
  | .held _ => 1
def uptoBulkAll {H : Type} : List (DataW H) → Nat
  | [] => 0
  | d :: r => uptoBulk d + uptoBulkAll r
def uptoBulkEntries {H : Type} : List (Lit × DataW H) → Nat
  | [] => 0
  | x :: r => uptoBulkEntry x + uptoBulkEntries r
def uptoBulkEntry {H : Type} : Lit × DataW H → Nat
  | (.string bytes, d) => bytes.length + uptoBulk d + 1
  | (_, d) => uptoBulk d + 1
 end
def uptoSmall : (H : Type) → List (DataW H) → Bool := fun _ ds => decide (uptoBulkAll ds ≤ 1048576)
def OpenSpec.upto (s : _root_.Go.ChangeSpec) : _root_.Go.OpenSpec := { _root_.Go.OpenSpec.ofChange s with cond := some uptoSmall }

/-- 'reticuletop.WholeAutomaton', WHERE WHAT IT READS IS OF BULK AT MOST 1048576: true; the input reads as it did. -/
def wholeAutomatonUptoRow : OpenClaim := { program := "ythnpgnabfcaaiaagreat", sum := "47d3932bd1c6fd9505601f41f91180cd368b4cf289b9e73315f8f5ed656933f5", func := "reticule/reticuletop.WholeAutomaton", spec := "wholeAutomaton", unfollowed := true, recurses := true, plainKeys := false, apart := false, narrowed := true }
def WholeAutomatonUptoSaid : Prop := wholeAutomatonUptoRow.holds Tryz.pinned (OpenSpec.upto wholeAutomatonSpec)

/-- 'reticuletop.WholeResidue', WHERE WHAT IT READS IS OF BULK AT MOST 1048576: true; the input reads as it did. -/
def wholeResidueUptoRow : OpenClaim := { program := "ythnpgnabfcaaiaagreat", sum := "47d3932bd1c6fd9505601f41f91180cd368b4cf289b9e73315f8f5ed656933f5", func := "reticule/reticuletop.WholeResidue", spec := "wholeResidue", unfollowed := true, recurses := true, plainKeys := false, apart := false, narrowed := true }
def WholeResidueUptoSaid : Prop := wholeResidueUptoRow.holds Tryz.pinned (OpenSpec.upto wholeResidueSpec)

/-- 'reticuletop.WholePhase', WHERE WHAT IT READS IS OF BULK AT MOST 1048576: true; the input reads as it did. -/
def wholePhaseUptoRow : OpenClaim := { program := "ythnpgnabfcaaiaagreat", sum := "47d3932bd1c6fd9505601f41f91180cd368b4cf289b9e73315f8f5ed656933f5", func := "reticule/reticuletop.WholePhase", spec := "wholePhase", unfollowed := true, recurses := true, plainKeys := false, apart := false, narrowed := true }
def WholePhaseUptoSaid : Prop := wholePhaseUptoRow.holds Tryz.pinned (OpenSpec.upto wholePhaseSpec)

/-- 'reticuletop.WholeReads', WHERE WHAT IT READS IS OF BULK AT MOST 1048576: true; the input reads as it did. -/
def wholeReadsUptoRow : OpenClaim := { program := "ythnpgnabfcaaiaagreat", sum := "47d3932bd1c6fd9505601f41f91180cd368b4cf289b9e73315f8f5ed656933f5", func := "reticule/reticuletop.WholeReads", spec := "wholeReads", unfollowed := true, recurses := true, plainKeys := false, apart := false, narrowed := true }
def WholeReadsUptoSaid : Prop := wholeReadsUptoRow.holds Tryz.pinned (OpenSpec.upto wholeReadsSpec)

/-- 'reticuletop.WholeAttached', WHERE WHAT IT READS IS OF BULK AT MOST 1048576: true; the input reads as it did. -/
def wholeAttachedUptoRow : OpenClaim := { program := "ythnpgnabfcaaiaagreat", sum := "47d3932bd1c6fd9505601f41f91180cd368b4cf289b9e73315f8f5ed656933f5", func := "reticule/reticuletop.WholeAttached", spec := "wholeAttached", unfollowed := true, recurses := true, plainKeys := false, apart := false, narrowed := true }
def WholeAttachedUptoSaid : Prop := wholeAttachedUptoRow.holds Tryz.pinned (OpenSpec.upto wholeAttachedSpec)

/-- 'reticuletop.WholeLossy', WHERE WHAT IT READS IS OF BULK AT MOST 1048576: true; the input reads as it did. -/
def wholeLossyUptoRow : OpenClaim := { program := "ythnpgnabfcaaiaagreat", sum := "47d3932bd1c6fd9505601f41f91180cd368b4cf289b9e73315f8f5ed656933f5", func := "reticule/reticuletop.WholeLossy", spec := "wholeLossy", unfollowed := true, recurses := true, plainKeys := false, apart := false, narrowed := true }
def WholeLossyUptoSaid : Prop := wholeLossyUptoRow.holds Tryz.pinned (OpenSpec.upto wholeLossySpec)

/-- 'reticuletop.WholeRefused', WHERE WHAT IT READS IS OF BULK AT MOST 1048576: true; the input reads as it did. -/
def wholeRefusedUptoRow : OpenClaim := { program := "ythnpgnabfcaaiaagreat", sum := "47d3932bd1c6fd9505601f41f91180cd368b4cf289b9e73315f8f5ed656933f5", func := "reticule/reticuletop.WholeRefused", spec := "wholeRefused", unfollowed := true, recurses := true, plainKeys := false, apart := false, narrowed := true }
def WholeRefusedUptoSaid : Prop := wholeRefusedUptoRow.holds Tryz.pinned (OpenSpec.upto wholeRefusedSpec)

/-- 'reticuletop.WholeEjects', WHERE WHAT IT READS IS OF BULK AT MOST 1048576: true; the input reads as it did. -/
def wholeEjectsUptoRow : OpenClaim := { program := "ythnpgnabfcaaiaagreat", sum := "47d3932bd1c6fd9505601f41f91180cd368b4cf289b9e73315f8f5ed656933f5", func := "reticule/reticuletop.WholeEjects", spec := "wholeEjects", unfollowed := true, recurses := true, plainKeys := false, apart := false, narrowed := true }
def WholeEjectsUptoSaid : Prop := wholeEjectsUptoRow.holds Tryz.pinned (OpenSpec.upto wholeEjectsSpec)

end Rows
end Go.Proofs.YthnpgnabfcaaiaaGreat
