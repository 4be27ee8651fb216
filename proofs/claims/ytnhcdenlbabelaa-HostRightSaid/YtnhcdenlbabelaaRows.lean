/-
  No cell of these rows narrows 'for every input' (looked for: loops, veiled, ifaces, maps, wideKeys, modest, calm, conditions, laid).
  DERIVED. THE GIVEN ROWS OF THIS SEAT. 5 by the template 'for every input the law returns true; each argument reads behind the call as it read before'; 0 by the template 'total and deterministic' (their statements: YtnhcdenlbabelaaTotals.lean).
  GIVEN WITH THE SEED: the statements are not yours to turn. If you find one false, say at which input.
  Laid BY PROGRAM, IN A SANDBOX (cutbox-rows.mjs): the forced cells as the released guide's own fill.sh prints them over the translation dcba18619e958ffb… (all of the seat's roots in one cut). By AI agents, Wed Nov 11 2026. No macro, syntax, notation, axiom, sorry.
-/
import Derived.Test.YtnhcdenlbabelaaChecked
import GoSem.Claim
import GoSem.ClaimJoined
import GoSem.ClaimMapViews
import Derived.JoinedTies
import Derived.KernelRfl
namespace Go.Proofs.Ytnhcdenlbabelaa
/- THE CELL 'sum', in the pinned program and in every row, IS THE sha256 OF THE DUMP (.gsa) THAT YtnhcdenlbabelaaProg.lean LOADS. Nothing in Lean hashes anything: it is a label: what it is worth is what the hold of that sum in a sandbox is worth. -/
noncomputable def Try.pinned : Pinned := { name := "ytnhcdenlbabelaa", sum := "dcba18619e958ffbe297c2a710466ad1dc6eade77e7d96933eb919575f530ac8", checked := Try.checked }
namespace Rows
def none {H : Type} : Left H := { results := [], args := [] }

/-- 'reticulelaw27.HostTransfers': WHATEVER THE INPUT: true; the input reads as it did. -/
def hostTransfersSpec : ChangeSpec := { name := "hostTransfers", fn := fun _ => fun
  | [d1, d2] => { results := [.lit (.bool true)], args := [d1, d2] }
  | _ => none }
def hostTransfersRow : OpenClaim := { program := "ytnhcdenlbabelaa", sum := "dcba18619e958ffbe297c2a710466ad1dc6eade77e7d96933eb919575f530ac8", func := "reticule/reticulelaw27.HostTransfers", spec := "hostTransfers", apart := false }
def HostTransfersSaid : Prop := hostTransfersRow.holds Try.pinned (OpenSpec.ofChange hostTransfersSpec)

/-- ITS FALSE NEIGHBOUR: 'it returns false'. Refute it at one input. -/
def hostTransfersWrong : ChangeSpec := { name := "hostTransfers", fn := fun _ => fun
  | [d1, d2] => { results := [.lit (.bool false)], args := [d1, d2] }
  | _ => none }
def HostTransfersWrongFalsely : Prop := hostTransfersRow.holds Try.pinned (OpenSpec.ofChange hostTransfersWrong)

/-- 'reticulelaw27.HostBegins': WHATEVER THE INPUT: true; the input reads as it did. -/
def hostBeginsSpec : ChangeSpec := { name := "hostBegins", fn := fun _ => fun
  | [d1, d2] => { results := [.lit (.bool true)], args := [d1, d2] }
  | _ => none }
def hostBeginsRow : OpenClaim := { program := "ytnhcdenlbabelaa", sum := "dcba18619e958ffbe297c2a710466ad1dc6eade77e7d96933eb919575f530ac8", func := "reticule/reticulelaw27.HostBegins", spec := "hostBegins", apart := false }
def HostBeginsSaid : Prop := hostBeginsRow.holds Try.pinned (OpenSpec.ofChange hostBeginsSpec)

/-- ITS FALSE NEIGHBOUR: 'it returns false'. Refute it at one input. -/
def hostBeginsWrong : ChangeSpec := { name := "hostBegins", fn := fun _ => fun
  | [d1, d2] => { results := [.lit (.bool false)], args := [d1, d2] }
  | _ => none }
def HostBeginsWrongFalsely : Prop := hostBeginsRow.holds Try.pinned (OpenSpec.ofChange hostBeginsWrong)

/-- 'reticulelaw27.HostAsks': WHATEVER THE INPUT: true; the input reads as it did. -/
def hostAsksSpec : ChangeSpec := { name := "hostAsks", fn := fun _ => fun
  | [d1, d2, d3] => { results := [.lit (.bool true)], args := [d1, d2, d3] }
  | _ => none }
def hostAsksRow : OpenClaim := { program := "ytnhcdenlbabelaa", sum := "dcba18619e958ffbe297c2a710466ad1dc6eade77e7d96933eb919575f530ac8", func := "reticule/reticulelaw27.HostAsks", spec := "hostAsks", apart := false }
def HostAsksSaid : Prop := hostAsksRow.holds Try.pinned (OpenSpec.ofChange hostAsksSpec)

/-- ITS FALSE NEIGHBOUR: 'it returns false'. Refute it at one input. -/
def hostAsksWrong : ChangeSpec := { name := "hostAsks", fn := fun _ => fun
  | [d1, d2, d3] => { results := [.lit (.bool false)], args := [d1, d2, d3] }
  | _ => none }
def HostAsksWrongFalsely : Prop := hostAsksRow.holds Try.pinned (OpenSpec.ofChange hostAsksWrong)

/-- 'reticulelaw27.HostPackets': WHATEVER THE INPUT: true; the input reads as it did. -/
def hostPacketsSpec : ChangeSpec := { name := "hostPackets", fn := fun _ => fun
  | [d1, d2] => { results := [.lit (.bool true)], args := [d1, d2] }
  | _ => none }
def hostPacketsRow : OpenClaim := { program := "ytnhcdenlbabelaa", sum := "dcba18619e958ffbe297c2a710466ad1dc6eade77e7d96933eb919575f530ac8", func := "reticule/reticulelaw27.HostPackets", spec := "hostPackets", apart := false }
def HostPacketsSaid : Prop := hostPacketsRow.holds Try.pinned (OpenSpec.ofChange hostPacketsSpec)

/-- ITS FALSE NEIGHBOUR: 'it returns false'. Refute it at one input. -/
def hostPacketsWrong : ChangeSpec := { name := "hostPackets", fn := fun _ => fun
  | [d1, d2] => { results := [.lit (.bool false)], args := [d1, d2] }
  | _ => none }
def HostPacketsWrongFalsely : Prop := hostPacketsRow.holds Try.pinned (OpenSpec.ofChange hostPacketsWrong)

/-- 'reticulelaw27.HostRight': WHATEVER THE INPUT: true; the input reads as it did. -/
def hostRightSpec : ChangeSpec := { name := "hostRight", fn := fun _ => fun
  | [d1, d2, d3] => { results := [.lit (.bool true)], args := [d1, d2, d3] }
  | _ => none }
def hostRightRow : OpenClaim := { program := "ytnhcdenlbabelaa", sum := "dcba18619e958ffbe297c2a710466ad1dc6eade77e7d96933eb919575f530ac8", func := "reticule/reticulelaw27.HostRight", spec := "hostRight", apart := false }
def HostRightSaid : Prop := hostRightRow.holds Try.pinned (OpenSpec.ofChange hostRightSpec)

/-- ITS FALSE NEIGHBOUR: 'it returns false'. Refute it at one input. -/
def hostRightWrong : ChangeSpec := { name := "hostRight", fn := fun _ => fun
  | [d1, d2, d3] => { results := [.lit (.bool false)], args := [d1, d2, d3] }
  | _ => none }
def HostRightWrongFalsely : Prop := hostRightRow.holds Try.pinned (OpenSpec.ofChange hostRightWrong)

/- THE SECOND FORM. 'bulk': how many values and letters a reading holds, each counted each time it is reached (what is shared counts as often as it is met; a slice's spare places count too). A statement '..UptoSaid' is the law's where the arguments, and the package variables that the reading takes, are together of bulk at most 1048576: NARROWER than '..Said'. Prove '..Said' where nothing that the law and all that it calls make is longer than what came in: it says more and counts as full. Else prove '..UptoSaid'. A law counts once. -/
mutual
def uptoBulk {H : Type} : DataW H → Nat
  | .lit (.string bytes) => bytes.length + 1
  | .lit _ => 1
  | .nil => 1
  | .ptr d => uptoBulk d + 1
  | .slice elems spare => uptoBulkAll elems + uptoBulkAll spare + 1
  | .agg parts => uptoBulkAll parts + 1
  | .iface _ d => uptoBulk d + 1
  | .map entries => uptoBulkEntries entries + 1
  | .held _ => 1
def uptoBulkAll {H : Type} : List (DataW H) → Nat
  | [] => 0
  | d :: r => uptoBulk d + uptoBulkAll r
def uptoBulkEntries {H : Type} : List (Lit × DataW H) → Nat
  | [] => 0
  | x :: r => uptoBulkEntry x + uptoBulkEntries r
def uptoBulkEntry {H : Type} : Lit × DataW H → Nat
  | (.string bytes, d) => bytes.length + uptoBulk d + 1
  | (_, d) => uptoBulk d + 1
 end
def uptoSmall : (H : Type) → List (DataW H) → Bool := fun _ ds => decide (uptoBulkAll ds ≤ 1048576)
def OpenSpec.upto (s : _root_.Go.ChangeSpec) : _root_.Go.OpenSpec := { _root_.Go.OpenSpec.ofChange s with cond := some uptoSmall }

/-- 'reticulelaw27.HostTransfers', WHERE WHAT IT READS IS OF BULK AT MOST 1048576: true; the input reads as it did. -/
def hostTransfersUptoRow : OpenClaim := { program := "ytnhcdenlbabelaa", sum := "dcba18619e958ffbe297c2a710466ad1dc6eade77e7d96933eb919575f530ac8", func := "reticule/reticulelaw27.HostTransfers", spec := "hostTransfers", apart := false, narrowed := true }
def HostTransfersUptoSaid : Prop := hostTransfersUptoRow.holds Try.pinned (OpenSpec.upto hostTransfersSpec)

/-- 'reticulelaw27.HostBegins', WHERE WHAT IT READS IS OF BULK AT MOST 1048576: true; the input reads as it did. -/
def hostBeginsUptoRow : OpenClaim := { program := "ytnhcdenlbabelaa", sum := "dcba18619e958ffbe297c2a710466ad1dc6eade77e7d96933eb919575f530ac8", func := "reticule/reticulelaw27.HostBegins", spec := "hostBegins", apart := false, narrowed := true }
def HostBeginsUptoSaid : Prop := hostBeginsUptoRow.holds Try.pinned (OpenSpec.upto hostBeginsSpec)

/-- 'reticulelaw27.HostAsks', WHERE WHAT IT READS IS OF BULK AT MOST 1048576: true; the input reads as it did. -/
def hostAsksUptoRow : OpenClaim := { program := "ytnhcdenlbabelaa", sum := "dcba18619e958ffbe297c2a710466ad1dc6eade77e7d96933eb919575f530ac8", func := "reticule/reticulelaw27.HostAsks", spec := "hostAsks", apart := false, narrowed := true }
def HostAsksUptoSaid : Prop := hostAsksUptoRow.holds Try.pinned (OpenSpec.upto hostAsksSpec)

/-- 'reticulelaw27.HostPackets', WHERE WHAT IT READS IS OF BULK AT MOST 1048576: true; the input reads as it did. -/
def hostPacketsUptoRow : OpenClaim := { program := "ytnhcdenlbabelaa", sum := "dcba18619e958ffbe297c2a710466ad1dc6eade77e7d96933eb919575f530ac8", func := "reticule/reticulelaw27.HostPackets", spec := "hostPackets", apart := false, narrowed := true }
def HostPacketsUptoSaid : Prop := hostPacketsUptoRow.holds Try.pinned (OpenSpec.upto hostPacketsSpec)

/-- 'reticulelaw27.HostRight', WHERE WHAT IT READS IS OF BULK AT MOST 1048576: true; the input reads as it did. -/
def hostRightUptoRow : OpenClaim := { program := "ytnhcdenlbabelaa", sum := "dcba18619e958ffbe297c2a710466ad1dc6eade77e7d96933eb919575f530ac8", func := "reticule/reticulelaw27.HostRight", spec := "hostRight", apart := false, narrowed := true }
def HostRightUptoSaid : Prop := hostRightUptoRow.holds Try.pinned (OpenSpec.upto hostRightSpec)

end Rows
end Go.Proofs.Ytnhcdenlbabelaa
