/-
  No cell of these rows narrows 'for every input' (looked for: loops, veiled, ifaces, maps, wideKeys, modest, calm, conditions, laid).
  DERIVED. THE GIVEN ROWS OF THIS SEAT. 4 by the template 'for every input the law returns true; each argument reads behind the call as it read before'; 0 by the template 'total and deterministic' (their statements: YtmkffbacmjgbcaaTotals.lean).
  GIVEN WITH THE SEED: the statements are not yours to turn. If you find one false, say at which input.
  Laid BY PROGRAM, IN A SANDBOX (cutbox-rows.mjs): the forced cells as the released guide's own fill.sh prints them over the translation b7acddbce40aa2e4… (all of the seat's roots in one cut). By AI agents, Wed Nov 11 2026. No macro, syntax, notation, axiom, sorry.
-/
import Derived.Test.YtmkffbacmjgbcaaChecked
import GoSem.Claim
import GoSem.ClaimJoined
import GoSem.ClaimMapViews
import Derived.JoinedTies
import Derived.KernelRfl
namespace Go.Proofs.Ytmkffbacmjgbcaa
/- THE CELL 'sum', in the pinned program and in every row, IS THE sha256 OF THE DUMP (.gsa) THAT YtmkffbacmjgbcaaProg.lean LOADS. Nothing in Lean hashes anything: it is a label: what it is worth is what the hold of that sum in a sandbox is worth. -/
noncomputable def Try.pinned : Pinned := { name := "ytmkffbacmjgbcaa", sum := "b7acddbce40aa2e43c20bc3d2f9e2c10ed70bd7fedf3d1e9c129e85854a42e88", checked := Try.checked }
namespace Rows
def none {H : Type} : Left H := { results := [], args := [] }

/-- 'reticulelaw04.SenseBytes': WHATEVER THE INPUT: true; the input reads as it did. -/
def senseBytesSpec : ChangeSpec := { name := "senseBytes", fn := fun _ => fun
  | [d1, d2] => { results := [.lit (.bool true)], args := [d1, d2] }
  | _ => none }
def senseBytesRow : OpenClaim := { program := "ytmkffbacmjgbcaa", sum := "b7acddbce40aa2e43c20bc3d2f9e2c10ed70bd7fedf3d1e9c129e85854a42e88", func := "reticule/reticulelaw04.SenseBytes", spec := "senseBytes", apart := false }
def SenseBytesSaid : Prop := senseBytesRow.holds Try.pinned (OpenSpec.ofChange senseBytesSpec)

/-- ITS FALSE NEIGHBOUR: 'it returns false'. Refute it at one input. -/
def senseBytesWrong : ChangeSpec := { name := "senseBytes", fn := fun _ => fun
  | [d1, d2] => { results := [.lit (.bool false)], args := [d1, d2] }
  | _ => none }
def SenseBytesWrongFalsely : Prop := senseBytesRow.holds Try.pinned (OpenSpec.ofChange senseBytesWrong)

/-- 'reticulelaw04.SenseBack': WHATEVER THE INPUT: true; the input reads as it did. -/
def senseBackSpec : ChangeSpec := { name := "senseBack", fn := fun _ => fun
  | [d1, d2] => { results := [.lit (.bool true)], args := [d1, d2] }
  | _ => none }
def senseBackRow : OpenClaim := { program := "ytmkffbacmjgbcaa", sum := "b7acddbce40aa2e43c20bc3d2f9e2c10ed70bd7fedf3d1e9c129e85854a42e88", func := "reticule/reticulelaw04.SenseBack", spec := "senseBack", apart := false }
def SenseBackSaid : Prop := senseBackRow.holds Try.pinned (OpenSpec.ofChange senseBackSpec)

/-- ITS FALSE NEIGHBOUR: 'it returns false'. Refute it at one input. -/
def senseBackWrong : ChangeSpec := { name := "senseBack", fn := fun _ => fun
  | [d1, d2] => { results := [.lit (.bool false)], args := [d1, d2] }
  | _ => none }
def SenseBackWrongFalsely : Prop := senseBackRow.holds Try.pinned (OpenSpec.ofChange senseBackWrong)

/-- 'reticulelaw04.SenseAdds': WHATEVER THE INPUT: true; the input reads as it did. -/
def senseAddsSpec : ChangeSpec := { name := "senseAdds", fn := fun _ => fun
  | [d1, d2] => { results := [.lit (.bool true)], args := [d1, d2] }
  | _ => none }
def senseAddsRow : OpenClaim := { program := "ytmkffbacmjgbcaa", sum := "b7acddbce40aa2e43c20bc3d2f9e2c10ed70bd7fedf3d1e9c129e85854a42e88", func := "reticule/reticulelaw04.SenseAdds", spec := "senseAdds", apart := false }
def SenseAddsSaid : Prop := senseAddsRow.holds Try.pinned (OpenSpec.ofChange senseAddsSpec)

/-- ITS FALSE NEIGHBOUR: 'it returns false'. Refute it at one input. -/
def senseAddsWrong : ChangeSpec := { name := "senseAdds", fn := fun _ => fun
  | [d1, d2] => { results := [.lit (.bool false)], args := [d1, d2] }
  | _ => none }
def SenseAddsWrongFalsely : Prop := senseAddsRow.holds Try.pinned (OpenSpec.ofChange senseAddsWrong)

/-- 'reticulelaw04.SenseTurns': WHATEVER THE INPUT: true; the input reads as it did. -/
def senseTurnsSpec : ChangeSpec := { name := "senseTurns", fn := fun _ => fun
  | [d] => { results := [.lit (.bool true)], args := [d] }
  | _ => none }
def senseTurnsRow : OpenClaim := { program := "ytmkffbacmjgbcaa", sum := "b7acddbce40aa2e43c20bc3d2f9e2c10ed70bd7fedf3d1e9c129e85854a42e88", func := "reticule/reticulelaw04.SenseTurns", spec := "senseTurns", apart := false }
def SenseTurnsSaid : Prop := senseTurnsRow.holds Try.pinned (OpenSpec.ofChange senseTurnsSpec)

/-- ITS FALSE NEIGHBOUR: 'it returns false'. Refute it at one input. -/
def senseTurnsWrong : ChangeSpec := { name := "senseTurns", fn := fun _ => fun
  | [d] => { results := [.lit (.bool false)], args := [d] }
  | _ => none }
def SenseTurnsWrongFalsely : Prop := senseTurnsRow.holds Try.pinned (OpenSpec.ofChange senseTurnsWrong)

/- THE SECOND FORM. 'bulk': how many values and letters a reading holds, each counted each time it is reached (what is shared counts as often as it is met; a slice's spare places count too). A statement '..UptoSaid' is the law's where the arguments, and the package variables that the reading takes, are together of bulk at most 1048576: NARROWER than '..Said'. Prove '..Said' where nothing that the law and all that it calls make is longer than what came in: it says more and counts as full. Else prove '..UptoSaid'. A law counts once. -/
mutual
def uptoBulk {H : Type} : DataW H → Nat
  | .lit (.string bytes) => bytes.length + 1
  | .lit _ => 1
  | .nil => 1
  | .ptr d => uptoBulk d + 1
  | .slice elems spare => uptoBulkAll elems + uptoBulkAll spare + 1
  | .agg parts => uptoBulkAll parts + 1
  | .iface _ d => uptoBulk d + 1
  | .map entries => uptoBulkEntries entries + 1
  | .held _ => 1
def uptoBulkAll {H : Type} : List (DataW H) → Nat
  | [] => 0
  | d :: r => uptoBulk d + uptoBulkAll r
def uptoBulkEntries {H : Type} : List (Lit × DataW H) → Nat
  | [] => 0
  | x :: r => uptoBulkEntry x + uptoBulkEntries r
def uptoBulkEntry {H : Type} : Lit × DataW H → Nat
  | (.string bytes, d) => bytes.length + uptoBulk d + 1
  | (_, d) => uptoBulk d + 1
 end
def uptoSmall : (H : Type) → List (DataW H) → Bool := fun _ ds => decide (uptoBulkAll ds ≤ 1048576)
def OpenSpec.upto (s : _root_.Go.ChangeSpec) : _root_.Go.OpenSpec := { _root_.Go.OpenSpec.ofChange s with cond := some uptoSmall }

/-- 'reticulelaw04.SenseBytes', WHERE WHAT IT READS IS OF BULK AT MOST 1048576: true; the input reads as it did. -/
def senseBytesUptoRow : OpenClaim := { program := "ytmkffbacmjgbcaa", sum := "b7acddbce40aa2e43c20bc3d2f9e2c10ed70bd7fedf3d1e9c129e85854a42e88", func := "reticule/reticulelaw04.SenseBytes", spec := "senseBytes", apart := false, narrowed := true }
def SenseBytesUptoSaid : Prop := senseBytesUptoRow.holds Try.pinned (OpenSpec.upto senseBytesSpec)

/-- 'reticulelaw04.SenseBack', WHERE WHAT IT READS IS OF BULK AT MOST 1048576: true; the input reads as it did. -/
def senseBackUptoRow : OpenClaim := { program := "ytmkffbacmjgbcaa", sum := "b7acddbce40aa2e43c20bc3d2f9e2c10ed70bd7fedf3d1e9c129e85854a42e88", func := "reticule/reticulelaw04.SenseBack", spec := "senseBack", apart := false, narrowed := true }
def SenseBackUptoSaid : Prop := senseBackUptoRow.holds Try.pinned (OpenSpec.upto senseBackSpec)

/-- 'reticulelaw04.SenseAdds', WHERE WHAT IT READS IS OF BULK AT MOST 1048576: true; the input reads as it did. -/
def senseAddsUptoRow : OpenClaim := { program := "ytmkffbacmjgbcaa", sum := "b7acddbce40aa2e43c20bc3d2f9e2c10ed70bd7fedf3d1e9c129e85854a42e88", func := "reticule/reticulelaw04.SenseAdds", spec := "senseAdds", apart := false, narrowed := true }
def SenseAddsUptoSaid : Prop := senseAddsUptoRow.holds Try.pinned (OpenSpec.upto senseAddsSpec)

/-- 'reticulelaw04.SenseTurns', WHERE WHAT IT READS IS OF BULK AT MOST 1048576: true; the input reads as it did. -/
def senseTurnsUptoRow : OpenClaim := { program := "ytmkffbacmjgbcaa", sum := "b7acddbce40aa2e43c20bc3d2f9e2c10ed70bd7fedf3d1e9c129e85854a42e88", func := "reticule/reticulelaw04.SenseTurns", spec := "senseTurns", apart := false, narrowed := true }
def SenseTurnsUptoSaid : Prop := senseTurnsUptoRow.holds Try.pinned (OpenSpec.upto senseTurnsSpec)

end Rows
end Go.Proofs.Ytmkffbacmjgbcaa
