/-
  No cell of these rows narrows 'for every input' (looked for: loops, veiled, ifaces, maps, wideKeys, modest, calm, conditions, laid).
  DERIVED. THE GIVEN ROWS OF THIS SEAT. 4 by the template 'for every input the law returns true; each argument reads behind the call as it read before'; 0 by the template 'total and deterministic' (their statements: YtnhmeldgpgidiaaTotals.lean).
  GIVEN WITH THE SEED: the statements are not yours to turn. If you find one false, say at which input.
  Laid BY PROGRAM, IN A SANDBOX (cutbox-rows.mjs): the forced cells as the released guide's own fill.sh prints them over the translation d8a1c51438a1cdf6… (all of the seat's roots in one cut). By AI agents, Wed Nov 11 2026. No macro, syntax, notation, axiom, sorry.
-/
import Derived.Test.YtnhmeldgpgidiaaChecked
import GoSem.Claim
import GoSem.ClaimJoined
import GoSem.ClaimMapViews
import Derived.JoinedTies
import Derived.KernelRfl
namespace Go.Proofs.Ytnhmeldgpgidiaa
/- THE CELL 'sum', in the pinned program and in every row, IS THE sha256 OF THE DUMP (.gsa) THAT YtnhmeldgpgidiaaProg.lean LOADS. Nothing in Lean hashes anything: it is a label: what it is worth is what the hold of that sum in a sandbox is worth. -/
noncomputable def Try.pinned : Pinned := { name := "ytnhmeldgpgidiaa", sum := "d8a1c51438a1cdf6b55b030fa2d819b9afb097183e6143887539ec6426e6d6f2", checked := Try.checked }
namespace Rows
def none {H : Type} : Left H := { results := [], args := [] }

/-- 'reticulelaw06.CdbParses': WHATEVER THE INPUT: true; the input reads as it did. -/
def cdbParsesSpec : ChangeSpec := { name := "cdbParses", fn := fun _ => fun
  | [d1, d2] => { results := [.lit (.bool true)], args := [d1, d2] }
  | _ => none }
def cdbParsesRow : OpenClaim := { program := "ytnhmeldgpgidiaa", sum := "d8a1c51438a1cdf6b55b030fa2d819b9afb097183e6143887539ec6426e6d6f2", func := "reticule/reticulelaw06.CdbParses", spec := "cdbParses", plainKeys := false, apart := false }
def CdbParsesSaid : Prop := cdbParsesRow.holds Try.pinned (OpenSpec.ofChange cdbParsesSpec)

/-- ITS FALSE NEIGHBOUR: 'it returns false'. Refute it at one input. -/
def cdbParsesWrong : ChangeSpec := { name := "cdbParses", fn := fun _ => fun
  | [d1, d2] => { results := [.lit (.bool false)], args := [d1, d2] }
  | _ => none }
def CdbParsesWrongFalsely : Prop := cdbParsesRow.holds Try.pinned (OpenSpec.ofChange cdbParsesWrong)

/-- 'reticulelaw06.CdbBytes': WHATEVER THE INPUT: true; the input reads as it did. -/
def cdbBytesSpec : ChangeSpec := { name := "cdbBytes", fn := fun _ => fun
  | [d] => { results := [.lit (.bool true)], args := [d] }
  | _ => none }
def cdbBytesRow : OpenClaim := { program := "ytnhmeldgpgidiaa", sum := "d8a1c51438a1cdf6b55b030fa2d819b9afb097183e6143887539ec6426e6d6f2", func := "reticule/reticulelaw06.CdbBytes", spec := "cdbBytes", plainKeys := false, apart := false }
def CdbBytesSaid : Prop := cdbBytesRow.holds Try.pinned (OpenSpec.ofChange cdbBytesSpec)

/-- ITS FALSE NEIGHBOUR: 'it returns false'. Refute it at one input. -/
def cdbBytesWrong : ChangeSpec := { name := "cdbBytes", fn := fun _ => fun
  | [d] => { results := [.lit (.bool false)], args := [d] }
  | _ => none }
def CdbBytesWrongFalsely : Prop := cdbBytesRow.holds Try.pinned (OpenSpec.ofChange cdbBytesWrong)

/-- 'reticulelaw06.CdbBack': WHATEVER THE INPUT: true; the input reads as it did. -/
def cdbBackSpec : ChangeSpec := { name := "cdbBack", fn := fun _ => fun
  | [d1, d2] => { results := [.lit (.bool true)], args := [d1, d2] }
  | _ => none }
def cdbBackRow : OpenClaim := { program := "ytnhmeldgpgidiaa", sum := "d8a1c51438a1cdf6b55b030fa2d819b9afb097183e6143887539ec6426e6d6f2", func := "reticule/reticulelaw06.CdbBack", spec := "cdbBack", plainKeys := false, apart := false }
def CdbBackSaid : Prop := cdbBackRow.holds Try.pinned (OpenSpec.ofChange cdbBackSpec)

/-- ITS FALSE NEIGHBOUR: 'it returns false'. Refute it at one input. -/
def cdbBackWrong : ChangeSpec := { name := "cdbBack", fn := fun _ => fun
  | [d1, d2] => { results := [.lit (.bool false)], args := [d1, d2] }
  | _ => none }
def CdbBackWrongFalsely : Prop := cdbBackRow.holds Try.pinned (OpenSpec.ofChange cdbBackWrong)

/-- 'reticulelaw06.CdbBlocks': WHATEVER THE INPUT: true; the input reads as it did. -/
def cdbBlocksSpec : ChangeSpec := { name := "cdbBlocks", fn := fun _ => fun
  | [d1, d2, d3] => { results := [.lit (.bool true)], args := [d1, d2, d3] }
  | _ => none }
def cdbBlocksRow : OpenClaim := { program := "ytnhmeldgpgidiaa", sum := "d8a1c51438a1cdf6b55b030fa2d819b9afb097183e6143887539ec6426e6d6f2", func := "reticule/reticulelaw06.CdbBlocks", spec := "cdbBlocks", plainKeys := false, apart := false }
def CdbBlocksSaid : Prop := cdbBlocksRow.holds Try.pinned (OpenSpec.ofChange cdbBlocksSpec)

/-- ITS FALSE NEIGHBOUR: 'it returns false'. Refute it at one input. -/
def cdbBlocksWrong : ChangeSpec := { name := "cdbBlocks", fn := fun _ => fun
  | [d1, d2, d3] => { results := [.lit (.bool false)], args := [d1, d2, d3] }
  | _ => none }
def CdbBlocksWrongFalsely : Prop := cdbBlocksRow.holds Try.pinned (OpenSpec.ofChange cdbBlocksWrong)

/- THE SECOND FORM. 'bulk': how many values and letters a reading holds, each counted each time it is reached (what is shared counts as often as it is met; a slice's spare places count too). A statement '..UptoSaid' is the law's where the arguments, and the package variables that the reading takes, are together of bulk at most 1048576: NARROWER than '..Said'. Prove '..Said' where nothing that the law and all that it calls make is longer than what came in: it says more and counts as full. Else prove '..UptoSaid'. A law counts once. -/
mutual
def uptoBulk {H : Type} : DataW H → Nat
  | .lit (.string bytes) => bytes.length + 1
  | .lit _ => 1
  | .nil => 1
  | .ptr d => uptoBulk d + 1
  | .slice elems spare => uptoBulkAll elems + uptoBulkAll spare + 1
  | .agg parts => uptoBulkAll parts + 1
  | .iface _ d => uptoBulk d + 1
  | .map entries => uptoBulkEntries entries + 1
  | .held _ => 1
def uptoBulkAll {H : Type} : List (DataW H) → Nat
  | [] => 0
  | d :: r => uptoBulk d + uptoBulkAll r
def uptoBulkEntries {H : Type} : List (Lit × DataW H) → Nat
  | [] => 0
  | x :: r => uptoBulkEntry x + uptoBulkEntries r
def uptoBulkEntry {H : Type} : Lit × DataW H → Nat
  | (.string bytes, d) => bytes.length + uptoBulk d + 1
  | (_, d) => uptoBulk d + 1
 end
def uptoSmall : (H : Type) → List (DataW H) → Bool := fun _ ds => decide (uptoBulkAll ds ≤ 1048576)
def OpenSpec.upto (s : _root_.Go.ChangeSpec) : _root_.Go.OpenSpec := { _root_.Go.OpenSpec.ofChange s with cond := some uptoSmall }

/-- 'reticulelaw06.CdbParses', WHERE WHAT IT READS IS OF BULK AT MOST 1048576: true; the input reads as it did. -/
def cdbParsesUptoRow : OpenClaim := { program := "ytnhmeldgpgidiaa", sum := "d8a1c51438a1cdf6b55b030fa2d819b9afb097183e6143887539ec6426e6d6f2", func := "reticule/reticulelaw06.CdbParses", spec := "cdbParses", plainKeys := false, apart := false, narrowed := true }
def CdbParsesUptoSaid : Prop := cdbParsesUptoRow.holds Try.pinned (OpenSpec.upto cdbParsesSpec)

/-- 'reticulelaw06.CdbBytes', WHERE WHAT IT READS IS OF BULK AT MOST 1048576: true; the input reads as it did. -/
def cdbBytesUptoRow : OpenClaim := { program := "ytnhmeldgpgidiaa", sum := "d8a1c51438a1cdf6b55b030fa2d819b9afb097183e6143887539ec6426e6d6f2", func := "reticule/reticulelaw06.CdbBytes", spec := "cdbBytes", plainKeys := false, apart := false, narrowed := true }
def CdbBytesUptoSaid : Prop := cdbBytesUptoRow.holds Try.pinned (OpenSpec.upto cdbBytesSpec)

/-- 'reticulelaw06.CdbBack', WHERE WHAT IT READS IS OF BULK AT MOST 1048576: true; the input reads as it did. -/
def cdbBackUptoRow : OpenClaim := { program := "ytnhmeldgpgidiaa", sum := "d8a1c51438a1cdf6b55b030fa2d819b9afb097183e6143887539ec6426e6d6f2", func := "reticule/reticulelaw06.CdbBack", spec := "cdbBack", plainKeys := false, apart := false, narrowed := true }
def CdbBackUptoSaid : Prop := cdbBackUptoRow.holds Try.pinned (OpenSpec.upto cdbBackSpec)

/-- 'reticulelaw06.CdbBlocks', WHERE WHAT IT READS IS OF BULK AT MOST 1048576: true; the input reads as it did. -/
def cdbBlocksUptoRow : OpenClaim := { program := "ytnhmeldgpgidiaa", sum := "d8a1c51438a1cdf6b55b030fa2d819b9afb097183e6143887539ec6426e6d6f2", func := "reticule/reticulelaw06.CdbBlocks", spec := "cdbBlocks", plainKeys := false, apart := false, narrowed := true }
def CdbBlocksUptoSaid : Prop := cdbBlocksUptoRow.holds Try.pinned (OpenSpec.upto cdbBlocksSpec)

end Rows
end Go.Proofs.Ytnhmeldgpgidiaa
