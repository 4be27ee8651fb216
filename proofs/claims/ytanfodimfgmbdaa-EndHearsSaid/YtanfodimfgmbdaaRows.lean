/-
  No cell of these rows narrows 'for every input' (looked for: loops, veiled, ifaces, maps, wideKeys, modest, calm, conditions, laid).
  DERIVED. THE GIVEN ROWS OF THIS SEAT. 6 by the template 'for every input the law returns true; each argument reads behind the call as it read before'; 0 by the template 'total and deterministic' (their statements: YtanfodimfgmbdaaTotals.lean).
  GIVEN WITH THE SEED: the statements are not yours to turn. If you find one false, say at which input.
  Laid BY PROGRAM, IN A SANDBOX (cutbox-rows.mjs): the forced cells as the released guide's own fill.sh prints them over the translation af0031cba6fc78de… (all of the seat's roots in one cut). By AI agents, Wed Nov 11 2026. No macro, syntax, notation, axiom, sorry.
-/
import Derived.Test.YtanfodimfgmbdaaChecked
import GoSem.Claim
import GoSem.ClaimJoined
import GoSem.ClaimMapViews
import Derived.JoinedTies
import Derived.KernelRfl
namespace Go.Proofs.Ytanfodimfgmbdaa
/- THE CELL 'sum', in the pinned program and in every row, IS THE sha256 OF THE DUMP (.gsa) THAT YtanfodimfgmbdaaProg.lean LOADS. Nothing in Lean hashes anything: it is a label: what it is worth is what the hold of that sum in a sandbox is worth. -/
noncomputable def Try.pinned : Pinned := { name := "ytanfodimfgmbdaa", sum := "af0031cba6fc78de5ea14f4870e84ca01f95662a12f7e2d956add0666199b824", checked := Try.checked }
namespace Rows
def none {H : Type} : Left H := { results := [], args := [] }

/-- 'reticulelaw16.EndAsks': WHATEVER THE INPUT: true; the input reads as it did. -/
def endAsksSpec : ChangeSpec := { name := "endAsks", fn := fun _ => fun
  | [d1, d2, d3] => { results := [.lit (.bool true)], args := [d1, d2, d3] }
  | _ => none }
def endAsksRow : OpenClaim := { program := "ytanfodimfgmbdaa", sum := "af0031cba6fc78de5ea14f4870e84ca01f95662a12f7e2d956add0666199b824", func := "reticule/reticulelaw16.EndAsks", spec := "endAsks", apart := false }
def EndAsksSaid : Prop := endAsksRow.holds Try.pinned (OpenSpec.ofChange endAsksSpec)

/-- ITS FALSE NEIGHBOUR: 'it returns false'. Refute it at one input. -/
def endAsksWrong : ChangeSpec := { name := "endAsks", fn := fun _ => fun
  | [d1, d2, d3] => { results := [.lit (.bool false)], args := [d1, d2, d3] }
  | _ => none }
def EndAsksWrongFalsely : Prop := endAsksRow.holds Try.pinned (OpenSpec.ofChange endAsksWrong)

/-- 'reticulelaw16.EndTakes': WHATEVER THE INPUT: true; the input reads as it did. -/
def endTakesSpec : ChangeSpec := { name := "endTakes", fn := fun _ => fun
  | [d1, d2] => { results := [.lit (.bool true)], args := [d1, d2] }
  | _ => none }
def endTakesRow : OpenClaim := { program := "ytanfodimfgmbdaa", sum := "af0031cba6fc78de5ea14f4870e84ca01f95662a12f7e2d956add0666199b824", func := "reticule/reticulelaw16.EndTakes", spec := "endTakes", apart := false }
def EndTakesSaid : Prop := endTakesRow.holds Try.pinned (OpenSpec.ofChange endTakesSpec)

/-- ITS FALSE NEIGHBOUR: 'it returns false'. Refute it at one input. -/
def endTakesWrong : ChangeSpec := { name := "endTakes", fn := fun _ => fun
  | [d1, d2] => { results := [.lit (.bool false)], args := [d1, d2] }
  | _ => none }
def EndTakesWrongFalsely : Prop := endTakesRow.holds Try.pinned (OpenSpec.ofChange endTakesWrong)

/-- 'reticulelaw16.EndSends': WHATEVER THE INPUT: true; the input reads as it did. -/
def endSendsSpec : ChangeSpec := { name := "endSends", fn := fun _ => fun
  | [d1, d2] => { results := [.lit (.bool true)], args := [d1, d2] }
  | _ => none }
def endSendsRow : OpenClaim := { program := "ytanfodimfgmbdaa", sum := "af0031cba6fc78de5ea14f4870e84ca01f95662a12f7e2d956add0666199b824", func := "reticule/reticulelaw16.EndSends", spec := "endSends", apart := false }
def EndSendsSaid : Prop := endSendsRow.holds Try.pinned (OpenSpec.ofChange endSendsSpec)

/-- ITS FALSE NEIGHBOUR: 'it returns false'. Refute it at one input. -/
def endSendsWrong : ChangeSpec := { name := "endSends", fn := fun _ => fun
  | [d1, d2] => { results := [.lit (.bool false)], args := [d1, d2] }
  | _ => none }
def EndSendsWrongFalsely : Prop := endSendsRow.holds Try.pinned (OpenSpec.ofChange endSendsWrong)

/-- 'reticulelaw16.EndHears': WHATEVER THE INPUT: true; the input reads as it did. -/
def endHearsSpec : ChangeSpec := { name := "endHears", fn := fun _ => fun
  | [d1, d2] => { results := [.lit (.bool true)], args := [d1, d2] }
  | _ => none }
def endHearsRow : OpenClaim := { program := "ytanfodimfgmbdaa", sum := "af0031cba6fc78de5ea14f4870e84ca01f95662a12f7e2d956add0666199b824", func := "reticule/reticulelaw16.EndHears", spec := "endHears", apart := false }
def EndHearsSaid : Prop := endHearsRow.holds Try.pinned (OpenSpec.ofChange endHearsSpec)

/-- ITS FALSE NEIGHBOUR: 'it returns false'. Refute it at one input. -/
def endHearsWrong : ChangeSpec := { name := "endHears", fn := fun _ => fun
  | [d1, d2] => { results := [.lit (.bool false)], args := [d1, d2] }
  | _ => none }
def EndHearsWrongFalsely : Prop := endHearsRow.holds Try.pinned (OpenSpec.ofChange endHearsWrong)

/-- 'reticulelaw16.EndTurns': WHATEVER THE INPUT: true; the input reads as it did. -/
def endTurnsSpec : ChangeSpec := { name := "endTurns", fn := fun _ => fun
  | [d1, d2] => { results := [.lit (.bool true)], args := [d1, d2] }
  | _ => none }
def endTurnsRow : OpenClaim := { program := "ytanfodimfgmbdaa", sum := "af0031cba6fc78de5ea14f4870e84ca01f95662a12f7e2d956add0666199b824", func := "reticule/reticulelaw16.EndTurns", spec := "endTurns", apart := false }
def EndTurnsSaid : Prop := endTurnsRow.holds Try.pinned (OpenSpec.ofChange endTurnsSpec)

/-- ITS FALSE NEIGHBOUR: 'it returns false'. Refute it at one input. -/
def endTurnsWrong : ChangeSpec := { name := "endTurns", fn := fun _ => fun
  | [d1, d2] => { results := [.lit (.bool false)], args := [d1, d2] }
  | _ => none }
def EndTurnsWrongFalsely : Prop := endTurnsRow.holds Try.pinned (OpenSpec.ofChange endTurnsWrong)

/-- 'reticulelaw16.EndClears': WHATEVER THE INPUT: true; the input reads as it did. -/
def endClearsSpec : ChangeSpec := { name := "endClears", fn := fun _ => fun
  | [d1, d2, d3] => { results := [.lit (.bool true)], args := [d1, d2, d3] }
  | _ => none }
def endClearsRow : OpenClaim := { program := "ytanfodimfgmbdaa", sum := "af0031cba6fc78de5ea14f4870e84ca01f95662a12f7e2d956add0666199b824", func := "reticule/reticulelaw16.EndClears", spec := "endClears", apart := false }
def EndClearsSaid : Prop := endClearsRow.holds Try.pinned (OpenSpec.ofChange endClearsSpec)

/-- ITS FALSE NEIGHBOUR: 'it returns false'. Refute it at one input. -/
def endClearsWrong : ChangeSpec := { name := "endClears", fn := fun _ => fun
  | [d1, d2, d3] => { results := [.lit (.bool false)], args := [d1, d2, d3] }
  | _ => none }
def EndClearsWrongFalsely : Prop := endClearsRow.holds Try.pinned (OpenSpec.ofChange endClearsWrong)

/- THE SECOND FORM. 'bulk': how many values and letters a reading holds, each counted each time it is reached (what is shared counts as often as it is met; a slice's spare places count too). A statement '..UptoSaid' is the law's where the arguments, and the package variables that the reading takes, are together of bulk at most 1048576: NARROWER than '..Said'. Prove '..Said' where nothing that the law and all that it calls make is longer than what came in: it says more and counts as full. Else prove '..UptoSaid'. A law counts once. -/
mutual
def uptoBulk {H : Type} : DataW H → Nat
  | .lit (.string bytes) => bytes.length + 1
  | .lit _ => 1
  | .nil => 1
  | .ptr d => uptoBulk d + 1
  | .slice elems spare => uptoBulkAll elems + uptoBulkAll spare + 1
  | .agg parts => uptoBulkAll parts + 1
  | .iface _ d => uptoBulk d + 1
  | .map entries => uptoBulkEntries entries + 1
  | .held _ => 1
def uptoBulkAll {H : Type} : List (DataW H) → Nat
  | [] => 0
  | d :: r => uptoBulk d + uptoBulkAll r
def uptoBulkEntries {H : Type} : List (Lit × DataW H) → Nat
  | [] => 0
  | x :: r => uptoBulkEntry x + uptoBulkEntries r
def uptoBulkEntry {H : Type} : Lit × DataW H → Nat
  | (.string bytes, d) => bytes.length + uptoBulk d + 1
  | (_, d) => uptoBulk d + 1
 end
def uptoSmall : (H : Type) → List (DataW H) → Bool := fun _ ds => decide (uptoBulkAll ds ≤ 1048576)
def OpenSpec.upto (s : _root_.Go.ChangeSpec) : _root_.Go.OpenSpec := { _root_.Go.OpenSpec.ofChange s with cond := some uptoSmall }

/-- 'reticulelaw16.EndAsks', WHERE WHAT IT READS IS OF BULK AT MOST 1048576: true; the input reads as it did. -/
def endAsksUptoRow : OpenClaim := { program := "ytanfodimfgmbdaa", sum := "af0031cba6fc78de5ea14f4870e84ca01f95662a12f7e2d956add0666199b824", func := "reticule/reticulelaw16.EndAsks", spec := "endAsks", apart := false, narrowed := true }
def EndAsksUptoSaid : Prop := endAsksUptoRow.holds Try.pinned (OpenSpec.upto endAsksSpec)

/-- 'reticulelaw16.EndTakes', WHERE WHAT IT READS IS OF BULK AT MOST 1048576: true; the input reads as it did. -/
def endTakesUptoRow : OpenClaim := { program := "ytanfodimfgmbdaa", sum := "af0031cba6fc78de5ea14f4870e84ca01f95662a12f7e2d956add0666199b824", func := "reticule/reticulelaw16.EndTakes", spec := "endTakes", apart := false, narrowed := true }
def EndTakesUptoSaid : Prop := endTakesUptoRow.holds Try.pinned (OpenSpec.upto endTakesSpec)

/-- 'reticulelaw16.EndSends', WHERE WHAT IT READS IS OF BULK AT MOST 1048576: true; the input reads as it did. -/
def endSendsUptoRow : OpenClaim := { program := "ytanfodimfgmbdaa", sum := "af0031cba6fc78de5ea14f4870e84ca01f95662a12f7e2d956add0666199b824", func := "reticule/reticulelaw16.EndSends", spec := "endSends", apart := false, narrowed := true }
def EndSendsUptoSaid : Prop := endSendsUptoRow.holds Try.pinned (OpenSpec.upto endSendsSpec)

/-- 'reticulelaw16.EndHears', WHERE WHAT IT READS IS OF BULK AT MOST 1048576: true; the input reads as it did. -/
def endHearsUptoRow : OpenClaim := { program := "ytanfodimfgmbdaa", sum := "af0031cba6fc78de5ea14f4870e84ca01f95662a12f7e2d956add0666199b824", func := "reticule/reticulelaw16.EndHears", spec := "endHears", apart := false, narrowed := true }
def EndHearsUptoSaid : Prop := endHearsUptoRow.holds Try.pinned (OpenSpec.upto endHearsSpec)

/-- 'reticulelaw16.EndTurns', WHERE WHAT IT READS IS OF BULK AT MOST 1048576: true; the input reads as it did. -/
def endTurnsUptoRow : OpenClaim := { program := "ytanfodimfgmbdaa", sum := "af0031cba6fc78de5ea14f4870e84ca01f95662a12f7e2d956add0666199b824", func := "reticule/reticulelaw16.EndTurns", spec := "endTurns", apart := false, narrowed := true }
def EndTurnsUptoSaid : Prop := endTurnsUptoRow.holds Try.pinned (OpenSpec.upto endTurnsSpec)

/-- 'reticulelaw16.EndClears', WHERE WHAT IT READS IS OF BULK AT MOST 1048576: true; the input reads as it did. -/
def endClearsUptoRow : OpenClaim := { program := "ytanfodimfgmbdaa", sum := "af0031cba6fc78de5ea14f4870e84ca01f95662a12f7e2d956add0666199b824", func := "reticule/reticulelaw16.EndClears", spec := "endClears", apart := false, narrowed := true }
def EndClearsUptoSaid : Prop := endClearsUptoRow.holds Try.pinned (OpenSpec.upto endClearsSpec)

end Rows
end Go.Proofs.Ytanfodimfgmbdaa
