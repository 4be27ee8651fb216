/-
  No cell of these rows narrows 'for every input' (looked for: loops, veiled, ifaces, maps, wideKeys, modest, calm, conditions, laid).
  DERIVED. THE GIVEN ROWS OF THIS SEAT. 4 by the template 'for every input the law returns true; each argument reads behind the call as it read before'; 0 by the template 'total and deterministic' (their statements: YtjaaojlggjlgeaaTotals.lean).
  GIVEN WITH THE SEED: the statements are not yours to turn. If you find one false, say at which input.
  Laid BY PROGRAM, IN A SANDBOX (cutbox-rows.mjs): the forced cells as the released guide's own fill.sh prints them over the translation 0b10a447fea04424… (all of the seat's roots in one cut). By AI agents, Wed Nov 11 2026. No macro, syntax, notation, axiom, sorry.
-/
import Derived.Test.YtjaaojlggjlgeaaChecked
import GoSem.Claim
import GoSem.ClaimJoined
import GoSem.ClaimMapViews
import Derived.JoinedTies
import Derived.KernelRfl
namespace Go.Proofs.Ytjaaojlggjlgeaa
/- THE CELL 'sum', in the pinned program and in every row, IS THE sha256 OF THE DUMP (.gsa) THAT YtjaaojlggjlgeaaProg.lean LOADS. Nothing in Lean hashes anything: it is a label: what it is worth is what the hold of that sum in a sandbox is worth. -/
noncomputable def Try.pinned : Pinned := { name := "ytjaaojlggjlgeaa", sum := "0b10a447fea044247849210213665e7a5abfc5071516f2771eb81cff09054ed7", checked := Try.checked }
namespace Rows
def none {H : Type} : Left H := { results := [], args := [] }

/-- 'reticulelaw07.InquiryAnswers': WHATEVER THE INPUT: true; the input reads as it did. -/
def inquiryAnswersSpec : ChangeSpec := { name := "inquiryAnswers", fn := fun _ => fun
  | [d1, d2, d3] => { results := [.lit (.bool true)], args := [d1, d2, d3] }
  | _ => none }
def inquiryAnswersRow : OpenClaim := { program := "ytjaaojlggjlgeaa", sum := "0b10a447fea044247849210213665e7a5abfc5071516f2771eb81cff09054ed7", func := "reticule/reticulelaw07.InquiryAnswers", spec := "inquiryAnswers", apart := false }
def InquiryAnswersSaid : Prop := inquiryAnswersRow.holds Try.pinned (OpenSpec.ofChange inquiryAnswersSpec)

/-- ITS FALSE NEIGHBOUR: 'it returns false'. Refute it at one input. -/
def inquiryAnswersWrong : ChangeSpec := { name := "inquiryAnswers", fn := fun _ => fun
  | [d1, d2, d3] => { results := [.lit (.bool false)], args := [d1, d2, d3] }
  | _ => none }
def InquiryAnswersWrongFalsely : Prop := inquiryAnswersRow.holds Try.pinned (OpenSpec.ofChange inquiryAnswersWrong)

/-- 'reticulelaw07.InquiryPages': WHATEVER THE INPUT: true; the input reads as it did. -/
def inquiryPagesSpec : ChangeSpec := { name := "inquiryPages", fn := fun _ => fun
  | [d1, d2, d3] => { results := [.lit (.bool true)], args := [d1, d2, d3] }
  | _ => none }
def inquiryPagesRow : OpenClaim := { program := "ytjaaojlggjlgeaa", sum := "0b10a447fea044247849210213665e7a5abfc5071516f2771eb81cff09054ed7", func := "reticule/reticulelaw07.InquiryPages", spec := "inquiryPages", apart := false }
def InquiryPagesSaid : Prop := inquiryPagesRow.holds Try.pinned (OpenSpec.ofChange inquiryPagesSpec)

/-- ITS FALSE NEIGHBOUR: 'it returns false'. Refute it at one input. -/
def inquiryPagesWrong : ChangeSpec := { name := "inquiryPages", fn := fun _ => fun
  | [d1, d2, d3] => { results := [.lit (.bool false)], args := [d1, d2, d3] }
  | _ => none }
def InquiryPagesWrongFalsely : Prop := inquiryPagesRow.holds Try.pinned (OpenSpec.ofChange inquiryPagesWrong)

/-- 'reticulelaw07.InquiryCuts': WHATEVER THE INPUT: true; the input reads as it did. -/
def inquiryCutsSpec : ChangeSpec := { name := "inquiryCuts", fn := fun _ => fun
  | [d1, d2, d3] => { results := [.lit (.bool true)], args := [d1, d2, d3] }
  | _ => none }
def inquiryCutsRow : OpenClaim := { program := "ytjaaojlggjlgeaa", sum := "0b10a447fea044247849210213665e7a5abfc5071516f2771eb81cff09054ed7", func := "reticule/reticulelaw07.InquiryCuts", spec := "inquiryCuts", apart := false }
def InquiryCutsSaid : Prop := inquiryCutsRow.holds Try.pinned (OpenSpec.ofChange inquiryCutsSpec)

/-- ITS FALSE NEIGHBOUR: 'it returns false'. Refute it at one input. -/
def inquiryCutsWrong : ChangeSpec := { name := "inquiryCuts", fn := fun _ => fun
  | [d1, d2, d3] => { results := [.lit (.bool false)], args := [d1, d2, d3] }
  | _ => none }
def InquiryCutsWrongFalsely : Prop := inquiryCutsRow.holds Try.pinned (OpenSpec.ofChange inquiryCutsWrong)

/-- 'reticulelaw07.InquirySerials': WHATEVER THE INPUT: true; the input reads as it did. -/
def inquirySerialsSpec : ChangeSpec := { name := "inquirySerials", fn := fun _ => fun
  | [d1, d2] => { results := [.lit (.bool true)], args := [d1, d2] }
  | _ => none }
def inquirySerialsRow : OpenClaim := { program := "ytjaaojlggjlgeaa", sum := "0b10a447fea044247849210213665e7a5abfc5071516f2771eb81cff09054ed7", func := "reticule/reticulelaw07.InquirySerials", spec := "inquirySerials", apart := false }
def InquirySerialsSaid : Prop := inquirySerialsRow.holds Try.pinned (OpenSpec.ofChange inquirySerialsSpec)

/-- ITS FALSE NEIGHBOUR: 'it returns false'. Refute it at one input. -/
def inquirySerialsWrong : ChangeSpec := { name := "inquirySerials", fn := fun _ => fun
  | [d1, d2] => { results := [.lit (.bool false)], args := [d1, d2] }
  | _ => none }
def InquirySerialsWrongFalsely : Prop := inquirySerialsRow.holds Try.pinned (OpenSpec.ofChange inquirySerialsWrong)

/- THE SECOND FORM. 'bulk': how many values and letters a reading holds, each counted each time it is reached (what is shared counts as often as it is met; a slice's spare places count too). A statement '..UptoSaid' is the law's where the arguments, and the package variables that the reading takes, are together of bulk at most 1048576: NARROWER than '..Said'. Prove '..Said' where nothing that the law and all that it calls make is longer than what came in: it says more and counts as full. Else prove '..UptoSaid'. A law counts once. -/
mutual
def uptoBulk {H : Type} : DataW H → Nat
  | .lit (.string bytes) => bytes.length + 1
  | .lit _ => 1
  | .nil => 1
  | .ptr d => uptoBulk d + 1
  | .slice elems spare => uptoBulkAll elems + uptoBulkAll spare + 1
  | .agg parts => uptoBulkAll parts + 1
  | .iface _ d => uptoBulk d + 1
  | .map entries => uptoBulkEntries entries + 1
  | .held _ => 1
def uptoBulkAll {H : Type} : List (DataW H) → Nat
  | [] => 0
  | d :: r => uptoBulk d + uptoBulkAll r
def uptoBulkEntries {H : Type} : List (Lit × DataW H) → Nat
  | [] => 0
  | x :: r => uptoBulkEntry x + uptoBulkEntries r
def uptoBulkEntry {H : Type} : Lit × DataW H → Nat
  | (.string bytes, d) => bytes.length + uptoBulk d + 1
  | (_, d) => uptoBulk d + 1
 end
def uptoSmall : (H : Type) → List (DataW H) → Bool := fun _ ds => decide (uptoBulkAll ds ≤ 1048576)
def OpenSpec.upto (s : _root_.Go.ChangeSpec) : _root_.Go.OpenSpec := { _root_.Go.OpenSpec.ofChange s with cond := some uptoSmall }

/-- 'reticulelaw07.InquiryAnswers', WHERE WHAT IT READS IS OF BULK AT MOST 1048576: true; the input reads as it did. -/
def inquiryAnswersUptoRow : OpenClaim := { program := "ytjaaojlggjlgeaa", sum := "0b10a447fea044247849210213665e7a5abfc5071516f2771eb81cff09054ed7", func := "reticule/reticulelaw07.InquiryAnswers", spec := "inquiryAnswers", apart := false, narrowed := true }
def InquiryAnswersUptoSaid : Prop := inquiryAnswersUptoRow.holds Try.pinned (OpenSpec.upto inquiryAnswersSpec)

/-- 'reticulelaw07.InquiryPages', WHERE WHAT IT READS IS OF BULK AT MOST 1048576: true; the input reads as it did. -/
def inquiryPagesUptoRow : OpenClaim := { program := "ytjaaojlggjlgeaa", sum := "0b10a447fea044247849210213665e7a5abfc5071516f2771eb81cff09054ed7", func := "reticule/reticulelaw07.InquiryPages", spec := "inquiryPages", apart := false, narrowed := true }
def InquiryPagesUptoSaid : Prop := inquiryPagesUptoRow.holds Try.pinned (OpenSpec.upto inquiryPagesSpec)

/-- 'reticulelaw07.InquiryCuts', WHERE WHAT IT READS IS OF BULK AT MOST 1048576: true; the input reads as it did. -/
def inquiryCutsUptoRow : OpenClaim := { program := "ytjaaojlggjlgeaa", sum := "0b10a447fea044247849210213665e7a5abfc5071516f2771eb81cff09054ed7", func := "reticule/reticulelaw07.InquiryCuts", spec := "inquiryCuts", apart := false, narrowed := true }
def InquiryCutsUptoSaid : Prop := inquiryCutsUptoRow.holds Try.pinned (OpenSpec.upto inquiryCutsSpec)

/-- 'reticulelaw07.InquirySerials', WHERE WHAT IT READS IS OF BULK AT MOST 1048576: true; the input reads as it did. -/
def inquirySerialsUptoRow : OpenClaim := { program := "ytjaaojlggjlgeaa", sum := "0b10a447fea044247849210213665e7a5abfc5071516f2771eb81cff09054ed7", func := "reticule/reticulelaw07.InquirySerials", spec := "inquirySerials", apart := false, narrowed := true }
def InquirySerialsUptoSaid : Prop := inquirySerialsUptoRow.holds Try.pinned (OpenSpec.upto inquirySerialsSpec)

end Rows
end Go.Proofs.Ytjaaojlggjlgeaa
