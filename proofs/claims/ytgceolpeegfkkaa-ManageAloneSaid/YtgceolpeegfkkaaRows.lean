/-
  No cell of these rows narrows 'for every input' (looked for: loops, veiled, ifaces, maps, wideKeys, modest, calm, conditions, laid).
  DERIVED. THE GIVEN ROWS OF THIS SEAT. 5 by the template 'for every input the law returns true; each argument reads behind the call as it read before'; 0 by the template 'total and deterministic' (their statements: YtgceolpeegfkkaaTotals.lean).
  GIVEN WITH THE SEED: the statements are not yours to turn. If you find one false, say at which input.
  Laid BY PROGRAM, IN A SANDBOX (cutbox-rows.mjs): the forced cells as the released guide's own fill.sh prints them over the translation 1bd1f688cc2825e4… (all of the seat's roots in one cut). By AI agents, Wed Nov 11 2026. No macro, syntax, notation, axiom, sorry.
-/
import Derived.Test.YtgceolpeegfkkaaChecked
import GoSem.Claim
import GoSem.ClaimJoined
import GoSem.ClaimMapViews
import Derived.JoinedTies
import Derived.KernelRfl
namespace Go.Proofs.Ytgceolpeegfkkaa
/- THE CELL 'sum', in the pinned program and in every row, IS THE sha256 OF THE DUMP (.gsa) THAT YtgceolpeegfkkaaProg.lean LOADS. Nothing in Lean hashes anything: it is a label: what it is worth is what the hold of that sum in a sandbox is worth. -/
noncomputable def Try.pinned : Pinned := { name := "ytgceolpeegfkkaa", sum := "1bd1f688cc2825e4655b61af6d745ce0e92b1d979a41ea1ff552e1f9169aaee2", checked := Try.checked }
namespace Rows
def none {H : Type} : Left H := { results := [], args := [] }

/-- 'reticulelaw24.ManageDoes': WHATEVER THE INPUT: true; the input reads as it did. -/
def manageDoesSpec : ChangeSpec := { name := "manageDoes", fn := fun _ => fun
  | [d1, d2, d3] => { results := [.lit (.bool true)], args := [d1, d2, d3] }
  | _ => none }
def manageDoesRow : OpenClaim := { program := "ytgceolpeegfkkaa", sum := "1bd1f688cc2825e4655b61af6d745ce0e92b1d979a41ea1ff552e1f9169aaee2", func := "reticule/reticulelaw24.ManageDoes", spec := "manageDoes", unfollowed := true, recurses := true, plainKeys := false, apart := false }
def ManageDoesSaid : Prop := manageDoesRow.holds Try.pinned (OpenSpec.ofChange manageDoesSpec)

/-- ITS FALSE NEIGHBOUR: 'it returns false'. Refute it at one input. -/
def manageDoesWrong : ChangeSpec := { name := "manageDoes", fn := fun _ => fun
  | [d1, d2, d3] => { results := [.lit (.bool false)], args := [d1, d2, d3] }
  | _ => none }
def ManageDoesWrongFalsely : Prop := manageDoesRow.holds Try.pinned (OpenSpec.ofChange manageDoesWrong)

/-- 'reticulelaw24.ManageDrops': WHATEVER THE INPUT: true; the input reads as it did. -/
def manageDropsSpec : ChangeSpec := { name := "manageDrops", fn := fun _ => fun
  | [d1, d2] => { results := [.lit (.bool true)], args := [d1, d2] }
  | _ => none }
def manageDropsRow : OpenClaim := { program := "ytgceolpeegfkkaa", sum := "1bd1f688cc2825e4655b61af6d745ce0e92b1d979a41ea1ff552e1f9169aaee2", func := "reticule/reticulelaw24.ManageDrops", spec := "manageDrops", unfollowed := true, recurses := true, plainKeys := false, apart := false }
def ManageDropsSaid : Prop := manageDropsRow.holds Try.pinned (OpenSpec.ofChange manageDropsSpec)

/-- ITS FALSE NEIGHBOUR: 'it returns false'. Refute it at one input. -/
def manageDropsWrong : ChangeSpec := { name := "manageDrops", fn := fun _ => fun
  | [d1, d2] => { results := [.lit (.bool false)], args := [d1, d2] }
  | _ => none }
def ManageDropsWrongFalsely : Prop := manageDropsRow.holds Try.pinned (OpenSpec.ofChange manageDropsWrong)

/-- 'reticulelaw24.ManageAlone': WHATEVER THE INPUT: true; the input reads as it did. -/
def manageAloneSpec : ChangeSpec := { name := "manageAlone", fn := fun _ => fun
  | [d1, d2, d3] => { results := [.lit (.bool true)], args := [d1, d2, d3] }
  | _ => none }
def manageAloneRow : OpenClaim := { program := "ytgceolpeegfkkaa", sum := "1bd1f688cc2825e4655b61af6d745ce0e92b1d979a41ea1ff552e1f9169aaee2", func := "reticule/reticulelaw24.ManageAlone", spec := "manageAlone", unfollowed := true, recurses := true, plainKeys := false, apart := false }
def ManageAloneSaid : Prop := manageAloneRow.holds Try.pinned (OpenSpec.ofChange manageAloneSpec)

/-- ITS FALSE NEIGHBOUR: 'it returns false'. Refute it at one input. -/
def manageAloneWrong : ChangeSpec := { name := "manageAlone", fn := fun _ => fun
  | [d1, d2, d3] => { results := [.lit (.bool false)], args := [d1, d2, d3] }
  | _ => none }
def ManageAloneWrongFalsely : Prop := manageAloneRow.holds Try.pinned (OpenSpec.ofChange manageAloneWrong)

/-- 'reticulelaw24.ManageGone': WHATEVER THE INPUT: true; the input reads as it did. -/
def manageGoneSpec : ChangeSpec := { name := "manageGone", fn := fun _ => fun
  | [d1, d2, d3] => { results := [.lit (.bool true)], args := [d1, d2, d3] }
  | _ => none }
def manageGoneRow : OpenClaim := { program := "ytgceolpeegfkkaa", sum := "1bd1f688cc2825e4655b61af6d745ce0e92b1d979a41ea1ff552e1f9169aaee2", func := "reticule/reticulelaw24.ManageGone", spec := "manageGone", unfollowed := true, recurses := true, plainKeys := false, apart := false }
def ManageGoneSaid : Prop := manageGoneRow.holds Try.pinned (OpenSpec.ofChange manageGoneSpec)

/-- ITS FALSE NEIGHBOUR: 'it returns false'. Refute it at one input. -/
def manageGoneWrong : ChangeSpec := { name := "manageGone", fn := fun _ => fun
  | [d1, d2, d3] => { results := [.lit (.bool false)], args := [d1, d2, d3] }
  | _ => none }
def ManageGoneWrongFalsely : Prop := manageGoneRow.holds Try.pinned (OpenSpec.ofChange manageGoneWrong)

/-- 'reticulelaw24.ManageAsks': WHATEVER THE INPUT: true; the input reads as it did. -/
def manageAsksSpec : ChangeSpec := { name := "manageAsks", fn := fun _ => fun
  | [d1, d2, d3] => { results := [.lit (.bool true)], args := [d1, d2, d3] }
  | _ => none }
def manageAsksRow : OpenClaim := { program := "ytgceolpeegfkkaa", sum := "1bd1f688cc2825e4655b61af6d745ce0e92b1d979a41ea1ff552e1f9169aaee2", func := "reticule/reticulelaw24.ManageAsks", spec := "manageAsks", unfollowed := true, recurses := true, plainKeys := false, apart := false }
def ManageAsksSaid : Prop := manageAsksRow.holds Try.pinned (OpenSpec.ofChange manageAsksSpec)

/-- ITS FALSE NEIGHBOUR: 'it returns false'. Refute it at one input. -/
def manageAsksWrong : ChangeSpec := { name := "manageAsks", fn := fun _ => fun
  | [d1, d2, d3] => { results := [.lit (.bool false)], args := [d1, d2, d3] }
  | _ => none }
def ManageAsksWrongFalsely : Prop := manageAsksRow.holds Try.pinned (OpenSpec.ofChange manageAsksWrong)

/- THE SECOND FORM. 'bulk': how many values and letters a reading holds, each counted each time it is reached (what is shared counts as often as it is met; a slice's spare places count too). A statement '..UptoSaid' is the law's where the arguments, and the package variables that the reading takes, are together of bulk at most 1048576: NARROWER than '..Said'. Prove '..Said' where nothing that the law and all that it calls make is longer than what came in: it says more and counts as full. Else prove '..UptoSaid'. A law counts once. -/
mutual
def uptoBulk {H : Type} : DataW H → Nat
  | .lit (.string bytes) => bytes.length + 1
  | .lit _ => 1
  | .nil => 1
  | .ptr d => uptoBulk d + 1
  | .slice elems spare => uptoBulkAll elems + uptoBulkAll spare + 1
  | .agg parts => uptoBulkAll parts + 1
  | .iface _ d => uptoBulk d + 1
  | .map entries => uptoBulkEntries entries + 1
  | .held _ => 1
def uptoBulkAll {H : Type} : List (DataW H) → Nat
  | [] => 0
  | d :: r => uptoBulk d + uptoBulkAll r
def uptoBulkEntries {H : Type} : List (Lit × DataW H) → Nat
  | [] => 0
  | x :: r => uptoBulkEntry x + uptoBulkEntries r
def uptoBulkEntry {H : Type} : Lit × DataW H → Nat
  | (.string bytes, d) => bytes.length + uptoBulk d + 1
  | (_, d) => uptoBulk d + 1
 end
def uptoSmall : (H : Type) → List (DataW H) → Bool := fun _ ds => decide (uptoBulkAll ds ≤ 1048576)
def OpenSpec.upto (s : _root_.Go.ChangeSpec) : _root_.Go.OpenSpec := { _root_.Go.OpenSpec.ofChange s with cond := some uptoSmall }

/-- 'reticulelaw24.ManageDoes', WHERE WHAT IT READS IS OF BULK AT MOST 1048576: true; the input reads as it did. -/
def manageDoesUptoRow : OpenClaim := { program := "ytgceolpeegfkkaa", sum := "1bd1f688cc2825e4655b61af6d745ce0e92b1d979a41ea1ff552e1f9169aaee2", func := "reticule/reticulelaw24.ManageDoes", spec := "manageDoes", unfollowed := true, recurses := true, plainKeys := false, apart := false, narrowed := true }
def ManageDoesUptoSaid : Prop := manageDoesUptoRow.holds Try.pinned (OpenSpec.upto manageDoesSpec)

/-- 'reticulelaw24.ManageDrops', WHERE WHAT IT READS IS OF BULK AT MOST 1048576: true; the input reads as it did. -/
def manageDropsUptoRow : OpenClaim := { program := "ytgceolpeegfkkaa", sum := "1bd1f688cc2825e4655b61af6d745ce0e92b1d979a41ea1ff552e1f9169aaee2", func := "reticule/reticulelaw24.ManageDrops", spec := "manageDrops", unfollowed := true, recurses := true, plainKeys := false, apart := false, narrowed := true }
def ManageDropsUptoSaid : Prop := manageDropsUptoRow.holds Try.pinned (OpenSpec.upto manageDropsSpec)

/-- 'reticulelaw24.ManageAlone', WHERE WHAT IT READS IS OF BULK AT MOST 1048576: true; the input reads as it did. -/
def manageAloneUptoRow : OpenClaim := { program := "ytgceolpeegfkkaa", sum := "1bd1f688cc2825e4655b61af6d745ce0e92b1d979a41ea1ff552e1f9169aaee2", func := "reticule/reticulelaw24.ManageAlone", spec := "manageAlone", unfollowed := true, recurses := true, plainKeys := false, apart := false, narrowed := true }
def ManageAloneUptoSaid : Prop := manageAloneUptoRow.holds Try.pinned (OpenSpec.upto manageAloneSpec)

/-- 'reticulelaw24.ManageGone', WHERE WHAT IT READS IS OF BULK AT MOST 1048576: true; the input reads as it did. -/
def manageGoneUptoRow : OpenClaim := { program := "ytgceolpeegfkkaa", sum := "1bd1f688cc2825e4655b61af6d745ce0e92b1d979a41ea1ff552e1f9169aaee2", func := "reticule/reticulelaw24.ManageGone", spec := "manageGone", unfollowed := true, recurses := true, plainKeys := false, apart := false, narrowed := true }
def ManageGoneUptoSaid : Prop := manageGoneUptoRow.holds Try.pinned (OpenSpec.upto manageGoneSpec)

/-- 'reticulelaw24.ManageAsks', WHERE WHAT IT READS IS OF BULK AT MOST 1048576: true; the input reads as it did. -/
def manageAsksUptoRow : OpenClaim := { program := "ytgceolpeegfkkaa", sum := "1bd1f688cc2825e4655b61af6d745ce0e92b1d979a41ea1ff552e1f9169aaee2", func := "reticule/reticulelaw24.ManageAsks", spec := "manageAsks", unfollowed := true, recurses := true, plainKeys := false, apart := false, narrowed := true }
def ManageAsksUptoSaid : Prop := manageAsksUptoRow.holds Try.pinned (OpenSpec.upto manageAsksSpec)

end Rows
end Go.Proofs.Ytgceolpeegfkkaa
