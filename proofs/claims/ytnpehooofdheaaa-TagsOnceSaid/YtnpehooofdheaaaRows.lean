/-
  No cell of these rows narrows 'for every input' (looked for: loops, veiled, ifaces, maps, wideKeys, modest, calm, conditions, laid).
  DERIVED. THE GIVEN ROWS OF THIS SEAT. 4 by the template 'for every input the law returns true; each argument reads behind the call as it read before'; 0 by the template 'total and deterministic' (their statements: YtnpehooofdheaaaTotals.lean).
  GIVEN WITH THE SEED: the statements are not yours to turn. If you find one false, say at which input.
  Laid BY PROGRAM, IN A SANDBOX (cutbox-rows.mjs): the forced cells as the released guide's own fill.sh prints them over the translation eeb89c7e3bac7cb2… (all of the seat's roots in one cut). By AI agents, Wed Nov 11 2026. No macro, syntax, notation, axiom, sorry.
-/
import Derived.Test.YtnpehooofdheaaaChecked
import GoSem.Claim
import GoSem.ClaimJoined
import GoSem.ClaimMapViews
import Derived.JoinedTies
import Derived.KernelRfl
namespace Go.Proofs.Ytnpehooofdheaaa
/- THE CELL 'sum', in the pinned program and in every row, IS THE sha256 OF THE DUMP (.gsa) THAT YtnpehooofdheaaaProg.lean LOADS. Nothing in Lean hashes anything: it is a label: what it is worth is what the hold of that sum in a sandbox is worth. -/
noncomputable def Try.pinned : Pinned := { name := "ytnpehooofdheaaa", sum := "eeb89c7e3bac7cb26a9a356f19ad27ab6c2518a0f96b27b8ffaf78c719dc08e0", checked := Try.checked }
namespace Rows
def none {H : Type} : Left H := { results := [], args := [] }

/-- 'reticulelaw23.TagsAdds': WHATEVER THE INPUT: true; the input reads as it did. -/
def tagsAddsSpec : ChangeSpec := { name := "tagsAdds", fn := fun _ => fun
  | [d1, d2, d3] => { results := [.lit (.bool true)], args := [d1, d2, d3] }
  | _ => none }
def tagsAddsRow : OpenClaim := { program := "ytnpehooofdheaaa", sum := "eeb89c7e3bac7cb26a9a356f19ad27ab6c2518a0f96b27b8ffaf78c719dc08e0", func := "reticule/reticulelaw23.TagsAdds", spec := "tagsAdds", unfollowed := true, recurses := true, plainKeys := false, apart := false }
def TagsAddsSaid : Prop := tagsAddsRow.holds Try.pinned (OpenSpec.ofChange tagsAddsSpec)

/-- ITS FALSE NEIGHBOUR: 'it returns false'. Refute it at one input. -/
def tagsAddsWrong : ChangeSpec := { name := "tagsAdds", fn := fun _ => fun
  | [d1, d2, d3] => { results := [.lit (.bool false)], args := [d1, d2, d3] }
  | _ => none }
def TagsAddsWrongFalsely : Prop := tagsAddsRow.holds Try.pinned (OpenSpec.ofChange tagsAddsWrong)

/-- 'reticulelaw23.TagsTakes': WHATEVER THE INPUT: true; the input reads as it did. -/
def tagsTakesSpec : ChangeSpec := { name := "tagsTakes", fn := fun _ => fun
  | [d1, d2, d3] => { results := [.lit (.bool true)], args := [d1, d2, d3] }
  | _ => none }
def tagsTakesRow : OpenClaim := { program := "ytnpehooofdheaaa", sum := "eeb89c7e3bac7cb26a9a356f19ad27ab6c2518a0f96b27b8ffaf78c719dc08e0", func := "reticule/reticulelaw23.TagsTakes", spec := "tagsTakes", unfollowed := true, recurses := true, plainKeys := false, apart := false }
def TagsTakesSaid : Prop := tagsTakesRow.holds Try.pinned (OpenSpec.ofChange tagsTakesSpec)

/-- ITS FALSE NEIGHBOUR: 'it returns false'. Refute it at one input. -/
def tagsTakesWrong : ChangeSpec := { name := "tagsTakes", fn := fun _ => fun
  | [d1, d2, d3] => { results := [.lit (.bool false)], args := [d1, d2, d3] }
  | _ => none }
def TagsTakesWrongFalsely : Prop := tagsTakesRow.holds Try.pinned (OpenSpec.ofChange tagsTakesWrong)

/-- 'reticulelaw23.TagsOnce': WHATEVER THE INPUT: true; the input reads as it did. -/
def tagsOnceSpec : ChangeSpec := { name := "tagsOnce", fn := fun _ => fun
  | [d1, d2] => { results := [.lit (.bool true)], args := [d1, d2] }
  | _ => none }
def tagsOnceRow : OpenClaim := { program := "ytnpehooofdheaaa", sum := "eeb89c7e3bac7cb26a9a356f19ad27ab6c2518a0f96b27b8ffaf78c719dc08e0", func := "reticule/reticulelaw23.TagsOnce", spec := "tagsOnce", unfollowed := true, recurses := true, plainKeys := false, apart := false }
def TagsOnceSaid : Prop := tagsOnceRow.holds Try.pinned (OpenSpec.ofChange tagsOnceSpec)

/-- ITS FALSE NEIGHBOUR: 'it returns false'. Refute it at one input. -/
def tagsOnceWrong : ChangeSpec := { name := "tagsOnce", fn := fun _ => fun
  | [d1, d2] => { results := [.lit (.bool false)], args := [d1, d2] }
  | _ => none }
def TagsOnceWrongFalsely : Prop := tagsOnceRow.holds Try.pinned (OpenSpec.ofChange tagsOnceWrong)

/-- 'reticulelaw23.TagsBack': WHATEVER THE INPUT: true; the input reads as it did. -/
def tagsBackSpec : ChangeSpec := { name := "tagsBack", fn := fun _ => fun
  | [d1, d2] => { results := [.lit (.bool true)], args := [d1, d2] }
  | _ => none }
def tagsBackRow : OpenClaim := { program := "ytnpehooofdheaaa", sum := "eeb89c7e3bac7cb26a9a356f19ad27ab6c2518a0f96b27b8ffaf78c719dc08e0", func := "reticule/reticulelaw23.TagsBack", spec := "tagsBack", unfollowed := true, recurses := true, plainKeys := false, apart := false }
def TagsBackSaid : Prop := tagsBackRow.holds Try.pinned (OpenSpec.ofChange tagsBackSpec)

/-- ITS FALSE NEIGHBOUR: 'it returns false'. Refute it at one input. -/
def tagsBackWrong : ChangeSpec := { name := "tagsBack", fn := fun _ => fun
  | [d1, d2] => { results := [.lit (.bool false)], args := [d1, d2] }
  | _ => none }
def TagsBackWrongFalsely : Prop := tagsBackRow.holds Try.pinned (OpenSpec.ofChange tagsBackWrong)

/- THE SECOND FORM. 'bulk': how many values and letters a reading holds, each counted each time it is reached (what is shared counts as often as it is met; a slice's spare places count too). A statement '..UptoSaid' is the law's where the arguments, and the package variables that the reading takes, are together of bulk at most 1048576: NARROWER than '..Said'. Prove '..Said' where nothing that the law and all that it calls make is longer than what came in: it says more and counts as full. Else prove '..UptoSaid'. A law counts once. -/
mutual
def uptoBulk {H : Type} : DataW H → Nat
  | .lit (.string bytes) => bytes.length + 1
  | .lit _ => 1
  | .nil => 1
  | .ptr d => uptoBulk d + 1
  | .slice elems spare => uptoBulkAll elems + uptoBulkAll spare + 1
  | .agg parts => uptoBulkAll parts + 1
  | .iface _ d => uptoBulk d + 1
  | .map entries => uptoBulkEntries entries + 1
  | .held _ => 1
def uptoBulkAll {H : Type} : List (DataW H) → Nat
  | [] => 0
  | d :: r => uptoBulk d + uptoBulkAll r
def uptoBulkEntries {H : Type} : List (Lit × DataW H) → Nat
  | [] => 0
  | x :: r => uptoBulkEntry x + uptoBulkEntries r
def uptoBulkEntry {H : Type} : Lit × DataW H → Nat
  | (.string bytes, d) => bytes.length + uptoBulk d + 1
  | (_, d) => uptoBulk d + 1
 end
def uptoSmall : (H : Type) → List (DataW H) → Bool := fun _ ds => decide (uptoBulkAll ds ≤ 1048576)
def OpenSpec.upto (s : _root_.Go.ChangeSpec) : _root_.Go.OpenSpec := { _root_.Go.OpenSpec.ofChange s with cond := some uptoSmall }

/-- 'reticulelaw23.TagsAdds', WHERE WHAT IT READS IS OF BULK AT MOST 1048576: true; the input reads as it did. -/
def tagsAddsUptoRow : OpenClaim := { program := "ytnpehooofdheaaa", sum := "eeb89c7e3bac7cb26a9a356f19ad27ab6c2518a0f96b27b8ffaf78c719dc08e0", func := "reticule/reticulelaw23.TagsAdds", spec := "tagsAdds", unfollowed := true, recurses := true, plainKeys := false, apart := false, narrowed := true }
def TagsAddsUptoSaid : Prop := tagsAddsUptoRow.holds Try.pinned (OpenSpec.upto tagsAddsSpec)

/-- 'reticulelaw23.TagsTakes', WHERE WHAT IT READS IS OF BULK AT MOST 1048576: true; the input reads as it did. -/
def tagsTakesUptoRow : OpenClaim := { program := "ytnpehooofdheaaa", sum := "eeb89c7e3bac7cb26a9a356f19ad27ab6c2518a0f96b27b8ffaf78c719dc08e0", func := "reticule/reticulelaw23.TagsTakes", spec := "tagsTakes", unfollowed := true, recurses := true, plainKeys := false, apart := false, narrowed := true }
def TagsTakesUptoSaid : Prop := tagsTakesUptoRow.holds Try.pinned (OpenSpec.upto tagsTakesSpec)

/-- 'reticulelaw23.TagsOnce', WHERE WHAT IT READS IS OF BULK AT MOST 1048576: true; the input reads as it did. -/
def tagsOnceUptoRow : OpenClaim := { program := "ytnpehooofdheaaa", sum := "eeb89c7e3bac7cb26a9a356f19ad27ab6c2518a0f96b27b8ffaf78c719dc08e0", func := "reticule/reticulelaw23.TagsOnce", spec := "tagsOnce", unfollowed := true, recurses := true, plainKeys := false, apart := false, narrowed := true }
def TagsOnceUptoSaid : Prop := tagsOnceUptoRow.holds Try.pinned (OpenSpec.upto tagsOnceSpec)

/-- 'reticulelaw23.TagsBack', WHERE WHAT IT READS IS OF BULK AT MOST 1048576: true; the input reads as it did. -/
def tagsBackUptoRow : OpenClaim := { program := "ytnpehooofdheaaa", sum := "eeb89c7e3bac7cb26a9a356f19ad27ab6c2518a0f96b27b8ffaf78c719dc08e0", func := "reticule/reticulelaw23.TagsBack", spec := "tagsBack", unfollowed := true, recurses := true, plainKeys := false, apart := false, narrowed := true }
def TagsBackUptoSaid : Prop := tagsBackUptoRow.holds Try.pinned (OpenSpec.upto tagsBackSpec)

end Rows
end Go.Proofs.Ytnpehooofdheaaa
