/- The statement Rows.WholeAttachedSaid is proved: What is written by UAS, with streams or without, is read by it, and by bulk-only behind that; of up to 8 blocks. No condition. -/
import Derived.Test.YthnpgnabfcaaiaaGreatXO
import Derived.Test.YthnpgnabfcaaiaaGreatPlain1
import Derived.Test.YthnpgnabfcaaiaaGreatRows
import Derived.WalkKit
import Derived.ProofKit
import Derived.OpenShut
import Derived.ShutString
import Derived.ChangeOld
import Derived.Below
import Derived.SizedLaws
namespace Go.Proofs.YthnpgnabfcaaiaaGreat
open Go.ChangeShapes Go.WideShapes Go.ChangeAt Go.RowKit Go.Re
set_option linter.unusedVariables false
set_option linter.unusedSimpArgs false
namespace wholeAttached
theorem own : ownKnob Tryz.prog.godebug = none := by kernel_rfl
theorem laidOut : laidOutB Tryz.prog = true := by kernel_rfl
set_option maxRecDepth 100000 in
theorem lifted (os : Os) (started : os.Started) (H : Type) (enc : TypeId × Value → H) :
    ReturnsInHanded {} Tryz.checked os 7 .any (Rows.wholeAttachedSpec.pre6 enc Tryz.prog Tryz.f7 Rows.wholeAttachedRow.domain false) (Rows.wholeAttachedSpec.post enc Tryz.prog Tryz.f7 false true false false) := by
  refine returnsInHanded_of_change_sized (C := Tryz.checked) own started (by kernel_rfl) Tryz.func7
    (ChangeSpec.witness6 (enc := enc) (C := Tryz.checked) false ⟨#[], #[mkV (T22) (zeroC (T22)), mkV ((.int .u8)) (zeroC ((.int .u8))), mkV ((.sl (.int .u8))) (zeroC ((.sl (.int .u8))))], []⟩ 8 (by kernel_rfl) (by kernel_rfl) (by kernel_rfl) (by kernel_rfl)) ?_
  intro W base args ds gs before hval0 hW hcnd hsz0 _
  have hsz : (DataW.weightsEach Tryz.prog (Tryz.f7.params.toList ++ Rows.wholeAttachedSpec.plain.varTypes Tryz.prog) (ds ++ gs)).all (· ≤ reachBytes) = true := hsz0
  have hval : ∀ (j : Nat) t v, Tryz.f7.params[j]? = some t → args[j]? = some v → Value.okWide Tryz.prog W .any base t v := hval0
  have hW' := hW
  obtain ⟨p, q, hA0, hV, rfl, hfz, hnd⟩ := hW
  have hA : DataW.TrodAll enc Tryz.prog W 0 (fun _ => true) true Tryz.f7.params.toList args.toList ds p := hA0
  rw [Tryz.params7] at hA hval hsz
  obtain ⟨v0, vs0, d0, ds0, p0, q0, hargs, rfl, rfl, h0, r0⟩ := trodAll_cons hA
  obtain ⟨v1, vs1, d1, ds1, p1, q1, rfl, rfl, rfl, h1, r1⟩ := trodAll_cons r0
  obtain ⟨v2, vs2, d2, ds2, p2, q2, rfl, rfl, rfl, h2, r2⟩ := trodAll_cons r1
  obtain ⟨rfl, rfl, rfl⟩ := trodAll_nil r2
  obtain rfl : args = #[v0, v1, v2] := by cases args; simp_all
  obtain ⟨rfl, rfl⟩ := trodVars_none hV
  obtain ⟨x0, w0⟩ := arg_rep hty hpos (τ := T22) rfl (hval 0 23 v0 rfl rfl) h0 (sized_arg hsz 0 rfl rfl)
  obtain ⟨x1, w1⟩ := arg_rep hty hpos (τ := (.int .u8)) rfl (hval 1 5 v1 rfl rfl) h1 (sized_arg hsz 1 rfl rfl)
  obtain ⟨x2, w2⟩ := arg_rep hty hpos (τ := (.sl (.int .u8))) rfl (hval 2 31 v2 rfl rfl) h2 (sized_arg hsz 2 rfl rfl)
  have k0 := h0
  have k1 := h1
  have k2 := h2
  have lt0 : ∀ x ∈ p0, x.block < W.heap.size := by obtain ⟨m, hm⟩ := k0; exact DataW.trod_lt m _ _ _ hm
  have lt1 : ∀ x ∈ p1, x.block < W.heap.size := by obtain ⟨m, hm⟩ := k1; exact DataW.trod_lt m _ _ _ hm
  have lt2 : ∀ x ∈ p2, x.block < W.heap.size := by obtain ⟨m, hm⟩ := k2; exact DataW.trod_lt m _ _ _ hm
  clear hA0 hval0 hsz0 hsz
  refine (law_calls o7 (vs := [v0, v1, v2]) (x := (x0, x1, x2)) ⟨_, _, rfl, ⟨w0, rfl⟩, _, _, rfl, ⟨w1, rfl⟩, _, rfl, w2, rfl⟩ (WholeAttached_pure (x0, x1, x2) w0.okD w1.okD w2.okD)).mono fun e W' ⟨he, bel⟩ => ?_
  subst he
  exact ⟨_, rfl, _, _, _, [], _, [], hW', trodAll_mk1 (shut_bool Tryz.underlying4 _), (trodAll_cons_mk (Below.trod laidOut (by kernel_rfl) (of_decide_eq_true (by kernel_rfl)) k0 bel lt0) (trodAll_cons_mk (Below.trod laidOut (by kernel_rfl) (of_decide_eq_true (by kernel_rfl)) k1 bel lt1) (trodAll_cons_mk (Below.trod laidOut (by kernel_rfl) (of_decide_eq_true (by kernel_rfl)) k2 bel lt2) trodAll_mk0))), rfl, bel.frame _, fun h => by cases h⟩
theorem jf0 : (Rows.wholeAttachedRow.inPlace == Tryz.pinned.checked.prog.inPlace 7) = true := by kernel_rfl
theorem jf1 : (Rows.wholeAttachedRow.unfollowed == Tryz.pinned.checked.prog.unfollowed 7) = true := by kernel_rfl
theorem jf2 : (Rows.wholeAttachedRow.recurses == Tryz.pinned.checked.prog.recurses 7) = true := by kernel_rfl
theorem jf3 : (Rows.wholeAttachedRow.named == Tryz.pinned.checked.prog.varsNamed 7) = true := by kernel_rfl
theorem jf4 : (Rows.wholeAttachedRow.plainKeys == Tryz.pinned.checked.prog.plainKeys) = true := by kernel_rfl
theorem closed : joinedFacts Tryz.pinned.checked.prog 7 Tryz.f7 Rows.wholeAttachedSpec Rows.wholeAttachedRow = true := by
  unfold joinedFacts
  rw [jf0, jf1, jf2, jf3, jf4]
  kernel_rfl
theorem over : Rows.wholeAttachedRow.holds Tryz.pinned (OpenSpec.ofChange Rows.wholeAttachedSpec) :=
  OpenClaim.holds_of_wide 7 Tryz.f7 rfl rfl rfl rfl rfl rfl rfl ⟨rfl, rfl, rfl, rfl, rfl⟩ rfl rfl rfl rfl rfl (by kernel_rfl) Tryz.func7 closed
    (of_decide_eq_true (by kernel_rfl)) (by unfold Func.isWrapper; first | (rw [if_pos (by decide +kernel)]; kernel_rfl) | (rw [if_neg (by decide +kernel)]; exact ⟨rfl, rfl⟩))
    (fun os started H enc _ => lifted os started H enc)
theorem proved : Rows.WholeAttachedSaid := over
#print axioms proved
end wholeAttached
end Go.Proofs.YthnpgnabfcaaiaaGreat
