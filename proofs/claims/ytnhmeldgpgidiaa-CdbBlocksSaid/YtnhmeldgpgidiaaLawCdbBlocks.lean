/- The statement Rows.CdbBlocksSaid is proved: A command that goes by blocks has bytes just if its blocks' numbers fit their fields. No condition. -/
import Derived.Test.YtnhmeldgpgidiaaXO
import Derived.Test.YtnhmeldgpgidiaaPlain2
import Derived.Test.YtnhmeldgpgidiaaRows
import Derived.WalkKit
import Derived.ProofKit
import Derived.OpenShut
import Derived.ShutString
import Derived.ChangeOld
import Derived.Below
import Derived.SizedLaws
namespace Go.Proofs.Ytnhmeldgpgidiaa
open Go.ChangeShapes Go.WideShapes Go.ChangeAt Go.RowKit Go.Re
set_option linter.unusedVariables false
set_option linter.unusedSimpArgs false
namespace cdbBlocks
theorem own : ownKnob Try.prog.godebug = none := by kernel_rfl
theorem laidOut : laidOutB Try.prog = true := by kernel_rfl
set_option maxRecDepth 100000 in
theorem lifted (os : Os) (started : os.Started) (H : Type) (enc : TypeId × Value → H) :
    ReturnsInHanded {} Try.checked os 6 .any (Rows.cdbBlocksSpec.pre6 enc Try.prog Try.f6 Rows.cdbBlocksRow.domain false) (Rows.cdbBlocksSpec.post enc Try.prog Try.f6 false true false false) := by
  refine returnsInHanded_of_change_sized (C := Try.checked) own started (by kernel_rfl) Try.func6
    (ChangeSpec.witness6 (enc := enc) (C := Try.checked) false ⟨#[], #[mkV ((.int .u64)) (zeroC ((.int .u64))), mkV ((.int .u32)) (zeroC ((.int .u32))), mkV (.bool) (zeroC (.bool))], []⟩ 8 (by kernel_rfl) (by kernel_rfl) (by kernel_rfl) (by kernel_rfl)) ?_
  intro W base args ds gs before hval0 hW hcnd hsz0 _
  have hsz : (DataW.weightsEach Try.prog (Try.f6.params.toList ++ Rows.cdbBlocksSpec.plain.varTypes Try.prog) (ds ++ gs)).all (· ≤ reachBytes) = true := hsz0
  have hval : ∀ (j : Nat) t v, Try.f6.params[j]? = some t → args[j]? = some v → Value.okWide Try.prog W .any base t v := hval0
  have hW' := hW
  obtain ⟨p, q, hA0, hV, rfl, hfz, hnd⟩ := hW
  have hA : DataW.TrodAll enc Try.prog W 0 (fun _ => true) true Try.f6.params.toList args.toList ds p := hA0
  rw [Try.params6] at hA hval hsz
  obtain ⟨v0, vs0, d0, ds0, p0, q0, hargs, rfl, rfl, h0, r0⟩ := trodAll_cons hA
  obtain ⟨v1, vs1, d1, ds1, p1, q1, rfl, rfl, rfl, h1, r1⟩ := trodAll_cons r0
  obtain ⟨v2, vs2, d2, ds2, p2, q2, rfl, rfl, rfl, h2, r2⟩ := trodAll_cons r1
  obtain ⟨rfl, rfl, rfl⟩ := trodAll_nil r2
  obtain rfl : args = #[v0, v1, v2] := by cases args; simp_all
  obtain ⟨rfl, rfl⟩ := trodVars_none hV
  obtain ⟨x0, w0⟩ := arg_rep hty hpos (τ := (.int .u64)) rfl (hval 0 24 v0 rfl rfl) h0 (sized_arg hsz 0 rfl rfl)
  obtain ⟨x1, w1⟩ := arg_rep hty hpos (τ := (.int .u32)) rfl (hval 1 38 v1 rfl rfl) h1 (sized_arg hsz 1 rfl rfl)
  obtain ⟨x2, w2⟩ := arg_rep hty hpos (τ := .bool) rfl (hval 2 4 v2 rfl rfl) h2 (sized_arg hsz 2 rfl rfl)
  have k0 := h0
  have k1 := h1
  have k2 := h2
  have lt0 : ∀ x ∈ p0, x.block < W.heap.size := by obtain ⟨m, hm⟩ := k0; exact DataW.trod_lt m _ _ _ hm
  have lt1 : ∀ x ∈ p1, x.block < W.heap.size := by obtain ⟨m, hm⟩ := k1; exact DataW.trod_lt m _ _ _ hm
  have lt2 : ∀ x ∈ p2, x.block < W.heap.size := by obtain ⟨m, hm⟩ := k2; exact DataW.trod_lt m _ _ _ hm
  clear hA0 hval0 hsz0 hsz
  refine (law_calls reticulelaw06_CdbBlocks_ok (vs := [v0, v1, v2]) (x := (x0, x1, x2)) ⟨_, _, rfl, ⟨w0, rfl⟩, _, _, rfl, ⟨w1, rfl⟩, _, rfl, w2, rfl⟩ (CdbBlocks_pure (x0, x1, x2))).mono fun e W' ⟨he, bel⟩ => ?_
  subst he
  exact ⟨_, rfl, _, _, _, [], _, [], hW', trodAll_mk1 (shut_bool Try.underlying4 _), (trodAll_cons_mk (Below.trod laidOut (by kernel_rfl) (of_decide_eq_true (by kernel_rfl)) k0 bel lt0) (trodAll_cons_mk (Below.trod laidOut (by kernel_rfl) (of_decide_eq_true (by kernel_rfl)) k1 bel lt1) (trodAll_cons_mk (Below.trod laidOut (by kernel_rfl) (of_decide_eq_true (by kernel_rfl)) k2 bel lt2) trodAll_mk0))), rfl, bel.frame _, fun h => by cases h⟩
theorem over : Rows.cdbBlocksRow.holds Try.pinned (OpenSpec.ofChange Rows.cdbBlocksSpec) :=
  OpenClaim.holds_of_wide 6 Try.f6 rfl rfl rfl rfl rfl rfl rfl ⟨rfl, rfl, rfl, rfl, rfl⟩ rfl rfl rfl rfl rfl (by kernel_rfl) Try.func6 (by kernel_rfl)
    (of_decide_eq_true (by kernel_rfl)) (by unfold Func.isWrapper; first | (rw [if_pos (by decide +kernel)]; kernel_rfl) | (rw [if_neg (by decide +kernel)]; exact ⟨rfl, rfl⟩))
    (fun os started H enc _ => lifted os started H enc)
theorem proved : Rows.CdbBlocksSaid := over
#print axioms proved
end cdbBlocks
end Go.Proofs.Ytnhmeldgpgidiaa
