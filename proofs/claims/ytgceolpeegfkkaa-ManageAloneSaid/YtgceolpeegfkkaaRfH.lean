/- Reflection, part AH: a law's call. -/
import Derived.Test.YtgceolpeegfkkaaRfG
namespace Go.Re
set_option linter.unusedVariables false
set_option linter.unusedSimpArgs false
open Go.RowKit (Below)

/-- Data that can be. -/
def Ty.ok : (τ : Ty) → τ.D → Prop
  | .bool, _ => True
  | .str, x => x.length ≤ big
  | .unit, _ => True
  | .int k, x => okI k x
  | .pair a b, x => a.ok x.1 ∧ b.ok x.2
  | .st b, x => b.ok x
  | .sl e, x => x.length ≤ big ∧ ∀ i (h : i < x.length), e.ok x[i]
  | .arr n e, x => x.length = n ∧ ∀ i (h : i < x.length), e.ok x[i]

theorem RepC.okD {own : Own} {w : World} : ∀ {τ : Ty} {cs : List Value} {x : τ.D}, RepC own w τ cs x → τ.ok x
  | .bool, _, _, _ => trivial
  | .str, _, _, ⟨_, _, _, h⟩ => h
  | .unit, _, _, _ => trivial
  | .int _, _, _, h => h.2
  | .pair a b, _, _, ⟨_, _, _, h1, h2⟩ => ⟨RepC.okD (τ := a) h1, RepC.okD (τ := b) h2⟩
  | .st b, _, _, h => RepC.okD (τ := b) h
  | .arr _ e, _, _, ⟨h1, _, h3⟩ => ⟨h1, fun i hi => RepC.okD (τ := e) (h3 i hi)⟩
  | .sl e, _, _, ⟨_, cap, _, h2, _, h4, h5⟩ => ⟨h4, fun i hi => by
      rcases h5 with h5 | ⟨_, _, _, h6⟩
      · omega
      · obtain ⟨_, _, _, h7⟩ := h6 i hi; exact RepC.okD (τ := e) h7⟩

theorem RepV.okD {own : Own} {w : World} {τ : Ty} {v : Value} {x : τ.D} (h : RepV own w τ v x) : τ.ok x := let ⟨_, _, _, h⟩ := h; h.okD

theorem law_calls {P : Program} {f : Nat} {ps : List Par} {F : Ds (ps.map Par.ty) → Option (Ds ([Ty.bool] ++ ioTys ps))} (hf : FnOk P f { args := ps, res := [(.bool, .view)], f := F }) {W : World} {vs : List Value}
    {x : Ds (ps.map Par.ty)} {r : Ds ([Ty.bool] ++ ioTys ps)} (ha : ArgAll noOwn W (fun _ => 0) (fun _ => (0, 0, 0)) 0 ps vs x) (hr : F x = some r) :
    Calls P f vs.toArray W fun e W' => e = .returned (.bool (dsL [Ty.bool] (ioTys ps) r)) ∧ Below W.heap.size W W' := by
  refine (hf.calls W noOwn (fun _ => 0) (fun _ => 0) (fun _ => (0, 0, 0)) vs x r ha (fun i j _ h => absurd h (Nat.lt_irrefl 0)) hr).mono fun e W' h => ?_
  obtain ⟨own, us, he, hfr, _, hret, _⟩ := h
  obtain ⟨u, hu, hu'⟩ := hret
  have hu' : RepV own W' .bool u (dsL [Ty.bool] (ioTys ps) r) := hu'
  refine ⟨?_, ⟨hfr.os, hfr.tape, hfr.output, hfr.size, fun b hb => hfr.block b hb fun o ⟨_, hi⟩ => ?_⟩⟩
  · rw [he, hu, RepV.bool.1 hu']; rfl
  · obtain ⟨_, h1, h2⟩ := hi
    simp at h2

theorem sized_arg {H : Type} {P : Program} {ts : List TypeId} {ds : List (DataW H)} (h : (DataW.weightsEach P ts ds).all (· ≤ reachBytes) = true) (j : Nat) {t : TypeId} {d : DataW H} (ht : ts[j]? = some t) (hd : ds[j]? = some d) :
    ∀ n ∈ DataW.weights P t d, n ≤ reachBytes := fun n hn => by
  have := List.all_eq_true.1 h _ (DataW.weights_mem_each ht hd n hn)
  simpa using this

end Go.Re
