/- Reflection, part W: a call as an operation; every operation. -/
import Derived.Test.YtgceolpeegfkkaaReV
namespace Go.Re
set_option linter.unusedVariables false
set_option linter.unusedSimpArgs false
open Go.RowKit (Below)

section
variable {P : Program} {E : Env} {N : Nat} {Z : Base} {own : Own} {β : Conc} {σ : S} {a : Act} {w : World} {o : Oper}

theorem call_exec {f : Nat} {args : Array Operand} {ats : Array TypeId} (ho : o.op = .call { callee := .value (.func f), args, argTypes := ats })
    (hfn : ∃ fn, P.funcs[f]? = some fn ∧ fn.body.isNone = false ∧ (fn.name == "runtime.NumGoroutine") = false) : (execOp a.eval o).run P w = .ok (.enter f (args.map a.eval)) w := by
  obtain ⟨fn, h1, h2, h3⟩ := hfn
  unfold execOp
  rw [ho]
  simp only [resolve, Deferred.ofValue, Act.eval, Sem.run_bind, Sem.run_pure, Result.andThen_ok, invoke, callFunc, run_program, h1, h2, h3, Bool.false_eq_true, if_false, Array.append_empty]
  congr 2
  simp

theorem clo_exec {t g : Nat} {us : List Value} {args : Array Operand} {ats : Array TypeId} (ho : o.op = .call { callee := .value (.tmp t), args, argTypes := ats }) (hv : a.eval (.tmp t) = .func (.func g) #[] us.toArray)
    (hfn : ∃ fn, P.funcs[g]? = some fn ∧ fn.body.isNone = false ∧ (fn.name == "runtime.NumGoroutine") = false) : (execOp a.eval o).run P w = .ok (.enter g (args.map a.eval ++ us.toArray)) w := by
  obtain ⟨fn, h1, h2, h3⟩ := hfn
  unfold execOp
  rw [ho]
  simp only [resolve, hv, Deferred.ofValue, Sem.run_bind, Sem.run_pure, Result.andThen_ok, invoke, callFunc, run_program, h1, h2, h3, Bool.false_eq_true, if_false]
  congr 2
  simp

theorem call_core (hE : EnvOk P E) (h : St N Z own β σ a w) {f : Nat} {F : Fun} {xs : List (Operand ⊕ V)} {vs : List Value} (hF : E.fn f = some F) (hX : Xs own w β σ.mem a xs vs)
    (hexec : (∃ fn, P.funcs[f]? = some fn ∧ fn.body.isNone = false ∧ (fn.name == "runtime.NumGoroutine") = false) → (execOp a.eval o).run P w = .ok (.enter f vs.toArray) w)
    {r : V × S} {d : Nat} (hr : (callM d F xs).run σ = some r) : Did P N Z o a w r.2 r.1 := by
  have hC := hE.fn f F hF
  unfold callM at hr
  obtain ⟨x, fr, io, hf, hA, h2⟩ := argsM_run h _ _ _ hX hr
  obtain ⟨ver, hver, h3⟩ := versM_run _ h2
  split at h3
  case isFalse => cases h3
  rename_i hcond
  obtain ⟨hnd, hfrs, hres⟩ := hcond
  obtain ⟨res, hres1, hr1⟩ := fin_run h3
  obtain ⟨own1, s1, k1, v1⟩ := h.freeze hf
  have hsites : ∀ s ∈ ioSites F.args io, ∀ q ∈ fr, q.1 ≠ s := by
    intro s hs q hq e
    have := List.all_eq_true.1 (List.all_eq_true.1 hfrs s hs) q hq
    rw [e] at this
    simp at this
  have hA1 := hA.froz hf k1 v1 hsites
  obtain ⟨ids, regs, a1, a2, a3, a4, a5⟩ := ArgReps.open s1 F.args 0 hA1 (nodupB_iff _ hnd)
  have hcall := hC.calls w own1 ids (fun k => site d k) regs _ x res a1 a4 hres1
  -- what is known behind the call
  intro Q
  unfold Oper.wp
  rw [hexec hC.fn, Oper.upon_enter]
  refine hcall.mono ?_
  rintro e w' ⟨own2, us, rfl, hfr, hold, hret, hout⟩
  -- cells in places that may be written have owners
  have hwrt : ∀ b j, (∃ i, inReg (regs i) b j) → Z.w.heap.size ≤ b ∨ Z.io b j := fun b j ⟨i, hi⟩ => (a3 i b j hi).2.1
  have hk2 : Keeps own1 own2 w w' := by
    intro b j v e1 e2
    have hlt := cell?_lt e2
    have hno : ¬ ∃ i, inReg (regs i) b j := by
      rintro ⟨i, hi⟩
      have := (a3 i b j hi).1
      rw [e1] at this; cases this
    exact ⟨by rw [hold b j hlt hno]; exact e1, by rw [hfr.cell b j hlt hno]; exact e2⟩
  have hkept : ∀ s b j v, own1 b j = some s → w.cell? ⟨b, j, none⟩ = some v → (∀ k, ¬ inReg (regs k) b j) → own2 b j = some s ∧ w'.cell? ⟨b, j, none⟩ = some v ∧ w'.frozen? ⟨b, j, none⟩ = w.frozen? ⟨b, j, none⟩ := by
    intro s b j v e1 e2 e3
    have hlt := cell?_lt e2
    have hno : ¬ ∃ i, inReg (regs i) b j := fun ⟨i, hi⟩ => e3 i hi
    exact ⟨by rw [hold b j hlt hno]; exact e1, by rw [hfr.cell b j hlt hno]; exact e2, (hfr.live b j v hlt e2).2⟩
  have hshp : ShpKeeps w w' := fun b k hfree => hfr.shape b k (by obtain ⟨_, _, e1, _⟩ := hfree; exact shp_lt e1) hfree
  have hback := a5 own2 w' hk2 (fun s _ b j v e1 e2 e3 => hkept s b j v e1 e2 e3) hshp _ hout
  have hframe : Frm Z.w.heap.size Z.io w w' := {
    os := hfr.os
    tape := hfr.tape
    output := hfr.output
    size := hfr.size
    cell := fun b j hb hio => hfr.cell b j (Nat.lt_of_lt_of_le hb s1.base) (fun hx => by
      rcases hwrt b j hx with h4 | h4
      · omega
      · exact hio h4)
    live := fun b j v hb hv => hfr.live b j v (Nat.lt_of_lt_of_le hb s1.base) hv
    shape := fun b k hb => hfr.shape b k (Nat.lt_of_lt_of_le hb s1.base)
    block := fun b hb hio => hfr.block b (Nat.lt_of_lt_of_le hb s1.base) (fun j hx => by
      rcases hwrt b j hx with h4 | h4
      · omega
      · exact hio j h4) }
  -- the memory behind the call
  have hent := fun s => mem_sets (ioEnt F.args io (dsR (F.res.map (·.1)) (ioTys F.args) res)) (sets σ fr) s
  have hkeys := ioEnt_sites F.args io (dsR (F.res.map (·.1)) (ioTys F.args) res)
  have s2 : St N Z own2 β (sets (sets σ fr) (ioEnt F.args io (dsR (F.res.map (·.1)) (ioTys F.args) res))) a w' := by
    refine s1.go hframe ?_ hk2 ?_ (sets_slots _ _) ?_
    · intro b j hb hio
      refine hold b j (Nat.lt_of_lt_of_le hb s1.base) (fun hx => ?_)
      rcases hwrt b j hx with h4 | h4
      · omega
      · exact hio h4
    · intro s
      rcases hent s with ⟨_, h4⟩ | ⟨e', h4, h5⟩
      · rw [h4]; exact Evo.same _ rfl
      · rw [h5]; exact (hback s e' h4).2
    · intro s
      rcases hent s with ⟨h6, h4⟩ | ⟨e', h4, h5⟩
      · rw [h4]
        refine (s1.mems s).keeps hk2 ⟨?_, ?_⟩ hshp rfl
        case refine_2 =>
          intro rr es c e1 e2
          have hlt := map_lt e2
          have hno : ∀ j, ¬ ∃ i, inReg (regs i) rr j := by
            rintro j ⟨i, hi⟩
            obtain ⟨_, _, v, hv⟩ := a3 i rr j hi
            rw [map_no_cell e2] at hv; cases hv
          exact ⟨by rw [hold rr 0 hlt (hno 0)]; exact e1, by rw [hfr.block rr hlt hno]; exact e2⟩
        intro b j v e1 e2
        refine hkept s b j v e1 e2 fun k hk => h6 ?_
        have h7 := (a3 k b j hk).1
        rw [e1] at h7
        cases h7
        rw [hkeys]
        exact (a2 k (by obtain ⟨_, c1, c2⟩ := hk; omega)).1
      · rw [h5]; exact (hback s e' h4).1
  have hver2 : ∀ k, 0 ≤ k → k < 0 + F.res.length → ver k = nextVer ((sets (sets σ fr) (ioEnt F.args io (dsR (F.res.map (·.1)) (ioTys F.args) res))).mem (site d k)) := by
    intro k _ hk
    rw [hver k (by omega), ← sets_ver fr hf.weak]
    rcases hent (site d k) with ⟨_, h4⟩ | ⟨e', h4, h5⟩
    · rw [h4]
    · exfalso
      have hm := List.mem_map_of_mem (f := (·.1)) h4
      rw [hkeys] at hm
      have := List.all_eq_true.1 (List.all_eq_true.1 hres _ hm) k (List.mem_range.2 (by omega))
      simp at this
  obtain ⟨β3, t1, t2, _, _, t5⟩ := ret_all (d := d) s1.base F.res 0 s2 (g := fun r => dsL (F.res.map (·.1)) (ioTys F.args) r) (b := res) rfl hver2 hret
  -- the value
  refine ⟨retV us, rfl, own2, β3, ?_, ?_⟩
  · rw [hr1]
    simp only [writes_append, writes_fixed, ioWs_ent]
    exact t1
  · rw [hr1]
    simp only [writes_append, writes_fixed, ioWs_ent]
    have top : ∀ (ps : List (Ty × Mode)) (x : Ds (ps.map (·.1))) (mem : Nat → Entry), RetAll own2 w' w.heap.size (fun k => site d k) 0 ps us x → RepS own2 w' β3 mem (resVs d ver 0 ps x) (.tuple us.toArray) →
        RepS own2 w' β3 mem (resTop d ver ps x) (retV us) := by
      intro ps x mem h1 h2
      match ps, x, h1, h2 with
      | [], x, h1, h2 => have h1 : us = [] := h1; subst h1; exact h2
      | [p], x, h1, h2 =>
        obtain ⟨u, h1, _⟩ := h1
        subst h1
        obtain ⟨u', us', e1, e2, _⟩ := h2
        have : [u] = u' :: us' := by simpa using e1
        cases this
        exact e2
      | p :: q :: r, x, h1, h2 =>
        have : retV us = .tuple us.toArray := by
          obtain ⟨u, us', h1, _, h3⟩ := h1
          subst h1
          cases us' with
          | nil => cases r <;> obtain ⟨_, h4⟩ := h3 <;> simp at h4
          | cons v vs => rfl
        rw [this]; exact h2
    exact top _ _ _ hret t2

theorem Xs.ops (own : Own) (w : World) (β : Conc) (mem : Nat → Entry) (a : Act) : ∀ (os : List Operand) (r : List (Operand ⊕ V)) (us : List Value), Xs own w β mem a r us → Xs own w β mem a (os.map .inl ++ r) (os.map a.eval ++ us)
  | [], _, _, h => h
  | o :: os, r, us, h => ⟨_, rfl, Xs.ops own w β mem a os r us h⟩

theorem call_did (hE : EnvOk P E) (h : St N Z own β σ a w) {f : Nat} {F : Fun} {args : Array Operand} {ats : Array TypeId} (hF : E.fn f = some F) (ho : o.op = .call { callee := .value (.func f), args, argTypes := ats })
    {r : V × S} {d : Nat} (hr : (callM d F (args.toList.map .inl)).run σ = some r) : Did P N Z o a w r.2 r.1 := by
  have hX := Xs.ops own w β σ.mem a args.toList [] [] rfl
  rw [List.append_nil, List.append_nil] at hX
  refine call_core hE h hF hX (fun hfn => ?_) hr
  rw [call_exec ho hfn]
  congr 2
  apply Array.ext'; simp

theorem clo_did (hE : EnvOk P E) (h : St N Z own β σ a w) {t g : Nat} {x : V} {F : Fun} {args : Array Operand} {ats : Array TypeId} (hF : E.fn g = some F) (ho : o.op = .call { callee := .value (.tmp t), args, argTypes := ats })
    (hs : σ.slots t = .clo g (.tcons x .tnil)) {r : V × S} {d : Nat} (hr : (callM d F (args.toList.map .inl ++ [.inr x])).run σ = some r) : Did P N Z o a w r.2 r.1 := by
  have hsl := h.slots t
  rw [hs] at hsl
  obtain ⟨us, h1, u, us', h2, h3, h4⟩ := hsl
  have e : us = u :: us' := by simpa using h2
  have h4 : Value.tuple us'.toArray = .tuple #[] := h4
  have e' : us' = [] := by simpa using h4
  subst e'; subst e
  have hX := Xs.ops own w β σ.mem a args.toList [.inr x] [u] ⟨u, [], rfl, h3, rfl⟩
  refine call_core hE h hF hX (fun hfn => ?_) hr
  rw [clo_exec ho h1 hfn]
  congr 2
  apply Array.ext'; simp

end
end Go.Re
