/- Reflection, part U: what a call is given, and what becomes of it. -/
import Derived.Test.YtgceolpeegfkkaaReT
namespace Go.Re
set_option linter.unusedVariables false
set_option linter.unusedSimpArgs false
open Go.RowKit (Below)

section
variable {P : Program} {E : Env} {N : Nat} {Z : Base} {own : Own} {β : Conc} {σ : S} {a : Act} {w : World} {o : Oper}

/-- The new entries of what a call wrote. -/
def ioEnt : (ps : List Par) → Io ps → Ds (ioTys ps) → List (Nat × Entry)
  | [], _, _ => []
  | .val _ :: r, io, y => ioEnt r io y
  | .nils _ :: r, io, y => ioEnt r io y
  | .pv _ :: r, io, y => ioEnt r io y
  | .box τ :: r, io, y => (io.1.1, io.1.2 (dsH τ (ioTys r) y)) :: ioEnt r io.2 (dsT τ (ioTys r) y)
  | .row e :: r, io, y => (io.1.1, io.1.2 (dsH (.sl e) (ioTys r) y)) :: ioEnt r io.2 (dsT (.sl e) (ioTys r) y)
  | .take _ :: r, io, y => (io.1.1, io.1.2) :: ioEnt r io.2 y

theorem ioWs_ent {γ : Type} : ∀ (ps : List Par) (io : Io ps) (g : γ → Ds (ioTys ps)) (b : γ) (σ : S), writes σ b (ioWs ps io g) = sets σ (ioEnt ps io (g b))
  | [], _, _, _, _ => rfl
  | .val _ :: r, io, g, b, σ => ioWs_ent r io g b σ
  | .nils _ :: r, io, g, b, σ => ioWs_ent r io g b σ
  | .pv _ :: r, io, g, b, σ => ioWs_ent r io g b σ
  | .box τ :: r, io, g, b, σ => ioWs_ent r io.2 (fun b => dsT τ (ioTys r) (g b)) b _
  | .row e :: r, io, g, b, σ => ioWs_ent r io.2 (fun b => dsT (.sl e) (ioTys r) (g b)) b _
  | .take _ :: r, io, g, b, σ => ioWs_ent r io.2 g b _

theorem ioEnt_sites : ∀ (ps : List Par) (io : Io ps) (y : Ds (ioTys ps)), (ioEnt ps io y).map (·.1) = ioSites ps io
  | [], _, _ => rfl
  | .val _ :: r, io, y => ioEnt_sites r io y
  | .nils _ :: r, io, y => ioEnt_sites r io y
  | .pv _ :: r, io, y => ioEnt_sites r io y
  | .box τ :: r, io, y => by simp only [ioEnt, ioSites, List.map_cons, ioEnt_sites r]
  | .row e :: r, io, y => by simp only [ioEnt, ioSites, List.map_cons, ioEnt_sites r]
  | .take _ :: r, io, y => by simp only [ioEnt, ioSites, List.map_cons, ioEnt_sites r]

/-- Cells of one owner, but for some, are as they were. -/
def KeptBut (own own' : Own) (w w' : World) (reg : Nat × Nat × Nat) (s : Nat) : Prop :=
  ∀ b j v, own b j = some s → w.cell? ⟨b, j, none⟩ = some v → ¬ inReg reg b j → own' b j = some s ∧ w'.cell? ⟨b, j, none⟩ = some v ∧ w'.frozen? ⟨b, j, none⟩ = w.frozen? ⟨b, j, none⟩

/-- One argument, opened. -/
theorem ArgRep.open1 (h : St N Z own β σ a w) {p : Par} {u : Value} {x : p.ty.D} {io : Io [p]} (hr : ArgRep own w β σ.mem [] p u x io) :
    ∃ (id : Nat) (reg : Nat × Nat × Nat), IoR own w id reg p u x ∧ ((ioSites [p] io = [] ∧ reg.2.2 = 0) ∨ id ∈ ioSites [p] io) ∧ (∀ b j, inReg reg b j → own b j = some id ∧ Z.wr b j ∧ ∃ v, w.cell? ⟨b, j, none⟩ = some v) ∧
      ∀ (own' : Own) (w' : World), Keeps own own' w w' → KeptBut own own' w w' reg id → ShpKeeps w w' → ∀ y : Ds (ioTys [p]), OutAll own' w' (fun _ => id) (fun _ => reg) 0 [p] [u] y →
        ∀ s e', (s, e') ∈ ioEnt [p] io y → RepE Z own' w' β s e' ∧ Evo β β s (σ.mem s) e' := by
  cases p with
  | val τ =>
    rcases hr with hr | ⟨_, _, _, _, _, hm, _⟩
    · exact ⟨0, (0, 0, 0), ⟨hr, rfl⟩, .inl ⟨rfl, rfl⟩, fun b j ⟨_, h1, h2⟩ => by simp at h2, fun _ _ _ _ _ y _ s e' hm => by simp [ioEnt] at hm⟩
    · cases hm
  | nils e => exact ⟨0, (0, 0, 0), ⟨hr, rfl⟩, .inl ⟨rfl, rfl⟩, fun b j ⟨_, h1, h2⟩ => by simp at h2, fun _ _ _ _ _ y _ s e' hm => by simp [ioEnt] at hm⟩
  | pv q => exact ⟨0, (0, 0, 0), ⟨hr, rfl⟩, .inl ⟨rfl, rfl⟩, fun b j ⟨_, h1, h2⟩ => by simp at h2, fun _ _ _ _ _ y _ s e' hm => by simp [ioEnt] at hm⟩
  | box τ =>
    rcases hr with ⟨s, ver, τb, xb, p, b, off, hm, h1, h2, hval, h3, rfl, rfl, rfl⟩ | ⟨s, ver, τe, xs, i, p, b, off, n, c, hm, hi, h1, h2, hval, h3, rfl, rfl, rfl⟩
    · -- a box, or a part of it
      have hmm := h.mems s
      rw [hm] at hmm
      obtain ⟨hv, b', off', cs, h4, h5, h6⟩ := hmm
      rw [h3] at h4; cases h4
      have hcl := h6.length
      have hg := getT_getP τb xb p τ h1 h2
      obtain ⟨g1, g2⟩ := getP_rep τb xb cs p τ _ h6 hg
      have hin : ∀ j, j < τ.size → ∃ v, cs[offP τb p + j]? = some v := fun j hj => ⟨_, List.getElem?_eq_getElem (by omega)⟩
      refine ⟨s, (b, off + offP τb p, τ.size), ⟨hval, b, _, _, rfl, rfl, g2, ?_⟩, .inr (by simp [ioSites]), ?_, ?_⟩
      · intro j u hj
        rw [List.getElem?_take] at hj
        split at hj
        · rw [List.getElem?_drop] at hj
          obtain ⟨e1, _, e2, e3⟩ := h5 _ _ hj
          rw [← Nat.add_assoc] at e1 e2 e3
          exact ⟨e1, e2, e3⟩
        · cases hj
      · rintro b' j ⟨rfl, c1, c2⟩
        simp only at c1 c2
        obtain ⟨v, hv'⟩ := hin (j - (off + offP τb p)) (by omega)
        obtain ⟨e1, e0, e2, e3⟩ := h5 _ _ hv'
        rw [show off + (offP τb p + (j - (off + offP τb p))) = j by omega] at e1 e0 e2 e3
        exact ⟨e1, e0, _, e2⟩
      · intro own' w' hk hkb hsh y hout s' e' hmem
        simp only [ioEnt, List.mem_cons, List.not_mem_nil, or_false, Prod.mk.injEq] at hmem
        obtain ⟨rfl, rfl⟩ := hmem
        obtain ⟨⟨_, b2, o2, cs2, q1, q2, q3, q4⟩, _⟩ := hout
        simp only [List.headD_cons] at q1
        cases q1
        have hs2 := setT_setP τb xb p τ (dsH τ [] y) h1 h2
        have h6' := h6.keeps hk
        obtain ⟨_, r2, r3⟩ := setP_rep τb xb cs p τ _ cs2 _ h6' q3 hs2
        have hl2 := q3.length
        refine ⟨⟨hv, b, off, _, h3, ?_, r3⟩, by rw [hm]; exact Evo.setBox rfl⟩
        intro j v hj
        have hjl : j < cs.length := by
          have := (List.getElem?_eq_some_iff.1 hj).1
          rwa [splice_length (by omega)] at this
        obtain ⟨e1, e0, e2, e3⟩ := h5 j cs[j] (List.getElem?_eq_getElem hjl)
        rw [getElem?_splice (by omega)] at hj
        split at hj
        · obtain ⟨f1, f2, f3⟩ := q4 _ _ hj
          rw [show off + offP τb p + (j - offP τb p) = off + j by omega] at f1 f2 f3
          exact ⟨f1, e0, f2, f3⟩
        · rename_i hc
          obtain ⟨f1, f2, f3⟩ := hkb b (off + j) _ e1 e2 (by rintro ⟨_, c1, c2⟩; simp only at c1 c2; omega)
          rw [List.getElem?_eq_getElem hjl] at hj
          cases hj
          exact ⟨f1, e0, f2, f3.trans e3⟩
    · -- an element of a row
      have hmm := h.mems s
      rw [hm] at hmm
      obtain ⟨ad, cap, f1, f2, f3, f4, f5⟩ := hmm
      rw [h3] at f1; cases f1
      rcases f5 with ⟨f5, _⟩ | ⟨b', off', f5, f6, f7, f8⟩
      · omega
      cases f5
      obtain ⟨es, q1, q2, q3⟩ := f6 i hi
      have hgd : xs.getD i τe.zero = xs[i] := by rw [List.getD_eq_getElem?_getD, List.getElem?_eq_getElem hi]; rfl
      have hg := getT_getP τe (xs.getD i τe.zero) p τ h1 h2
      obtain ⟨g1, g2⟩ := getP_rep τe (xs.getD i τe.zero) es p τ _ (by rw [hgd]; exact q3) hg
      have hib : i * τe.size + τe.size ≤ c * τe.size := by rw [← Nat.succ_mul]; exact Nat.mul_le_mul_right _ (by omega)
      refine ⟨s, (b, off + i * τe.size + offP τe p, τ.size), ⟨hval, b, _, _, rfl, rfl, g2, ?_⟩, .inr (by simp [ioSites]), ?_, ?_⟩
      · intro j u hj
        rw [List.getElem?_take] at hj
        split at hj
        · rw [List.getElem?_drop] at hj
          obtain ⟨e1, e2⟩ := q2 _ _ hj
          rw [← Nat.add_assoc] at e1 e2
          exact ⟨e1, e2, (f8 _ (by omega) (by omega)).2.2.2⟩
        · cases hj
      · rintro b' j ⟨rfl, c1, c2⟩
        simp only at c1 c2
        obtain ⟨d1, d2, ⟨v, d3⟩, _⟩ := f8 j (by omega) (by omega)
        exact ⟨d1, d2, _, d3⟩
      · intro own' w' hk hkb hsh y hout s' e' hmem
        simp only [ioEnt, List.mem_cons, List.not_mem_nil, or_false, Prod.mk.injEq] at hmem
        obtain ⟨rfl, rfl⟩ := hmem
        obtain ⟨⟨_, b2, o2, cs2, t1, t2, t3, t4⟩, _⟩ := hout
        simp only [List.headD_cons] at t1
        cases t1
        have hs2 := setT_setP τe (xs.getD i τe.zero) p τ (dsH τ [] y) h1 h2
        obtain ⟨_, r2, r3⟩ := setP_rep τe (xs.getD i τe.zero) es p τ _ cs2 _ (by rw [hgd]; exact q3.keeps hk) t3 hs2
        have hl2 := t3.length
        refine ⟨?_, by rw [hm]; exact Evo.setOwn rfl (by simp)⟩
        have kept : ∀ j v, own b j = some s' → w.cell? ⟨b, j, none⟩ = some v → (j < off + i * τe.size + offP τe p ∨ off + i * τe.size + offP τe p + τ.size ≤ j) → own' b j = some s' ∧ w'.cell? ⟨b, j, none⟩ = some v ∧ w'.frozen? ⟨b, j, none⟩ = w.frozen? ⟨b, j, none⟩ :=
          fun j v e1 e2 e3 => hkb b j v e1 e2 (by rintro ⟨_, c1, c2⟩; simp only at c1 c2; omega)
        have hlen : ∀ z : τe.D, (xs.set i z).length = xs.length := by simp
        refine ⟨_, c, by rw [h3, hlen], by rw [hlen]; exact f2, f3, by rw [hlen]; exact f4, .inr ⟨b, off, rfl, ?_, hsh _ _ f7, ?_⟩⟩
        · intro k hk2
          rw [hlen] at hk2
          by_cases hki : k = i
          · subst hki
            refine ⟨splice es (offP τe p) cs2, by rw [splice_length (by omega)]; exact q1, ?_, by rw [List.getElem_set_self]; exact r3⟩
            intro j v hj
            have hjl : j < es.length := by
              have := (List.getElem?_eq_some_iff.1 hj).1
              rwa [splice_length (by omega)] at this
            obtain ⟨e1, e2⟩ := q2 j es[j] (List.getElem?_eq_getElem hjl)
            rw [getElem?_splice (by omega)] at hj
            split at hj
            · obtain ⟨u1, u2, u3⟩ := t4 _ _ hj
              rw [show off + k * τe.size + offP τe p + (j - offP τe p) = off + k * τe.size + j by omega] at u1 u2 u3
              exact ⟨u1, u2⟩
            · rename_i hc
              obtain ⟨u1, u2, u3⟩ := kept _ _ e1 e2 (by omega)
              rw [List.getElem?_eq_getElem hjl] at hj
              cases hj
              exact ⟨u1, u2⟩
          · obtain ⟨es', v1, v2, v3⟩ := f6 k hk2
            refine ⟨es', v1, ?_, by rw [List.getElem_set_ne (Ne.symm hki)]; exact v3.keeps hk⟩
            intro j v hj
            have hjl : j < es'.length := (List.getElem?_eq_some_iff.1 hj).1
            obtain ⟨e1, e2⟩ := v2 j v hj
            obtain ⟨u1, u2, u3⟩ := kept _ _ e1 e2 (by
              rcases Nat.lt_or_gt_of_ne hki with hlt | hgt
              · have : k * τe.size + τe.size ≤ i * τe.size := by rw [← Nat.succ_mul]; exact Nat.mul_le_mul_right _ hlt
                omega
              · have : i * τe.size + τe.size ≤ k * τe.size := by rw [← Nat.succ_mul]; exact Nat.mul_le_mul_right _ hgt
                omega)
            exact ⟨u1, u2⟩
        · intro j c1 c2
          obtain ⟨d1, d2, ⟨v, d3⟩, d4⟩ := f8 j c1 c2
          by_cases hc : off + i * τe.size + offP τe p ≤ j ∧ j < off + i * τe.size + offP τe p + τ.size
          · have hjl : j - (off + i * τe.size + offP τe p) < cs2.length := by omega
            obtain ⟨u1, u2, u3⟩ := t4 _ _ (List.getElem?_eq_getElem hjl)
            rw [show off + i * τe.size + offP τe p + (j - (off + i * τe.size + offP τe p)) = j by omega] at u1 u2 u3
            exact ⟨u1, d2, ⟨_, u2⟩, u3⟩
          · obtain ⟨u1, u2, u3⟩ := kept _ _ d1 d3 (by omega)
            exact ⟨u1, d2, ⟨v, u2⟩, u3.trans d4⟩
  | row e =>
    obtain ⟨s, ver, xs, hm, rfl, rfl, rfl⟩ := hr
    have hmm := h.mems s
    rw [hm] at hmm
    obtain ⟨ad, cap, f1, f2, f3, f4, f5⟩ := hmm
    rcases f5 with ⟨rfl, had⟩ | ⟨b, off, rfl, f6, f7, f8⟩
    · obtain rfl := had rfl
      refine ⟨s, (0, 0, 0), ⟨none, 0, f1, f2, f3, f4, .inl ⟨rfl, rfl, rfl⟩⟩, .inr (by simp [ioSites]), fun b j ⟨_, h1, h2⟩ => by simp at h2, ?_⟩
      intro own' w' hk hkb hsh y hout s' e' hmem
      simp only [ioEnt, List.mem_cons, List.not_mem_nil, or_false, Prod.mk.injEq] at hmem
      obtain ⟨rfl, rfl⟩ := hmem
      obtain ⟨⟨ad2, cap2, q1, q2, q3, q4, q5⟩, _⟩ := hout
      simp only [List.headD_cons] at q1
      rw [f1] at q1
      injection q1 with z1 z2 z3
      subst z1; subst z3
      exact ⟨⟨none, 0, by rw [f1, z2], q2, q3, q4, .inl ⟨rfl, fun _ => rfl⟩⟩, by rw [hm]; exact Evo.setOwn rfl z2⟩
    · refine ⟨s, (b, off, cap * e.size), ⟨_, cap, f1, f2, f3, f4, .inr ⟨b, off, rfl, rfl, f6, f7, fun j c1 c2 => ?_⟩⟩, .inr (by simp [ioSites]), ?_, ?_⟩
      · obtain ⟨d1, d2, d3, d4⟩ := f8 j c1 c2
        exact ⟨d1, d3, d4⟩
      · rintro b' j ⟨rfl, c1, c2⟩
        obtain ⟨d1, d2, ⟨v, d3⟩, d4⟩ := f8 j c1 c2
        exact ⟨d1, d2, _, d3⟩
      · intro own' w' hk hkb hsh y hout s' e' hmem
        simp only [ioEnt, List.mem_cons, List.not_mem_nil, or_false, Prod.mk.injEq] at hmem
        obtain ⟨rfl, rfl⟩ := hmem
        obtain ⟨⟨ad2, cap2, q1, q2, q3, q4, q5⟩, _⟩ := hout
        simp only [List.headD_cons] at q1
        rw [f1] at q1
        injection q1 with z1 z2 z3
        subst z3
        refine ⟨?_, by rw [hm]; exact Evo.setOwn rfl z2⟩
        rcases q5 with ⟨q5, _⟩ | ⟨b2, o2, q5, q6, q7, q8, q9⟩
        · rw [q5] at z1; cases z1
        · rw [q5] at z1; cases z1
          refine ⟨_, cap, by rw [f1, z2], q2, q3, q4, .inr ⟨b, off, rfl, q7, q8, ?_⟩⟩
          intro j c1 c2
          obtain ⟨u1, u2, u3⟩ := q9 j c1 c2
          exact ⟨u1, (f8 j c1 c2).2.1, u2, u3⟩
  | take e =>
    obtain ⟨s, ver, xs, hm, rfl, rfl, rfl⟩ := hr
    have hmm := h.mems s
    rw [hm] at hmm
    obtain ⟨ad, cap, f1, f2, f3, f4, f5⟩ := hmm
    have hgone : ∀ (own' : Own) (w' : World) (y : Ds (ioTys [Par.take e])) s' e', (s', e') ∈ ioEnt [.take e] ((s, .gone ver), ()) y → RepE Z own' w' β s' e' ∧ Evo β β s' (σ.mem s') e' := by
      intro own' w' y s' e' hmem
      simp only [ioEnt, List.mem_cons, List.not_mem_nil, or_false, Prod.mk.injEq] at hmem
      obtain ⟨rfl, rfl⟩ := hmem
      exact ⟨trivial, by rw [hm]; exact Evo.gone⟩
    rcases f5 with ⟨rfl, had⟩ | ⟨b, off, rfl, f6, f7, f8⟩
    · obtain rfl := had rfl
      exact ⟨s, (0, 0, 0), ⟨none, 0, f1, f2, f3, f4, .inl ⟨rfl, rfl, rfl⟩⟩, .inr (by simp [ioSites]), fun b j ⟨_, h1, h2⟩ => by simp at h2, fun own' w' _ _ _ y _ => hgone own' w' y⟩
    · refine ⟨s, (b, off, cap * e.size), ⟨_, cap, f1, f2, f3, f4, .inr ⟨b, off, rfl, rfl, f6, f7, fun j c1 c2 => ?_⟩⟩, .inr (by simp [ioSites]), ?_, fun own' w' _ _ _ y _ => hgone own' w' y⟩
      · obtain ⟨d1, d2, d3, d4⟩ := f8 j c1 c2
        exact ⟨d1, d3, d4⟩
      · rintro b' j ⟨rfl, c1, c2⟩
        obtain ⟨d1, d2, ⟨v, d3⟩, d4⟩ := f8 j c1 c2
        exact ⟨d1, d2, _, d3⟩

/-- Other argument numbers than these don't matter. -/
theorem ArgAll.congr {ids ids' : Nat → Nat} {regs regs' : Nat → Nat × Nat × Nat} : ∀ {ps : List Par} {i : Nat} {us : List Value} {x : Ds (ps.map Par.ty)}, (∀ k, i ≤ k → ids k = ids' k ∧ regs k = regs' k) → ArgAll own w ids regs i ps us x → ArgAll own w ids' regs' i ps us x
  | [], _, _, _, _, h => h
  | [p], i, _, _, hk, ⟨u, h1, h2⟩ => ⟨u, h1, by rw [← (hk i (Nat.le_refl _)).1, ← (hk i (Nat.le_refl _)).2]; exact h2⟩
  | p :: q :: r, i, _, _, hk, ⟨u, us, h1, h2, h3⟩ => ⟨u, us, h1, by rw [← (hk i (Nat.le_refl _)).1, ← (hk i (Nat.le_refl _)).2]; exact h2, ArgAll.congr (ps := q :: r) (fun k h => hk k (by omega)) h3⟩

theorem OutAll.congr {ids ids' : Nat → Nat} {regs regs' : Nat → Nat × Nat × Nat} : ∀ {ps : List Par} {i : Nat} {us : List Value} {y : Ds (ioTys ps)}, (∀ k, i ≤ k → ids k = ids' k ∧ regs k = regs' k) → OutAll own w ids regs i ps us y → OutAll own w ids' regs' i ps us y
  | [], _, _, _, _, h => h
  | .val _ :: r, i, us, y, hk, h => OutAll.congr (ps := r) (fun k hle => hk k (by omega)) h
  | .nils _ :: r, i, us, y, hk, h => OutAll.congr (ps := r) (fun k hle => hk k (by omega)) h
  | .pv _ :: r, i, us, y, hk, h => OutAll.congr (ps := r) (fun k hle => hk k (by omega)) h
  | .box τ :: r, i, us, y, hk, h => ⟨by rw [← (hk i (Nat.le_refl _)).1, ← (hk i (Nat.le_refl _)).2]; exact h.1, OutAll.congr (ps := r) (fun k hle => hk k (by omega)) h.2⟩
  | .row e :: r, i, us, y, hk, h => ⟨by rw [← (hk i (Nat.le_refl _)).1, ← (hk i (Nat.le_refl _)).2]; exact h.1, OutAll.congr (ps := r) (fun k hle => hk k (by omega)) h.2⟩
  | .take _ :: r, i, us, y, hk, h => OutAll.congr (ps := r) (fun k hle => hk k (by omega)) h

/-- The first one of several outs. -/
theorem OutAll.split {ids : Nat → Nat} {regs : Nat → Nat × Nat × Nat} {p : Par} {r : List Par} {i : Nat} {u : Value} {us : List Value} {y : Ds (ioTys (p :: r))} {io1 : Io [p]} {io2 : Io r}
    (h : OutAll own w ids regs i (p :: r) (u :: us) y) : ∃ (y1 : Ds (ioTys [p])) (y2 : Ds (ioTys r)), OutAll own w (fun _ => ids i) (fun _ => regs i) 0 [p] [u] y1 ∧ OutAll own w ids regs (i + 1) r us y2 ∧
      ∀ s e', (s, e') ∈ ioEnt (p :: r) (ioCons p r io1 io2) y → (s, e') ∈ ioEnt [p] io1 y1 ∨ (s, e') ∈ ioEnt r io2 y2 := by
  cases p with
  | val τ => exact ⟨(), y, trivial, h, fun s e' hm => .inr hm⟩
  | nils e => exact ⟨(), y, trivial, h, fun s e' hm => .inr hm⟩
  | pv q => exact ⟨(), y, trivial, h, fun s e' hm => .inr hm⟩
  | box τ =>
    refine ⟨dsH τ (ioTys r) y, dsT τ (ioTys r) y, ⟨h.1, trivial⟩, h.2, fun s e' hm => ?_⟩
    rcases List.mem_cons.1 hm with hm | hm
    · left; exact List.mem_singleton.2 hm
    · right; exact hm
  | row e =>
    refine ⟨dsH (.sl e) (ioTys r) y, dsT (.sl e) (ioTys r) y, ⟨h.1, trivial⟩, h.2, fun s e' hm => ?_⟩
    rcases List.mem_cons.1 hm with hm | hm
    · left; exact List.mem_singleton.2 hm
    · right; exact hm
  | take e =>
    refine ⟨(), y, trivial, h, fun s e' hm => ?_⟩
    rcases List.mem_cons.1 hm with hm | hm
    · left; exact List.mem_singleton.2 hm
    · right; exact hm

theorem ioSites_cons (p : Par) (r : List Par) (io1 : Io [p]) (io2 : Io r) : ioSites (p :: r) (ioCons p r io1 io2) = ioSites [p] io1 ++ ioSites r io2 := by
  cases p <;> rfl

/-- All arguments, opened: their owners and places, and how the memory goes on behind the call. -/
theorem ArgReps.open (h : St N Z own β σ a w) : ∀ (ps : List Par) (i : Nat) {us : List Value} {x : Ds (ps.map Par.ty)} {io : Io ps}, ArgReps own w β σ.mem [] ps us x io → (ioSites ps io).Nodup →
    ∃ (ids : Nat → Nat) (regs : Nat → Nat × Nat × Nat), ArgAll own w ids regs i ps us x ∧ (∀ k, 0 < (regs k).2.2 → ids k ∈ ioSites ps io ∧ i ≤ k) ∧ (∀ k b j, inReg (regs k) b j → own b j = some (ids k) ∧ Z.wr b j ∧ ∃ v, w.cell? ⟨b, j, none⟩ = some v) ∧
      (∀ k l, k ≠ l → 0 < (regs k).2.2 → 0 < (regs l).2.2 → ids k ≠ ids l) ∧
      ∀ (own' : Own) (w' : World), Keeps own own' w w' → (∀ s ∈ ioSites ps io, ∀ b j v, own b j = some s → w.cell? ⟨b, j, none⟩ = some v → (∀ k, ¬ inReg (regs k) b j) → own' b j = some s ∧ w'.cell? ⟨b, j, none⟩ = some v ∧ w'.frozen? ⟨b, j, none⟩ = w.frozen? ⟨b, j, none⟩) →
        ShpKeeps w w' → ∀ y : Ds (ioTys ps), OutAll own' w' ids regs i ps us y → ∀ s e', (s, e') ∈ ioEnt ps io y → RepE Z own' w' β s e' ∧ Evo β β s (σ.mem s) e'
  | [], i, us, x, io, hr, hn => ⟨fun _ => 0, fun _ => (0, 0, 0), hr, fun k h => by simp at h, fun k b j ⟨_, h1, h2⟩ => by simp at h2, fun k l _ h => by simp at h, fun _ _ _ _ _ _ _ s e' hm => by simp [ioEnt] at hm⟩
  | [p], i, us, x, io, ⟨u, h1, h2⟩, hn => by
    subst h1
    obtain ⟨id, reg, g1, g2, g3, g4⟩ := h2.open1 h
    have hregs : ∀ k, upd (fun _ => ((0, 0, 0) : Nat × Nat × Nat)) i reg k = if k = i then reg else (0, 0, 0) := fun k => upd_eq _ _ _ _
    refine ⟨fun _ => id, upd (fun _ => (0, 0, 0)) i reg, ⟨u, rfl, by rw [hregs, if_pos rfl]; exact g1⟩, ?_, ?_, ?_, ?_⟩
    · intro k hk
      rw [hregs] at hk
      split at hk
      · rename_i e; subst e
        rcases g2 with ⟨_, g2⟩ | g2
        · omega
        · exact ⟨g2, Nat.le_refl _⟩
      · simp at hk
    · intro k b j hk
      rw [hregs] at hk
      split at hk
      · exact g3 b j hk
      · obtain ⟨_, c1, c2⟩ := hk; simp at c2
    · intro k l hkl hk hl
      rw [hregs] at hk hl
      split at hk
      · split at hl
        · omega
        · simp at hl
      · simp at hk
    · intro own' w' hK hC hS y hO s e' hmem
      have hid : id ∈ ioSites [p] io := by
        rcases g2 with ⟨g2, _⟩ | g2
        · have := List.mem_map_of_mem (f := (·.1)) hmem
          rw [ioEnt_sites, g2] at this
          cases this
        · exact g2
      refine g4 own' w' hK ?_ hS y ?_ s e' hmem
      · intro b j v e1 e2 e3
        refine hC id hid b j v e1 e2 fun k hk => ?_
        rw [hregs] at hk
        split at hk
        · exact e3 hk
        · obtain ⟨_, c1, c2⟩ := hk; simp at c2
      · cases p with
        | val τ => trivial
        | nils e => trivial
        | pv q => trivial
        | box τ => exact ⟨by have := hO.1; rw [hregs, if_pos rfl] at this; exact this, trivial⟩
        | row e => exact ⟨by have := hO.1; rw [hregs, if_pos rfl] at this; exact this, trivial⟩
        | take e => trivial
  | p :: q :: r, i, us, x, io, ⟨u, us', io1, io2, h1, h2, h3, h4⟩, hn => by
    subst h1; subst h2
    rw [ioSites_cons] at hn
    obtain ⟨hn1, hn2, hn3⟩ := List.nodup_append.1 hn
    obtain ⟨id, reg, g1, g2, g3, g4⟩ := h3.open1 h
    obtain ⟨ids, regs, k1, k2, k3, k4, k5⟩ := ArgReps.open h (q :: r) (i + 1) h4 hn2
    have hids : ∀ k, upd ids i id k = if k = i then id else ids k := fun k => upd_eq _ _ _ _
    have hregs : ∀ k, upd regs i reg k = if k = i then reg else regs k := fun k => upd_eq _ _ _ _
    have hcg : ∀ k, i + 1 ≤ k → ids k = upd ids i id k ∧ regs k = upd regs i reg k := fun k hk => by
      rw [hids, hregs, if_neg (by omega), if_neg (by omega)]; exact ⟨rfl, rfl⟩
    have hsame : ∀ k, k ≠ i → 0 < (regs k).2.2 → id ∈ ioSites [p] io1 → ids k ≠ id := by
      intro k _ hk hid e
      exact hn3 id hid (ids k) (k2 k hk).1 e.symm
    refine ⟨upd ids i id, upd regs i reg, ⟨u, us', rfl, ?_, k1.congr hcg⟩, ?_, ?_, ?_, ?_⟩
    · rw [hids, hregs, if_pos rfl, if_pos rfl]; exact g1
    · intro k hk
      rw [hregs] at hk
      rw [hids, ioSites_cons]
      split at hk
      · rename_i e; subst e
        rw [if_pos rfl]
        rcases g2 with ⟨_, g2⟩ | g2
        · omega
        · exact ⟨List.mem_append_left _ g2, Nat.le_refl _⟩
      · rename_i e
        rw [if_neg e]
        obtain ⟨c1, c2⟩ := k2 k hk
        exact ⟨List.mem_append_right _ c1, by omega⟩
    · intro k b j hk
      rw [hregs] at hk
      rw [hids]
      split at hk
      · rename_i e; rw [if_pos e]; exact g3 b j hk
      · rename_i e; rw [if_neg e]; exact k3 k b j hk
    · intro k l hkl hk hl
      rw [hregs] at hk hl
      rw [hids, hids]
      have gid : 0 < reg.2.2 → id ∈ ioSites [p] io1 := fun h => by
        rcases g2 with ⟨_, g2⟩ | g2
        · omega
        · exact g2
      by_cases e1 : k = i
      · rw [if_pos e1] at hk ⊢
        have e2 : l ≠ i := by omega
        rw [if_neg e2] at hl ⊢
        exact (hsame l e2 hl (gid hk)).symm
      · rw [if_neg e1] at hk ⊢
        by_cases e2 : l = i
        · rw [if_pos e2] at hl ⊢
          exact hsame k e1 hk (gid hl)
        · rw [if_neg e2] at hl ⊢
          exact k4 k l hkl hk hl
    · intro own' w' hK hC hS y hO s e' hmem
      obtain ⟨y1, y2, o1, o2, o3⟩ := OutAll.split (io1 := io1) (io2 := io2) hO
      rw [hids, hregs, if_pos rfl, if_pos rfl] at o1
      have o2' := o2.congr (ids' := ids) (regs' := regs) (fun k hk => ⟨(hcg k hk).1.symm, (hcg k hk).2.symm⟩)
      rcases o3 s e' hmem with hmem | hmem
      · -- the first one
        have hid : id ∈ ioSites [p] io1 := by
          rcases g2 with ⟨g2, _⟩ | g2
          · have := List.mem_map_of_mem (f := (·.1)) hmem
            rw [ioEnt_sites, g2] at this
            cases this
          · exact g2
        refine g4 own' w' hK ?_ hS y1 o1 s e' hmem
        intro b j v e1 e2 e3
        refine hC id (by rw [ioSites_cons]; exact List.mem_append_left _ hid) b j v e1 e2 fun k hk => ?_
        rw [hregs] at hk
        split at hk
        · exact e3 hk
        · rename_i hki
          have h5 := (k3 k b j hk).1
          rw [e1] at h5
          have h6 : 0 < (regs k).2.2 := by obtain ⟨_, c1, c2⟩ := hk; omega
          exact hsame k hki h6 hid (Option.some.inj h5).symm
      · refine k5 own' w' hK ?_ hS y2 o2' s e' hmem
        intro s2 hs2 b j v e1 e2 e3
        refine hC s2 (by rw [ioSites_cons]; exact List.mem_append_right _ hs2) b j v e1 e2 fun k hk => ?_
        rw [hregs] at hk
        split at hk
        · have h5 := (g3 b j hk).1
          rw [e1] at h5
          cases h5
          have h6 : 0 < reg.2.2 := by obtain ⟨_, c1, c2⟩ := hk; omega
          rcases g2 with ⟨_, g2⟩ | g2
          · omega
          · exact hn3 _ g2 _ hs2 rfl
        · exact e3 k hk

end
end Go.Re
