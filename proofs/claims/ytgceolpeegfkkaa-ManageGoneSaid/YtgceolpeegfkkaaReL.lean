/- Reflection, part L: elements' addresses, pieces, stores. -/
import Derived.Test.YtgceolpeegfkkaaReK
namespace Go.Re
set_option linter.unusedVariables false
set_option linter.unusedSimpArgs false
open Go.RowKit (Below)

section
variable {P : Program} {E : Env} {N : Nat} {Z : Base} {own : Own} {β : Conc} {σ : S} {a : Act} {w : World} {o : Oper}

theorem inLen_iff {i : Int} {n : Nat} (h : inLen i n = true) : 0 ≤ i ∧ i < (n : Int) := by
  simpa [inLen] using h

theorem indexAt_slice (hE : EnvOk P E) {t : Nat} {e : Ty} (ht : E.ty t = some (.sl e)) (b off len cap : Nat) (k : IntKind) {i : Int} (h0 : 0 ≤ i) (h1 : i < (len : Int)) :
    (Instr.indexAt t (.slice (some ⟨b, off, none⟩) len cap) (.int k i)).run P w = .ok (.pointer (some ⟨b, off + i.toNat * e.size, none⟩)) w := by
  obtain ⟨te, e1, e2⟩ := (hE.ty t _ ht).desc
  have hT := hE.ty te e e2
  simp [Instr.indexAt, run_underlying e1, asIntOf, h0, h1, hT.cells, addr_add]

theorem indexAt_array (hE : EnvOk P E) {t n : Nat} {e : Ty} (ht : E.ty t = some (.arr n e)) (b off : Nat) (k : IntKind) {i : Int} (h0 : 0 ≤ i) (h1 : i < (n : Int)) :
    (Instr.indexAt t (.pointer (some ⟨b, off, none⟩)) (.int k i)).run P w = .ok (.pointer (some ⟨b, off + i.toNat * e.size, none⟩)) w := by
  obtain ⟨te, e1, e2⟩ := (hE.ty t _ ht).desc
  have hT := hE.ty te e e2
  simp [Instr.indexAt, run_underlying e1, asIntOf, h0, h1, hT.cells, addr_add, Instr.sureAddr]

theorem TyOk.elem (hE : EnvOk P E) {t : Nat} {e : Ty} (ht : E.ty t = some (.sl e)) : e.isVal = true := by
  obtain ⟨te, e1, e2⟩ := (hE.ty t _ ht).desc
  exact (hE.ty te e e2).isVal

theorem TyOk.elemA (hE : EnvOk P E) {t n : Nat} {e : Ty} (ht : E.ty t = some (.arr n e)) : e.isVal = true := by
  obtain ⟨te, e1, e2⟩ := (hE.ty t _ ht).desc
  exact (hE.ty te e e2).isVal

theorem ix_some {α : Type} {xs : List α} {i : Int} {x : α} (h : ix xs i = some x) : 0 ≤ i ∧ i < (xs.length : Int) ∧ ∃ h : i.toNat < xs.length, xs[i.toNat] = x := by
  unfold ix at h
  by_cases h0 : 0 ≤ i
  · simp only [h0, decide_true, cond_true] at h
    obtain ⟨h1, h2⟩ := List.getElem?_eq_some_iff.1 h
    exact ⟨h0, by omega, h1, h2⟩
  · simp [h0] at h

/-- The address of an element that is only read. -/
theorem rpt_row {e : Ty} (hv : e.isVal = true) {u : Value} {xs : List e.D} (hq : RepV own w (.sl e) u xs) {i : Int} {x : e.D} (hx : ix xs i = some x) :
    ∃ b off cap, u = .slice (some ⟨b, off, none⟩) xs.length cap ∧ RepS own w β σ.mem (.rpt e x) (.pointer (some ⟨b, off + i.toNat * e.size, none⟩)) := by
  obtain ⟨h0, h1, h2, h3⟩ := ix_some hx
  obtain ⟨ad, cap, e1, e2, e3, e4, e5⟩ := RepV.sl.1 hq
  cases e1
  rcases e5 with ⟨_, e6⟩ | ⟨b, off, rfl, e6⟩
  · omega
  · obtain ⟨es, g1, g2, g3⟩ := e6 i.toNat h2
    rw [h3] at g3
    exact ⟨b, off, cap, rfl, hv, b, _, es, rfl, g2, g3⟩

theorem indexAddr_pure (hE : EnvOk P E) (h : St N Z own β σ a w) {t : Nat} {v iv : V} {u i : Value} {r : V × S} (hu : RepS own w β σ.mem v u) (hi : RepS own w β σ.mem iv i)
    (hr : (indexAddrM E t v iv).run σ = some r) : Pure P own w β σ (Instr.indexAt t u i) r := by
  unfold indexAddrM at hr
  split at hr
  · rename_i k x
    obtain ⟨rfl, hx⟩ := RepS.int hi
    split at hr
    · -- slices
      rename_i e ht
      have hv := TyOk.elem hE ht
      split at hr
      · rename_i τ xs
        split at hr
        · rename_i xs' hx'
          obtain ⟨eq, hx'⟩ := cast?_some hx'
          subst eq; subst hx'
          obtain ⟨y, h1, h2⟩ := fin_run hr
          obtain ⟨h3, h4, _⟩ := ix_some h1
          obtain ⟨b, off, cap, rfl, h5⟩ := rpt_row (β := β) (σ := σ) hv hu h1
          rw [h2]
          exact ⟨_, indexAt_slice hE ht _ _ _ _ k h3 h4, rfl, h5⟩
        · cases hr
      · rename_i s ver
        simp only [M.run] at hr
        split at hr
        · rename_i ver' e' xs m hm
          split at hr
          · rename_i eq; subst eq
            split at hr
            · rename_i xs' hx'
              obtain ⟨eq, hx'⟩ := cast?_some hx'
              cases eq
              have hx' : xs = xs' := hx'
              subst hx'
              have hus := hu.2 e xs m hm
              have hmm := h.mems s
              rw [hm] at hmm
              have hnm : m.isMp = false := by cases m <;> first | rfl | (exfalso; cases hr)
              obtain ⟨ad, cap, e1, e2, e3, e4, e5⟩ := RepE.row hnm hmm
              split at hr
              · -- its own
                obtain ⟨y, h1, h2⟩ := fin_run hr
                obtain ⟨h3, h4⟩ := inLen_iff (chk_some h1)
                rcases e5 with ⟨e6, _⟩ | ⟨b, off, rfl, e6, _⟩
                · omega
                · rw [h2, hus, e1]
                  refine ⟨_, indexAt_slice hE ht b off xs.length cap k h3 h4, rfl, hu.1, ?_⟩
                  intro τ xs' m' hm'
                  rw [hm] at hm'; cases hm'
                  exact ⟨by omega, b, off, xs.length, cap, e1, by simp [offP_nil]⟩
              · cases hr
              · cases hr
              · rename_i hnf _ hng
                obtain ⟨y, h1, h2⟩ := fin_run hr
                obtain ⟨h3, h4, _⟩ := ix_some h1
                have hq : RepV own w (.sl e) u xs := by
                  rw [hus, e1]
                  refine RowR.frozen e2 e3 e4 (e5.imp (·.1) fun ⟨b, o, e6, e7, _⟩ => ⟨b, o, e6, ?_⟩)
                  cases m with
                  | full => exact absurd rfl hnf
                  | tail => exact e7
                  | view => exact e7
                  | mp => cases hnm
                  | gb l => exact absurd rfl (hng l)
                obtain ⟨b, off, cap', hu', h5⟩ := rpt_row (β := β) (σ := σ) hv hq h1
                rw [h2, hu']
                exact ⟨_, indexAt_slice hE ht _ _ _ _ k h3 h4, rfl, h5⟩
            · cases hr
          · cases hr
        · cases hr
      · cases hr
    · -- arrays
      rename_i n e ht
      split at hr
      · cases hr
      · split at hr
        · rename_i s ver p
          simp only [M.run] at hr
          split at hr
          · rename_i ver' τb y hm
            split at hr
            · rename_i eq
              obtain ⟨eq, eq'⟩ := eq
              subst eq
              obtain ⟨z, h1, h2⟩ := fin_run hr
              obtain ⟨h3, h4⟩ := inLen_iff (chk_some h1)
              obtain ⟨bl, off, h5, rfl⟩ := hu.2 τb y hm
              rw [h2]
              refine ⟨_, indexAt_array hE ht _ _ k h3 h4, rfl, hu.1, fun τ x' hm' => ?_⟩
              rw [hm] at hm'; cases hm'
              refine ⟨bl, off, h5, ?_⟩
              rw [(tyP_append τb p [.idx (toI k x).toNat] _ eq').2]
              simp [offP, offP_nil, Nat.add_assoc]
            · cases hr
          · cases hr
        · rename_i s ver j p
          simp only [M.run] at hr
          split at hr
          · rename_i ver' τe xs m hm
            split at hr
            · rename_i eq
              obtain ⟨eq, eq'⟩ := eq
              subst eq
              obtain ⟨z, h1, h2⟩ := fin_run hr
              obtain ⟨h3, h4⟩ := inLen_iff (chk_some h1)
              obtain ⟨hj, bl, off, nn, cc, h5, rfl⟩ := hu.2 τe xs m hm
              rw [h2]
              refine ⟨_, indexAt_array hE ht _ _ k h3 h4, rfl, hu.1, fun τ x' m' hm' => ?_⟩
              rw [hm] at hm'; cases hm'
              refine ⟨hj, bl, off, nn, cc, h5, ?_⟩
              rw [(tyP_append τe p [.idx (toI k x).toNat] _ eq').2]
              simp [offP, offP_nil, Nat.add_assoc]
            · cases hr
          · cases hr
        · rename_i τ xs
          split at hr
          · rename_i xs' hx'
            obtain ⟨eq, hx'⟩ := cast?_some hx'
            subst eq; subst hx'
            obtain ⟨y, h1, h2⟩ := fin_run hr
            obtain ⟨h3, h4, h6, h7⟩ := ix_some h1
            obtain ⟨hv, bl, off, cs, rfl, h8, h9⟩ := hu
            obtain ⟨g1, g2, g3⟩ := h9
            rw [h2]
            have h4' : toI k x < (n : Int) := by rw [← g1]; exact h4
            refine ⟨_, indexAt_array hE ht _ _ k h3 h4', rfl, TyOk.elemA hE ht, bl, _, _, rfl, ?_, h7 ▸ g3 _ h6⟩
            intro j v hj
            rw [List.getElem?_take] at hj
            split at hj
            · rw [List.getElem?_drop] at hj
              have := h8 _ _ hj
              rwa [← Nat.add_assoc] at this
            · cases hj
          · cases hr
        · cases hr
    · cases hr
  · cases hr

/-! ### pieces -/
theorem okSlc_bounds {lo hi : Option Int} {n : Nat} (h : okSlc lo hi n = true) : ∃ l m : Nat, (∀ x, lo = some x → x = (l : Int)) ∧ (lo = none → l = 0) ∧ (∀ x, hi = some x → x = (m : Int)) ∧ (hi = none → m = n) ∧ l ≤ m ∧ m ≤ n ∧
    ∀ {α : Type} (xs : List α), xs.length = n → slcO xs lo hi = (xs.take m).drop l := by
  cases lo with
  | none => cases hi with
    | none => exact ⟨0, n, by simp, by simp, by simp, by simp, by omega, by omega, fun xs hx => by simp [slcO, ← hx]⟩
    | some h' =>
      simp [okSlc] at h
      exact ⟨0, h'.toNat, by simp, by simp, by simp; omega, by simp, by omega, by omega, fun xs hx => by simp [slcO]⟩
  | some l' => cases hi with
    | none =>
      simp [okSlc] at h
      refine ⟨l'.toNat, n, by simp; omega, by simp, by simp, by simp, by omega, by omega, fun xs hx => ?_⟩
      simp [slcO, ← hx]
    | some h' =>
      simp [okSlc] at h
      exact ⟨l'.toNat, h'.toNat, by simp; omega, by simp, by simp; omega, by simp, by omega, by omega, fun xs hx => by simp [slcO, slc]⟩

theorem RepV.piece {e : Ty} {ad : Option Addr} {n cap : Nat} {x : List e.D} (h : RepV own w (.sl e) (.slice ad n cap) x) {l m : Nat} (h1 : l ≤ m) (h2 : m ≤ n) :
    n = x.length ∧ n ≤ cap ∧ RepV own w (.sl e) (.slice (if cap = l then ad else ad.map (·.add (l * e.size))) (m - l) (cap - l)) ((x.take m).drop l) := by
  obtain ⟨a', cap', e1, e2, e3, e4, e5⟩ := RepV.sl.1 h
  cases e1
  have hlen : ((x.take m).drop l).length = m - l := by simp; omega
  refine ⟨rfl, e2, RepV.sl.2 ⟨if cap = l then ad else ad.map (·.add (l * e.size)), cap - l, by rw [hlen], by rw [hlen]; omega, by omega, by rw [hlen]; omega, ?_⟩⟩
  · rcases e5 with e6 | ⟨b, o, rfl, e6⟩
    · left; omega
    · right
      by_cases hc : cap = l
      · refine ⟨b, o, by simp [hc], ?_⟩
        intro i hi
        rw [hlen] at hi
        omega
      · refine ⟨b, o + l * e.size, by simp [hc, addr_add], ?_⟩
        intro i hi
        have hi' := hi
        rw [hlen] at hi'
        obtain ⟨es, g1, g2, g3⟩ := e6 (l + i) (by omega)
        refine ⟨es, g1, ?_, ?_⟩
        · intro j v hj
          have := g2 j v hj
          rwa [show o + (l + i) * e.size + j = o + l * e.size + i * e.size + j by rw [Nat.add_mul]; omega] at this
        · have : ((x.take m).drop l)[i]'hi = x[l + i]'(by omega) := by simp
          rw [this]; exact g3

theorem bound_run (h : St N Z own β σ a w) {α : Type} {x : Option Operand} {k : Option Int → M α} {r : α × S} (hr : (bound x k).run σ = some r) :
    (x = none ∧ (k none).run σ = some r) ∨ ∃ op kd i, x = some op ∧ a.eval op = .int kd i ∧ (k (some i)).run σ = some r := by
  unfold bound at hr
  cases x with
  | none => exact .inl ⟨rfl, hr⟩
  | some op =>
    right
    obtain ⟨v, h1, h2⟩ := rd_run h hr
    split at h2
    · rename_i kd i
      obtain ⟨h3, _⟩ := RepS.int h1
      exact ⟨op, kd, toI kd i, rfl, h3, h2⟩
    · cases h2

theorem sliceBound_run {kd : IntKind} {n y : Nat} (code : BoundsCode) (h : n ≤ y) : (Instr.sliceBound (.int kd (n : Int)) y code).run P w = .ok n w := by
  simp [Instr.sliceBound, asIntOf, h]

/-- The bounds of a piece: what they run to. -/
theorem sliceBounds_run {isSl : Bool} {n cap l m : Nat} (hl : l ≤ m) (hm : m ≤ n) (hc : n ≤ cap) {lo hi : Option Value} (h1 : lo = none ∧ l = 0 ∨ ∃ k, lo = some (.int k (l : Int)))
    (h2 : hi = none ∧ m = n ∨ ∃ k, hi = some (.int k (m : Int))) : (Instr.sliceBounds isSl n cap lo hi none).run P w = .ok (l, m, cap) w := by
  rcases h1 with ⟨rfl, rfl⟩ | ⟨k, rfl⟩ <;> rcases h2 with ⟨rfl, rfl⟩ | ⟨k', rfl⟩ <;>
    simp [Instr.sliceBounds, sliceBound_run, hl, Nat.le_trans hm hc]

end
end Go.Re
