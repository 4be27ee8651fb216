/- Reflection, part I: operations on values; loads; addresses. -/
import Derived.Test.YtgceolpeegfkkaaReH
import Derived.Laws.StructEq
import Derived.ChangeKeysEq
namespace Go.Re
set_option linter.unusedVariables false
set_option linter.unusedSimpArgs false
open Go.RowKit (Below)

section
variable {P : Program} {E : Env} {N : Nat} {Z : Base} {own : Own} {β : Conc} {σ : S} {a : Act} {w : World} {o : Oper}

theorem exec_v {s : Sem Value} {u : Value} {w' : World} (he : execOp a.eval o = (do pure (.value (← s)))) (h : s.run P w = .ok u w') : (execOp a.eval o).run P w = .ok (.value u) w' := by
  rw [he]; exact run_v h

/-! ### comparing -/
theorem str_eq {s t : ByteArray} {x y : List (BitVec 8)} (hs : s.data.toList.map UInt8.toBitVec = x) (ht : t.data.toList.map UInt8.toBitVec = y) : (s.toList == t.toList) = decide (x = y) := by
  subst hs; subst ht
  rw [Bool.eq_iff_iff, beq_iff_eq, decide_eq_true_eq, ByteArray.toList_eq, ByteArray.toList_eq]
  exact (List.map_inj_right (fun a b e => UInt8.toBitVec_inj.1 e)).symm

theorem RepV.toStr {v : Value} {x : List (BitVec 8)} (h : RepV own w .str v x) : ∃ s : ByteArray, v = .string s ∧ s.data.toList.map UInt8.toBitVec = x ∧ x.length ≤ big := RepV.str.1 h

/-- Two arrays of bytes. -/
theorem eqArr_run (hE : EnvOk P E) {t n d : Nat} {x y : List (BitVec 8)} {u v : Value} (ht : E.ty t = some (.arr n (.int .u8))) (hu : RepV own w (.arr n (.int .u8)) u x) (hv : RepV own w (.arr n (.int .u8)) v y) :
    (Op.equalIn (d + 2) t u v).run P w = .ok (decide (x = y)) w := by
  obtain ⟨cs, rfl, hx1, hx2, hx3⟩ := (RepV.agg rfl).1 hu
  obtain ⟨ds, rfl, hy1, hy2, hy3⟩ := (RepV.agg rfl).1 hv
  obtain ⟨te, q1, q2⟩ := (hE.ty t _ ht).desc
  have hT := hE.ty te _ q2
  obtain ⟨i, g1, _⟩ := hT.info
  have hcell : P.cellsOf te = 1 := by
    have h1 := hT.cells (P := P) w
    rw [run_sizeOf w g1] at h1
    have : P.cellsOf te = Ty.size (.int .u8) := by injection h1
    exact this
  have hs1 : Ty.size (.int .u8) = 1 := rfl
  rw [run_equalIn_array w (d + 1) _ _ q1 g1, hcell]
  have step : ∀ is : List Nat, (∀ j ∈ is, j < n) → (Op.eqItems (d + 1) te 1 cs.toArray ds.toArray is).run P w = .ok (is.all fun j => decide (x.getD j 0#8 = y.getD j 0#8)) w := by
    intro is
    induction is with
    | nil => intro _; rfl
    | cons j is ih =>
      intro hj
      have hjn := hj j (by simp)
      have a1 := hx3 j (by omega)
      have a2 := hy3 j (by omega)
      have e1 := hT.partRun (w := w) (own := own) (cs := cs) (off := j * 1) a1 (by rw [hx2, hs1]; omega)
      have e2 := hT.partRun (w := w) (own := own) (cs := ds) (off := j * 1) a2 (by rw [hy2, hs1]; omega)
      have v1 := RepV.int.1 (RepV.mk (τ := .int .u8) rfl a1)
      have v2 := RepV.int.1 (RepV.mk (τ := .int .u8) rfl a2)
      simp only [hs1] at e1 e2 v1 v2
      simp only [Op.eqItems, Sem.run_bind, e1, e2, Result.andThen_ok, v1.1, v2.1, run_equalIn_int w d te .u8 .u8 _ _ hT.desc, List.all_cons]
      have inj : ((toI .u8 x[j] == toI .u8 y[j]) : Bool) = decide (x.getD j 0#8 = y.getD j 0#8) := by
        rw [Bool.eq_iff_iff, beq_iff_eq, decide_eq_true_eq, List.getD_eq_getElem?_getD, List.getD_eq_getElem?_getD, List.getElem?_eq_getElem (by omega), List.getElem?_eq_getElem (by omega)]
        show ((x[j].toNat : Int) = (y[j].toNat : Int)) ↔ x[j] = y[j]
        exact ⟨fun e => BitVec.eq_of_toNat_eq (by omega), fun e => by rw [e]⟩
      rw [inj]
      cases hb : decide (x.getD j 0#8 = y.getD j 0#8) with
      | true => simp only [Bool.not_true, Bool.false_eq_true, if_false, Bool.true_and]; exact ih (fun k hk => hj k (by simp [hk]))
      | false => simp
  rw [step _ (fun j hj => List.mem_range.1 hj)]
  congr 1
  rw [Bool.eq_iff_iff, List.all_eq_true, decide_eq_true_eq]
  constructor
  · intro h
    apply List.ext_getElem (by omega)
    intro j h1 h2
    have := of_decide_eq_true (h j (List.mem_range.2 (by omega)))
    simpa [List.getD_eq_getElem?_getD, List.getElem?_eq_getElem h1, List.getElem?_eq_getElem h2] using this
  · intro h j _; rw [h]; simp

/-- Equality of two values, as of their data. -/
theorem eq_run (hE : EnvOk P E) : ∀ (τ : Ty),
    (∀ (t d : Nat) (f : τ.D → τ.D → Bool) (x y : τ.D) (u v : Value), E.ty t = some τ → eqD τ = some f → eqAble E t τ → τ.dep ≤ d → RepV own w τ u x → RepV own w τ v y →
      (Op.equalIn d t u v).run P w = .ok (f x y) w) ∧
    (∀ (fs : List Field) (off d : Nat) (f : τ.D → τ.D → Bool) (x y : τ.D) (cs ds : List Value), fieldsOk E.ty off fs τ → eqD τ = some f → (∀ g ∈ fs, g.name ≠ "_" ∧ ∀ τ, E.ty g.type = some τ → eqAble E g.type τ) → τ.dep ≤ d →
      RepC own w τ ((cs.drop off).take τ.size) x → off + τ.size ≤ cs.length → RepC own w τ ((ds.drop off).take τ.size) y → off + τ.size ≤ ds.length →
      (Op.eqFields d cs.toArray ds.toArray fs).run P w = .ok (f x y) w) := by
  intro τ
  have nofields : ∀ {τ : Ty} {off : Nat} {fs : List Field} {Q : Prop}, (∀ a b, τ ≠ .pair a b) → τ ≠ .unit → fieldsOk E.ty off fs τ → Q := by
    intro τ off fs Q h1 h2 h
    cases τ with
    | pair a b => exact absurd rfl (h1 a b)
    | unit => exact absurd rfl h2
    | _ => cases fs <;> exact h.elim
  induction τ with
  | bool =>
    refine ⟨?_, fun _ _ _ _ _ _ _ _ h => nofields (by simp) (by simp) h⟩
    intro t d f x y u v ht hf _ hd hu hv
    obtain ⟨d, rfl⟩ : ∃ m, d = m + 1 := ⟨d - 1, by simp [Ty.dep] at hd; omega⟩
    rw [RepV.bool.1 hu, RepV.bool.1 hv, run_equalIn_bool' w d t x y ((hE.ty t _ ht).desc)]
    cases hf; cases x <;> cases y <;> rfl
  | str =>
    refine ⟨?_, fun _ _ _ _ _ _ _ _ h => nofields (by simp) (by simp) h⟩
    intro t d f x y u v ht hf _ hd hu hv
    obtain ⟨d, rfl⟩ : ∃ m, d = m + 1 := ⟨d - 1, by simp [Ty.dep] at hd; omega⟩
    obtain ⟨s, rfl, h1, _⟩ := RepV.str.1 hu
    obtain ⟨s', rfl, h2, _⟩ := RepV.str.1 hv
    rw [run_equalIn_string w d t s s' ((hE.ty t _ ht).desc), str_eq h1 h2]
    cases hf; rfl
  | unit =>
    refine ⟨fun t d f x y u v ht => by have := (hE.ty t _ ht).desc; exact this.elim, ?_⟩
    intro fs off d f x y cs ds h hf _ _ _ _ _ _
    cases fs with
    | nil => cases hf; rfl
    | cons g gs => exact h.elim
  | int k =>
    refine ⟨?_, fun _ _ _ _ _ _ _ _ h => nofields (by simp) (by simp) h⟩
    intro t d f x y u v ht hf _ hd hu hv
    obtain ⟨d, rfl⟩ : ∃ m, d = m + 1 := ⟨d - 1, by simp [Ty.dep] at hd; omega⟩
    obtain ⟨rfl, h1⟩ := RepV.int.1 hu
    obtain ⟨rfl, h2⟩ := RepV.int.1 hv
    rw [run_equalIn_int w d t k k _ _ ((hE.ty t _ ht).desc)]
    congr 1
    have inj : ∀ {n : Nat} (x y : BitVec n), ((x.toNat : Int) == (y.toNat : Int)) = decide (x = y) := fun x y => by
      rw [Bool.eq_iff_iff, beq_iff_eq, decide_eq_true_eq]
      exact ⟨fun e => BitVec.eq_of_toNat_eq (by omega), fun e => by rw [e]⟩
    cases k with
    | u8 => cases hf; exact inj _ _
    | u16 => cases hf; exact inj _ _
    | u32 => cases hf; exact inj _ _
    | u64 => cases hf; exact inj _ _
    | i64 => cases hf; rw [Bool.eq_iff_iff, beq_iff_eq, decide_eq_true_eq]; exact Iff.rfl
    | i8 => cases hf
    | i16 => cases hf
    | i32 => cases hf
  | pair p q ihp ihq =>
    refine ⟨fun t d f x y u v ht => by have := (hE.ty t _ ht).desc; exact this.elim, ?_⟩
    intro fs off d f x y cs ds h hf hg hd hx hxl hy hyl
    cases fs with
    | nil => exact h.elim
    | cons g gs =>
      obtain ⟨h1, h2, h3, h4⟩ := h
      simp only [eqD] at hf
      split at hf
      · rename_i fp fq hfp hfq
        cases hf
        obtain ⟨g1, g2⟩ := hg g (by simp)
        have hT := hE.ty g.type p h2
        have part1 : ∀ {cs : List Value} {x : p.D × q.D}, RepC own w (.pair p q) ((cs.drop off).take (p.size + q.size)) x → off + (p.size + q.size) ≤ cs.length →
            RepC own w p ((cs.drop off).take p.size) x.1 ∧ RepC own w q ((cs.drop (off + p.size)).take q.size) x.2 := by
          intro cs x hx hl
          obtain ⟨c, e, he, hc, hd⟩ := hx
          have hcl := hc.length
          have hdl := hd.length
          have e1 : (cs.drop off).take p.size = c := by
            have := congrArg (List.take p.size) he
            rwa [List.take_take, Nat.min_eq_left (by omega), List.take_left' hcl] at this
          have e2 : (cs.drop (off + p.size)).take q.size = e := by
            have := congrArg (List.drop p.size) he
            rwa [List.drop_take, List.drop_drop, show p.size + q.size - p.size = q.size by omega, List.drop_left' hcl] at this
          rw [e1, e2]; exact ⟨hc, hd⟩
        have hxl' : off + (p.size + q.size) ≤ cs.length := hxl
        have hyl' : off + (p.size + q.size) ≤ ds.length := hyl
        obtain ⟨hx1, hx2⟩ := part1 hx hxl'
        obtain ⟨hy1, hy2⟩ := part1 hy hyl'
        have hd1 : p.dep ≤ d := Nat.le_trans (Nat.le_max_left _ _) hd
        have hd2 : q.dep ≤ d := Nat.le_trans (Nat.le_max_right _ _) hd
        have e1 := hT.partRun (w := w) (off := off) hx1 (by omega)
        have e2 := hT.partRun (w := w) (off := off) hy1 (by omega)
        have e3 := ihp.1 g.type d fp x.1 y.1 _ _ h2 hfp (g2 p h2) hd1 (RepV.mk hT.isVal hx1) (RepV.mk hT.isVal hy1)
        have e4 := ihq.2 gs (off + p.size) d fq x.2 y.2 cs ds h4 hfq (fun z hz => hg z (by simp [hz])) hd2 hx2 (by omega) hy2 (by omega)
        rw [Op.eqFields, if_pos g1, h1]
        simp only [Sem.run_bind, e1, Result.andThen_ok, e2, e3]
        cases hb : fp x.1 y.1 with
        | true => simp only [Bool.not_true, Bool.false_eq_true, if_false, e4, Bool.true_and]
        | false => simp only [Bool.not_false, if_true, Sem.run_pure, Bool.false_and]
      · cases hf
  | st b ih =>
    refine ⟨?_, fun _ _ _ _ _ _ _ _ h => nofields (by simp) (by simp) h⟩
    intro t d f x y u v ht hf he hd hu hv
    obtain ⟨d, rfl⟩ : ∃ m, d = m + 1 := ⟨d - 1, by simp [Ty.dep] at hd; omega⟩
    obtain ⟨cs, rfl, hx⟩ := (RepV.agg rfl).1 hu
    obtain ⟨ds, rfl, hy⟩ := (RepV.agg rfl).1 hv
    obtain ⟨fs, h1, h2⟩ := (hE.ty t _ ht).desc
    obtain ⟨_, h4, h5⟩ := hE.eq t he
    have hfo : P.fieldsOf t = fs := by simp [Program.fieldsOf, h1]
    rw [run_equalIn_agg w d t _ _ (by rw [hfo]; exact h1) h4, hfo]
    have hxl := hx.length
    have hyl := hy.length
    refine ih.2 fs.toList 0 d f x y cs ds h2 hf (h5 fs h1) (by simp only [Ty.dep] at hd; omega) ?_ ?_ ?_ ?_
    · rw [List.drop_zero, show b.size = cs.length from hxl.symm, List.take_length]; exact hx
    · rw [Nat.zero_add]; exact Nat.le_of_eq hxl.symm
    · rw [List.drop_zero, show b.size = ds.length from hyl.symm, List.take_length]; exact hy
    · rw [Nat.zero_add]; exact Nat.le_of_eq hyl.symm
  | sl e _ => exact ⟨fun _ _ _ _ _ _ _ _ hf => by simp [eqD] at hf, fun _ _ _ _ _ _ _ _ h => nofields (by simp) (by simp) h⟩
  | arr n e _ =>
    refine ⟨?_, fun _ _ _ _ _ _ _ _ h => nofields (by simp) (by simp) h⟩
    intro t d f x y u v ht hf _ hd hu hv
    cases e with
    | int k =>
      cases k with
      | u8 =>
        cases hf
        obtain ⟨d, rfl⟩ : ∃ m, d = m + 2 := ⟨d - 2, by simp [Ty.dep] at hd; omega⟩
        exact eqArr_run hE ht hu hv
      | _ => cases hf
    | _ => cases hf

/-- What a comparison of values of a type runs to. -/
theorem eql_run (hE : EnvOk P E) {t : Nat} {τ : Ty} {f : τ.D → τ.D → Bool} {x y : τ.D} {u v : Value} (ht : E.ty t = some τ) (hf : eqD τ = some f) (hc : cmpOk E t τ = true)
    (hu : RepV own w τ u x) (hv : RepV own w τ v y) (ox oy : Operand) :
    (do eqGuard .eql t ox oy u v; binOp .eql t u v : Sem Value).run P w = .ok (.bool (f x y)) w ∧
    (do eqGuard .neq t ox oy u v; binOp .neq t u v : Sem Value).run P w = .ok (.bool (!f x y)) w := by
  cases τ with
  | st b =>
    simp only [cmpOk, Bool.and_eq_true, decide_eq_true_eq] at hc
    have h := (eq_run (own := own) (w := w) hE (.st b)).1 t 10000 f x y u v ht hf hc.1 (by simp only [Ty.dep]; omega) hu hv
    obtain ⟨cs, rfl, hx⟩ := (RepV.agg rfl).1 hu
    obtain ⟨ds, rfl, hy⟩ := (RepV.agg rfl).1 hv
    have hg := (hE.eq t hc.1).1
    constructor
    · simp only [Sem.run_bind, run_eqGuard_agg w .eql t ox oy _ _ hg, Result.andThen_ok, run_eql_struct, h]
    · simp only [Sem.run_bind, run_eqGuard_agg w .neq t ox oy _ _ hg, Result.andThen_ok, run_neq_struct, h]
  | arr n e =>
    cases e with
    | int k =>
      cases k with
      | u8 =>
        cases hf
        have h := eqArr_run (own := own) (w := w) (d := 9998) hE ht hu hv
        obtain ⟨cs, rfl, hx⟩ := (RepV.agg rfl).1 hu
        obtain ⟨ds, rfl, hy⟩ := (RepV.agg rfl).1 hv
        have hg := (hE.eq t hc).1
        constructor
        · simp only [Sem.run_bind, run_eqGuard_agg w .eql t ox oy _ _ hg, Result.andThen_ok, run_eql_struct, h]
        · simp only [Sem.run_bind, run_eqGuard_agg w .neq t ox oy _ _ hg, Result.andThen_ok, run_neq_struct, h]
      | _ => cases hc
    | _ => cases hc
  | bool =>
    cases hf
    rw [RepV.bool.1 hu, RepV.bool.1 hv]
    have e := run_equal_bool w t x y ((hE.ty t _ ht).desc)
    have e0 : (x == y) = decide (x = y) := by cases x <;> cases y <;> rfl
    constructor
    · rw [eqGuard_at_bool]; simp [binOp, e, e0]
    · rw [eqGuard_at_bool]; simp [binOp, e, e0]
  | str =>
    cases hf
    obtain ⟨s, rfl, h1, _⟩ := RepV.str.1 hu
    obtain ⟨s', rfl, h2, _⟩ := RepV.str.1 hv
    constructor
    · rw [eqGuard_at_string]; simp [binOp, Op.stringOp, str_eq h1 h2]
    · rw [eqGuard_at_string]; simp [binOp, Op.stringOp, str_eq h1 h2]
  | _ => simp [cmpOk] at hc

end
end Go.Re
