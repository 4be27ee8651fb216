/- Reflection, part K: lengths, parts, loads, addresses. -/
import Derived.Test.YtgceolpeegfkkaaReJ
namespace Go.Re
set_option linter.unusedVariables false
set_option linter.unusedSimpArgs false
open Go.RowKit (Below)

section
variable {P : Program} {E : Env} {N : Nat} {Z : Base} {own : Own} {β : Conc} {σ : S} {a : Act} {w : World} {o : Oper}

theorem RepR.str {u : Value} {x : List (BitVec 8)} (h : RepR own w .str u x) : RepV own w .str u x := h
theorem RepR.q {e : Ty} {u : Value} {x : List e.D} (h : RepR own w (.sl e) u x) : RepQ own w e u x := h

theorem len_int {n : Nat} (h : n ≤ big) : RepV own w (.int .i64) (goInt n) (n : Int) := by
  refine RepV.int.2 ⟨rfl, ?_⟩
  have : n ≤ 140737488355328 := h
  show (-9223372036854775808 : Int) ≤ (n : Int) ∧ (n : Int) < 9223372036854775808
  omega

theorem len_pure (hE : EnvOk P E) (h : St N Z own β σ a w) {t ty : Nat} {v : V} {u : Value} {r : V × S} (hu : RepS own w β σ.mem v u) (hr : (lenM E t v).run σ = some r) :
    Pure P own w β σ (Builtin.len_ #[t] ty #[u]) r := by
  unfold lenM at hr
  split at hr
  · rename_i ht
    obtain ⟨x, h1, h2⟩ := asDr_run h hu hr
    obtain ⟨s, rfl, h3, h4⟩ := RepV.str.1 h1.str
    rw [ret_run h2]
    have hd : P.underlying t = some .string := (hE.ty t _ ht).desc
    refine ⟨goInt s.size, by simp [Builtin.len_, run_underlying hd], rfl, ?_⟩
    subst h3
    have e : (List.map UInt8.toBitVec s.data.toList).length = s.size := by simp
    show RepV own w (.int .i64) _ ((List.map UInt8.toBitVec s.data.toList).length : Int)
    rw [e] at h4 ⊢
    exact len_int h4
  · rename_i e ht
    obtain ⟨x, h1, h2⟩ := asDr_run h hu hr
    obtain ⟨ad, cap, q, rfl, h3, h4, h5, _⟩ := h1.q
    rw [ret_run h2]
    obtain ⟨te, hd, _⟩ := (hE.ty t _ ht).desc
    exact ⟨goInt x.length, by simp [Builtin.len_, run_underlying hd], rfl, len_int h5⟩
  · cases hr

theorem mnI_ok {k : IntKind} {x y z : IntT k} (hx : okI k x) (hy : okI k y) (h : mnI k x y = some z) : (Builtin.min2 (.int k (toI k x)) (.int k (toI k y))).run P w = .ok (.int k (toI k z)) w ∧ okI k z := by
  cases k with
  | i64 =>
    cases h
    have key : ∀ x y : Int, (Builtin.min2 (.int .i64 x) (.int .i64 y)).run P w = .ok (.int .i64 (bif decide (y < x) then y else x)) w := fun x y => by
      simp only [Builtin.min2, Sem.run_pure]; by_cases h : y < x <;> simp [h]
    refine ⟨key x y, ?_⟩
    cases (decide (@LT.lt Int _ y x)) <;> assumption
  | u8 => cases h; exact ⟨mn x y, trivial⟩
  | u16 => cases h; exact ⟨mn x y, trivial⟩
  | u32 => cases h; exact ⟨mn x y, trivial⟩
  | u64 => cases h; exact ⟨mn x y, trivial⟩
  | i8 => cases h
  | i16 => cases h
  | i32 => cases h
where
  mn {n : Nat} {k : IntKind} (x y : BitVec n) : (Builtin.min2 (.int k (x.toNat : Int)) (.int k (y.toNat : Int))).run P w = .ok (.int k ((bif decide (y < x) then y else x).toNat : Int)) w := by
    simp only [Builtin.min2, Sem.run_pure]
    have : ((y.toNat : Int) < (x.toNat : Int)) ↔ y < x := by rw [BitVec.lt_def]; omega
    by_cases h : y < x <;> simp [this, h]

theorem mxI_ok {k : IntKind} {x y z : IntT k} (hx : okI k x) (hy : okI k y) (h : mxI k x y = some z) : (Builtin.max2 (.int k (toI k x)) (.int k (toI k y))).run P w = .ok (.int k (toI k z)) w ∧ okI k z := by
  cases k with
  | i64 =>
    cases h
    have key : ∀ x y : Int, (Builtin.max2 (.int .i64 x) (.int .i64 y)).run P w = .ok (.int .i64 (bif decide (x < y) then y else x)) w := fun x y => by
      simp only [Builtin.max2, Sem.run_pure, gt_iff_lt]; by_cases h : x < y <;> simp [h]
    refine ⟨key x y, ?_⟩
    cases (decide (@LT.lt Int _ x y)) <;> assumption
  | u8 => cases h; exact ⟨mn x y, trivial⟩
  | u16 => cases h; exact ⟨mn x y, trivial⟩
  | u32 => cases h; exact ⟨mn x y, trivial⟩
  | u64 => cases h; exact ⟨mn x y, trivial⟩
  | i8 => cases h
  | i16 => cases h
  | i32 => cases h
where
  mn {n : Nat} {k : IntKind} (x y : BitVec n) : (Builtin.max2 (.int k (x.toNat : Int)) (.int k (y.toNat : Int))).run P w = .ok (.int k ((bif decide (x < y) then y else x).toNat : Int)) w := by
    simp only [Builtin.max2, Sem.run_pure, gt_iff_lt]
    have : ((x.toNat : Int) < (y.toNat : Int)) ↔ x < y := by rw [BitVec.lt_def]; omega
    by_cases h : x < y <;> simp [this, h]

theorem mm_pure {f : (k : IntKind) → IntT k → IntT k → Option (IntT k)} {g : Value → Value → Sem Value} {v v' : V} {u u' : Value} {r : V × S}
    (hf : ∀ {k : IntKind} {x y z : IntT k}, okI k x → okI k y → f k x y = some z → (g (.int k (toI k x)) (.int k (toI k y))).run P w = .ok (.int k (toI k z)) w ∧ okI k z)
    (hu : RepS own w β σ.mem v u) (hu' : RepS own w β σ.mem v' u') (hr : (mmM f v v').run σ = some r) : Pure P own w β σ (g u u') r := by
  unfold mmM at hr
  split at hr
  · rename_i k x τ' y
    split at hr
    · rename_i y' hy'
      obtain ⟨e, hy'⟩ := cast?_some hy'
      subst e; subst hy'
      obtain ⟨rfl, h1⟩ := RepS.int hu
      obtain ⟨rfl, h2⟩ := RepS.int hu'
      exact fin_pure (τ := .int _) hr fun z hz => ⟨_, (hf h1 h2 hz).1, RepV.int.2 ⟨rfl, (hf h1 h2 hz).2⟩⟩
    · cases hr
  · cases hr

theorem conv_int (hE : EnvOk P E) {src dst : Nat} {k k' : IntKind} {x : IntT k} {z : IntT k'} (h1 : E.ty src = some (.int k)) (h2 : E.ty dst = some (.int k')) (hx : okI k x) (hz : convI k k' x = some z) :
    (convert src dst (.int k (toI k x))).run P w = .ok (.int k' (toI k' z)) w := by
  have e1 : P.underlying src = some (.int k) := (hE.ty src _ h1).desc
  have e2 : P.underlying dst = some (.int k') := (hE.ty dst _ h2).desc
  simp only [convert, Sem.run_bind, run_underlying e1, run_underlying e2, Result.andThen_ok, Conv.intToInt, Sem.run_pure, (convI_ok hx hz).1]

theorem conv_str (hE : EnvOk P E) {src dst : Nat} {u : Value} {x : List (BitVec 8)} (h1 : E.ty src = some (.sl (.int .u8))) (h2 : E.ty dst = some .str) (hu : RepQ own w (.int .u8) u x) :
    ∃ s, (convert src dst u).run P w = .ok (.string s) w ∧ s.data.toList.map UInt8.toBitVec = x := by
  obtain ⟨te, e1, e3⟩ := (hE.ty src _ h1).desc
  have e2 : P.underlying dst = some .string := (hE.ty dst _ h2).desc
  have e4 : P.underlying te = some (.int .u8) := (hE.ty te _ e3).desc
  obtain ⟨s, h3, h4⟩ := bytes_str (P := P) hu
  refine ⟨s, ?_, h4⟩
  obtain ⟨ad, cap, q, rfl, _⟩ := hu
  simp only [convert, Sem.run_bind, run_underlying e1, run_underlying e2, Result.andThen_ok, run_underlying e4]
  exact h3

/-! ### parts -/
theorem fieldPath_off (ty : Nat → Option Ty) : ∀ (f : Nat) (b : Ty) (off : Nat) (fs : List Field) (τ' : Ty), fieldsOk ty off fs b → tyP b (fieldPath f) = some τ' →
    ∃ fd, fs[f]? = some fd ∧ fd.offset = off + offP b (fieldPath f) ∧ ty fd.type = some τ' ∧ 0 < τ'.size
  | 0, b, off, fs, τ', h, ht => by
    cases b with
    | pair p q =>
      cases fs with
      | nil => exact h.elim
      | cons g gs =>
        obtain ⟨h1, h2, h3, h4⟩ := h
        have ht : tyP p [] = some τ' := ht
        rw [tyP_nil] at ht; cases ht
        exact ⟨g, rfl, by rw [h1]; simp [fieldPath, offP, offP_nil], h2, h3⟩
    | unit => cases ht
    | _ => cases fs <;> exact h.elim
  | f + 1, b, off, fs, τ', h, ht => by
    cases b with
    | pair p q =>
      cases fs with
      | nil => exact h.elim
      | cons g gs =>
        obtain ⟨h1, h2, h3, h4⟩ := h
        obtain ⟨fd, e1, e2, e3, e4⟩ := fieldPath_off ty f q (off + p.size) gs τ' h4 ht
        exact ⟨fd, e1, by rw [e2]; show _ = off + (p.size + offP q (fieldPath f)); omega, e3, e4⟩
    | unit => cases ht
    | _ => cases fs <;> exact h.elim

theorem field_pure (hE : EnvOk P E) {t : Nat} {b : Ty} {v : V} {u : Value} {f : Nat} {r : V × S} (ht : E.ty t = some (.st b)) (hu : RepS own w β σ.mem v u) (hr : (fieldM b v f).run σ = some r) :
    Pure P own w β σ (Instr.field t u f) r := by
  unfold fieldM at hr
  split at hr
  · rename_i τ x
    split at hr
    · rename_i x' τ' hx' hp
      obtain ⟨e, hx'⟩ := cast?_some hx'
      subst e; subst hx'
      obtain ⟨cs, rfl, hc⟩ := (RepV.agg rfl).1 hu
      obtain ⟨fs, e1, e2⟩ := (hE.ty t _ ht).desc
      obtain ⟨fd, e3, e4, e5, e6⟩ := fieldPath_off E.ty f b 0 fs.toList τ' e2 hp
      have hc : RepC own w b cs x := hc
      have e3' : fs[f]? = some fd := by simpa using e3
      refine fin_pure (τ := τ') hr fun z hz => ?_
      obtain ⟨h1, h2⟩ := getP_rep b x cs (fieldPath f) τ' z hc hz
      have hT := hE.ty fd.type τ' e5
      rw [Nat.zero_add] at e4
      refine ⟨_, ?_, RepV.mk hT.isVal h2⟩
      simp only [Instr.field, Sem.run_bind, run_underlying e1, Result.andThen_ok, e3', asAgg, Sem.run_pure, e4]
      exact hT.partRun h2 (by rw [hc.length]; exact h1)
    · cases hr
  · cases hr

theorem index_pure (hE : EnvOk P E) {t : Nat} {v iv : V} {u i : Value} {r : V × S} (hu : RepS own w β σ.mem v u) (hi : RepS own w β σ.mem iv i) (hr : (indexM E t v iv).run σ = some r) :
    Pure P own w β σ (Instr.index t u i) r := by
  unfold indexM at hr
  split at hr
  · rename_i n e τ xs k x ht
    split at hr
    · rename_i xs' hx'
      obtain ⟨eq, hx'⟩ := cast?_some hx'
      subst eq; subst hx'
      obtain ⟨rfl, h1⟩ := RepS.int hi
      obtain ⟨cs, rfl, hl, hcl, hc⟩ := (RepV.agg rfl).1 hu
      obtain ⟨te, e1, e2⟩ := (hE.ty t _ ht).desc
      have hT := hE.ty te e e2
      refine fin_pure (τ := e) hr fun z hz => ?_
      unfold ix at hz
      by_cases h0 : 0 ≤ toI k x
      · simp only [h0, decide_true, cond_true] at hz
        obtain ⟨h2, h3⟩ := List.getElem?_eq_some_iff.1 hz
        have h4 := hc _ h2
        rw [h3] at h4
        refine ⟨_, ?_, RepV.mk hT.isVal h4⟩
        have hb : (toI k x).toNat * e.size + e.size ≤ n * e.size := by rw [← Nat.succ_mul]; exact Nat.mul_le_mul_right _ (by omega)
        simp only [Instr.index, asIntOf, Sem.run_bind, Sem.run_pure, Result.andThen_ok, run_underlying e1]
        rw [if_pos ⟨h0, by omega⟩]
        simp only [Sem.run_bind, hT.cells, Result.andThen_ok]
        exact hT.partRun h4 (by omega)
      · simp [h0] at hz
    · cases hr
  · rename_i s k x ht
    obtain ⟨rfl, h1⟩ := RepS.int hi
    obtain ⟨b, rfl, h2, h3⟩ := RepV.str.1 hu
    have e1 : P.underlying t = some .string := (hE.ty t _ ht).desc
    refine fin_pure (τ := .int .u8) hr fun z hz => ?_
    unfold ix at hz
    by_cases h0 : 0 ≤ toI k x
    · simp only [h0, decide_true, cond_true] at hz
      subst h2
      rw [List.getElem?_map] at hz
      obtain ⟨c, h4, rfl⟩ := Option.map_eq_some_iff.1 hz
      have h5 : b[(toI k x).toNat]? = some c := by
        have h6 := (List.getElem?_eq_some_iff.1 h4).1
        have h7 := (List.getElem?_eq_some_iff.1 h4).2
        rw [getElem?_pos b _ (by simpa using h6)]
        exact congrArg some h7
      refine ⟨_, ?_, RepV.int.2 ⟨rfl, trivial⟩⟩
      simp only [Instr.index, asIntOf, Sem.run_bind, Sem.run_pure, Result.andThen_ok, run_underlying e1, if_pos h0, h5]
      rfl
    · simp [h0] at hz
  · cases hr

/-! ### loads -/
theorem load_pure (hE : EnvOk P E) (h : St N Z own β σ a w) {t : Nat} {τ : Ty} {v : V} {u : Value} {r : V × S} (ht : E.ty t = some τ) (hu : RepS own w β σ.mem v u) (hr : (loadM τ v).run σ = some r) :
    Pure P own w β σ (Instr.loadAt t u) r := by
  have hT := hE.ty t τ ht
  unfold loadM at hr
  split at hr
  · rename_i s ver p
    simp only [M.run] at hr
    split at hr
    · rename_i ver' τb x hm
      split at hr
      · rename_i e; subst e
        refine fin_pure (τ := τ) hr fun z hz => ?_
        obtain ⟨b, o, h1, rfl⟩ := hu.2 τb x hm
        have hE' := h.mems s
        rw [hm] at hE'
        obtain ⟨hv, b', o', cs, h2, h3, h4⟩ := hE'
        rw [h1] at h2; cases h2
        obtain ⟨h5, h6⟩ := getP_rep τb x cs p τ z h4 hz
        refine ⟨_, ?_, RepV.mk hT.isVal h6⟩
        simp only [Instr.loadAt, Instr.sureAddr, Sem.run_bind, Sem.run_pure, Result.andThen_ok]
        refine hT.load h6 fun j v hj => ?_
        rw [List.getElem?_take] at hj
        split at hj
        · rw [List.getElem?_drop] at hj
          have := (h3 _ _ hj).2.2.1
          rwa [← Nat.add_assoc] at this
        · cases hj
      · cases hr
    · cases hr
  · rename_i s ver i p
    simp only [M.run] at hr
    split at hr
    · rename_i ver' τe xs m hm
      split at hr
      · rename_i e; subst e
        refine fin_pure (τ := τ) hr fun z hz => ?_
        obtain ⟨y, hy, hz⟩ := Option.bind_eq_some_iff.1 hz
        obtain ⟨hi, b, o, n, c, h1, rfl⟩ := hu.2 τe xs m hm
        have hE' := h.mems s
        rw [hm] at hE'
        obtain ⟨ad, cap, h2, h3, h4, h5, h6⟩ := (RepE.rowV h1 hE').2
        rw [h1] at h2; cases h2
        rcases h6 with ⟨h6, _⟩ | ⟨b', o', h6, h7, _⟩
        · omega
        · cases h6
          obtain ⟨es, g1, g2, g3⟩ := h7 i hi
          have hyi : xs[i] = y := (List.getElem?_eq_some_iff.1 hy).2
          rw [hyi] at g3
          obtain ⟨h8, h9⟩ := getP_rep τe y es p τ z g3 hz
          refine ⟨_, ?_, RepV.mk hT.isVal h9⟩
          simp only [Instr.loadAt, Instr.sureAddr, Sem.run_bind, Sem.run_pure, Result.andThen_ok]
          refine hT.load h9 fun j v hj => ?_
          rw [List.getElem?_take] at hj
          split at hj
          · rw [List.getElem?_drop] at hj
            have := (g2 _ _ hj).2
            rwa [← Nat.add_assoc] at this
          · cases hj
      · cases hr
    · cases hr
  · rename_i τ' x
    split at hr
    · rename_i y hy
      obtain ⟨e, hy⟩ := cast?_some hy
      subst e; subst hy
      obtain ⟨hv, b, o, cs, rfl, h1, h2⟩ := hu
      rw [ret_run hr]
      refine ⟨_, ?_, rfl, RepV.mk hT.isVal h2⟩
      simp only [Instr.loadAt, Instr.sureAddr, Sem.run_bind, Sem.run_pure, Result.andThen_ok]
      exact hT.load h2 fun j v hj => (h1 j v hj).2
    · cases hr
  · cases hr

theorem fieldAt_run (hE : EnvOk P E) {t : Nat} {b : Ty} (ht : E.ty t = some (.st b)) {f : Nat} {τ' : Ty} (hp : tyP b (fieldPath f) = some τ') (bl off : Nat) :
    (Instr.fieldAt t (.pointer (some ⟨bl, off, none⟩)) f).run P w = .ok (.pointer (some ⟨bl, off + offP b (fieldPath f), none⟩)) w := by
  obtain ⟨fs, e1, e2⟩ := (hE.ty t _ ht).desc
  obtain ⟨fd, e3, e4, e5, e6⟩ := fieldPath_off E.ty f b 0 fs.toList τ' e2 hp
  have e3' : fs[f]? = some fd := by simpa using e3
  have hT := hE.ty fd.type τ' e5
  rw [Nat.zero_add] at e4
  have : ¬ τ'.size = 0 := by omega
  simp only [Instr.fieldAt, Sem.run_bind, run_underlying e1, Result.andThen_ok, e3', Instr.sureAddr, Sem.run_pure, fieldPlace, hT.cells, if_neg this, addr_add, e4]

theorem fieldPath_append {τb b : Ty} {p : List Stp} (h : tyP τb p = some (.st b)) (f : Nat) : offP τb (p ++ fieldPath f) = offP τb p + offP b (fieldPath f) := by
  obtain ⟨_, h2⟩ := tyP_append τb p (fieldPath f) _ h
  rw [h2]
  cases f <;> rfl

theorem fieldAddr_pure (hE : EnvOk P E) (h : St N Z own β σ a w) {t : Nat} {b : Ty} {v : V} {u : Value} {f : Nat} {r : V × S} (ht : E.ty t = some (.st b)) (hf : (tyP b (fieldPath f)).isSome = true) (hu : RepS own w β σ.mem v u)
    (hr : (fieldAddrM b v f).run σ = some r) : Pure P own w β σ (Instr.fieldAt t u f) r := by
  obtain ⟨τ', hp⟩ := Option.isSome_iff_exists.1 hf
  unfold fieldAddrM at hr
  split at hr
  · rename_i s ver p
    simp only [M.run] at hr
    split at hr
    · rename_i ver' τb x hm
      split at hr
      · rename_i e
        obtain ⟨e, e'⟩ := e
        subst e
        obtain ⟨bl, off, h1, rfl⟩ := hu.2 τb x hm
        rw [ret_run hr]
        refine ⟨_, fieldAt_run hE ht hp _ _, rfl, hu.1, fun τ x' hm' => ?_⟩
        rw [hm] at hm'; cases hm'
        exact ⟨bl, off, h1, by rw [fieldPath_append e']; simp [Nat.add_assoc]⟩
      · cases hr
    · cases hr
  · rename_i s ver i p
    simp only [M.run] at hr
    split at hr
    · rename_i ver' τe xs m hm
      split at hr
      · rename_i e
        obtain ⟨e, e'⟩ := e
        subst e
        obtain ⟨hi, bl, off, n, c, h1, rfl⟩ := hu.2 τe xs m hm
        rw [ret_run hr]
        refine ⟨_, fieldAt_run hE ht hp _ _, rfl, hu.1, fun τ x' m' hm' => ?_⟩
        rw [hm] at hm'; cases hm'
        exact ⟨hi, bl, off, n, c, h1, by rw [fieldPath_append e']; simp [Nat.add_assoc]⟩
      · cases hr
    · cases hr
  · rename_i τ x
    split at hr
    · rename_i x' τ'' hx' hp'
      rw [hp] at hp'; cases hp'
      obtain ⟨e, hx'⟩ := cast?_some hx'
      subst e; subst hx'
      obtain ⟨hv, bl, off, cs, rfl, h1, h2⟩ := hu
      obtain ⟨y, h3, h4⟩ := fin_run hr
      have h2 : RepC own w b cs x := h2
      obtain ⟨h5, h6⟩ := getP_rep b x cs (fieldPath f) τ' y h2 h3
      have hT : τ'.isVal = true := by
        obtain ⟨fs, e1, e2⟩ := (hE.ty t _ ht).desc
        obtain ⟨fd, e3, e4, e5, e6⟩ := fieldPath_off E.ty f b 0 fs.toList τ' e2 hp
        exact (hE.ty fd.type τ' e5).isVal
      rw [h4]
      refine ⟨_, fieldAt_run hE ht hp _ _, rfl, hT, bl, _, _, rfl, ?_, h6⟩
      intro j u hj
      rw [List.getElem?_take] at hj
      split at hj
      · rw [List.getElem?_drop] at hj
        have := h1 _ _ hj
        rwa [← Nat.add_assoc] at this
      · cases hj
    · cases hr
  · cases hr

end
end Go.Re
