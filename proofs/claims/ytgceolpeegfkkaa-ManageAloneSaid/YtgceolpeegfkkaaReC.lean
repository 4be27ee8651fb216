/- Reflection, part C: what represents what. -/
import Derived.Test.YtgceolpeegfkkaaReB
import Derived.Laws.Cells
import Derived.Below
namespace Go.Re
set_option linter.unusedVariables false
set_option linter.unusedSimpArgs false
open Go.RowKit (Below)

/-- Who may write a cell (none: nobody, it is only read). -/
abbrev Own := Nat → Nat → Option Nat

def okI : (k : IntKind) → IntT k → Prop
  | .i64, x => -9223372036854775808 ≤ x ∧ x < 9223372036854775808
  | .i32, x => -2147483648 ≤ x ∧ x < 2147483648
  | .u8, _ => True | .u16, _ => True | .u32, _ => True | .u64, _ => True
  | _, _ => False

def big : Nat := 140737488355328

def RepC (own : Own) (w : World) : (τ : Ty) → List Value → τ.D → Prop
  | .bool, cs, x => cs = [.bool x]
  | .str, cs, x => ∃ s : ByteArray, cs = [.string s] ∧ s.data.toList.map UInt8.toBitVec = x ∧ x.length ≤ big
  | .unit, cs, _ => cs = []
  | .int k, cs, x => cs = [.int k (toI k x)] ∧ okI k x
  | .pair a b, cs, x => ∃ c d, cs = c ++ d ∧ RepC own w a c x.1 ∧ RepC own w b d x.2
  | .st b, cs, x => RepC own w b cs x
  | .arr n e, cs, x => x.length = n ∧ cs.length = n * e.size ∧ ∀ i (h : i < x.length), RepC own w e ((cs.drop (i * e.size)).take e.size) x[i]
  | .sl e, cs, x => ∃ a cap, cs = [.slice a x.length cap] ∧ x.length ≤ cap ∧ cap < 9223372036854775808 ∧ x.length ≤ big ∧
      (cap = 0 ∨ ∃ b o, a = some ⟨b, o, none⟩ ∧ ∀ i (h : i < x.length), ∃ es, es.length = e.size ∧
        (∀ j v, es[j]? = some v → own b (o + i * e.size + j) = none ∧ w.cell? ⟨b, o + i * e.size + j, none⟩ = some v) ∧ RepC own w e es x[i])

/-- One world and its owners, and a later one: what is only read stays. -/
def Keeps (own own' : Own) (w w' : World) : Prop :=
  ∀ b o v, own b o = none → w.cell? ⟨b, o, none⟩ = some v → own' b o = none ∧ w'.cell? ⟨b, o, none⟩ = some v

theorem Keeps.refl (own : Own) (w : World) : Keeps own own w w := fun _ _ _ h h' => ⟨h, h'⟩
theorem Keeps.trans {o1 o2 o3 : Own} {w1 w2 w3 : World} (h : Keeps o1 o2 w1 w2) (k : Keeps o2 o3 w2 w3) : Keeps o1 o3 w1 w3 :=
  fun b o v h1 h2 => let ⟨h3, h4⟩ := h b o v h1 h2; k b o v h3 h4

theorem RepC.keeps {own own' : Own} {w w' : World} (k : Keeps own own' w w') : ∀ {τ : Ty} {cs : List Value} {x : τ.D}, RepC own w τ cs x → RepC own' w' τ cs x
  | .bool, _, _, h => h
  | .str, _, _, h => h
  | .unit, _, _, h => h
  | .int _, _, _, h => h
  | .pair a b, _, _, ⟨c, d, e, h1, h2⟩ => ⟨c, d, e, RepC.keeps k (τ := a) h1, RepC.keeps k (τ := b) h2⟩
  | .st b, _, _, h => RepC.keeps k (τ := b) h
  | .arr n e, _, _, ⟨h1, h2, h3⟩ => ⟨h1, h2, fun i hi => RepC.keeps k (τ := e) (h3 i hi)⟩
  | .sl e, _, _, ⟨a, cap, h1, h2, h3, h4, h5⟩ => ⟨a, cap, h1, h2, h3, h4, h5.imp id fun ⟨b, o, h6, h7⟩ => ⟨b, o, h6, fun i hi =>
      let ⟨es, h8, h9, h10⟩ := h7 i hi; ⟨es, h8, fun j v hv => k _ _ _ (h9 j v hv).1 (h9 j v hv).2, RepC.keeps k (τ := e) h10⟩⟩⟩

theorem RepC.length {own : Own} {w : World} : ∀ {τ : Ty} {cs : List Value} {x : τ.D}, RepC own w τ cs x → cs.length = τ.size
  | .bool, _, _, h => by have h : _ = _ := h; rw [h]; rfl
  | .str, _, _, ⟨s, h, _⟩ => by rw [h]; rfl
  | .unit, _, _, h => by have h : _ = _ := h; rw [h]; rfl
  | .int k, _, _, h => by rw [h.1]; rfl
  | .pair a b, _, _, ⟨c, d, e, h1, h2⟩ => by rw [e, List.length_append, RepC.length (τ := a) h1, RepC.length (τ := b) h2]; rfl
  | .st b, _, _, h => RepC.length (τ := b) h
  | .arr n e, _, _, h => h.2.1
  | .sl e, _, _, ⟨a, cap, h1, _⟩ => by rw [h1]; rfl

/-- A cell of row i of a row of rows. -/
theorem chunk_mem {cs : List Value} {n s : Nat} (h : cs.length = n * s) {v : Value} (hv : v ∈ cs) : ∃ i, i < n ∧ v ∈ (cs.drop (i * s)).take s := by
  obtain ⟨j, hj, rfl⟩ := List.getElem_of_mem hv
  have hs : 0 < s := by
    rcases Nat.eq_zero_or_pos s with h0 | h0
    · rw [h0, Nat.mul_zero] at h; omega
    · exact h0
  refine ⟨j / s, by rw [Nat.div_lt_iff_lt_mul hs]; omega, ?_⟩
  rw [List.mem_iff_getElem?]
  refine ⟨j % s, ?_⟩
  have h1 := Nat.mod_lt j hs
  rw [List.getElem?_take, if_pos h1, List.getElem?_drop, Nat.div_add_mod' j s, List.getElem?_eq_getElem hj]

theorem RepC.one {own : Own} {w : World} : ∀ {τ : Ty} {cs : List Value} {x : τ.D}, RepC own w τ cs x → ∀ v ∈ cs, v.oneCell' = true
  | .bool, _, _, h => by have h : _ = _ := h; rw [h]; simp [Value.oneCell']
  | .str, _, _, ⟨s, h, _⟩ => by rw [h]; simp [Value.oneCell']
  | .unit, _, _, h => by have h : _ = _ := h; rw [h]; simp
  | .int k, _, _, h => by rw [h.1]; simp [Value.oneCell']
  | .pair a b, _, _, ⟨c, d, e, h1, h2⟩ => by
      intro v hv; rw [e, List.mem_append] at hv
      rcases hv with hv | hv
      · exact RepC.one (τ := a) h1 v hv
      · exact RepC.one (τ := b) h2 v hv
  | .st b, _, _, h => RepC.one (τ := b) h
  | .arr n e, _, _, ⟨h1, h2, h3⟩ => by
      intro v hv
      obtain ⟨i, hi, hv⟩ := chunk_mem h2 hv
      exact RepC.one (τ := e) (h3 i (by omega)) v hv
  | .sl e, _, _, ⟨a, cap, h1, _⟩ => by rw [h1]; simp [Value.oneCell']

/-! ### values of slots -/
def mkV (τ : Ty) (cs : List Value) : Value := if τ.isAgg then .agg cs.toArray else cs.headD undef

def RepV (own : Own) (w : World) (τ : Ty) (v : Value) (x : τ.D) : Prop := τ.isVal = true ∧ ∃ cs, v = mkV τ cs ∧ RepC own w τ cs x

theorem RepV.keeps {own own' : Own} {w w' : World} (k : Keeps own own' w w') {τ : Ty} {v : Value} {x : τ.D} (h : RepV own w τ v x) : RepV own' w' τ v x :=
  ⟨h.1, let ⟨cs, h1, h2⟩ := h.2; ⟨cs, h1, h2.keeps k⟩⟩

theorem mkV_cells {own : Own} {w : World} {τ : Ty} {cs : List Value} {x : τ.D} (hv : τ.isVal = true) (h : RepC own w τ cs x) : (mkV τ cs).cells.toList = cs := by
  unfold mkV
  split
  · rfl
  · rename_i ha
    cases τ with
    | st b => simp [Ty.isAgg] at ha
    | arr n e => simp [Ty.isAgg] at ha
    | unit => simp [Ty.isVal] at hv
    | pair a b => simp [Ty.isVal] at hv
    | bool => have h : _ = _ := h; rw [h]; rfl
    | str => obtain ⟨s, h, _⟩ := h; rw [h]; rfl
    | int k => rw [h.1]; rfl
    | sl e => obtain ⟨a, cap, h, _⟩ := h; rw [h]; rfl

theorem RepV.cells {own : Own} {w : World} {τ : Ty} {v : Value} {x : τ.D} (h : RepV own w τ v x) : RepC own w τ v.cells.toList x := by
  obtain ⟨hv, cs, rfl, h2⟩ := h
  rw [mkV_cells hv h2]; exact h2

theorem RepV.mk {own : Own} {w : World} {τ : Ty} {cs : List Value} {x : τ.D} (hv : τ.isVal = true) (h : RepC own w τ cs x) : RepV own w τ (mkV τ cs) x := ⟨hv, cs, rfl, h⟩

theorem RepV.int {own : Own} {w : World} {k : IntKind} {v : Value} {x : IntT k} : RepV own w (.int k) v x ↔ v = .int k (toI k x) ∧ okI k x := by
  constructor
  · rintro ⟨_, cs, rfl, h1, h2⟩; rw [h1]; exact ⟨rfl, h2⟩
  · rintro ⟨rfl, h⟩; exact ⟨rfl, [_], rfl, rfl, h⟩
theorem RepV.bool {own : Own} {w : World} {v : Value} {x : Bool} : RepV own w .bool v x ↔ v = .bool x := by
  constructor
  · rintro ⟨_, cs, rfl, h1⟩; have h1 : _ = _ := h1; rw [h1]; rfl
  · rintro rfl; exact ⟨rfl, [_], rfl, rfl⟩
theorem RepV.str {own : Own} {w : World} {v : Value} {x : List (BitVec 8)} : RepV own w .str v x ↔ ∃ s : ByteArray, v = .string s ∧ s.data.toList.map UInt8.toBitVec = x ∧ x.length ≤ big := by
  constructor
  · rintro ⟨_, cs, rfl, s, h1, h2⟩; rw [h1]; exact ⟨s, rfl, h2⟩
  · rintro ⟨s, rfl, h⟩; exact ⟨rfl, [_], rfl, s, rfl, h⟩
theorem RepV.sl {own : Own} {w : World} {e : Ty} {v : Value} {x : List e.D} : RepV own w (.sl e) v x ↔ RepC own w (.sl e) [v] x := by
  constructor
  · rintro ⟨_, cs, rfl, a, cap, h1, h2⟩; rw [h1]; exact ⟨a, cap, rfl, h2⟩
  · rintro ⟨a, cap, h1, h2⟩; cases h1; exact ⟨rfl, [_], rfl, a, cap, rfl, h2⟩
theorem RepV.agg {own : Own} {w : World} {τ : Ty} (h : τ.isAgg = true) {v : Value} {x : τ.D} : RepV own w τ v x ↔ ∃ cs, v = .agg cs.toArray ∧ RepC own w τ cs x := by
  constructor
  · rintro ⟨_, cs, rfl, h1⟩; exact ⟨cs, by simp [mkV, h], h1⟩
  · rintro ⟨cs, rfl, h1⟩; exact ⟨by cases τ <;> simp_all [Ty.isAgg, Ty.isVal], cs, by simp [mkV, h], h1⟩

theorem cast?_some {τ τ' : Ty} {x : τ.D} {y : τ'.D} (h : cast? τ τ' x = some y) : ∃ e : τ = τ', e ▸ x = y := by
  unfold cast? at h
  split at h
  · rename_i e; exact ⟨e, by simpa using h⟩
  · cases h

/-! ### paths -/
theorem getP_nil (τ : Ty) (x : τ.D) (τ' : Ty) : getP τ x [] τ' = cast? τ τ' x := by cases τ <;> rfl
theorem setP_nil (τ : Ty) (x : τ.D) (τ' : Ty) (y : τ'.D) : setP τ x [] τ' y = cast? τ' τ y := by cases τ <;> rfl
theorem tyP_nil (τ : Ty) : tyP τ [] = some τ := by cases τ <;> rfl
theorem offP_nil (τ : Ty) : offP τ [] = 0 := by cases τ <;> rfl

theorem take_chunk {cs : List Value} {i s o t : Nat} (h : o + t ≤ s) : ((((cs.drop (i * s)).take s).drop o).take t) = (cs.drop (i * s + o)).take t := by
  rw [List.drop_take, List.take_take, List.drop_drop, Nat.min_eq_left (by omega)]

theorem getP_ty : ∀ (τ : Ty) (x : τ.D) (p : List Stp) (τ' : Ty) (y : τ'.D), getP τ x p τ' = some y → tyP τ p = some τ' := by
  intro τ
  induction τ with
  | pair a b iha ihb =>
    intro x p τ' y h
    match p, h with
    | [], h => rw [getP_nil] at h; obtain ⟨e, _⟩ := cast?_some h; rw [tyP_nil, e]
    | .fst :: p, h => exact iha x.1 p τ' y h
    | .snd :: p, h => exact ihb x.2 p τ' y h
  | st b ih =>
    intro x p τ' y h
    match p, h with
    | [], h => rw [getP_nil] at h; obtain ⟨e, _⟩ := cast?_some h; rw [tyP_nil, e]
    | s :: p, h => exact ih x (s :: p) τ' y h
  | arr n e ih =>
    intro x p τ' y h
    match p, h with
    | [], h => rw [getP_nil] at h; obtain ⟨e, _⟩ := cast?_some h; rw [tyP_nil, e]
    | .idx i :: p, h =>
      obtain ⟨z, _, hz⟩ := Option.bind_eq_some_iff.1 h
      exact ih z p τ' y hz
  | _ =>
    intro x p τ' y h
    match p, h with
    | [], h => rw [getP_nil] at h; obtain ⟨e, _⟩ := cast?_some h; rw [tyP_nil, e]

theorem getP_rep {own : Own} {w : World} : ∀ (τ : Ty) (x : τ.D) (cs : List Value) (p : List Stp) (τ' : Ty) (y : τ'.D), RepC own w τ cs x → getP τ x p τ' = some y →
    offP τ p + τ'.size ≤ τ.size ∧ RepC own w τ' ((cs.drop (offP τ p)).take τ'.size) y := by
  intro τ
  have base : ∀ (τ : Ty) (x : τ.D) (cs : List Value) (τ' : Ty) (y : τ'.D), RepC own w τ cs x → getP τ x [] τ' = some y →
      offP τ [] + τ'.size ≤ τ.size ∧ RepC own w τ' ((cs.drop (offP τ [])).take τ'.size) y := by
    intro τ x cs τ' y hr h
    rw [getP_nil] at h; obtain ⟨e, h⟩ := cast?_some h
    subst e; subst h
    rw [offP_nil, List.drop_zero, ← hr.length, List.take_length]
    exact ⟨by omega, hr⟩
  induction τ with
  | pair a b iha ihb =>
    intro x cs p τ' y hr h
    match p, h with
    | [], h => exact base _ x cs τ' y hr h
    | .fst :: p, h =>
      obtain ⟨c, d, rfl, h1, h2⟩ := hr
      obtain ⟨h3, h4⟩ := iha x.1 c p τ' y h1 h
      have hl := h1.length
      refine ⟨by simp only [offP, Ty.size]; omega, ?_⟩
      simp only [offP]
      rwa [List.drop_append_of_le_length (by omega), List.take_append_of_le_length (by simp; omega)]
    | .snd :: p, h =>
      obtain ⟨c, d, rfl, h1, h2⟩ := hr
      obtain ⟨h3, h4⟩ := ihb x.2 d p τ' y h2 h
      have hl := h1.length
      refine ⟨by simp only [offP, Ty.size]; omega, ?_⟩
      simp only [offP]
      rwa [← hl, List.drop_append, List.drop_eq_nil_of_le (by omega), List.nil_append, show c.length + offP b p - c.length = offP b p by omega]
  | st b ih =>
    intro x cs p τ' y hr h
    match p, h with
    | [], h => exact base _ x cs τ' y hr h
    | s :: p, h => exact ih x cs (s :: p) τ' y hr h
  | arr n e ih =>
    intro x cs p τ' y hr h
    match p, h with
    | [], h => exact base _ x cs τ' y hr h
    | .idx i :: p, h =>
      obtain ⟨z, hz, h⟩ := Option.bind_eq_some_iff.1 h
      obtain ⟨hi, hz⟩ := List.getElem?_eq_some_iff.1 hz
      obtain ⟨h1, h2, h3⟩ := hr
      have h4 := h3 i hi
      rw [hz] at h4
      obtain ⟨h5, h6⟩ := ih z _ p τ' y h4 h
      have hb : i * e.size + e.size ≤ n * e.size := by
        rw [← Nat.succ_mul]; exact Nat.mul_le_mul_right _ (by omega)
      refine ⟨by simp only [offP, Ty.size]; omega, ?_⟩
      simp only [offP]
      rwa [take_chunk (by omega)] at h6
  | _ =>
    intro x cs p τ' y hr h
    match p, h with
    | [], h => exact base _ x cs τ' y hr h

/-- Some cells in the place of others. -/
def splice (cs : List Value) (o : Nat) (ds : List Value) : List Value := cs.take o ++ ds ++ cs.drop (o + ds.length)

theorem splice_length {cs ds : List Value} {o : Nat} (h : o + ds.length ≤ cs.length) : (splice cs o ds).length = cs.length := by
  simp only [splice, List.length_append, List.length_take, List.length_drop]; omega

theorem getElem?_splice {cs ds : List Value} {o : Nat} (h : o + ds.length ≤ cs.length) (j : Nat) :
    (splice cs o ds)[j]? = if o ≤ j ∧ j < o + ds.length then ds[j - o]? else cs[j]? := by
  unfold splice
  by_cases h1 : j < o
  · rw [if_neg (by omega), List.append_assoc, List.getElem?_append_left (by simp; omega), List.getElem?_take, if_pos h1]
  · by_cases h2 : j < o + ds.length
    · rw [if_pos ⟨by omega, h2⟩, List.append_assoc, List.getElem?_append_right (by simp; omega), List.getElem?_append_left (by simp; omega)]
      congr 1; simp; omega
    · rw [if_neg (by omega), List.getElem?_append_right (by simp; omega), List.getElem?_drop]
      congr 1; simp; omega

theorem splice_zero_all {cs ds : List Value} (h : ds.length = cs.length) : splice cs 0 ds = ds := by
  simp [splice, h]

theorem setP_rep {own : Own} {w : World} : ∀ (τ : Ty) (x : τ.D) (cs : List Value) (p : List Stp) (τ' : Ty) (y : τ'.D) (ds : List Value) (x' : τ.D), RepC own w τ cs x → RepC own w τ' ds y →
    setP τ x p τ' y = some x' → tyP τ p = some τ' ∧ offP τ p + τ'.size ≤ τ.size ∧ RepC own w τ (splice cs (offP τ p) ds) x' := by
  intro τ
  have base : ∀ (τ : Ty) (x : τ.D) (cs : List Value) (τ' : Ty) (y : τ'.D) (ds : List Value) (x' : τ.D), RepC own w τ cs x → RepC own w τ' ds y →
      setP τ x [] τ' y = some x' → tyP τ [] = some τ' ∧ offP τ [] + τ'.size ≤ τ.size ∧ RepC own w τ (splice cs (offP τ []) ds) x' := by
    intro τ x cs τ' y ds x' hr hs h
    rw [setP_nil] at h; obtain ⟨e, h⟩ := cast?_some h
    subst e; subst h
    rw [offP_nil, splice_zero_all (by rw [hs.length, hr.length])]
    exact ⟨tyP_nil _, by omega, hs⟩
  induction τ with
  | pair a b iha ihb =>
    intro x cs p τ' y ds x' hr hs h
    match p, h with
    | [], h => exact base _ x cs τ' y ds x' hr hs h
    | .fst :: p, h =>
      obtain ⟨z, hz, rfl⟩ := Option.map_eq_some_iff.1 h
      obtain ⟨c, d, rfl, h1, h2⟩ := hr
      obtain ⟨h0, h3, h4⟩ := iha x.1 c p τ' y ds z h1 hs hz
      have hl := h1.length
      have hl' := hs.length
      refine ⟨h0, by simp only [offP, Ty.size]; omega, splice c (offP a p) ds, d, ?_, h4, h2⟩
      simp only [offP, splice]
      rw [List.take_append_of_le_length (by omega), List.drop_append_of_le_length (by omega)]
      simp [List.append_assoc]
    | .snd :: p, h =>
      obtain ⟨z, hz, rfl⟩ := Option.map_eq_some_iff.1 h
      obtain ⟨c, d, rfl, h1, h2⟩ := hr
      obtain ⟨h0, h3, h4⟩ := ihb x.2 d p τ' y ds z h2 hs hz
      have hl := h1.length
      have hl' := hs.length
      refine ⟨h0, by simp only [offP, Ty.size]; omega, c, splice d (offP b p) ds, ?_, h1, h4⟩
      simp only [offP, splice]
      rw [← hl, List.take_append, List.take_of_length_le (by omega), show c.length + offP b p - c.length = offP b p by omega, List.drop_append, List.drop_eq_nil_of_le (by omega),
        List.nil_append, show c.length + offP b p + ds.length - c.length = offP b p + ds.length by omega]
      simp [List.append_assoc]
  | st b ih =>
    intro x cs p τ' y ds x' hr hs h
    match p, h with
    | [], h => exact base _ x cs τ' y ds x' hr hs h
    | s :: p, h => exact ih x cs (s :: p) τ' y ds x' hr hs h
  | arr n e ih =>
    intro x cs p τ' y ds x' hr hs h
    match p, h with
    | [], h => exact base _ x cs τ' y ds x' hr hs h
    | .idx i :: p, h =>
      obtain ⟨z, hz, h⟩ := Option.bind_eq_some_iff.1 h
      obtain ⟨u, hu, rfl⟩ := Option.map_eq_some_iff.1 h
      obtain ⟨hi, hz⟩ := List.getElem?_eq_some_iff.1 hz
      obtain ⟨h1, h2, h3⟩ := hr
      have h4 := h3 i hi
      rw [hz] at h4
      obtain ⟨h0, h5, h6⟩ := ih z _ p τ' y ds u h4 hs hu
      have hl' := hs.length
      have hb : i * e.size + e.size ≤ n * e.size := by
        rw [← Nat.succ_mul]; exact Nat.mul_le_mul_right _ (by omega)
      refine ⟨h0, by simp only [offP, Ty.size]; omega, by simpa using h1, ?_, ?_⟩
      · rw [splice_length (by simp only [offP]; omega)]; exact h2
      · intro k hk
        show RepC own w e (List.take e.size (List.drop (k * e.size) (splice cs (i * e.size + offP e p) ds))) _
        have hk' : k < x.length := by simpa using hk
        have hkb : k * e.size + e.size ≤ n * e.size := by
          rw [← Nat.succ_mul]; exact Nat.mul_le_mul_right _ (by omega)
        by_cases hki : k = i
        · subst hki
          rw [List.getElem_set_self]
          have : (List.take e.size (List.drop (k * e.size) (splice cs (k * e.size + offP e p) ds))) = splice ((cs.drop (k * e.size)).take e.size) (offP e p) ds := by
            apply List.ext_getElem?
            intro j
            rw [List.getElem?_take, List.getElem?_drop, getElem?_splice (by omega), getElem?_splice (by simp; omega)]
            simp only [List.getElem?_take, List.getElem?_drop]
            by_cases hj : j < e.size
            · by_cases hj2 : offP e p ≤ j ∧ j < offP e p + ds.length
              · rw [if_pos hj, if_pos (by omega), if_pos hj2]; congr 1; omega
              · rw [if_pos hj, if_neg (by omega), if_neg hj2, if_pos hj]
            · rw [if_neg hj, if_neg (by omega), if_neg hj]
          rw [this]; exact h6
        · rw [List.getElem_set_ne (Ne.symm hki)]
          have : (List.take e.size (List.drop (k * e.size) (splice cs (i * e.size + offP e p) ds))) = ((cs.drop (k * e.size)).take e.size) := by
            apply List.ext_getElem?
            intro j
            rw [List.getElem?_take, List.getElem?_drop, getElem?_splice (by omega), List.getElem?_take, List.getElem?_drop]
            by_cases hj : j < e.size
            · rw [if_pos hj, if_pos hj, if_neg]
              rintro ⟨ha, hb'⟩
              rcases Nat.lt_or_gt_of_ne hki with hlt | hgt
              · have : k * e.size + e.size ≤ i * e.size := by rw [← Nat.succ_mul]; exact Nat.mul_le_mul_right _ hlt
                omega
              · have : i * e.size + e.size ≤ k * e.size := by rw [← Nat.succ_mul]; exact Nat.mul_le_mul_right _ hgt
                omega
            · rw [if_neg hj, if_neg hj]
          rw [this]; exact h3 k hk'
  | _ =>
    intro x cs p τ' y ds x' hr hs h
    match p, h with
    | [], h => exact base _ x cs τ' y ds x' hr hs h

theorem tyP_append : ∀ (τ : Ty) (p q : List Stp) (τ' : Ty), tyP τ p = some τ' → tyP τ (p ++ q) = tyP τ' q ∧ offP τ (p ++ q) = offP τ p + offP τ' q := by
  intro τ
  have base : ∀ (τ : Ty) (q : List Stp) (τ' : Ty), tyP τ [] = some τ' → tyP τ ([] ++ q) = tyP τ' q ∧ offP τ ([] ++ q) = offP τ [] + offP τ' q := by
    intro τ q τ' h
    rw [tyP_nil] at h; cases h
    rw [offP_nil]; simp
  induction τ with
  | pair a b iha ihb =>
    intro p q τ' h
    match p, h with
    | [], h => exact base _ q τ' h
    | .fst :: p, h => exact iha p q τ' h
    | .snd :: p, h => obtain ⟨h1, h2⟩ := ihb p q τ' h; exact ⟨h1, by simp only [List.cons_append, offP, h2]; omega⟩
  | st b ih =>
    intro p q τ' h
    match p, h with
    | [], h => exact base _ q τ' h
    | s :: p, h => exact ih (s :: p) q τ' h
  | arr n e ih =>
    intro p q τ' h
    match p, h with
    | [], h => exact base _ q τ' h
    | .idx i :: p, h => obtain ⟨h1, h2⟩ := ih p q τ' h; exact ⟨h1, by simp only [List.cons_append, offP, h2]; omega⟩
  | _ =>
    intro p q τ' h
    match p, h with
    | [], h => exact base _ q τ' h

end Go.Re
