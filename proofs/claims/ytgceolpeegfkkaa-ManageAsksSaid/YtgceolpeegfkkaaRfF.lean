/- Reflection, part AF: the surroundings, checked. -/
import Derived.Test.YtgceolpeegfkkaaRfE
namespace Go.Re
set_option linter.unusedVariables false
set_option linter.unusedSimpArgs false

def look {α : Type} : List (Nat × α) → Nat → Option α
  | [], _ => none
  | p :: r, n => bif Nat.beq p.1 n then some p.2 else look r n

theorem look_mem {α : Type} : ∀ {l : List (Nat × α)} {n : Nat} {x : α}, look l n = some x → (n, x) ∈ l
  | [], _, _, h => by cases h
  | p :: r, n, x, h => by
    unfold look at h
    cases hb : Nat.beq p.1 n with
    | true =>
      rw [hb] at h
      have := Nat.eq_of_beq_eq_true hb
      subst this
      cases h
      exact List.mem_cons_self
    | false => rw [hb] at h; exact List.mem_cons_of_mem _ (look_mem h)

/-- Scalars that are the same. -/
def scB : Value → Value → Bool
  | .bool a, .bool b => match a, b with | true, true => true | false, false => true | _, _ => false
  | .int k n, .int k' n' => decide (k = k') && decide (n = n')
  | .string a, .string b => match a, b with | ⟨x⟩, ⟨y⟩ => x.toList.isEmpty && y.toList.isEmpty
  | .slice none n c, .slice none n' c' => Nat.beq n n' && Nat.beq c c'
  | _, _ => false

theorem scB_eq {a b : Value} (h : scB a b = true) : a = b := by
  unfold scB at h
  split at h
  · rename_i a b; cases a <;> cases b <;> first | rfl | cases h
  · simp only [Bool.and_eq_true, decide_eq_true_eq] at h; rw [h.1, h.2]
  · rename_i a b
    obtain ⟨x⟩ := a
    obtain ⟨y⟩ := b
    simp only [Bool.and_eq_true, List.isEmpty_iff] at h
    have hx : x = #[] := by simpa using h.1
    have hy : y = #[] := by simpa using h.2
    rw [hx, hy]
  · simp only [Bool.and_eq_true] at h
    rw [Nat.eq_of_beq_eq_true h.1, Nat.eq_of_beq_eq_true h.2]
  · cases h

def scL : List Value → List Value → Bool
  | [], [] => true
  | a :: r, b :: s => scB a b && scL r s
  | _, _ => false
theorem scL_eq : ∀ {a b : List Value}, scL a b = true → a = b
  | [], [], _ => rfl
  | a :: r, b :: s, h => by
    simp only [scL, Bool.and_eq_true] at h
    rw [scB_eq h.1, scL_eq h.2]
  | [], _ :: _, h => by cases h
  | _ :: _, [], h => by cases h

def vaB : Value → Value → Bool
  | .agg a, .agg b => scL a.toList b.toList
  | a, b => scB a b
theorem vaB_eq {a b : Value} (h : vaB a b = true) : a = b := by
  unfold vaB at h
  split at h
  · rw [Array.ext' (scL_eq h)]
  · exact scB_eq h

def fieldsB (ty : Nat → Option Ty) : (off : Nat) → List Field → Ty → Bool
  | _, [], .unit => true
  | off, f :: fs, .pair a b => Nat.beq f.offset off && (decide (ty f.type = some a) && (Nat.blt 0 a.size && fieldsB ty (off + a.size) fs b))
  | _, _, _ => false

theorem fieldsB_ok {ty : Nat → Option Ty} : ∀ {fs : List Field} {off : Nat} {b : Ty}, fieldsB ty off fs b = true → fieldsOk ty off fs b
  | [], _, .unit, _ => trivial
  | f :: fs, off, .pair a b, h => by
    simp only [fieldsB, Bool.and_eq_true, decide_eq_true_eq] at h
    exact ⟨Nat.eq_of_beq_eq_true h.1, h.2.1, by simpa [Nat.blt_eq] using h.2.2.1, fieldsB_ok h.2.2.2⟩
  | [], _, .bool, h => by cases h
  | [], _, .str, h => by cases h
  | [], _, .int _, h => by cases h
  | [], _, .pair _ _, h => by cases h
  | [], _, .st _, h => by cases h
  | [], _, .sl _, h => by cases h
  | [], _, .arr _ _, h => by cases h
  | _ :: _, _, .unit, h => by cases h
  | _ :: _, _, .bool, h => by cases h
  | _ :: _, _, .str, h => by cases h
  | _ :: _, _, .int _, h => by cases h
  | _ :: _, _, .st _, h => by cases h
  | _ :: _, _, .sl _, h => by cases h
  | _ :: _, _, .arr _ _, h => by cases h

def descB (P : Program) (ty : Nat → Option Ty) (t : Nat) (τ : Ty) : Bool :=
  match τ, P.underlying t with
  | .bool, some .bool => true
  | .str, some .string => true
  | .int k, some (.int k') => decide (k = k')
  | .sl e, some (.slice te) => decide (ty te = some e)
  | .arr n e, some (.array n' te) => Nat.beq n n' && decide (ty te = some e)
  | .st b, some (.struct fs) => fieldsB ty 0 fs.toList b
  | _, _ => false

theorem descB_ok {P : Program} {ty : Nat → Option Ty} {t : Nat} {τ : Ty} (h : descB P ty t τ = true) : descOk P ty t τ := by
  unfold descB at h
  split at h
  · assumption
  · assumption
  · rename_i hu; rw [of_decide_eq_true h]; exact hu
  · rename_i hu; exact ⟨_, hu, of_decide_eq_true h⟩
  · rename_i hu
    simp only [Bool.and_eq_true, decide_eq_true_eq] at h
    exact ⟨_, by rw [Nat.eq_of_beq_eq_true h.1]; exact hu, h.2⟩
  · rename_i hu; exact ⟨_, hu, fieldsB_ok h⟩
  · cases h

def tyB (P : Program) (ty : Nat → Option Ty) (t : Nat) (τ : Ty) : Bool :=
  τ.good && ((match P.info? t with
    | some i => Nat.beq i.size τ.size && (Nat.ble i.bytes 32768 && (match i.zero with | some z => vaB z (mkV τ (zeroC τ)) | none => false))
    | none => false) && descB P ty t τ)

theorem tyB_ok {P : Program} {ty : Nat → Option Ty} {t : Nat} {τ : Ty} (h : tyB P ty t τ = true) : TyOk P ty t τ := by
  simp only [tyB, Bool.and_eq_true] at h
  obtain ⟨h1, h2, h3⟩ := h
  split at h2
  · rename_i i hi
    simp only [Bool.and_eq_true] at h2
    obtain ⟨h4, h5, h6⟩ := h2
    split at h6
    · rename_i z hz
      exact ⟨h1, ⟨i, hi, Nat.eq_of_beq_eq_true h4, Nat.le_of_ble_eq_true h5, by rw [hz, vaB_eq h6]⟩, descB_ok h3⟩
    · cases h6
  · cases h2

def tabB (P : Program) (tab : List (Nat × Ty)) : List (Nat × Ty) → Bool
  | [] => true
  | p :: r => tyB P (look tab) p.1 p.2 && tabB P tab r
theorem tabB_ok {P : Program} {tab : List (Nat × Ty)} : ∀ {l : List (Nat × Ty)}, tabB P tab l = true → ∀ p ∈ l, TyOk P (look tab) p.1 p.2
  | [], _, _, h => by cases h
  | q :: r, h, p, hp => by
    simp only [tabB, Bool.and_eq_true] at h
    rcases List.mem_cons.1 hp with hp | hp
    · subst hp; exact tyB_ok h.1
    · exact tabB_ok h.2 p hp

/-- Structs that may be compared. -/
def eqAbleB (es : List Nat) (t : Nat) : Ty → Bool
  | .st _ => memB t es
  | .arr _ (.int _) => memB t es
  | .bool => true | .str => true | .int _ => true
  | _ => false
def eqFB (ty : Nat → Option Ty) (es : List Nat) : List Field → Bool
  | [] => true
  | f :: r => !(f.name == "_") && ((match ty f.type with | some τ => eqAbleB es f.type τ | none => false) && eqFB ty es r)
def eqTB (P : Program) (ty : Nat → Option Ty) (es : List Nat) (t : Nat) : Bool :=
  match P.underlying t with
  | some (.struct fs) => eqFB ty es fs.toList
  | some (.array _ _) => true
  | _ => false

theorem eqFB_ok {E : Env} {ty : Nat → Option Ty} {es : List Nat} (h1 : E.ty = ty) (h2 : E.eq = fun n => memB n es) : ∀ {l : List Field}, eqFB ty es l = true → ∀ f ∈ l, f.name ≠ "_" ∧ ∀ τ, E.ty f.type = some τ → eqAble E f.type τ
  | [], _, _, h => by cases h
  | g :: r, h, f, hf => by
    simp only [eqFB, Bool.and_eq_true, Bool.not_eq_true'] at h
    rcases List.mem_cons.1 hf with hf | hf
    · subst hf
      refine ⟨fun e => by rw [e] at h; simp at h, fun τ hτ => ?_⟩
      rw [h1] at hτ
      have h3 := h.2.1
      rw [hτ] at h3
      cases τ with
      | arr n e => cases e <;> first | (simp [eqAbleB] at h3; done) | (show E.eq _ = true; rw [h2]; exact h3)
      | _ => first | trivial | (simp [eqAbleB] at h3; done) | (show E.eq _ = true; rw [h2]; exact h3)
    · exact eqFB_ok h1 h2 h.2.2 f hf

def AllFn (P : Program) : List (Nat × Fun) → Prop
  | [] => True
  | p :: r => FnOk P p.1 p.2 ∧ AllFn P r
theorem allFn_mem {P : Program} : ∀ {l : List (Nat × Fun)}, AllFn P l → ∀ p ∈ l, FnOk P p.1 p.2
  | [], _, _, h => by cases h
  | q :: r, h, p, hp => by
    rcases List.mem_cons.1 hp with hp | hp
    · subst hp; exact h.1
    · exact allFn_mem h.2 p hp

/-- Pointers to arrays, as they're told. -/
def parrB (P : Program) (tab : List (Nat × Ty)) : List (Nat × (Nat × Ty)) → Bool
  | [] => true
  | p :: r => (match P.underlying p.1 with
    | some (.pointer ta) => match P.underlying ta with
      | some (.array n te) => Nat.beq n p.2.1 && decide (look tab te = some p.2.2)
      | _ => false
    | _ => false) && parrB P tab r
theorem parrB_ok {P : Program} {tab : List (Nat × Ty)} : ∀ {pa : List (Nat × (Nat × Ty))}, parrB P tab pa = true → ∀ p ∈ pa, ∃ ta te, P.underlying p.1 = some (.pointer ta) ∧ P.underlying ta = some (.array p.2.1 te) ∧ look tab te = some p.2.2
  | [], _, _, h => by cases h
  | q :: r, h, p, hp => by
    simp only [parrB, Bool.and_eq_true] at h
    rcases List.mem_cons.1 hp with rfl | hp
    · obtain ⟨h1, _⟩ := h
      split at h1
      · rename_i ta h2
        split at h1
        · rename_i n te h3
          simp only [Bool.and_eq_true, decide_eq_true_eq] at h1
          exact ⟨ta, te, h2, by rw [h3, Nat.eq_of_beq_eq_true h1.1], h1.2⟩
        · cases h1
      · cases h1
    · exact parrB_ok h.2 p hp

/-- Pointers; slices of pointers. -/
def ptrB (P : Program) : List Nat → Bool
  | [] => true
  | t :: r => (match P.underlying t with | some (.pointer _) => true | _ => false) && ptrB P r
theorem ptrB_ok {P : Program} : ∀ {l : List Nat}, ptrB P l = true → ∀ t ∈ l, ∃ ta, P.underlying t = some (.pointer ta)
  | [], _, _, h => by cases h
  | q :: r, h, t, hp => by
    simp only [ptrB, Bool.and_eq_true] at h
    rcases List.mem_cons.1 hp with rfl | hp
    · obtain ⟨h1, _⟩ := h
      split at h1
      · rename_i ta h2; exact ⟨ta, h2⟩
      · cases h1
    · exact ptrB_ok h.2 t hp
def pslB (P : Program) : List Nat → Bool
  | [] => true
  | t :: r => (match P.underlying t with
    | some (.slice te) => (match P.underlying te with
      | some (.pointer _) => (match P.info? te with
        | some i => Nat.beq i.size 1 && (match i.zero with | some (.pointer none) => true | _ => false)
        | none => false)
      | _ => false)
    | _ => false) && pslB P r
theorem pslB_ok {P : Program} : ∀ {l : List Nat}, pslB P l = true → ∀ t ∈ l, ∃ te ta i, P.underlying t = some (.slice te) ∧ P.underlying te = some (.pointer ta) ∧ P.info? te = some i ∧ i.size = 1 ∧ i.zero = some (.pointer none)
  | [], _, _, h => by cases h
  | q :: r, h, t, hp => by
    simp only [pslB, Bool.and_eq_true] at h
    rcases List.mem_cons.1 hp with rfl | hp
    · obtain ⟨h1, _⟩ := h
      split at h1
      · rename_i te h2
        split at h1
        · rename_i ta h3
          split at h1
          · rename_i i h4
            simp only [Bool.and_eq_true] at h1
            obtain ⟨h5, h6⟩ := h1
            split at h6
            · rename_i h7; exact ⟨te, ta, i, h2, h3, h4, Nat.eq_of_beq_eq_true h5, h7⟩
            · cases h6
          · cases h1
        · cases h1
      · cases h1
    · exact pslB_ok h.2 t hp

/-- Maps, as they're told. -/
def mptB (P : Program) (tab : List (Nat × Ty)) : List (Nat × (Ty × Ty)) → Bool
  | [] => true
  | p :: r => (match P.underlying p.1 with
    | some (.map tk tv) => decide (look tab tk = some p.2.1) && decide (look tab tv = some p.2.2)
    | _ => false) && mptB P tab r
theorem mptB_ok {P : Program} {tab : List (Nat × Ty)} : ∀ {pa : List (Nat × (Ty × Ty))}, mptB P tab pa = true → ∀ p ∈ pa, ∃ tk tv, P.underlying p.1 = some (.map tk tv) ∧ look tab tk = some p.2.1 ∧ look tab tv = some p.2.2
  | [], _, _, h => by cases h
  | q :: r, h, p, hp => by
    simp only [mptB, Bool.and_eq_true] at h
    rcases List.mem_cons.1 hp with rfl | hp
    · obtain ⟨h1, _⟩ := h
      split at h1
      · rename_i tk tv h2
        simp only [Bool.and_eq_true, decide_eq_true_eq] at h1
        exact ⟨tk, tv, h2, h1.1, h1.2⟩
      · cases h1
    · exact mptB_ok h.2 p hp

theorem env_ok {P : Program} {tab : List (Nat × Ty)} {es cs ws os ns rs ps qs ls : List Nat} {fs : List (Nat × Fun)} {pa : List (Nat × (Nat × Ty))} {ms : List (Nat × (Ty × Ty))} {ga : Nat → List (Nat × Nat)} {gl gs : Nat → Bool} {gb : Nat → List (Nat × Nat)} (h1 : tabB P tab tab = true) (h2 : ∀ t ∈ es, P.eqGuardType P.depth t = false ∧ P.stoodInHeld t = false ∧ eqTB P (look tab) es t = true)
    (h3 : ∀ p ∈ fs, FnOk P p.1 p.2) (h4 : P.follows .mixedOrders = true) (h5 : parrB P tab pa = true) (h6 : ptrB P ps = true) (h7 : pslB P qs = true) (h8 : mptB P tab ms = true) : EnvOk P { ty := look tab, eq := fun n => memB n es, fn := look fs, cut := fun n => memB n cs, win := fun n => memB n ws, one := fun n => memB n os, onc := fun n => memB n ns, pre := fun n => memB n rs, ptr := fun n => memB n ps, psl := fun n => memB n qs, parr := look pa, mpt := look ms, lnd := fun n => memB n ls, gal := ga, gld := gl, gst := gs, gbd := gb } where
  ty t τ h := tabB_ok h1 _ (look_mem h)
  eq t h := by
    obtain ⟨g1, g2, g3⟩ := h2 t (memB_iff.1 h)
    refine ⟨g1, g2, fun fs' hu f hf => ?_⟩
    unfold eqTB at g3
    rw [hu] at g3
    exact eqFB_ok (E := { ty := look tab, eq := fun n => memB n es, fn := look fs }) rfl rfl g3 f hf
  fn f F h := h3 _ (look_mem h)
  mixed := h4
  parr t n e h := parrB_ok h5 _ (look_mem h)
  ptr t h := ptrB_ok h6 t (memB_iff.1 h)
  psl t h := pslB_ok h7 t (memB_iff.1 h)
  mpt t K V h := mptB_ok h8 _ (look_mem h)

end Go.Re
