/- Reflection, part H: new memory. -/
import Derived.Test.YtgceolpeegfkkaaReG
namespace Go.Re
set_option linter.unusedVariables false
set_option linter.unusedSimpArgs false
open Go.RowKit (Below)

section
variable {P : Program} {E : Env} {N : Nat} {Z : Base} {own : Own} {β : Conc} {σ : S} {a : Act} {w : World} {o : Oper}

/-- One block more. -/
structure Alloc1 (w w' : World) (c : List Value) : Prop where
  os : w'.os = w.os
  tape : w'.tape = w.tape
  output : w'.output = w.output
  size : w'.heap.size = w.heap.size + 1
  block : ∀ k, k < w.heap.size → w'.heap[k]? = w.heap[k]?
  cell : ∀ j, w'.cell? ⟨w.heap.size, j, none⟩ = c[j]?
  free : ∀ j, j < c.length → w'.frozen? ⟨w.heap.size, j, none⟩ = false
  shape : ∃ fz, shp w' w.heap.size = some (c.length, fz) ∧ (fz = (0, 0) ∨ fz = (c.length, c.length + 1))

theorem alloc1_push (w : World) (c : List Value) (t : TypeId) (d : Nat) : Alloc1 w { w with heap := w.heap.push (.cells c.toArray t (0, 0)), drawn := d } c where
  os := rfl
  tape := rfl
  output := rfl
  size := by simp
  block k hk := by simp [Array.getElem?_push]; omega
  cell j := by rw [cell?_push]; simp
  free j _ := by rw [frozen?_push]; simp
  shape := ⟨(0, 0), by simp [shp, Array.getElem?_push], .inl rfl⟩

theorem alloc1_push_fz (w : World) (c : List Value) (t : TypeId) (d : Nat) (fz : Nat × Nat) (hf : fz = (c.length, c.length + 1)) : Alloc1 w { w with heap := w.heap.push (.cells c.toArray t fz), drawn := d } c where
  os := rfl
  tape := rfl
  output := rfl
  size := by simp
  block k hk := by simp [Array.getElem?_push]; omega
  cell j := by rw [cell?_push]; simp
  free j hj := by rw [frozen?_push, hf]; simp; omega
  shape := ⟨fz, by simp [shp, Array.getElem?_push], .inr hf⟩

def allocOwn (own : Own) (n s : Nat) : Own := fun b o => if b = n then some s else own b o

theorem Alloc1.keeps {w w' : World} {c : List Value} (h : Alloc1 w w' c) (own : Own) (s : Nat) : Keeps own (allocOwn own w.heap.size s) w w' := by
  intro b o v h1 h2
  have hlt := cell?_lt h2
  refine ⟨?_, by rw [cell?_of_heap (h.block b hlt)]; exact h2⟩
  unfold allocOwn; rw [if_neg (by omega)]; exact h1

theorem Alloc1.ownKeeps {w w' : World} {c : List Value} (h : Alloc1 w w' c) (own : Own) (s s' : Nat) : OwnKeeps s' own (allocOwn own w.heap.size s) w w' := by
  refine ⟨?_, ?_⟩
  · intro b o v h1 h2
    have hlt := cell?_lt h2
    refine ⟨?_, by rw [cell?_of_heap (h.block b hlt)]; exact h2, frozen?_of_heap (h.block b hlt)⟩
    unfold allocOwn; rw [if_neg (by omega)]; exact h1
  · intro r es c h1 h2
    have hlt := map_lt h2
    refine ⟨?_, by rw [h.block r hlt]; exact h2⟩
    unfold allocOwn; rw [if_neg (by omega)]; exact h1

theorem Alloc1.shps {w w' : World} {c : List Value} (h : Alloc1 w w' c) : ShpKeeps w w' :=
  fun b _ ⟨x, fz, e1, e2⟩ => ⟨x, fz, by rw [shp_of_heap (h.block b (shp_lt e1))]; exact e1, e2⟩

theorem Alloc1.frame {w w' : World} {c : List Value} (h : Alloc1 w w' c) {n : Nat} (io : Nat → Nat → Prop) (hB : n ≤ w.heap.size) : Frm n io w w' :=
  ⟨h.os, h.tape, h.output, by rw [h.size]; omega, fun b o hb _ => cell?_of_heap (h.block b (by omega)), fun b o v hb hv => ⟨⟨v, by rw [cell?_of_heap (h.block b (by omega))]; exact hv⟩, frozen?_of_heap (h.block b (by omega))⟩,
    fun b k hb ⟨x, fz, e1, e2⟩ => ⟨x, fz, by rw [shp_of_heap (h.block b (by omega))]; exact e1, e2⟩, fun b hb _ => h.block b (by omega)⟩

/-- A new entry at a site, whatever has become of the world. -/
theorem St.newSite (h : St N Z own β σ a w) {s : Nat} {e' : Entry} {c : Value} {w' : World} {own' : Own} (hb : Frm Z.w.heap.size Z.io w w')
    (ho : ∀ b o, b < Z.w.heap.size → ¬ Z.io b o → own' b o = own b o) (k : Keeps own own' w w') (hks : ∀ s', s' ≠ s → OwnKeeps s' own own' w w') (kh : ShpKeeps w w')
    (hev : ∀ β', Evo β β' s (σ.mem s) e') (he : RepE Z own' w' (upd β s c) s e') : St N Z own' (upd β s c) (σ.set s e') a w' := by
  refine h.go hb ho k ?_ rfl ?_
  · intro s'
    show Evo β (upd β s c) s' (σ.mem s') (upd σ.mem s e' s')
    rw [upd_eq σ.mem]
    split
    · rename_i e; subst e; exact hev _
    · rename_i e; exact Evo.same _ (by rw [upd_eq, if_neg e])
  · intro s'
    show RepE Z own' w' (upd β s c) s' (upd σ.mem s e' s')
    rw [upd_eq σ.mem]
    split
    · rename_i e; subst e; exact he
    · rename_i e; exact (h.mems s').keeps k (hks s' e) kh (by rw [upd_eq, if_neg e])

theorem St.base (h : St N Z own β σ a w) : Z.w.heap.size ≤ w.heap.size := h.frame.size

/-- A new box. -/
theorem St.newBox (h : St N Z own β σ a w) {w' : World} {cs : List Value} (ha : Alloc1 w w' cs) (s : Nat) {τ : Ty} {x : τ.D} (hv : τ.isVal = true) (hr : RepC own w τ cs x) :
    St N Z (allocOwn own w.heap.size s) (upd β s (.pointer (some ⟨w.heap.size, 0, none⟩))) (σ.set s (.box (nextVer (σ.mem s)) τ x)) a w' := by
  have hB := h.base
  refine h.newSite (ha.frame _ hB) ?_ (ha.keeps own s) (fun s' _ => ha.ownKeeps own s s') ha.shps (fun β' => Evo.newBox _ _ _) ?_
  · intro b o hlt _; unfold allocOwn; rw [if_neg (by omega)]
  · refine ⟨hv, w.heap.size, 0, cs, by rw [upd_eq, if_pos rfl], ?_, hr.keeps (ha.keeps own s)⟩
    intro j v hj
    have hlt : j < cs.length := (List.getElem?_eq_some_iff.1 hj).1
    rw [Nat.zero_add]
    exact ⟨by simp [allocOwn], .inl hB, by rw [ha.cell, hj], ha.free j hlt⟩

/-- Elements one behind the other. -/
def ElemsC (own : Own) (w : World) (τ : Ty) (c : List Value) (xs : List τ.D) : Prop :=
  xs.length * τ.size ≤ c.length ∧ ∀ i (h : i < xs.length), RepC own w τ ((c.drop (i * τ.size)).take τ.size) xs[i]

theorem ElemsC.row {own own' : Own} {w w' : World} {τ : Ty} {c : List Value} {xs : List τ.D} (h : ElemsC own w τ c xs) (k : Keeps own own' w w') {q : Option Nat} {b o : Nat}
    (hc : ∀ j v, c[j]? = some v → own' b (o + j) = q ∧ w'.cell? ⟨b, o + j, none⟩ = some v) : RowR own' w' q τ b o xs := by
  intro i hi
  refine ⟨_, (h.2 i hi).length, ?_, (h.2 i hi).keeps k⟩
  intro j v hj
  rw [List.getElem?_take] at hj
  split at hj
  · rw [List.getElem?_drop] at hj
    have := hc _ _ hj
    rwa [← Nat.add_assoc] at this
  · cases hj

/-- A new row of one's own. -/
theorem St.newRow (h : St N Z own β σ a w) {w' : World} {c : List Value} (ha : Alloc1 w w' c) (s : Nat) {τ : Ty} {xs : List τ.D} (hr : ElemsC own w τ c xs) (cap : Nat)
    (h1 : xs.length ≤ cap) (h2 : cap < 9223372036854775808) (h3 : xs.length ≤ big) (h4 : c.length = cap * τ.size) :
    St N Z (allocOwn own w.heap.size s) (upd β s (.slice (some ⟨w.heap.size, 0, none⟩) xs.length cap)) (σ.set s (.own (nextVer (σ.mem s)) τ xs .full)) a w' := by
  have hB := h.base
  refine h.newSite (ha.frame _ hB) ?_ (ha.keeps own s) (fun s' _ => ha.ownKeeps own s s') ha.shps (fun β' => Evo.newOwn _ _ _ _) ?_
  · intro b o hlt _; unfold allocOwn; rw [if_neg (by omega)]
  · refine ⟨_, cap, by rw [upd_eq, if_pos rfl], h1, h2, h3, .inr ⟨w.heap.size, 0, rfl, ?_, let ⟨fz, f1, f2⟩ := ha.shape; ⟨_, fz, f1, by omega, f2⟩, ?_⟩⟩
    · refine hr.row (ha.keeps own s) ?_
      intro j v hj
      rw [Nat.zero_add]
      exact ⟨by simp [allocOwn, Mode.owner], by rw [ha.cell, hj]⟩
    · intro j _ hlt
      have hlt : j < c.length := by omega
      exact ⟨by simp [allocOwn], .inl hB, ⟨c[j], by rw [ha.cell, List.getElem?_eq_getElem hlt]⟩, ha.free j hlt⟩

/-- The nil slice, as a row of one's own. -/
theorem St.newNil (h : St N Z own β σ a w) (s : Nat) (τ : Ty) :
    St N Z own (upd β s (.slice none 0 0)) (σ.set s (.own (nextVer (σ.mem s)) τ [] .full)) a w := by
  refine h.newSite (Frm.refl _ _ _) (fun _ _ _ _ => rfl) (Keeps.refl _ _) (fun _ _ => OwnKeeps.refl _ _ _) (fun _ _ e => e) (fun β' => Evo.newOwn _ _ _ _) ?_
  exact ⟨none, 0, by rw [upd_eq, if_pos rfl]; rfl, Nat.le_refl _, by omega, Nat.zero_le _, .inl ⟨rfl, fun _ => rfl⟩⟩

theorem newVar_run {t : Nat} (u : Value) (w : World) : (newVar t u).run P w = .ok ⟨w.heap.size, 0, none⟩ { w with heap := w.heap.push (.cells u.cells t (0, 0)) } := by
  simp [newVar, newRow]

theorem alloc1_var (u : Value) (t : Nat) (w : World) : Alloc1 w { w with heap := w.heap.push (.cells u.cells t (0, 0)) } u.cells.toList :=
  alloc1_push w u.cells.toList t w.drawn

theorem sets_set {γ : Type} (b : γ) {fr : List (Nat × Entry)} {s : Nat} {e : Entry} : writes σ b (fixed fr ++ [(s, fun _ => e)]) = (sets σ fr).set s e := by
  rw [writes_append, writes_fixed]; rfl

theorem ref_new (own : Own) (w : World) (β : Conc) (mem : Nat → Entry) (s : Nat) (c : Value) (e : Entry) (τ : Ty) (xs : List τ.D) (m : Mode) :
    RepS own w (upd β s c) (upd mem s (.own (nextVer e) τ xs m)) (.ref s (nextVer e)) c := by
  refine ⟨by rw [upd_eq, if_pos rfl]; simp [nextVer], fun _ _ _ _ => by rw [upd_eq, if_pos rfl]⟩

theorem ptr_new (own : Own) (w : World) (β : Conc) (mem : Nat → Entry) (s b : Nat) (e : Entry) (τ : Ty) (x : τ.D) :
    RepS own w (upd β s (.pointer (some ⟨b, 0, none⟩))) (upd mem s (.box (nextVer e) τ x)) (.ptr s (nextVer e) []) (.pointer (some ⟨b, 0, none⟩)) := by
  refine ⟨by rw [upd_eq, if_pos rfl]; simp [nextVer], fun τ' x' _ => ⟨b, 0, by rw [upd_eq, if_pos rfl], by rw [offP_nil]⟩⟩

/-- Memory of a variable's own: box, alloc. -/
theorem box_did (h : St N Z own β σ a w) {d : Nat} {τ : Ty} {x : τ.D} {fr : List (Nat × Entry)} (hf : Frz σ fr) (hv : τ.isVal = true) {u : Value} (hu : RepA own w β σ.mem fr τ u x) {t : Nat}
    (hrun : ∀ w, (execOp a.eval o).run P w = .ok (.value (.pointer (some ⟨w.heap.size, 0, none⟩))) { w with heap := w.heap.push (.cells u.cells t (0, 0)) })
    {r : V × S} (hr : (boxM d τ x fr).run σ = some r) : Did P N Z o a w r.2 r.1 := by
  unfold boxM at hr
  simp only [M.run] at hr
  obtain ⟨_, h1, h2⟩ := Option.map_eq_some_iff.1 hr
  subst h2
  obtain ⟨own1, s1, k1, v1⟩ := h.freeze hf
  have hrep := (v1 _ _ _ hu).cells
  have s2 := s1.newBox (alloc1_var u t w) (site d 0) hv hrep
  rw [sets_ver fr hf.weak] at s2
  refine did_value (hrun w) (by simpa only [sets_set] using s2) ?_
  simp only [sets_set]
  exact ptr_new _ _ _ _ _ _ _ _ _

/-- The same as a row of one element. -/
theorem one_did (h : St N Z own β σ a w) {d : Nat} {τ : Ty} {x : τ.D} {u : Value} (hu : RepV own w τ u x) {t : Nat}
    (hrun : ∀ w, (execOp a.eval o).run P w = .ok (.value (.pointer (some ⟨w.heap.size, 0, none⟩))) { w with heap := w.heap.push (.cells u.cells t (0, 0)) })
    {r : V × S} (hr : (oneM d τ x).run σ = some r) : Did P N Z o a w r.2 r.1 := by
  unfold oneM at hr
  simp only [M.run] at hr
  obtain ⟨_, h1, h2⟩ := Option.map_eq_some_iff.1 hr
  subst h2
  have hrep := hu.cells
  have hl := hrep.length
  have hel : ElemsC own w τ u.cells.toList [x] := by
    refine ⟨by rw [hl, List.length_singleton, Nat.one_mul]; exact Nat.le_refl _, fun i hi => ?_⟩
    obtain rfl : i = 0 := by simpa using hi
    rw [Nat.zero_mul, List.drop_zero, ← hl, List.take_length]
    exact hrep
  have s2 := h.newRow (alloc1_var u t w) (site d 0) hel 1 (by simp) (by omega) (by simp [big]) (by rw [hl, Nat.one_mul])
  refine did_value (hrun w) s2 ?_
  refine ⟨by show _ < nextVer (upd σ.mem _ _ _); rw [upd_eq, if_pos rfl]; simp [nextVer], fun τ' xs m e => ?_⟩
  have e : upd σ.mem (site d 0) (Entry.own (nextVer (σ.mem (site d 0))) τ [x] .full) (site d 0) = _ := e
  rw [upd_eq, if_pos rfl] at e
  cases e
  exact ⟨by simp, w.heap.size, 0, 1, 1, by rw [upd_eq, if_pos rfl]; rfl, by rw [offP_nil, Nat.zero_mul]⟩

/-- New memory that is only read. -/
theorem St.newRead (h : St N Z own β σ a w) {w' : World} {cs : List Value} (ha : Alloc1 w w' cs) :
    ∃ own', St N Z own' β σ a w' ∧ Keeps own own' w w' ∧ ∀ j v, cs[j]? = some v → own' w.heap.size (0 + j) = none ∧ w'.cell? ⟨w.heap.size, 0 + j, none⟩ = some v := by
  have hB := h.base
  have hk : Keeps own (fun b o => if b = w.heap.size then none else own b o) w w' := by
    intro b o v h1 h2
    have hlt := cell?_lt h2
    exact ⟨by show (if b = w.heap.size then none else own b o) = _; rw [if_neg (by omega)]; exact h1, by rw [cell?_of_heap (ha.block b hlt)]; exact h2⟩
  have hks : ∀ s', OwnKeeps s' own (fun b o => if b = w.heap.size then none else own b o) w w' := by
    intro s'
    refine ⟨?_, ?_⟩
    · intro b o v h1 h2
      have hlt := cell?_lt h2
      exact ⟨by show (if b = w.heap.size then none else own b o) = _; rw [if_neg (by omega)]; exact h1, by rw [cell?_of_heap (ha.block b hlt)]; exact h2, frozen?_of_heap (ha.block b hlt)⟩
    · intro r es c h1 h2
      have hlt := map_lt h2
      exact ⟨by show (if r = w.heap.size then none else own r 0) = _; rw [if_neg (by omega)]; exact h1, by rw [ha.block r hlt]; exact h2⟩
  refine ⟨_, h.go (ha.frame _ hB) ?_ hk (fun s => Evo.same _ rfl) rfl (fun s => (h.mems s).keeps hk (hks s) ha.shps rfl), hk, ?_⟩
  · intro b o hlt _; show (if b = w.heap.size then none else own b o) = _; rw [if_neg (by omega)]
  · intro j v hj
    rw [Nat.zero_add]
    exact ⟨by show (if w.heap.size = w.heap.size then none else own w.heap.size j) = _; rw [if_pos rfl], by rw [ha.cell, hj]⟩

theorem rbox_did (h : St N Z own β σ a w) {τ : Ty} {x : τ.D} {fr : List (Nat × Entry)} (hf : Frz σ fr) (hv : τ.isVal = true) {u : Value} (hu : RepA own w β σ.mem fr τ u x) {t : Nat}
    (hrun : ∀ w, (execOp a.eval o).run P w = .ok (.value (.pointer (some ⟨w.heap.size, 0, none⟩))) { w with heap := w.heap.push (.cells u.cells t (0, 0)) })
    {r : V × S} (hr : (M.fin Unit (some ()) (fun _ => V.rpt τ x) (fixed fr)).run σ = some r) : Did P N Z o a w r.2 r.1 := by
  obtain ⟨_, h1, h2⟩ := fin_run hr
  subst h2
  obtain ⟨own1, s1, k1, v1⟩ := h.freeze hf
  have hrep := (v1 _ _ _ hu).cells
  obtain ⟨own2, s2, k2, hc⟩ := s1.newRead (alloc1_var u t w)
  simp only [writes_fixed]
  exact did_value (hrun w) s2 ⟨hv, w.heap.size, 0, _, rfl, hc, hrep.keeps k2⟩

end
end Go.Re
