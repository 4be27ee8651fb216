/- Reflection, part N: structs that are built; stores. -/
import Derived.Test.YtgceolpeegfkkaaReM
namespace Go.Re
set_option linter.unusedVariables false
set_option linter.unusedSimpArgs false
open Go.RowKit (Below)

section
variable {P : Program} {E : Env} {N : Nat} {Z : Base} {own : Own} {β : Conc} {σ : S} {a : Act} {w : World} {o : Oper}

/-- Cells written one by one. -/
theorem foldl_set (vs : List Value) : ∀ (cs : Array Value) (off : Nat), off + vs.length ≤ cs.size →
    (vs.toArray.zipIdx.foldl (fun cs (p : Value × Nat) => cs.setIfInBounds (off + p.2) p.1) cs) = (splice cs.toList off vs).toArray := by
  intro cs off hle
  have key : ∀ (vs : List Value) (cs : Array Value) (k : Nat), off + k + vs.length ≤ cs.size →
      ((vs.zipIdx k).foldl (fun cs (p : Value × Nat) => cs.setIfInBounds (off + p.2) p.1) cs) = (splice cs.toList (off + k) vs).toArray := by
    intro vs
    induction vs with
    | nil => intro cs k _; apply Array.ext'; simp [splice]
    | cons v vs ih =>
      intro cs k hk
      simp only [List.length_cons] at hk
      rw [List.zipIdx_cons, List.foldl_cons, ih _ _ (by simp; omega)]
      congr 1
      apply List.ext_getElem?
      intro j
      rw [show off + (k + 1) = off + k + 1 by omega, getElem?_splice (by simp; omega), getElem?_splice (by simp; omega)]
      simp only [List.length_cons, Array.toList_setIfInBounds, List.getElem?_set]
      by_cases h1 : j = off + k
      · rw [if_neg (by omega), if_pos (h1.symm), if_pos (show off + k < cs.toList.length by simp; omega), if_pos (show off + k ≤ j ∧ j < off + k + (vs.length + 1) by omega), show j - (off + k) = 0 by omega]; rfl
      · rw [if_neg (Ne.symm h1)]
        by_cases h2 : off + k + 1 ≤ j ∧ j < off + k + 1 + vs.length
        · rw [if_pos h2, if_pos (by omega), show j - (off + k) = (j - (off + k + 1)) + 1 by omega]; rfl
        · rw [if_neg h2, if_neg (by omega)]
  have := key vs cs 0 (by omega)
  rw [Nat.add_zero] at this
  rw [← this, ← Array.foldl_toList]
  simp

theorem buildM_run (h : St N Z own β σ a w) {d : Nat} {b : Ty} {path : Nat → List Stp} {place : Nat → Option (Nat × Nat)}
    (hpl : ∀ i τ', tyP b (path i) = some τ' → place i = some (offP b (path i), τ'.size)) :
    ∀ (ps : List (Nat × Operand)) {x : b.D} {fr : List (Nat × Entry)} {k : b.D → List (Nat × Entry) → M V} {r : V × S}, Frz σ fr → (buildM d b path x fr ps k).run σ = some r →
      ∃ x' fr', Frz σ fr' ∧ (∀ p ∈ fr, p ∈ fr') ∧ (k x' fr').run σ = some r ∧
        ∀ (own1 : Own), (∀ τ u y, RepA own w β σ.mem fr' τ u y → RepV own1 w τ u y) → ∀ cs : List Value, RepC own1 w b cs x →
          ∃ cs' : List Value, Instr.fill place cs.toArray (ps.map fun p => (p.1, a.eval p.2)) = some cs'.toArray ∧ RepC own1 w b cs' x' ∧
            ∀ j, (∀ p ∈ ps, ∀ τ', tyP b (path p.1) = some τ' → j < offP b (path p.1) ∨ offP b (path p.1) + τ'.size ≤ j) → cs'[j]? = cs[j]?
  | [], x, fr, k, r, hf, hr => ⟨x, fr, hf, fun _ h => h, hr, fun _ _ cs hc => ⟨cs, rfl, hc, fun _ _ => rfl⟩⟩
  | (i, op) :: ps, x, fr, k, r, hf, hr => by
    unfold buildM at hr
    obtain ⟨v, h1, h2⟩ := rd_run h hr
    split at h2
    · rename_i τ' hp
      obtain ⟨y, fr1, hf1, hA, _, h3⟩ := asD_run h h1 h2
      split at h3
      · rename_i x' hx'
        obtain ⟨x2, fr2, hf2, hs2, h4, h5⟩ := buildM_run h hpl ps (hf1.append hf) h3
        refine ⟨x2, fr2, hf2, fun p hp => hs2 p (by simp [hp]), h4, ?_⟩
        intro own1 hown cs hc
        have hV := hown τ' _ y (hA.mono fun p hp => hs2 p (by simp [hp]))
        have hds := hV.cells
        obtain ⟨g1, g2, g3⟩ := setP_rep b x cs (path i) τ' y _ x' hc hds hx'
        obtain ⟨cs', g4, g5, g6⟩ := h5 own1 hown _ g3
        have hl := hds.length
        have hcl := hc.length
        refine ⟨cs', ?_, g5, fun j hj => ?_⟩
        rotate_left
        · rw [g6 j fun p hp => hj p (List.mem_cons_of_mem _ hp), getElem?_splice (by omega), if_neg]
          have := hj (i, op) List.mem_cons_self τ' g1
          simp only at this
          omega
        rw [Array.length_toList] at hl
        simp only [List.map_cons, Instr.fill, hpl i τ' g1]
        rw [if_neg (by simp; omega)]
        have e := foldl_set (a.eval op).cells.toList cs.toArray (offP b (path i)) (by simp; omega)
        simp only [Array.toArray_toList] at e
        rw [e]; exact g4
      · cases h3
    · cases h2

theorem places_run (hE : EnvOk P E) : ∀ (fs : List Field) (b : Ty) (off : Nat), fieldsOk E.ty off fs b → (fs.mapM fun f => (do pure (f.offset, ← sizeOf f.type) : Sem (Nat × Nat))).run P w =
    .ok (fs.map fun f => (f.offset, P.cellsOf f.type)) w
  | [], _, _, _ => by simp
  | f :: fs, b, off, h => by
    cases b with
    | pair p q =>
      obtain ⟨h1, h2, h3, h4⟩ := h
      have hT := hE.ty f.type p h2
      have hsz := hT.cells w
      have hsz' : P.cellsOf f.type = p.size := by
        obtain ⟨i, g1, g2, _⟩ := hT.info
        simp [Program.cellsOf, g1, g2]
      simp only [List.mapM_cons, Sem.run_bind, hsz, Result.andThen_ok, Sem.run_pure, places_run hE fs q (off + p.size) h4, List.map_cons, hsz']
    | unit => exact h.elim
    | _ => exact h.elim

theorem build_did (hE : EnvOk P E) (h : St N Z own β σ a w) {d t : Nat} {b : Ty} {ps : Array (Nat × Operand)} {r : V × S} (ht : E.ty t = some (.st b))
    (he : execOp a.eval o = (do pure (.value (← Instr.build t (ps.map fun (i, x) => (i, a.eval x))))))
    (hr : (buildM d b fieldPath b.zero [] ps.toList fun x fr => .fin Unit (some ()) (fun _ => .val (.st b) x) (fixed fr)).run σ = some r) : Did P N Z o a w r.2 r.1 := by
  have hT := hE.ty t _ ht
  obtain ⟨fs, e1, e2⟩ := hT.desc
  have hpl : ∀ i τ', tyP b (fieldPath i) = some τ' → ((fs.toList.map fun f => (f.offset, P.cellsOf f.type)).toArray[i]?) = some (offP b (fieldPath i), τ'.size) := by
    intro i τ' hp
    obtain ⟨fd, e3, e4, e5, e6⟩ := fieldPath_off E.ty i b 0 fs.toList τ' e2 hp
    have hT' := hE.ty fd.type τ' e5
    have hsz' : P.cellsOf fd.type = τ'.size := by
      obtain ⟨i, g1, g2, _⟩ := hT'.info
      simp [Program.cellsOf, g1, g2]
    simp only [List.getElem?_toArray, List.getElem?_map, e3, Option.map_some, hsz', e4, Nat.zero_add]
  obtain ⟨x, fr, hf, _, h2, h3⟩ := buildM_run (place := fun i => (fs.toList.map fun f => (f.offset, P.cellsOf f.type)).toArray[i]?) h hpl ps.toList (x := b.zero) (fr := []) (by simp [Frz]) hr
  obtain ⟨_, h4, h5⟩ := fin_run h2
  obtain ⟨own1, s1, k1, v1⟩ := h.freeze hf
  have hz : RepC own1 w b (zeroC b) b.zero := zero_rep (τ := b) hT.good
  obtain ⟨cs', g1, g2, _⟩ := h3 own1 v1 (zeroC b) hz
  rw [h5]
  simp only [writes_fixed]
  refine did_value (exec_v he (u := .agg cs'.toArray) (w' := w) ?_) s1 ((RepV.agg rfl).2 ⟨cs', rfl, g2⟩)
  have hm := places_run (w := w) hE fs.toList b 0 e2
  have hz0 : (mkV (.st b) (zeroC (.st b))).cells = (zeroC b).toArray := rfl
  simp only [Instr.build, Sem.run_bind, hT.zeroRun, Result.andThen_ok, Sem.run_pure, run_underlying e1, hz0]
  have hm' : (fs.mapM fun f => (do pure (f.offset, ← sizeOf f.type) : Sem (Nat × Nat))).run P w = .ok (fs.toList.map fun f => (f.offset, P.cellsOf f.type)).toArray w := by
    have : (fs.mapM fun f => (do pure (f.offset, ← sizeOf f.type) : Sem (Nat × Nat))) = List.toArray <$> (fs.toList.mapM fun f => (do pure (f.offset, ← sizeOf f.type) : Sem (Nat × Nat))) := by
      rw [Array.mapM_eq_mapM_toList]
    rw [this, Sem.run_map, hm]; rfl
  rw [hm']
  simp only [Result.andThen_ok]
  have hps : (Array.map (fun x => match x with | (i, x) => (i, a.eval x)) ps).toList = ps.toList.map fun p => (p.1, a.eval p.2) := by simp
  rw [hps, g1]
  rfl

/-- A struct with nil slices in it. -/
theorem zbuild_did (hE : EnvOk P E) (h : St N Z own β σ a w) {d t : Nat} {b : Ty} {ps : Array (Nat × Operand)} {r : V × S} {z : List (Nat × Nat)} (hz0k : zOk b ps.toList z = true) (ht : E.ty t = some (.st b))
    (he : execOp a.eval o = (do pure (.value (← Instr.build t (ps.map fun (i, x) => (i, a.eval x))))))
    (hr : (buildM d b fieldPath b.zero [] ps.toList fun x fr => .fin Unit (some ()) (fun _ => .zval (.st b) x z) (fixed fr)).run σ = some r) : Did P N Z o a w r.2 r.1 := by
  have hT := hE.ty t _ ht
  obtain ⟨fs, e1, e2⟩ := hT.desc
  have hpl : ∀ i τ', tyP b (fieldPath i) = some τ' → ((fs.toList.map fun f => (f.offset, P.cellsOf f.type)).toArray[i]?) = some (offP b (fieldPath i), τ'.size) := by
    intro i τ' hp
    obtain ⟨fd, e3, e4, e5, e6⟩ := fieldPath_off E.ty i b 0 fs.toList τ' e2 hp
    have hT' := hE.ty fd.type τ' e5
    have hsz' : P.cellsOf fd.type = τ'.size := by
      obtain ⟨i, g1, g2, _⟩ := hT'.info
      simp [Program.cellsOf, g1, g2]
    simp only [List.getElem?_toArray, List.getElem?_map, e3, Option.map_some, hsz', e4, Nat.zero_add]
  obtain ⟨x, fr, hf, _, h2, h3⟩ := buildM_run (place := fun i => (fs.toList.map fun f => (f.offset, P.cellsOf f.type)).toArray[i]?) h hpl ps.toList (x := b.zero) (fr := []) (by simp [Frz]) hr
  obtain ⟨_, h4, h5⟩ := fin_run h2
  obtain ⟨own1, s1, k1, v1⟩ := h.freeze hf
  have hz : RepC own1 w b (zeroC b) b.zero := zero_rep (τ := b) hT.good
  obtain ⟨cs', g1, g2, g3⟩ := h3 own1 v1 (zeroC b) hz
  rw [h5]
  simp only [writes_fixed]
  refine did_value (exec_v he (u := .agg cs'.toArray) (w' := w) ?_) s1 ⟨(RepV.agg rfl).2 ⟨cs', rfl, g2⟩, fun q hq => ?_⟩
  rotate_left
  · have h6 := List.all_eq_true.1 hz0k q hq
    simp only [Bool.and_eq_true] at h6
    have h7 : (zeroC b)[q.1]? = some (.slice none 0 0) := by
      have h8 := h6.1
      revert h8
      generalize (zeroC b)[q.1]? = y
      intro hy
      unfold isNil0 at hy
      split at hy
      · rfl
      · cases hy
    show cs'[q.1]? = _
    rw [g3 q.1 fun p hp τ' hp' => ?_]
    · exact h7
    · have h8 := List.all_eq_true.1 h6.2 p hp
      rw [hp'] at h8
      simp only [Bool.or_eq_true] at h8
      rcases h8 with h8 | h8
      · have := Nat.le_of_ble_eq_true h8; omega
      · have := Nat.le_of_ble_eq_true h8; omega
  have hm := places_run (w := w) hE fs.toList b 0 e2
  have hz0 : (mkV (.st b) (zeroC (.st b))).cells = (zeroC b).toArray := rfl
  simp only [Instr.build, Sem.run_bind, hT.zeroRun, Result.andThen_ok, Sem.run_pure, run_underlying e1, hz0]
  have hm' : (fs.mapM fun f => (do pure (f.offset, ← sizeOf f.type) : Sem (Nat × Nat))).run P w = .ok (fs.toList.map fun f => (f.offset, P.cellsOf f.type)).toArray w := by
    have : (fs.mapM fun f => (do pure (f.offset, ← sizeOf f.type) : Sem (Nat × Nat))) = List.toArray <$> (fs.toList.mapM fun f => (do pure (f.offset, ← sizeOf f.type) : Sem (Nat × Nat))) := by
      rw [Array.mapM_eq_mapM_toList]
    rw [this, Sem.run_map, hm]; rfl
  rw [hm']
  simp only [Result.andThen_ok]
  have hps : (Array.map (fun x => match x with | (i, x) => (i, a.eval x)) ps).toList = ps.toList.map fun p => (p.1, a.eval p.2) := by simp
  rw [hps, g1]
  rfl

theorem buildArr_did (hE : EnvOk P E) (h : St N Z own β σ a w) {d t n : Nat} {e : Ty} {ps : Array (Nat × Operand)} {r : V × S} (ht : E.ty t = some (.arr n e))
    (he : execOp a.eval o = (do pure (.value (← Instr.build t (ps.map fun (i, x) => (i, a.eval x))))))
    (hr : (buildM d (.arr n e) (fun i => [.idx i]) (Ty.arr n e).zero [] ps.toList fun x fr => .fin Unit (some ()) (fun _ => .val (.arr n e) x) (fixed fr)).run σ = some r) : Did P N Z o a w r.2 r.1 := by
  have hT := hE.ty t _ ht
  obtain ⟨te, e1, e2⟩ := hT.desc
  have hTe := hE.ty te e e2
  have hpl : ∀ i τ', tyP (.arr n e) [.idx i] = some τ' → (some (i * e.size, e.size) : Option (Nat × Nat)) = some (offP (.arr n e) [.idx i], τ'.size) := by
    intro i τ' hp
    have hp : tyP e [] = some τ' := hp
    rw [tyP_nil] at hp; cases hp
    simp [offP, offP_nil]
  obtain ⟨x, fr, hf, _, h2, h3⟩ := buildM_run (place := fun i => some (i * e.size, e.size)) h hpl ps.toList (x := (Ty.arr n e).zero) (fr := []) (by simp [Frz]) hr
  obtain ⟨_, h4, h5⟩ := fin_run h2
  obtain ⟨own1, s1, k1, v1⟩ := h.freeze hf
  have hz : RepC own1 w (.arr n e) (zeroC (.arr n e)) (Ty.arr n e).zero := zero_rep (τ := .arr n e) hT.good
  obtain ⟨cs', g1, g2, _⟩ := h3 own1 v1 _ hz
  rw [h5]
  simp only [writes_fixed]
  refine did_value (exec_v he (u := .agg cs'.toArray) (w' := w) ?_) s1 ((RepV.agg rfl).2 ⟨cs', rfl, g2⟩)
  have hz0 : (mkV (.arr n e) (zeroC (.arr n e))).cells = (zeroC (.arr n e)).toArray := rfl
  simp only [Instr.build, Sem.run_bind, hT.zeroRun, Result.andThen_ok, Sem.run_pure, run_underlying e1, hz0, hTe.cells]
  have hps : (Array.map (fun x => match x with | (i, x) => (i, a.eval x)) ps).toList = ps.toList.map fun p => (p.1, a.eval p.2) := by simp
  rw [hps, g1]
  rfl

theorem buildSlice_did (hE : EnvOk P E) (h : St N Z own β σ a w) {d t n : Nat} {e : Ty} {ps : Array (Nat × Operand)} {r : V × S} (ht : E.ty t = some (.sl e)) (hn : n ≤ 65536) (hsz : e.size ≤ 256)
    (he : execOp a.eval o = (do pure (.value (← Instr.buildSlice t n (ps.map fun (i, x) => (i, a.eval x))))))
    (hr : (buildM d (.arr n e) (fun i => [.idx i]) (Ty.arr n e).zero [] ps.toList fun x fr => ownM d e x .full fr).run σ = some r) : Did P N Z o a w r.2 r.1 := by
  have hT := hE.ty t _ ht
  obtain ⟨te, e1, e2⟩ := hT.desc
  have hTe := hE.ty te e e2
  have hpl : ∀ i τ', tyP (.arr n e) [.idx i] = some τ' → (some (i * e.size, e.size) : Option (Nat × Nat)) = some (offP (.arr n e) [.idx i], τ'.size) := by
    intro i τ' hp
    have hp : tyP e [] = some τ' := hp
    rw [tyP_nil] at hp; cases hp
    simp [offP, offP_nil]
  obtain ⟨x, fr, hf, _, h2, h3⟩ := buildM_run (place := fun i => some (i * e.size, e.size)) h hpl ps.toList (x := (Ty.arr n e).zero) (fr := []) (by simp [Frz]) hr
  obtain ⟨own1, s1, k1, v1⟩ := h.freeze hf
  have hz : RepC own1 w (.arr n e) (zeroC (.arr n e)) (Ty.arr n e).zero := zero_rep (τ := .arr n e) hTe.good
  obtain ⟨cs', g1, g2, _⟩ := h3 own1 v1 _ hz
  unfold ownM at h2
  simp only [M.run] at h2
  obtain ⟨_, _, h5⟩ := Option.map_eq_some_iff.1 h2
  subst h5
  simp only [sets_set]
  have hver := sets_ver fr hf.weak (site d 0)
  rw [← hver]
  have hxl : List.length x = n := g2.1
  have hcl : cs'.length = n * e.size := g2.2.1
  have hx0 : RepC own1 w (.arr n e) cs' x := g2
  have := own_did (o := o) (P := P) s1 (d := site d 0) (w' := { w with heap := w.heap.push (.cells cs'.toArray te (0, 0)) }) (alloc1_push w cs' te w.drawn) (ElemsC.of_arr hx0).1 n (by omega) (by omega) (by simp only [big]; omega) hcl ?_
  · exact this
  · refine exec_v he ?_
    rw [hxl]
    have hbig : ¬ (n * e.size > 2 ^ 24) := by
      have : n * e.size ≤ 65536 * 256 := Nat.mul_le_mul hn hsz
      omega
    have hps : (Array.map (fun x => match x with | (i, x) => (i, a.eval x)) ps).toList = ps.toList.map fun p => (p.1, a.eval p.2) := by simp
    simp only [Instr.buildSlice, Sem.run_bind, run_underlying e1, Result.andThen_ok, Sem.run_pure, hTe.cells]
    rw [if_neg hbig]
    simp only [Sem.run_pure, Result.andThen_ok, Sem.run_bind, Sem.run_ite]
    have hzeros := zeros_eq hTe.isVal hTe.good n
    by_cases hz0 : n * e.size = 0
    · rw [if_pos hz0]
      have e0 : zeroC (.arr n e) = [] := by
        apply List.eq_nil_of_length_eq_zero
        have := hz.2.1
        omega
      simp only [Result.andThen_ok, hz0, Array.range_zero', Array.map_empty, hps]
      rw [e0] at g1
      have g1' : Instr.fill (fun i => some (i * e.size, e.size)) #[] (List.map (fun p => (p.1, a.eval p.2)) ps.toList) = some cs'.toArray := g1
      rw [g1']
      simp [newRow]
    · rw [if_neg hz0]
      simp only [Sem.run_bind, hTe.zeroRun, Result.andThen_ok, Sem.run_pure, hps]
      rw [hzeros, g1]
      simp [newRow]

end
end Go.Re
