/- Reflection, part Q: append. -/
import Derived.Test.YtgceolpeegfkkaaReP
namespace Go.Re
set_option linter.unusedVariables false
set_option linter.unusedSimpArgs false
open Go.RowKit (Below)

section
variable {P : Program} {E : Env} {N : Nat} {Z : Base} {own : Own} {β : Conc} {σ : S} {a : Act} {w : World} {o : Oper}

/-- What is appended, or copied from: its elements' cells can be read. -/
def Src (P : Program) (own : Own) (w : World) (e : Ty) (x : Value) (ys : List e.D) : Prop :=
  (Builtin.lenOf x).run P w = .ok ys.length w ∧ ys.length ≤ big ∧ ∃ cs : List Value, cs.length = ys.length * e.size ∧ ElemsC own w e cs ys ∧
    (∀ v ∈ cs, v.oneCell' = true) ∧ ∀ m, m ≤ ys.length → ∀ w', w'.heap = w.heap → (Builtin.firstCells e.size m x).run P w' = .ok (cs.take (m * e.size)).toArray w'

theorem ElemsC.one {e : Ty} {cs : List Value} {xs : List e.D} (h : ElemsC own w e cs xs) (hl : cs.length = xs.length * e.size) : ∀ v ∈ cs, v.oneCell' = true := by
  intro v hv
  obtain ⟨i, hi, hv⟩ := chunk_mem hl hv
  exact (h.2 i hi).one v hv

theorem RepQ.src {e : Ty} {u : Value} {x : List e.D} (h : RepQ own w e u x) : Src P own w e u x := by
  obtain ⟨ad, cap, rfl, h2, h3, h4, h5⟩ := h.loads
  refine ⟨rfl, h4, ?_⟩
  rcases h5 with ⟨rfl, rfl⟩ | ⟨b, off, cs, rfl, h6, h7, h8⟩
  · refine ⟨[], by simp, ⟨by simp, fun i h => by simp at h⟩, by simp, fun m hm w' _ => ?_⟩
    cases ad with
    | none => simp [Builtin.firstCells]
    | some ad =>
      have : m = 0 := by simpa using hm
      subst this
      simp [Builtin.firstCells, run_loadCells_zero]
  · refine ⟨cs, h6, h7, h7.one h6, fun m hm w' hw' => ?_⟩
    have hb : m * e.size ≤ cs.length := by rw [h6]; exact Nat.mul_le_mul_right _ hm
    simp only [Builtin.firstCells]
    exact run_loadCells_list' (cs.take (m * e.size)) (m * e.size) (by simp; omega) (fun j v hj => by
      rw [List.getElem?_take] at hj
      split at hj
      · rw [cell?_of_heap (w := w) (by rw [hw'])]; exact h8 j v hj
      · cases hj)

theorem str_src {s : ByteArray} (h : s.size ≤ big) : Src P own w (.int .u8) (.string s) (s.data.toList.map UInt8.toBitVec) := by
  have hl : (s.data.toList.map UInt8.toBitVec).length = s.size := by simp
  have hcs := strCells (own := own) (w := w) s 0
  have hlen : (strArr s 0).toList.length = s.size := by simp [strArr]
  refine ⟨by rw [hl]; rfl, by rw [hl]; exact h, (strArr s 0).toList, by rw [hl, hlen]; simp [Ty.size], hcs, hcs.one (by rw [hl, hlen]; simp [Ty.size]), fun m hm w' _ => ?_⟩
  rw [hl] at hm
  simp only [Builtin.firstCells, Sem.run_pure, Ty.size, Nat.mul_one]
  congr 1
  apply Array.ext'
  simp [strArr, ByteArray.data_extract, List.extract_eq_take_drop, List.map_take]

theorem more_run (hE : EnvOk P E) (h : St N Z own β σ a w) {t : Nat} {e : Ty} {v : V} {u : Value} {α : Type} {k : List e.D → M α} {r : α × S} (hu : RepS own w β σ.mem v u) (hr : (more E t e v k).run σ = some r) :
    ∃ ys, Src P own w e u ys ∧ (∀ w, (underlying t).run P w = .ok .string w ∨ ∃ te, (underlying t).run P w = .ok (.slice te) w) ∧ (k ys).run σ = some r := by
  unfold more at hr
  split at hr
  · rename_i ht
    have hd : P.underlying t = some .string := (hE.ty t _ ht).desc
    split at hr
    · rename_i x
      split at hr
      · rename_i y hy
        obtain ⟨eq, hy⟩ := cast?_some hy
        cases eq
        have hy : x = y := hy
        subst hy
        obtain ⟨s, rfl, h1, h2⟩ := RepV.str.1 hu
        subst h1
        exact ⟨_, str_src (by simpa using h2), fun w => .inl (run_underlying hd w), hr⟩
      · cases hr
    · cases hr
  · rename_i e' ht
    obtain ⟨te, hd, _⟩ := (hE.ty t _ ht).desc
    split at hr
    · rename_i s ver hi
      simp only [M.run] at hr
      split at hr
      · rename_i ver' e1 xs hm
        split at hr
        · rename_i eq; subst eq
          split at hr
          · rename_i xs' hx
            obtain ⟨eq, hx⟩ := cast?_some hx
            cases eq
            have hx : xs = xs' := hx
            subst hx
            obtain ⟨h1, ad, cap, h2, h3⟩ := hu.2 _ xs .full hm rfl
            have hE' := h.mems s
            rw [hm] at hE'
            obtain ⟨ad', cap', e1, e2, e3, e4, e5⟩ := hE'
            rw [h2] at e1
            injection e1 with i1 i2 i3
            subst i1; subst i3
            have hl : (xs.take hi).length = hi := by simp; omega
            have hq : RepQ own w e u (xs.take hi) := by
              refine ⟨ad, cap, some s, by rw [hl]; exact h3, by omega, e3, by omega, e5.imp (·.1) ?_⟩
              rintro ⟨b, off, g1, g2, g3⟩
              refine ⟨b, off, g1, fun i hi' => ?_⟩
              obtain ⟨es, q1, q2, q3⟩ := g2 i (by omega)
              exact ⟨es, q1, q2, by rw [List.getElem_take]; exact q3⟩
            exact ⟨_, hq.src, fun w => .inr ⟨te, run_underlying hd w⟩, hr⟩
          · cases hr
        · cases hr
      · cases hr
    · obtain ⟨ys, h1, h2⟩ := asDr_run h hu hr
      exact ⟨ys, h1.q.src, fun w => .inr ⟨te, run_underlying hd w⟩, h2⟩
  · cases hr

theorem growBy_le (n : Nat) : ∀ (r c : Nat), Builtin.growBy n r c ≤ max c (n + (n + 768) / 4)
  | 0, c => Nat.le_max_left _ _
  | r + 1, c => by
    unfold Builtin.growBy
    split
    · exact Nat.le_max_left _ _
    · have := growBy_le n r (c + (c + 768) / 4)
      omega

theorem nextslicecap_le {n c : Nat} (h : c < n) : Builtin.nextslicecap n c ≤ 2 * n + 256 := by
  unfold Builtin.nextslicecap
  split
  · omega
  · split
    · omega
    · have := growBy_le n 4 c
      omega

/-- What append runs to: in place, or in new memory. -/
theorem append_run (hE : EnvOk P E) {t t' te ty : Nat} {e : Ty} {ad : Option Addr} {n cap : Nat} {x : Value} {ys : List e.D} (ht : P.underlying t = some (.slice te)) (hte : E.ty te = some e)
    (hsrc : (Builtin.lenOf x).run P w = .ok ys.length w) (hu : ∀ w, (underlying t').run P w = .ok .string w ∨ ∃ te, (underlying t').run P w = .ok (.slice te) w) (hl : n + ys.length ≤ lim) (hc : cap < 9223372036854775808)
    {yc oc : List Value} (hyc : ∀ w', (w'.heap = w.heap) → (Builtin.firstCells e.size ys.length x).run P w' = .ok yc.toArray w')
    (hoc : ∀ w', (w'.heap = w.heap) → (Builtin.firstCells e.size n (.slice ad n cap)).run P w' = .ok oc.toArray w') :
    if n + ys.length ≤ cap then
      (Builtin.append_ #[t, t'] ty #[.slice ad n cap, x]).run P w =
        ((match ad with | some b => storeCells (b.add (n * e.size)) yc | none => pure ()).run P w).andThen fun _ w' => .ok (.slice ad (n + ys.length) cap) w'
    else ∃ c, n + ys.length ≤ c ∧ c < 9223372036854775808 ∧ (Builtin.append_ #[t, t'] ty #[.slice ad n cap, x]).run P w =
      .ok (.slice (some ⟨w.heap.size, 0, none⟩) (n + ys.length) c) { w with heap := w.heap.push (.cells (oc ++ yc ++ (Builtin.zeroCells (mkV e (zeroC e)).cells (c - (n + ys.length))).toList).toArray te (0, 0)), drawn := w.drawn + 1 } := by
  have hT := hE.ty te e hte
  obtain ⟨i, g1, g2, g3, g4⟩ := hT.info
  have hl' : n + ys.length ≤ 2147483648 := hl
  have hz : ∀ w, ((do pure ((← underlying t') matches .int _) : Sem Bool)).run P w = .ok false w := by
    intro w
    rcases hu w with h | ⟨te', h⟩ <;> simp [h]
  have hlen : (Builtin.lenOf x).run P w = .ok ys.length w := hsrc
  have hy0 := hyc w rfl
  split
  · rename_i hle
    rcases hu w with hu' | ⟨te', hu'⟩
    all_goals
      simp only [Builtin.append_, List.getElem?_toArray, List.getElem?_cons_zero, List.getElem?_cons_succ, Sem.run_bind, run_underlying ht, Result.andThen_ok, hT.cells, Sem.run_pure, hu', Bool.false_eq_true, if_false, hlen, hle, if_true, Bool.not_false, hy0]
      cases ad with
      | none => simp
      | some b => simp
  · rename_i hle
    have hcn : cap < n + ys.length := by omega
    obtain ⟨c1, c2⟩ := appendCap_cut (n + ys.length) cap te (w.tape w.drawn (.appendCap (n + ys.length) cap te)) (by omega)
    have hnx := nextslicecap_le hcn
    have hb : ¬ (Builtin.nextslicecap (n + ys.length) cap * i.bytes > 2 ^ 48) := by
      have : Builtin.nextslicecap (n + ys.length) cap * i.bytes ≤ (2 * 2147483648 + 256) * 32768 := Nat.mul_le_mul (by omega) g3
      omega
    have hmx : ¬ ((n + ys.length : Nat) : Int) > IntKind.i64.max := by rw [IntKind.max_i64]; omega
    have hy1 := hyc { w with drawn := w.drawn + 1 } rfl
    have ho1 := hoc { w with drawn := w.drawn + 1 } rfl
    refine ⟨_, c1, c2, ?_⟩
    rcases hu w with hu' | ⟨te', hu'⟩
    all_goals
      simp only [Builtin.append_, List.getElem?_toArray, List.getElem?_cons_zero, List.getElem?_cons_succ, Sem.run_bind, run_underlying ht, Result.andThen_ok, hT.cells, Sem.run_pure, hu', Bool.false_eq_true, if_false, hlen, hle, Bool.not_false, if_true,
        hmx, false_and, typeInfo, run_program, g1, hb, run_choose, Question.forced, run_askRoom, ho1, hy1, hT.zeroRun, newRow, run_newObj]
      congr 4
      apply Array.ext'
      simp

/-- What append runs to, whatever it's behind. -/
def AppRun (P : Program) (w : World) (t t' ty te : Nat) (e : Ty) (x : Value) (k : Nat) (yc : List Value) : Prop :=
  ∀ (ad : Option Addr) (n cap : Nat) (oc : List Value), n + k ≤ lim → cap < 9223372036854775808 →
    (∀ w', (w'.heap = w.heap) → (Builtin.firstCells e.size n (.slice ad n cap)).run P w' = .ok oc.toArray w') →
    if n + k ≤ cap then
      (Builtin.append_ #[t, t'] ty #[.slice ad n cap, x]).run P w =
        ((match ad with | some b => storeCells (b.add (n * e.size)) yc | none => pure ()).run P w).andThen fun _ w' => .ok (.slice ad (n + k) cap) w'
    else ∃ c, n + k ≤ c ∧ c < 9223372036854775808 ∧ (Builtin.append_ #[t, t'] ty #[.slice ad n cap, x]).run P w =
      .ok (.slice (some ⟨w.heap.size, 0, none⟩) (n + k) c) { w with heap := w.heap.push (.cells (oc ++ yc ++ (Builtin.zeroCells (mkV e (zeroC e)).cells (c - (n + k))).toList).toArray te (0, 0)), drawn := w.drawn + 1 }

def AppOk (P : Program) (E : Env) (own : Own) (w : World) (t t' ty : Nat) (e : Ty) (x : Value) (ys : List e.D) : Prop :=
  ∃ yc : List Value, yc.length = ys.length * e.size ∧ ElemsC own w e yc ys ∧ (∀ v ∈ yc, v.oneCell' = true) ∧
    ∀ te, P.underlying t = some (.slice te) → E.ty te = some e → AppRun P w t t' ty te e x ys.length yc

theorem Src.app (hE : EnvOk P E) {t t' ty : Nat} {e : Ty} {x : Value} {ys : List e.D} (hsrc : Src P own w e x ys) (hu : ∀ w, (underlying t').run P w = .ok .string w ∨ ∃ te, (underlying t').run P w = .ok (.slice te) w) :
    AppOk P E own w t t' ty e x ys := by
  obtain ⟨s1, s2, yc, s3, s4, s5, s6⟩ := hsrc
  have hyc : ∀ w', w'.heap = w.heap → (Builtin.firstCells e.size ys.length x).run P w' = .ok yc.toArray w' := fun w' hw' => by
    have := s6 ys.length (Nat.le_refl _) w' hw'
    rwa [← s3, List.take_length] at this
  exact ⟨yc, s3, s4, s5, fun te ht hte ad n cap oc hl hc hoc => append_run hE ht hte s1 hu hl hc hyc hoc⟩

theorem zero_app (hE : EnvOk P E) {t t' ty : Nat} {e : Ty} {m : Nat} (hi : E.ty t' = some (.int .i64)) (hm : m ≤ lim) (hv : e.isVal = true) (hg : e.good = true) :
    AppOk P E own w t t' ty e (.int .i64 (m : Int)) (List.replicate m e.zero) := by
  have hz := zeros_eq hv hg m
  have hrepz := zero_rep (own := own) (w := w) (τ := .arr m e) hg
  obtain ⟨q1, q2, q3⟩ := ElemsC.of_arr hrepz
  have hlz : (List.replicate m e.zero).length = m := by simp
  refine ⟨zeroC (.arr m e), by rw [hlz]; exact q3, q1, q1.one (by rw [q3]; congr 1; exact hlz.symm), fun te ht hte ad n cap oc hl hc hoc => ?_⟩
  have hT := hE.ty te e hte
  obtain ⟨i, g1, g2, g3, g4⟩ := hT.info
  have hm' : m ≤ 2147483648 := hm
  rw [hlz] at hl ⊢
  have hl' : n + m ≤ 2147483648 := hl
  have hu' : P.underlying t' = some (.int .i64) := (hE.ty t' _ hi).desc
  have hw : IntKind.i64.wrap (m : Int) = (m : Int) := by have := w64_in (n := (m : Int)) (by omega) (by omega); exact this
  have hneg : ¬ ((m : Int) < 0) := by omega
  have hbytes : ¬ ((m : Int) * (i.bytes : Int) > 2 ^ 48) := by
    have : (m : Int) * (i.bytes : Int) ≤ 2147483648 * 32768 := Int.mul_le_mul (by omega) (by omega) (by omega) (by omega)
    omega
  have hzc : (if m * e.size = 0 then #[] else (Builtin.zeroCells (mkV e (zeroC e)).cells m)) = (zeroC (.arr m e)).toArray := by
    have hzl : (mkV e (zeroC e)).cells.size = e.size := by
      have hz0 := zero_rep (own := own) (w := w) hg
      have h1 := mkV_cells hv hz0
      rw [← Array.length_toList, h1]; exact hz0.length
    split
    · rename_i h0
      have : (zeroC (.arr m e)).length = 0 := by rw [q3]; exact h0
      rw [List.eq_nil_of_length_eq_zero this]
    · unfold Builtin.zeroCells
      rw [show m * (mkV e (zeroC e)).cells.size = m * e.size by rw [hzl]]; exact hz
  split
  · rename_i hle
    simp only [Builtin.append_, List.getElem?_toArray, List.getElem?_cons_zero, List.getElem?_cons_succ, Sem.run_bind, run_underlying ht, Result.andThen_ok, hT.cells, Sem.run_pure, run_underlying hu', if_true, asInt, asIntOf, hw, hneg, if_false,
      typeInfo, run_program, g1, hbytes, Int.toNat_natCast, hle, Bool.not_true, Bool.false_eq_true]
    have e1 : ∀ w', ((if m * e.size = 0 then pure #[] else (do pure (Builtin.zeroCells (← zeroValue te).cells m)) : Sem (Array Value))).run P w' = .ok (zeroC (.arr m e)).toArray w' := by
      intro w'
      rw [← hzc]
      split
      · rfl
      · simp only [Sem.run_bind, hT.zeroRun, Result.andThen_ok, Sem.run_pure]
    rw [e1]
    cases ad with
    | none => simp
    | some b => simp
  · rename_i hle
    have hcn : cap < n + m := by omega
    obtain ⟨c1, c2⟩ := appendCap_cut (n + m) cap te (w.tape w.drawn (.appendCap (n + m) cap te)) (by omega)
    have hnx := nextslicecap_le hcn
    have hb : ¬ (Builtin.nextslicecap (n + m) cap * i.bytes > 2 ^ 48) := by
      have : Builtin.nextslicecap (n + m) cap * i.bytes ≤ (2 * 2147483648 + 256) * 32768 := Nat.mul_le_mul (by omega) g3
      omega
    have hmx : ¬ ((n + m : Nat) : Int) > IntKind.i64.max := by rw [IntKind.max_i64]; omega
    have ho1 := hoc { w with drawn := w.drawn + 1 } rfl
    refine ⟨_, c1, c2, ?_⟩
    have e1 : ∀ w', ((if m * e.size = 0 then pure #[] else (do pure (Builtin.zeroCells (← zeroValue te).cells m)) : Sem (Array Value))).run P w' = .ok (zeroC (.arr m e)).toArray w' := by
      intro w'
      rw [← hzc]
      split
      · rfl
      · simp only [Sem.run_bind, hT.zeroRun, Result.andThen_ok, Sem.run_pure]
    simp only [Builtin.append_, List.getElem?_toArray, List.getElem?_cons_zero, List.getElem?_cons_succ, Sem.run_bind, run_underlying ht, Result.andThen_ok, hT.cells, Sem.run_pure, run_underlying hu', if_true, asInt, asIntOf, hw, hneg, if_false,
      typeInfo, run_program, g1, hbytes, Int.toNat_natCast, hle, Bool.not_true, Bool.false_eq_true, hmx, false_and, hb, run_choose, Question.forced, run_askRoom, ho1, hT.zeroRun, newRow, run_newObj, e1]
    congr 4
    apply Array.ext'
    simp

/-- The owners behind an append: the row is the new one's. -/
def appOwn (own : Own) (b lo mid hi : Nat) (q : Option Nat) (d : Nat) : Own := fun b' j => if b' = b ∧ lo ≤ j ∧ j < hi then (if j < mid then q else some d) else own b' j

/-- What the old row is, behind an append. -/
def afterApp (m : Mode) (ver : Nat) (e : Ty) (xs : List e.D) : Entry :=
  match m with
  | .full => .gone ver
  | _ => .own ver e xs .view

/-- Behind an append in place. -/
theorem append_place (h : St N Z own β σ a w) {s d ver : Nat} {e : Ty} {xs ys : List e.D} {m : Mode} (hm : σ.mem s = .own ver e xs m) (hmv : m = .full ∨ m = .tail) {b off cap : Nat}
    (hβ : β s = .slice (some ⟨b, off, none⟩) xs.length cap) (hcap : cap < 9223372036854775808) (hrow : RowR own w (m.owner s) e b off xs) (hrest : m.rest Z own w s b off xs.length cap e.size)
    (hle : xs.length + ys.length ≤ cap) (hl : xs.length + ys.length ≤ lim) {yc : List Value} (hyl : yc.length = ys.length * e.size) (hye : ElemsC own w e yc ys) {w' : World} (hw : Wrote b (off + xs.length * e.size) yc w w') :
    St N Z (appOwn own b off (off + (xs.length + ys.length) * e.size) (off + cap * e.size) (m.owner d) d) (upd β d (.slice (some ⟨b, off, none⟩) (xs.length + ys.length) cap))
      ((σ.set s (afterApp m ver e xs)).set d (.own (nextVer (σ.mem d)) e (xs ++ ys) m)) a w' := by
  have hl' : xs.length + ys.length ≤ 2147483648 := hl
  have hmul : (xs.length + ys.length) * e.size = xs.length * e.size + ys.length * e.size := Nat.add_mul _ _ _
  have hcapm : (xs.length + ys.length) * e.size ≤ cap * e.size := Nat.mul_le_mul_right _ hle
  -- who owns the cells of the row
  have tailOwn : ∀ j, off + xs.length * e.size ≤ j → j < off + cap * e.size → own b j = some s ∧ Z.wr b j ∧ (∃ v, w.cell? ⟨b, j, none⟩ = some v) ∧ w.frozen? ⟨b, j, none⟩ = false := by
    intro j h1 h2
    rcases hmv with rfl | rfl
    · exact hrest.2 j (by omega) h2
    · exact hrest j h1 h2
  have hown : ∀ j, j < yc.length → own b (off + xs.length * e.size + j) = some s := fun j hj => (tailOwn _ (by omega) (by omega)).1
  have hwr : ∀ j, j < yc.length → Z.wr b (off + xs.length * e.size + j) := fun j hj => (tailOwn _ (by omega) (by omega)).2.1
  have hkw := hw.keeps hown
  -- cells that nobody writes
  have hk : Keeps own (appOwn own b off (off + (xs.length + ys.length) * e.size) (off + cap * e.size) (m.owner d) d) w w' := by
    intro b' j v h1 h2
    refine ⟨?_, (hkw b' j v h1 h2).2⟩
    unfold appOwn
    split
    · rename_i hc
      obtain ⟨rfl, c1, c2⟩ := hc
      rcases Nat.lt_or_ge j (off + xs.length * e.size) with h3 | h3
      · rcases hmv with rfl | rfl
        · have := (hrest.2 j c1 c2).1
          rw [h1] at this; cases this
        · rw [if_pos (by omega)]; rfl
      · have := (tailOwn j h3 c2).1
        rw [h1] at this; cases this
    · exact h1
  have hks : ∀ s', s' ≠ s → OwnKeeps s' own (appOwn own b off (off + (xs.length + ys.length) * e.size) (off + cap * e.size) (m.owner d) d) w w' := by
    intro s' hs'
    have keep : ∀ b' j, own b' j = some s' → appOwn own b off (off + (xs.length + ys.length) * e.size) (off + cap * e.size) (m.owner d) d b' j = some s' := ?_
    · exact ⟨fun b' j v h1 h2 => ⟨keep _ _ h1, ((hw.ownKeeps hown hs').1 b' j v h1 h2).2⟩, fun r es c h1 h2 => ⟨keep _ _ h1, hw.maps h2⟩⟩
    intro b' j h1
    unfold appOwn
    split
    · rename_i hc
      obtain ⟨rfl, c1, c2⟩ := hc
      rcases Nat.lt_or_ge j (off + xs.length * e.size) with h3 | h3
      · rcases hmv with rfl | rfl
        · have := (hrest.2 j c1 c2).1
          rw [h1] at this; cases this; exact absurd rfl hs'
        · -- a frozen cell has no owner, if there is one
          exfalso
          have hpos : 0 < e.size := by
            rcases Nat.eq_zero_or_pos e.size with h0 | h0
            · rw [h0] at h3; omega
            · exact h0
          have hi : (j - off) / e.size < xs.length := by rw [Nat.div_lt_iff_lt_mul hpos]; omega
          obtain ⟨es, g1, g2, g3⟩ := hrow _ hi
          have hmod := Nat.mod_lt (j - off) hpos
          have := (g2 ((j - off) % e.size) es[(j - off) % e.size] (List.getElem?_eq_getElem (by omega))).1
          have e1 : off + (j - off) / e.size * e.size + (j - off) % e.size = j := by
            have := Nat.div_add_mod' (j - off) e.size; omega
          rw [e1, h1] at this; cases this
      · have := (tailOwn j h3 c2).1
        rw [h1] at this; cases this; exact absurd rfl hs'
    · exact h1
  -- the old entry
  have h1 : St N Z own β (σ.set s (afterApp m ver e xs)) a w := by
    refine h.go (Frm.refl _ _ _) (fun _ _ _ _ => rfl) (Keeps.refl _ _) ?_ rfl ?_
    · intro s'
      show Evo β β s' (σ.mem s') (upd σ.mem s _ s')
      rw [upd_eq]; split
      · rename_i e; subst e; rw [hm]
        rcases hmv with rfl | rfl
        · exact Evo.gone
        · exact Evo.setOwn rfl rfl
      · exact Evo.same _ rfl
    · intro s'
      show RepE Z own w β s' (upd σ.mem s _ s')
      rw [upd_eq]; split
      · rename_i e; subst e
        rcases hmv with rfl | rfl
        · trivial
        · exact ⟨_, cap, hβ, by omega, hcap, by simp only [big]; omega, .inr ⟨b, off, rfl, hrow, trivial⟩⟩
      · exact h.mems s'
  have hver : nextVer ((σ.set s (afterApp m ver e xs)).mem d) = nextVer (σ.mem d) := by
    show nextVer (upd σ.mem s _ d) = _
    rw [upd_eq]; split
    · rename_i e; subst e; rw [hm]
      rcases hmv with rfl | rfl <;> rfl
    · rfl
  rw [← hver]
  refine h1.newSite' (hw.frame hwr) ?_ hk ?_ (fun β' => Evo.newOwn _ _ _ _) ?_
  · intro b' j hlt hio
    unfold appOwn
    split
    · rename_i hc
      obtain ⟨rfl, c1, c2⟩ := hc
      rcases Nat.lt_or_ge j (off + xs.length * e.size) with h3 | h3
      · rcases hmv with rfl | rfl
        · rcases (hrest.2 j c1 c2).2.1 with h4 | h4
          · omega
          · exact absurd h4 hio
        · rw [if_pos (by omega)]
          have hpos : 0 < e.size := by
            rcases Nat.eq_zero_or_pos e.size with h0 | h0
            · rw [h0] at h3; omega
            · exact h0
          have hi : (j - off) / e.size < xs.length := by rw [Nat.div_lt_iff_lt_mul hpos]; omega
          obtain ⟨es, g1, g2, g3⟩ := hrow _ hi
          have hmod := Nat.mod_lt (j - off) hpos
          have := (g2 ((j - off) % e.size) es[(j - off) % e.size] (List.getElem?_eq_getElem (by omega))).1
          have e1 : off + (j - off) / e.size * e.size + (j - off) % e.size = j := by
            have := Nat.div_add_mod' (j - off) e.size; omega
          rw [e1] at this
          exact this.symm
      · rcases (tailOwn j h3 c2).2.1 with h4 | h4
        · omega
        · exact absurd h4 hio
    · rfl
  · intro s' hs'
    show RepE Z _ w' β s' (upd σ.mem s _ s')
    rw [upd_eq]; split
    · rename_i eq; subst eq
      rcases hmv with rfl | rfl
      · trivial
      · exact ⟨_, cap, hβ, by omega, hcap, by simp only [big]; omega, .inr ⟨b, off, rfl, hrow.keeps hk (fun b o v q1 q2 => hk b o v q1 q2), trivial⟩⟩
    · rename_i eq
      exact (h.mems s').keeps hk (hks s' eq) hw.shps rfl
  · have hlen : (xs ++ ys).length = xs.length + ys.length := by simp
    refine RepE.ofRow (by rcases hmv with rfl | rfl <;> rfl) ⟨_, cap, by rw [upd_eq, if_pos rfl, hlen], by rw [hlen]; exact hle, hcap, by rw [hlen]; simp only [big]; omega, .inr ⟨b, off, rfl, ?_, ?_⟩⟩
    · intro i hi
      rw [hlen] at hi
      have hib : i * e.size + e.size ≤ (xs.length + ys.length) * e.size := by rw [← Nat.succ_mul]; exact Nat.mul_le_mul_right _ hi
      rcases Nat.lt_or_ge i xs.length with h3 | h3
      · obtain ⟨es, g1, g2, g3⟩ := hrow i h3
        have hib2 : i * e.size + e.size ≤ xs.length * e.size := by rw [← Nat.succ_mul]; exact Nat.mul_le_mul_right _ h3
        refine ⟨es, g1, ?_, by rw [List.getElem_append_left h3]; exact g3.keeps hk⟩
        intro j v hj
        have hjl : j < es.length := (List.getElem?_eq_some_iff.1 hj).1
        obtain ⟨f1, f2⟩ := g2 j v hj
        refine ⟨?_, by rw [hw.outside _ (by omega)]; exact f2⟩
        unfold appOwn
        rw [if_pos ⟨rfl, by omega, by omega⟩, if_pos (by omega)]
      · have hi2 : i - xs.length < ys.length := by omega
        have g3 := hye.2 (i - xs.length) hi2
        refine ⟨_, g3.length, ?_, by rw [List.getElem_append_right h3]; exact g3.keeps hk⟩
        intro j v hj
        rw [List.getElem?_take] at hj
        split at hj
        · rename_i hjs
          rw [List.getElem?_drop] at hj
          have e1 : i * e.size = xs.length * e.size + (i - xs.length) * e.size := by rw [← Nat.add_mul]; congr 1; omega
          refine ⟨?_, ?_⟩
          · unfold appOwn
            rw [if_pos ⟨rfl, by omega, by omega⟩, if_pos (by omega)]
          · have := hw.inside _ v hj
            rwa [show off + xs.length * e.size + ((i - xs.length) * e.size + j) = off + i * e.size + j by omega] at this
        · cases hj
    · have cells : ∀ j, off ≤ j → j < off + cap * e.size → (own b j = some s ∧ Z.wr b j ∧ (∃ v, w.cell? ⟨b, j, none⟩ = some v) ∧ w.frozen? ⟨b, j, none⟩ = false) →
          Z.wr b j ∧ (∃ v, w'.cell? ⟨b, j, none⟩ = some v) ∧ w'.frozen? ⟨b, j, none⟩ = false := by
        rintro j c1 c2 ⟨d1, d2, ⟨v, d3⟩, d4⟩
        refine ⟨d2, ?_, by rw [hw.frozen]; exact d4⟩
        rw [hw.cell]
        split
        · exact ⟨_, List.getElem?_eq_getElem (by omega)⟩
        · exact ⟨v, d3⟩
      rw [hlen]
      rcases hmv with rfl | rfl
      · refine ⟨hw.shps _ _ hrest.1, ?_⟩
        intro j c1 c2
        refine ⟨?_, cells j c1 c2 (hrest.2 j c1 c2)⟩
        unfold appOwn
        rw [if_pos ⟨rfl, c1, c2⟩]
        split <;> rfl
      · intro j c1 c2
        refine ⟨?_, cells j (by omega) c2 (tailOwn j (by omega) c2)⟩
        unfold appOwn
        rw [if_pos ⟨rfl, by omega, c2⟩, if_neg (by omega)]

end
end Go.Re
