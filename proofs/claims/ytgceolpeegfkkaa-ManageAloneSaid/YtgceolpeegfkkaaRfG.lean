/- Reflection, part AG: what an argument reads as. -/
import Derived.Test.YtgceolpeegfkkaaRfF
import Derived.DataReads
import Derived.ChangeReads
import Derived.SizedLaws
namespace Go.Re
set_option linter.unusedVariables false
set_option linter.unusedSimpArgs false

theorem mapM_each {α β : Type} {f : α → Option β} : ∀ {l : List α} {xs : List β}, l.mapM f = some xs → xs.length = l.length ∧ ∀ i (h : i < l.length) (h' : i < xs.length), f l[i] = some xs[i]
  | [], xs, h => by
    simp at h; subst h
    exact ⟨rfl, fun i h => by simp at h⟩
  | a :: l, xs, h => by
    rw [List.mapM_cons] at h
    obtain ⟨y, h1, h2⟩ := Option.bind_eq_some_iff.1 h
    obtain ⟨ys, h3, h4⟩ := Option.bind_eq_some_iff.1 h2
    cases h4
    obtain ⟨h5, h6⟩ := mapM_each h3
    refine ⟨by simp [h5], fun i hi hi' => ?_⟩
    cases i with
    | zero => exact h1
    | succ i => exact h6 i (by simpa using hi) (by simpa using hi')

theorem pick_list {α : Type} (p : Nat → α → Prop) : ∀ (n : Nat), (∀ i, i < n → ∃ y, p i y) → ∃ ys : List α, ys.length = n ∧ ∀ i (h : i < ys.length), p i ys[i]
  | 0, _ => ⟨[], rfl, fun i h => by simp at h⟩
  | n + 1, h => by
    obtain ⟨ys, h1, h2⟩ := pick_list p n fun i hi => h i (by omega)
    obtain ⟨y, hy⟩ := h n (by omega)
    refine ⟨ys ++ [y], by simp [h1], fun i hi => ?_⟩
    rcases Nat.lt_or_ge i ys.length with h3 | h3
    · rw [List.getElem_append_left h3]; exact h2 i h3
    · have : i = ys.length := by simp at hi; omega
      subst this
      rw [List.getElem_append_right (Nat.le_refl _)]
      simp [h1] at hy ⊢; exact hy

def noOwn : Own := fun _ _ => none

theorem okN_of_wf {k : IntKind} {n : Int} (hg : (Ty.int k).good = true) (h : (Lit.int k n).wf = true) : okN k n = true := by
  simp only [Lit.wf, Bool.and_eq_true, decide_eq_true_eq] at h
  obtain ⟨h1, h2⟩ := h
  cases k <;> first | (simp [Ty.good] at hg; done) | (simp [IntKind.min, IntKind.max, IntKind.signed, IntKind.bits] at h1 h2; simp [okN]; omega)

section
variable {P : Program} {ty : Nat → Option Ty} {H : Type} {enc : TypeId × Value → H} {W : World}

theorem weightsAll_mem {t : TypeId} {d : DataW H} : ∀ {l : List (DataW H)}, d ∈ l → ∀ n ∈ DataW.weights P t d, n ∈ DataW.weightsAll P t l
  | [], h, _, _ => by cases h
  | x :: r, h, n, hn => by
    unfold DataW.weightsAll
    rcases List.mem_cons.1 h with h | h
    · subst h; exact List.mem_append_left _ hn
    · exact List.mem_append_right _ (weightsAll_mem h n hn)

theorem trod_bool {fuel t : Nat} {cs : List Value} {d : DataW H} {ps : List MemPlace} (hd : P.underlying t = some .bool) (h : DataW.trod enc P W 0 (fun _ => true) true (fuel + 1) t cs = some (d, ps)) :
    ∃ b, cs = [.bool b] := by
  unfold DataW.trod at h
  rw [hd] at h
  split at h <;> simp_all

theorem trod_int {fuel t : Nat} {cs : List Value} {d : DataW H} {ps : List MemPlace} {k : IntKind} (hd : P.underlying t = some (.int k)) (h : DataW.trod enc P W 0 (fun _ => true) true (fuel + 1) t cs = some (d, ps)) :
    ∃ n, cs = [.int k n] ∧ (Lit.int k n).wf = true := by
  unfold DataW.trod at h
  rw [hd] at h
  split at h <;> simp_all

theorem trod_str {fuel t : Nat} {cs : List Value} {d : DataW H} {ps : List MemPlace} (hd : P.underlying t = some .string) (h : DataW.trod enc P W 0 (fun _ => true) true (fuel + 1) t cs = some (d, ps)) :
    ∃ s : ByteArray, cs = [.string s] ∧ d = .lit (.string s.data.toList) := by
  unfold DataW.trod at h
  rw [hd] at h
  split at h <;> simp_all

theorem trod_struct {fuel t : Nat} {cs : List Value} {d : DataW H} {ps : List MemPlace} {fs : Array Field} (hd : P.underlying t = some (.struct fs)) (h : DataW.trod enc P W 0 (fun _ => true) true (fuel + 1) t cs = some (d, ps)) :
    cs.length = P.cellsOf t ∧ ∃ xs, (fs.toList.mapM fun f => DataW.trod enc P W 0 (fun _ => true) true fuel f.type ((cs.drop f.offset).take (P.cellsOf f.type))) = some xs ∧ d = .agg (xs.map (·.1)) := by
  unfold DataW.trod at h
  rw [hd] at h
  simp only at h
  split at h
  · rename_i hl
    obtain ⟨xs, h1, h2⟩ := Option.map_eq_some_iff.1 h
    exact ⟨hl, xs, h1, by cases h2; rfl⟩
  · cases h

theorem trod_array {fuel t n e : Nat} {cs : List Value} {d : DataW H} {ps : List MemPlace} (hd : P.underlying t = some (.array n e)) (h : DataW.trod enc P W 0 (fun _ => true) true (fuel + 1) t cs = some (d, ps)) :
    cs.length = P.cellsOf t ∧ ∃ xs, ((List.range n).mapM fun i => DataW.trod enc P W 0 (fun _ => true) true fuel e ((cs.drop (i * P.cellsOf e)).take (P.cellsOf e))) = some xs ∧ d = .agg (xs.map (·.1)) := by
  unfold DataW.trod at h
  rw [hd] at h
  simp only at h
  split at h
  · rename_i hl
    obtain ⟨xs, h1, h2⟩ := Option.map_eq_some_iff.1 h
    exact ⟨hl, xs, h1, by cases h2; rfl⟩
  · cases h

theorem trod_slice {fuel t e : Nat} {cs : List Value} {d : DataW H} {ps : List MemPlace} (hd : P.underlying t = some (.slice e)) (h : DataW.trod enc P W 0 (fun _ => true) true (fuel + 1) t cs = some (d, ps)) :
    cs = [.slice none 0 0] ∨ ∃ (a : Addr) (len cap : Nat) (xs ys : List (DataW H × List MemPlace)), cs = [.slice (some a) len cap] ∧ len ≤ cap ∧ cap ≤ maxLen ∧ d = .slice (xs.map (·.1)) (ys.map (·.1)) ∧
      ((List.range len).mapM fun i => (W.cells? 0 (a.add (i * P.cellsOf e)) (P.cellsOf e)).bind (DataW.trod enc P W 0 (fun _ => true) true fuel e)) = some xs ∧
      ((List.range (cap - len)).mapM fun j => (W.cells? 0 (a.add ((len + j) * P.cellsOf e)) (P.cellsOf e)).bind (DataW.trod enc P W 0 (fun _ => true) true fuel e)) = some ys := by
  unfold DataW.trod at h
  rw [hd] at h
  split at h <;> try (first | (rename_i e1 _; cases e1; done) | (rename_i e1; cases e1; done))
  · exact .inl rfl
  · rename_i e' a len cap e1
    cases e1
    right
    simp only [if_true] at h
    split at h
    · rename_i hc
      obtain ⟨xs, h1, h2⟩ := Option.bind_eq_some_iff.1 h
      obtain ⟨ys, h3, h4⟩ := Option.map_eq_some_iff.1 h2
      exact ⟨a, len, cap, xs, ys, rfl, hc.2.1, hc.2.2, by cases h4; rfl, h1, h3⟩
    · cases h
  · cases h

theorem fields_rep {fuel : Nat} (hcells : ∀ {t τ}, ty t = some τ → P.cellsOf t = τ.size)
    (ih : ∀ (t : Nat) (τ : Ty) (cs : List Value) (d : DataW H) (ps : List MemPlace), ty t = some τ → DataW.trod enc P W 0 (fun _ => true) true fuel t cs = some (d, ps) →
      (∀ n ∈ DataW.weights P t d, n ≤ reachBytes) → ∃ x : τ.D, RepC noOwn W τ cs x) {cs : List Value} :
    ∀ (fs : List Field) (off : Nat) (b : Ty) (xs : List (DataW H × List MemPlace)), fieldsOk ty off fs b →
      (fs.mapM fun f => DataW.trod enc P W 0 (fun _ => true) true fuel f.type ((cs.drop f.offset).take (P.cellsOf f.type))) = some xs →
      (∀ n ∈ DataW.weightsEach P (fs.map (·.type)) (xs.map (·.1)), n ≤ reachBytes) → cs.length = off + b.size → ∃ x : b.D, RepC noOwn W b (cs.drop off) x
  | [], off, .unit, _, _, _, _, hl => ⟨(), List.drop_eq_nil_of_le (by simp [Ty.size] at hl; omega)⟩
  | f :: fs, off, .pair a b, xs, ⟨h1, h2, _, h3⟩, hm, hw, hl => by
    rw [List.mapM_cons] at hm
    obtain ⟨y, h4, h5⟩ := Option.bind_eq_some_iff.1 hm
    obtain ⟨ys, h6, h7⟩ := Option.bind_eq_some_iff.1 h5
    cases h7
    simp only [List.map_cons, DataW.weightsEach, List.mem_append] at hw
    simp only [Ty.size] at hl
    obtain ⟨x1, g1⟩ := ih f.type a _ y.1 y.2 h2 h4 (fun n hn => hw n (.inl hn))
    obtain ⟨x2, g2⟩ := fields_rep hcells ih fs (off + a.size) b ys h3 h6 (fun n hn => hw n (.inr hn)) (by omega)
    refine ⟨(x1, x2), (cs.drop off).take a.size, cs.drop (off + a.size), ?_, ?_, g2⟩
    · rw [← List.drop_drop, List.take_append_drop]
    · rw [h1, hcells h2] at g1; exact g1
  | [], _, .bool, _, h, _, _, _ => h.elim
  | [], _, .str, _, h, _, _, _ => h.elim
  | [], _, .int _, _, h, _, _, _ => h.elim
  | [], _, .pair _ _, _, h, _, _, _ => h.elim
  | [], _, .st _, _, h, _, _, _ => h.elim
  | [], _, .sl _, _, h, _, _, _ => h.elim
  | [], _, .arr _ _, _, h, _, _, _ => h.elim
  | _ :: _, _, .unit, _, h, _, _, _ => h.elim
  | _ :: _, _, .bool, _, h, _, _, _ => h.elim
  | _ :: _, _, .str, _, h, _, _, _ => h.elim
  | _ :: _, _, .int _, _, h, _, _, _ => h.elim
  | _ :: _, _, .st _, _, h, _, _, _ => h.elim
  | _ :: _, _, .sl _, _, h, _, _, _ => h.elim
  | _ :: _, _, .arr _ _, _, h, _, _, _ => h.elim

theorem trod_rep (hty : ∀ t τ, ty t = some τ → TyOk P ty t τ) (hpos : ∀ t τ, ty t = some τ → 0 < P.bytesOf t ∧ 0 < τ.size) :
    ∀ (fuel t : Nat) (τ : Ty) (cs : List Value) (d : DataW H) (ps : List MemPlace), ty t = some τ → DataW.trod enc P W 0 (fun _ => true) true fuel t cs = some (d, ps) →
      (∀ n ∈ DataW.weights P t d, n ≤ reachBytes) → ∃ x : τ.D, RepC noOwn W τ cs x := by
  intro fuel
  induction fuel with
  | zero => intro t τ cs d ps _ h; cases h
  | succ fuel ih =>
    intro t τ cs d ps ht h hw
    have hT := hty t τ ht
    have hcells : ∀ {t τ}, ty t = some τ → P.cellsOf t = τ.size := by
      intro t τ ht
      obtain ⟨i, h1, h2, _⟩ := (hty t τ ht).info
      simp [Program.cellsOf, h1, h2]
    have hd := hT.desc
    cases τ with
    | bool => obtain ⟨b, rfl⟩ := trod_bool hd h; exact ⟨b, rfl⟩
    | str =>
      obtain ⟨s, rfl, rfl⟩ := trod_str hd h
      refine ⟨s.data.toList.map UInt8.toBitVec, s, rfl, rfl, ?_⟩
      have := hw s.data.toList.length (by simp [DataW.weights])
      have h2 : reachBytes ≤ big := by decide
      simp only [List.length_map]; omega
    | int k =>
      obtain ⟨n, rfl, h1⟩ := trod_int hd h
      obtain ⟨h2, h3⟩ := ofI_toI (okN_of_wf hT.good h1)
      exact ⟨ofI k n, by rw [h2], h3⟩
    | unit => exact hd.elim
    | pair a b => exact hd.elim
    | st b =>
      obtain ⟨fs, hu, hf⟩ := hd
      obtain ⟨h1, xs, h2, rfl⟩ := trod_struct hu h
      have hw : ∀ n ∈ DataW.weightsEach P (fs.toList.map (·.type)) (xs.map (·.1)), n ≤ reachBytes := by
        intro n hn; exact hw n (by rw [DataW.weights, hu]; exact hn)
      obtain ⟨x, hx⟩ := fields_rep (cs := cs) hcells ih fs.toList 0 b xs hf h2 hw (by rw [h1, hcells ht]; simp [Ty.size])
      exact ⟨x, by rw [List.drop_zero] at hx; exact hx⟩
    | arr n e =>
      obtain ⟨te, hu, he⟩ := hd
      obtain ⟨h1, xs, h2, rfl⟩ := trod_array hu h
      have hw : ∀ n ∈ DataW.weightsAll P te (xs.map (·.1)), n ≤ reachBytes := by
        intro n hn; exact hw n (by rw [DataW.weights, hu]; exact hn)
      obtain ⟨h3, h4⟩ := mapM_each h2
      have hlen : xs.length = n := by simpa using h3
      obtain ⟨ys, g1, g2⟩ := pick_list (fun i (y : e.D) => RepC noOwn W e ((cs.drop (i * e.size)).take e.size) y) n (by
        intro i hi
        have h5 := h4 i (by simpa using hi) (by omega)
        simp only [List.getElem_range] at h5
        rw [hcells he] at h5
        exact ih te e _ _ _ he h5 fun m hm => hw m (weightsAll_mem (List.mem_map.2 ⟨_, List.getElem_mem _, rfl⟩) m hm))
      exact ⟨ys, g1, by rw [h1, hcells ht]; rfl, fun i hi => g2 i hi⟩
    | sl e =>
      obtain ⟨te, hu, he⟩ := hd
      rcases trod_slice hu h with rfl | ⟨a, len, cap, xs, zs, rfl, h1, h2, rfl, h3, h4⟩
      · exact ⟨[], none, 0, rfl, Nat.le_refl _, by omega, Nat.zero_le _, .inl rfl⟩
      · obtain ⟨hb, hs⟩ := hpos te e he
        have hwx : ∀ n ∈ DataW.weightsAll P te (xs.map (·.1)), n ≤ reachBytes := by
          intro n hn; exact hw n (by rw [DataW.weights, hu]; simp [hn])
        have hwl := hw (((xs.map (·.1)).length + (zs.map (·.1)).length) * P.bytesOf te) (by rw [DataW.weights, hu]; simp)
        obtain ⟨g1, g2⟩ := mapM_each h3
        obtain ⟨k1, k2⟩ := mapM_each h4
        simp only [List.length_range] at g1 k1
        have hlen : len ≤ big := by
          have h5 : reachBytes ≤ big := by decide
          simp only [List.length_map, g1] at hwl
          have h6 := Nat.mul_le_mul_left (len + zs.length) hb
          omega
        have hmax : cap < 9223372036854775808 := by
          have : maxLen < 9223372036854775808 := by decide
          omega
        have helem : ∀ i (hi : i < len), ∃ es, W.cells? 0 (a.add (i * e.size)) e.size = some es ∧ ∃ x : e.D, RepC noOwn W e es x := by
          intro i hi
          have h5 := g2 i (by simpa using hi) (by omega)
          simp only [List.getElem_range, hcells he] at h5
          obtain ⟨es, h6, h7⟩ := Option.bind_eq_some_iff.1 h5
          exact ⟨es, h6, ih te e es _ _ he h7 fun m hm => hwx m (weightsAll_mem (List.mem_map.2 ⟨_, List.getElem_mem _, rfl⟩) m hm)⟩
        rcases Nat.eq_zero_or_pos cap with hc | hc
        · have : len = 0 := by omega
          subst this
          exact ⟨[], some a, cap, rfl, h1, hmax, Nat.zero_le _, .inl hc⟩
        · have hspot : a.spot = none := by
            have : ∃ es, W.cells? 0 (a.add (0 * e.size)) e.size = some es := by
              rcases Nat.eq_zero_or_pos len with h0 | h0
              · subst h0
                have h5 := k2 0 (by simpa using hc) (by omega)
                simp only [List.getElem_range, hcells he, Nat.add_zero] at h5
                obtain ⟨es, h6, _⟩ := Option.bind_eq_some_iff.1 h5
                exact ⟨es, h6⟩
              · obtain ⟨es, h6, _⟩ := helem 0 h0; exact ⟨es, h6⟩
            obtain ⟨es, h6⟩ := this
            obtain ⟨_, h7, h8⟩ := World.cells?_some h6
            have h9 := h8 0 hs
            rw [List.getElem?_eq_getElem (by omega)] at h9
            simp only [Nat.zero_mul, Addr.add, if_true] at h9
            unfold World.cell? at h9
            split at h9
            · split at h9
              · cases h9
              · rename_i hn; simpa using hn
            · cases h9
          obtain ⟨b, o, sp⟩ := a
          have hspot : sp = none := hspot
          subst hspot
          have hadd : ∀ k, (⟨b, o, none⟩ : Addr).add k = ⟨b, o + k, none⟩ := by
            intro k; unfold Addr.add; split
            · rename_i h; subst h; rfl
            · rfl
          obtain ⟨ys, q1, q2⟩ := pick_list (fun i (y : e.D) => ∃ es, W.cells? 0 ⟨b, o + i * e.size, none⟩ e.size = some es ∧ RepC noOwn W e es y) len (by
            intro i hi
            obtain ⟨es, h6, x, h7⟩ := helem i hi
            rw [hadd] at h6
            exact ⟨x, es, h6, h7⟩)
          refine ⟨ys, some ⟨b, o, none⟩, cap, by rw [q1], by omega, hmax, by omega, .inr ⟨b, o, rfl, fun i hi => ?_⟩⟩
          obtain ⟨es, h6, h7⟩ := q2 i hi
          obtain ⟨_, h8, h9⟩ := World.cells?_some h6
          refine ⟨es, h8, fun j v hj => ⟨rfl, ?_⟩, h7⟩
          have hj' : j < es.length := (List.getElem?_eq_some_iff.1 hj).1
          have := h9 j (by omega)
          have hadd' : (⟨b, o + i * e.size, none⟩ : Addr).add j = ⟨b, o + i * e.size + j, none⟩ := by
            unfold Addr.add; split
            · rename_i h; subst h; rfl
            · rfl
          rw [hadd', hj] at this
          exact this

/-- An argument as a datum. -/
theorem arg_rep (hty : ∀ t τ, ty t = some τ → TyOk P ty t τ) (hpos : ∀ t τ, ty t = some τ → 0 < P.bytesOf t ∧ 0 < τ.size) {t : Nat} {τ : Ty} {v : Value} {d : DataW H} {ps : List MemPlace} {base : Nat}
    (ht : ty t = some τ) (hok : Value.okWide P W .any base t v) (h : DataW.Trod enc P W 0 (fun _ => true) true t v d ps) (hw : ∀ n ∈ DataW.weights P t d, n ≤ reachBytes) : ∃ x : τ.D, RepV noOwn W τ v x := by
  have hT := hty t τ ht
  obtain ⟨fuel, hf⟩ := h
  obtain ⟨x, hx⟩ := trod_rep hty hpos fuel t τ _ d ps ht hf hw
  refine ⟨x, hT.isVal, v.cells.toList, ?_, hx⟩
  have hd := hT.desc
  unfold Value.okWide at hok
  have plain : (∀ cs, v ≠ .agg cs) → τ.isAgg = false → v = mkV τ v.cells.toList := by
    intro hv ha
    have : v.cells = #[v] := by
      unfold Value.cells
      split
      · exact absurd rfl (hv _)
      · rfl
    rw [this]
    simp [mkV, ha]
  cases τ with
  | bool =>
    have hd : P.underlying t = some .bool := hd
    rw [hd] at hok
    refine plain (fun cs e => ?_) rfl
    subst e
    simp [Cell.okWide, Cell.ok, hd] at hok
  | str =>
    have hd : P.underlying t = some .string := hd
    rw [hd] at hok
    refine plain (fun cs e => ?_) rfl
    subst e
    simp [Cell.okWide, Cell.ok, hd] at hok
  | int k =>
    have hd : P.underlying t = some (.int k) := hd
    rw [hd] at hok
    refine plain (fun cs e => ?_) rfl
    subst e
    simp [Cell.okWide, Cell.ok, hd] at hok
  | sl e =>
    obtain ⟨te, hd, _⟩ := hd
    rw [hd] at hok
    refine plain (fun cs e => ?_) rfl
    subst e
    simp [Cell.okWide, Cell.ok, hd] at hok
  | st b =>
    obtain ⟨fs, hd, _⟩ := hd
    rw [hd] at hok
    obtain ⟨cs, rfl, _⟩ := hok
    simp [mkV, Ty.isAgg, Value.cells]
  | arr n e =>
    obtain ⟨te, hd, _⟩ := hd
    rw [hd] at hok
    obtain ⟨cs, rfl, _⟩ := hok
    simp [mkV, Ty.isAgg, Value.cells]
  | unit => exact hd.elim
  | pair a b => exact hd.elim

def posB (P : Program) : List (Nat × Ty) → Bool
  | [] => true
  | p :: r => Nat.blt 0 (P.bytesOf p.1) && (Nat.blt 0 p.2.size && posB P r)
theorem posB_ok : ∀ {l : List (Nat × Ty)}, posB P l = true → ∀ p ∈ l, 0 < P.bytesOf p.1 ∧ 0 < p.2.size
  | [], _, _, h => by cases h
  | q :: r, h, p, hp => by
    simp only [posB, Bool.and_eq_true] at h
    rcases List.mem_cons.1 hp with hp | hp
    · subst hp; exact ⟨by simpa [Nat.blt_eq] using h.1, by simpa [Nat.blt_eq] using h.2.1⟩
    · exact posB_ok h.2.2 p hp

end
end Go.Re
