/- Reflection, part M: pieces, rows that are made, structs that are built. -/
import Derived.Test.YtibfmdehmdploaaReL
namespace Go.Re
set_option linter.unusedVariables false
set_option linter.unusedSimpArgs false
open Go.RowKit (Below)

section
variable {P : Program} {E : Env} {N : Nat} {Z : Base} {own : Own} {β : Conc} {σ : S} {a : Act} {w : World} {o : Oper}

theorem bound_val {x : Option Operand} {v : Option Int} (h : (x = none ∧ v = none) ∨ ∃ op kd i, x = some op ∧ a.eval op = .int kd i ∧ v = some i) :
    (x.map a.eval = none ∧ v = none) ∨ ∃ kd i, x.map a.eval = some (.int kd i) ∧ v = some i := by
  rcases h with ⟨rfl, rfl⟩ | ⟨op, kd, i, rfl, h, rfl⟩
  · exact .inl ⟨rfl, rfl⟩
  · exact .inr ⟨kd, i, by simp [h], rfl⟩

theorem slice_did (hE : EnvOk P E) (h : St N Z own β σ a w) {t : Nat} {v : V} {u : Value} {lo hi : Option Operand} {lo' hi' : Option Int} {r : V × S} (hu : RepS own w β σ.mem v u)
    (hlo : (lo.map a.eval = none ∧ lo' = none) ∨ ∃ kd i, lo.map a.eval = some (.int kd i) ∧ lo' = some i) (hhi : (hi.map a.eval = none ∧ hi' = none) ∨ ∃ kd i, hi.map a.eval = some (.int kd i) ∧ hi' = some i)
    (he : execOp a.eval o = (do pure (.value (← Instr.sliceAt t u (lo.map a.eval) (hi.map a.eval) none)))) (hr : (sliceM E t v lo' hi').run σ = some r) : Did P N Z o a w r.2 r.1 := by
  have bounds : ∀ {n : Nat}, okSlc lo' hi' n = true → ∃ l m : Nat, l ≤ m ∧ m ≤ n ∧ (∀ {α : Type} (xs : List α), xs.length = n → slcO xs lo' hi' = (xs.take m).drop l) ∧
      ∀ (isSl : Bool) (cap : Nat), n ≤ cap → (Instr.sliceBounds isSl n cap (lo.map a.eval) (hi.map a.eval) none).run P w = .ok (l, m, cap) w := by
    intro n hok
    obtain ⟨l, m, h1, h2, h3, h4, h5, h6, h7⟩ := okSlc_bounds hok
    refine ⟨l, m, h5, h6, h7, fun isSl cap hc => sliceBounds_run h5 h6 hc ?_ ?_⟩
    · rcases hlo with ⟨e1, e2⟩ | ⟨kd, i, e1, e2⟩
      · exact .inl ⟨e1, h2 e2⟩
      · exact .inr ⟨kd, by rw [e1, h1 i e2]⟩
    · rcases hhi with ⟨e1, e2⟩ | ⟨kd, i, e1, e2⟩
      · exact .inl ⟨e1, h4 e2⟩
      · exact .inr ⟨kd, by rw [e1, h3 i e2]⟩
  unfold sliceM at hr
  split at hr
  · rename_i ht
    obtain ⟨x, h1, h2⟩ := asDr_run h hu hr
    obtain ⟨s, rfl, h3, h4⟩ := RepV.str.1 h1.str
    obtain ⟨y, h5, h6⟩ := fin_run h2
    have hl : x.length = s.size := by rw [← h3]; simp
    obtain ⟨l, m, g1, g2, g3, g4⟩ := bounds (chk_some h5)
    have hd : P.underlying t = some .string := (hE.ty t _ ht).desc
    rw [h6]
    refine did_value (exec_v he (u := .string (s.extract l m)) (w' := w) ?_) h ?_
    · have := g4 false s.size (by omega)
      rw [hl] at this
      simp [Instr.sliceAt, run_underlying hd, Instr.slice, this]
    · rw [g3 x rfl]
      refine RepV.str.2 ⟨_, rfl, ?_, ?_⟩
      · rw [← h3]
        simp [ByteArray.data_extract, List.extract_eq_take_drop, List.map_take, List.map_drop, List.drop_take]
      · simp; omega
  · rename_i e ht
    obtain ⟨x, fr, hf, hA, hR, h2⟩ := asD_run h hu hr
    obtain ⟨y, h5, h6⟩ := fin_run h2
    obtain ⟨own1, s1, k1, v1⟩ := h.freeze hf
    have hV := v1 _ _ _ hA
    obtain ⟨ad, cap, q, rfl, e2, e3, e4, e5⟩ := hR.q
    obtain ⟨l, m, g1, g2, g3, g4⟩ := bounds (chk_some h5)
    obtain ⟨te, hd, hte⟩ := (hE.ty t _ ht).desc
    have hT := hE.ty te e hte
    rw [h6]
    simp only [writes_fixed]
    refine did_value (exec_v he (u := .slice (if cap = l then ad else ad.map (·.add (l * e.size))) (m - l) (cap - l)) (w' := w) ?_) s1 ?_
    · have := g4 true cap e2
      simp [Instr.sliceAt, run_underlying hd, Instr.slice, this, hT.cells]
    · rw [g3 x rfl]
      exact (hV.piece g1 g2).2.2
  · cases hr

/-! ### rows that are made -/
theorem ElemsC.of_arr {n : Nat} {e : Ty} {cs : List Value} {x : List e.D} (h : RepC own w (.arr n e) cs x) : ElemsC own w e cs x ∧ x.length = n ∧ cs.length = n * e.size :=
  ⟨⟨by rw [h.1, h.2.1]; exact Nat.le_refl _, h.2.2⟩, h.1, h.2.1⟩

theorem flat_get {α : Type} (z : List α) : ∀ (n j : Nat), ((List.replicate n z).flatten)[j]? = if j < n * z.length then z[j % z.length]? else none
  | 0, j => by simp
  | n + 1, j => by
    rw [List.replicate_succ, List.flatten_cons]
    rcases Nat.lt_or_ge j z.length with h | h
    · rw [List.getElem?_append_left h, if_pos (by rw [Nat.succ_mul]; omega), Nat.mod_eq_of_lt h]
    · rw [List.getElem?_append_right h, flat_get z n]
      have e1 : (j - z.length) % z.length = j % z.length := (Nat.mod_eq_sub_mod h).symm
      rw [e1]
      by_cases h2 : j - z.length < n * z.length
      · rw [if_pos h2, if_pos (by rw [Nat.succ_mul]; omega)]
      · rw [if_neg h2, if_neg (by rw [Nat.succ_mul]; omega)]

theorem zeros_eq {τ : Ty} (hv : τ.isVal = true) (hg : τ.good = true) (n : Nat) : (Array.range (n * τ.size)).map (fun i => ((mkV τ (zeroC τ)).cells)[i % ((mkV τ (zeroC τ)).cells).size]!) = (zeroC (.arr n τ)).toArray := by
  have hz := zero_rep (own := fun _ _ => none) (w := default) hg
  have hc := mkV_cells hv hz
  have hl := hz.length
  have hcs : (mkV τ (zeroC τ)).cells = (zeroC τ).toArray := Array.ext' hc
  rw [hcs]
  apply Array.ext'
  simp only [Array.toList_map, Array.toList_range]
  show _ = (List.replicate n (zeroC τ)).flatten
  apply List.ext_getElem?
  intro j
  rw [List.getElem?_map, flat_get, hl]
  by_cases hj : j < n * τ.size
  · have hs : 0 < τ.size := by
      rcases Nat.eq_zero_or_pos τ.size with h0 | h0
      · rw [h0, Nat.mul_zero] at hj; omega
      · exact h0
    have hm : j % τ.size < (zeroC τ).length := by rw [hl]; exact Nat.mod_lt _ hs
    rw [List.getElem?_range hj, Option.map_some, if_pos hj, List.getElem?_eq_getElem hm]
    simp [hl, List.getElem?_eq_getElem hm]
  · rw [List.getElem?_eq_none (by simp; omega), if_neg hj]
    rfl

theorem own_did (h : St N Z own β σ a w) {d : Nat} {w' : World} {τ : Ty} {xs : List τ.D} {c : List Value} (ha : Alloc1 w w' c) (hr : ElemsC own w τ c xs) (cap : Nat) (h1 : xs.length ≤ cap)
    (h2 : cap < 9223372036854775808) (h3 : xs.length ≤ big) (h4 : c.length = cap * τ.size)
    (hrun : (execOp a.eval o).run P w = .ok (.value (.slice (some ⟨w.heap.size, 0, none⟩) xs.length cap)) w') :
    Did P N Z o a w (σ.set d (.own (nextVer (σ.mem d)) τ xs .full)) (.ref d (nextVer (σ.mem d))) :=
  did_value hrun (h.newRow ha d hr cap h1 h2 h3 h4) (ref_new _ _ _ _ _ _ _ _ _ _)

theorem make_did (hE : EnvOk P E) (h : St N Z own β σ a w) {d t : Nat} {e : Ty} {k k' : IntKind} {n c : Int} (ht : E.ty t = some (.sl e)) (hc : (decide (0 ≤ n) && decide (n ≤ c) && decide (c ≤ (lim : Int))) = true)
    (he : execOp a.eval o = (do pure (.value (← Instr.makeSlice t (.int k n) (.int k' c))))) :
    Did P N Z o a w (σ.set (site d 0) (.own (nextVer (σ.mem (site d 0))) e (List.replicate n.toNat e.zero) .full)) (.ref (site d 0) (nextVer (σ.mem (site d 0)))) := by
  rw [Bool.and_eq_true, Bool.and_eq_true] at hc
  have h0 : 0 ≤ n := of_decide_eq_true hc.1.1
  have h1 : n ≤ c := of_decide_eq_true hc.1.2
  have h2 : c ≤ 2147483648 := of_decide_eq_true hc.2
  obtain ⟨te, hd, hte⟩ := (hE.ty t _ ht).desc
  have hT := hE.ty te e hte
  obtain ⟨i, g1, g2, g3, g4⟩ := hT.info
  have hz := zeros_eq hT.isVal hT.good c.toNat
  have w1 : w64 n = n := w64_in (by omega) (by omega)
  have w2 : w64 c = c := w64_in (by omega) (by omega)
  unfold w64 at w1 w2
  have hrepz := zero_rep (own := own) (w := w) (τ := .arr c.toNat e) hT.good
  obtain ⟨q1, q2, q3⟩ := ElemsC.of_arr hrepz
  have hlen : (List.replicate n.toNat e.zero).length = n.toNat := by simp
  have hbytes : ¬ ((i.bytes : Int) * c > 2 ^ 48) := by
    have : (i.bytes : Int) * c ≤ 32768 * 2147483648 := Int.mul_le_mul (by omega) h2 (by omega) (by omega)
    omega
  have el : ElemsC own w e (zeroC (.arr c.toNat e)) (List.replicate n.toNat e.zero) := by
    refine ⟨?_, ?_⟩
    · rw [hlen, q3]; exact Nat.mul_le_mul_right _ (by omega)
    · intro j hj
      rw [hlen] at hj
      have hx : (Ty.zero (.arr c.toNat e)).length = c.toNat := q2
      have := q1.2 j (by rw [hx]; omega)
      have e1 : (Ty.zero (.arr c.toNat e))[j]'(by rw [hx]; omega) = e.zero := by simp [Ty.zero]
      rw [e1] at this
      simpa using this
  refine own_did h (w' := { w with heap := w.heap.push (.cells (zeroC (.arr c.toNat e)).toArray te (0, 0)) }) (alloc1_push w (zeroC (.arr c.toNat e)) te w.drawn) el c.toNat (by rw [hlen]; omega) (by omega) (by rw [hlen]; simp only [big]; omega) q3 ?_
  rw [hlen]
  refine exec_v he ?_
  have hcn : ¬ (c < 0) := by omega
  have hnn : ¬ (n < 0) := by omega
  have hnc : ¬ (n > c) := by omega
  simp only [Instr.makeSlice, Sem.run_bind, run_underlying hd, Result.andThen_ok, asInt, asIntOf, Sem.run_pure, typeInfo, run_program, g1, w1, w2]
  have hcond : ¬ (decide (c < 0) || decide ((i.bytes : Int) * c > 2 ^ 48) || decide (n < 0) || decide (n > c)) = true := by
    simp only [Bool.or_eq_true, decide_eq_true_eq, not_or]
    exact ⟨⟨⟨hcn, hbytes⟩, hnn⟩, hnc⟩
  rw [if_neg hcond]
  simp only [Sem.run_bind, run_askRoom, Result.andThen_ok, hT.cells, Sem.run_ite]
  by_cases hz0 : c.toNat * e.size = 0
  · have e0 : (zeroC (.arr c.toNat e)).toArray = #[] := by
      have : (zeroC (.arr c.toNat e)).length = 0 := by rw [q3]; exact hz0
      rw [List.eq_nil_of_length_eq_zero this]
    rw [if_pos hz0, e0]
    simp [newRow, hz0, Array.range_zero']
  · rw [if_neg hz0]
    simp only [Sem.run_bind, hT.zeroRun, Result.andThen_ok, Sem.run_pure, newRow, run_newObj, hz]

end
end Go.Re
