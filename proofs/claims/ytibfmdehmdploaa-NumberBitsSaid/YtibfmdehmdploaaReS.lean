/- Reflection, part S: append to nil, copy, calls. -/
import Derived.Test.YtibfmdehmdploaaReR
namespace Go.Re
set_option linter.unusedVariables false
set_option linter.unusedSimpArgs false
open Go.RowKit (Below)

section
variable {P : Program} {E : Env} {N : Nat} {Z : Base} {own : Own} {β : Conc} {σ : S} {a : Act} {w : World} {o : Oper}

theorem appendNil_did (hE : EnvOk P E) (h : St N Z own β σ a w) {d t t' ty : Nat} {e : Ty} {ys : List e.D} (ht : E.ty t = some (.sl e))
    {x : Value} (hsrc : Src P own w e x ys) (hu' : ∀ w, (underlying t').run P w = .ok .string w ∨ ∃ te, (underlying t').run P w = .ok (.slice te) w) (hl : ys.length ≤ lim)
    (he : execOp a.eval o = (do pure (.value (← Builtin.append_ #[t, t'] ty #[.slice none 0 0, x])))) :
    Did P N Z o a w (σ.set d (.own (nextVer (σ.mem d)) e ys .full)) (.ref d (nextVer (σ.mem d))) := by
  obtain ⟨te, hd, hte⟩ := (hE.ty t _ ht).desc
  have hT := hE.ty te e hte
  have hl' : ys.length ≤ 2147483648 := hl
  obtain ⟨s1, s2, yc, s3, s4, s5, s6⟩ := hsrc
  have hyc : ∀ w', w'.heap = w.heap → (Builtin.firstCells e.size ys.length x).run P w' = .ok yc.toArray w' := fun w' hw' => by
    have := s6 ys.length (Nat.le_refl _) w' hw'
    rwa [← s3, List.take_length] at this
  have hrun := append_run (P := P) (w := w) (n := 0) (cap := 0) (ad := none) (oc := []) hE (ty := ty) hd hte s1 hu' (by omega) (by omega) hyc (fun w' _ => by simp [Builtin.firstCells])
  simp only [Nat.zero_add] at hrun
  split at hrun
  · rename_i hle
    have hy0 : ys = [] := List.eq_nil_of_length_eq_zero (by omega)
    subst hy0
    refine did_value (exec_v he (u := .slice none 0 0) (w' := w) ?_) (h.newNil d e) (ref_new _ _ _ σ.mem d _ (σ.mem d) e [] .full)
    rw [hrun]; simp
  · obtain ⟨c, c1, c2, hrun⟩ := hrun
    have hz := zeroCells_length hT.isVal hT.good (c - ys.length)
    have ha := alloc1_push w ([] ++ yc ++ (Builtin.zeroCells (mkV e (zeroC e)).cells (c - ys.length)).toList) te (w.drawn + 1)
    have hcl : ([] ++ yc ++ (Builtin.zeroCells (mkV e (zeroC e)).cells (c - ys.length)).toList).length = c * e.size := by
      rw [List.length_append, List.length_append, s3, hz, List.length_nil, Nat.zero_add, ← Nat.add_mul]; congr 1; omega
    have hnil : ElemsC own w e [] ([] : List e.D) := ⟨by simp, fun i h => by simp at h⟩
    have hst2 := append_grow h (d := d) (xs := [] ++ ys) (m := .full) (.inl rfl) ha hcl (hnil.append s4 (by simp)) (by simpa using c1) c2 (by simp only [List.nil_append, big]; omega)
    refine did_value (exec_v he hrun) hst2 (ref_new _ _ _ σ.mem d _ (σ.mem d) e ys .full)

theorem copy_did (hE : EnvOk P E) (h : St N Z own β σ a w) {s ver t t' ty : Nat} {e : Ty} {xs ys : List e.D} (ht : E.ty t = some (.sl e)) (hm : σ.mem s = .own ver e xs .full)
    {x : Value} (hsrc : Src P own w e x ys) (he : execOp a.eval o = (do pure (.value (← Builtin.copy_ #[t, t'] ty #[β s, x])))) :
    Did P N Z o a w (σ.set s (.own ver e (over xs ys) .full)) (.val (.int .i64) ((min ys.length xs.length : Nat) : Int)) := by
  obtain ⟨te, hd, hte⟩ := (hE.ty t _ ht).desc
  have hT := hE.ty te e hte
  have hmm := h.mems s
  rw [hm] at hmm
  obtain ⟨ad, cap, f1, f2, f3, f4, f5⟩ := hmm
  obtain ⟨s1, s2, yc, s3, s4, s5, s6⟩ := hsrc
  have hmin : min ys.length xs.length ≤ ys.length := Nat.min_le_left _ _
  have hfc := s6 (min ys.length xs.length) hmin w rfl
  have hlen : (over xs ys).length = xs.length := by simp [over]; omega
  have hres : RepS own w β (σ.set s (.own ver e (over xs ys) .full)).mem (.val (.int .i64) ((min ys.length xs.length : Nat) : Int)) (goInt (min ys.length xs.length : Nat)) :=
    len_int (by omega)
  have hev : ∀ s', Evo β β s' (σ.mem s') ((σ.set s (.own ver e (over xs ys) .full)).mem s') := by
    intro s'
    show Evo β β s' (σ.mem s') (upd σ.mem s _ s')
    rw [upd_eq]; split
    · rename_i e; subst e; rw [hm]; exact Evo.setOwn rfl hlen.symm
    · exact Evo.same _ rfl
  rw [f1] at he
  rcases f5 with ⟨rfl, rfl⟩ | ⟨b, off, rfl, g1, g2⟩
  · have hx0 : xs = [] := List.eq_nil_of_length_eq_zero (by omega)
    subst hx0
    have hov : over [] ys = ([] : List e.D) := by simp [over]
    refine did_value (own' := own) (β' := β) (exec_v he (u := goInt (min ys.length 0 : Nat)) (w' := w) ?_) ?_ hres
    · have hfc' : (Builtin.firstCells e.size (min ys.length 0) x).run P w = .ok (yc.take (min ys.length 0 * e.size)).toArray w := hfc
      simp only [Builtin.copy_, List.getElem?_toArray, List.getElem?_cons_zero, List.getElem?_cons_succ, Sem.run_bind, run_underlying hd, Result.andThen_ok, hT.cells, Sem.run_pure, s1, List.length_nil]
      have : Nat.min ys.length 0 = min ys.length 0 := rfl
      rw [this, hfc']
      simp
    · refine h.go (Frm.refl _ _ _) (fun _ _ _ _ => rfl) (Keeps.refl _ _) hev rfl ?_
      intro s'
      show RepE Z own w β s' (upd σ.mem s _ s')
      rw [upd_eq]; split
      · rename_i e; subst e; rw [hov]; exact ⟨none, 0, f1, by simp, by omega, by simp, .inl ⟨rfl, rfl⟩⟩
      · exact h.mems s'
  · -- the cells
    let k := min ys.length xs.length
    have hk : k = min ys.length xs.length := rfl
    have hkx : k * e.size ≤ xs.length * e.size := Nat.mul_le_mul_right _ (by omega)
    have hky : k * e.size ≤ ys.length * e.size := Nat.mul_le_mul_right _ (by omega)
    have hcapm : xs.length * e.size ≤ cap * e.size := Nat.mul_le_mul_right _ f2
    have htl : (yc.take (k * e.size)).length = k * e.size := by simp; omega
    obtain ⟨w', k1, k2⟩ := run_storeCells (P := P) (b := b) (o := off) (yc.take (k * e.size)) 0 w (fun v hv => s5 v (List.mem_of_mem_take hv))
      (fun j hj => by rw [Nat.zero_add]; exact (g2.2 _ (by omega) (by omega)).2.2.1) (fun j hj => by rw [Nat.zero_add]; exact (g2.2 _ (by omega) (by omega)).2.2.2)
    rw [Nat.add_zero] at k2
    have hown : ∀ j, j < (yc.take (k * e.size)).length → own b (off + j) = some s := fun j hj => (g2.2 _ (by omega) (by omega)).1
    have hwr : ∀ j, j < (yc.take (k * e.size)).length → Z.wr b (off + j) := fun j hj => (g2.2 _ (by omega) (by omega)).2.1
    have hkeep := k2.keeps hown
    refine did_value (own' := own) (β' := β) (exec_v he (u := goInt (min ys.length xs.length : Nat)) (w' := w') ?_) ?_ (hres.go hkeep (fun s => Evo.same _ rfl))
    · simp only [Builtin.copy_, List.getElem?_toArray, List.getElem?_cons_zero, List.getElem?_cons_succ, Sem.run_bind, run_underlying hd, Result.andThen_ok, hT.cells, Sem.run_pure, s1]
      have : Nat.min ys.length xs.length = k := rfl
      rw [this]
      have hfc' : (Builtin.firstCells e.size k x).run P w = .ok (yc.take (k * e.size)).toArray w := hfc
      rw [hfc']
      simp only [Result.andThen_ok, Sem.run_bind]
      rw [k1]
      rfl
    · refine h.go (k2.frame hwr) (fun _ _ _ _ => rfl) hkeep hev rfl ?_
      intro s'
      show RepE Z own w' β s' (upd σ.mem s _ s')
      rw [upd_eq]; split
      · rename_i eq; subst eq
        refine ⟨_, cap, by rw [f1, hlen], by rw [hlen]; exact f2, f3, by rw [hlen]; exact f4, .inr ⟨b, off, rfl, ?_, k2.shps _ _ g2.1, ?_⟩⟩
        · intro i hi
          rw [hlen] at hi
          have hib : i * e.size + e.size ≤ xs.length * e.size := by rw [← Nat.succ_mul]; exact Nat.mul_le_mul_right _ hi
          rcases Nat.lt_or_ge i ys.length with h3 | h3
          · have g := s4.2 i h3
            have hik : i * e.size + e.size ≤ k * e.size := by rw [← Nat.succ_mul]; exact Nat.mul_le_mul_right _ (by omega)
            have hget : (over xs ys)[i]'(by rw [hlen]; exact hi) = ys[i] := by
              unfold over
              rw [List.getElem_append_left (by simp; omega)]
              simp
            refine ⟨_, g.length, ?_, by rw [hget]; exact g.keeps hkeep⟩
            intro j v hj
            rw [List.getElem?_take] at hj
            split at hj
            · rename_i hjs
              rw [List.getElem?_drop] at hj
              refine ⟨(g2.2 _ (by omega) (by omega)).1, ?_⟩
              have := k2.inside (i * e.size + j) v (by rw [List.getElem?_take, if_pos (by omega)]; exact hj)
              rwa [← Nat.add_assoc] at this
            · cases hj
          · obtain ⟨es, q1, q2, q3⟩ := g1 i hi
            have hki : k * e.size ≤ i * e.size := Nat.mul_le_mul_right _ (by omega)
            have hget : (over xs ys)[i]'(by rw [hlen]; exact hi) = xs[i] := by
              unfold over
              rw [List.getElem_append_right (by simp; omega)]
              simp
              congr 1; omega
            refine ⟨es, q1, ?_, by rw [hget]; exact q3.keeps hkeep⟩
            intro j v hj
            obtain ⟨r1, r2⟩ := q2 j v hj
            refine ⟨r1, ?_⟩
            rw [k2.outside _ (by omega)]; exact r2
        · intro j c1 c2
          obtain ⟨d1, d2, ⟨v, d3⟩, d4⟩ := g2.2 j c1 c2
          refine ⟨d1, d2, ?_, by rw [k2.frozen]; exact d4⟩
          rw [k2.cell]
          split
          · exact ⟨_, List.getElem?_eq_getElem (by omega)⟩
          · exact ⟨v, d3⟩
      · rename_i eq
        exact (h.mems s').keeps hkeep (k2.ownKeeps hown eq) k2.shps rfl

end
end Go.Re
