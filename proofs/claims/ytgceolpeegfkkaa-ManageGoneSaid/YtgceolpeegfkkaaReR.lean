/- Reflection, part R: append into new memory; append, copy as operations. -/
import Derived.Test.YtgceolpeegfkkaaReQ
namespace Go.Re
set_option linter.unusedVariables false
set_option linter.unusedSimpArgs false
open Go.RowKit (Below)

section
variable {P : Program} {E : Env} {N : Nat} {Z : Base} {own : Own} {β : Conc} {σ : S} {a : Act} {w : World} {o : Oper}

theorem zeroCells_length {e : Ty} (hv : e.isVal = true) (hg : e.good = true) (k : Nat) : (Builtin.zeroCells (mkV e (zeroC e)).cells k).toList.length = k * e.size := by
  have hz := zero_rep (own := fun _ _ => none) (w := default) hg
  have hc := mkV_cells hv hz
  have hl := hz.length
  have : (mkV e (zeroC e)).cells.size = e.size := by
    have := congrArg List.length hc
    rwa [Array.length_toList, hl] at this
  simp [Builtin.zeroCells, this]

def growOwn (own : Own) (n mid : Nat) (q : Option Nat) (d : Nat) : Own := fun b j => if b = n then (if j < mid then q else some d) else own b j

theorem ElemsC.append {e : Ty} {c1 c2 c3 : List Value} {xs ys : List e.D} (h1 : ElemsC own w e c1 xs) (h2 : ElemsC own w e c2 ys) (hl : c1.length = xs.length * e.size) : ElemsC own w e (c1 ++ c2 ++ c3) (xs ++ ys) := by
  have hl2 := h2.1
  refine ⟨by simp [hl, Nat.add_mul]; omega, ?_⟩
  intro i hi
  rcases Nat.lt_or_ge i xs.length with h3 | h3
  · have hb : i * e.size + e.size ≤ xs.length * e.size := by rw [← Nat.succ_mul]; exact Nat.mul_le_mul_right _ h3
    rw [List.getElem_append_left h3, List.append_assoc, List.drop_append_of_le_length (by omega), List.take_append_of_le_length (by simp; omega)]
    exact h1.2 i h3
  · have hi2 : i - xs.length < ys.length := by simp at hi; omega
    have hb : (i - xs.length) * e.size + e.size ≤ ys.length * e.size := by rw [← Nat.succ_mul]; exact Nat.mul_le_mul_right _ hi2
    have e1 : i * e.size = c1.length + (i - xs.length) * e.size := by rw [hl, ← Nat.add_mul]; congr 1; omega
    rw [List.getElem_append_right h3, List.append_assoc, e1, ← List.drop_drop, List.drop_left, List.drop_append_of_le_length (by omega), List.take_append_of_le_length (by simp; omega)]
    exact h2.2 _ hi2

/-- A row in a new block, behind an append. -/
theorem append_grow (h : St N Z own β σ a w) {d : Nat} {e : Ty} {xs : List e.D} {m : Mode} (hmv : m = .full ∨ m = .tail) {c : List Value} {cap : Nat} {w' : World} (ha : Alloc1 w w' c)
    (hcl : c.length = cap * e.size) (he : ElemsC own w e c xs) (h1 : xs.length ≤ cap) (h2 : cap < 9223372036854775808) (h3 : xs.length ≤ big) :
    St N Z (growOwn own w.heap.size (xs.length * e.size) (m.owner d) d) (upd β d (.slice (some ⟨w.heap.size, 0, none⟩) xs.length cap)) (σ.set d (.own (nextVer (σ.mem d)) e xs m)) a w' := by
  have hB := h.base
  have hk : Keeps own (growOwn own w.heap.size (xs.length * e.size) (m.owner d) d) w w' := by
    intro b j v q1 q2
    have hlt := cell?_lt q2
    refine ⟨?_, by rw [cell?_of_heap (ha.block b hlt)]; exact q2⟩
    unfold growOwn; rw [if_neg (by omega)]; exact q1
  have hks : ∀ s', OwnKeeps s' own (growOwn own w.heap.size (xs.length * e.size) (m.owner d) d) w w' := by
    intro s'
    refine ⟨?_, ?_⟩
    · intro b j v q1 q2
      have hlt := cell?_lt q2
      refine ⟨?_, by rw [cell?_of_heap (ha.block b hlt)]; exact q2, frozen?_of_heap (ha.block b hlt)⟩
      unfold growOwn; rw [if_neg (by omega)]; exact q1
    · intro r es c' q1 q2
      have hlt := map_lt q2
      refine ⟨?_, by rw [ha.block r hlt]; exact q2⟩
      unfold growOwn; rw [if_neg (by omega)]; exact q1
  refine h.newSite' (ha.frame _ hB) ?_ hk (fun s' _ => (h.mems s').keeps hk (hks s') ha.shps rfl) (fun β' => Evo.newOwn _ _ _ _) ?_
  · intro b j hlt _; unfold growOwn; rw [if_neg (by omega)]
  · refine RepE.ofRow (by rcases hmv with rfl | rfl <;> rfl) ⟨_, cap, by rw [upd_eq, if_pos rfl], h1, h2, h3, .inr ⟨w.heap.size, 0, rfl, ?_, ?_⟩⟩
    · intro i hi
      have g := he.2 i hi
      have hib : i * e.size + e.size ≤ xs.length * e.size := by rw [← Nat.succ_mul]; exact Nat.mul_le_mul_right _ hi
      refine ⟨_, g.length, ?_, g.keeps hk⟩
      intro j v hj
      rw [List.getElem?_take] at hj
      split at hj
      · rw [List.getElem?_drop] at hj
        rw [Nat.zero_add]
        refine ⟨?_, by rw [ha.cell]; exact hj⟩
        unfold growOwn
        rw [if_pos rfl, if_pos (by omega)]
      · cases hj
    · have hxc : xs.length * e.size ≤ cap * e.size := Nat.mul_le_mul_right _ h1
      have cells : ∀ j, j < cap * e.size → Z.wr w.heap.size j ∧ (∃ v, w'.cell? ⟨w.heap.size, j, none⟩ = some v) ∧ w'.frozen? ⟨w.heap.size, j, none⟩ = false := fun j hj =>
        ⟨.inl hB, ⟨c[j]'(by omega), by rw [ha.cell, List.getElem?_eq_getElem]⟩, ha.free j (by omega)⟩
      rcases hmv with rfl | rfl
      · refine ⟨let ⟨fz, f1, f2⟩ := ha.shape; ⟨_, fz, f1, by omega, f2⟩, ?_⟩
        intro j _ c2
        refine ⟨?_, cells j (by omega)⟩
        unfold growOwn
        rw [if_pos rfl]
        split <;> rfl
      · intro j c1 c2
        refine ⟨?_, cells j (by omega)⟩
        unfold growOwn
        rw [if_pos rfl, if_neg (by omega)]

/-- append, of a row of one's own. -/
theorem append_did (hE : EnvOk P E) (h : St N Z own β σ a w) {s d ver t t' ty : Nat} {e : Ty} {xs ys : List e.D} {m : Mode} (ht : E.ty t = some (.sl e)) (hm : σ.mem s = .own ver e xs m) (hmv : m = .full ∨ m = .tail)
    {x : Value} (hsrc : AppOk P E own w t t' ty e x ys) (hl : xs.length + ys.length ≤ lim)
    (he : execOp a.eval o = (do pure (.value (← Builtin.append_ #[t, t'] ty #[β s, x])))) :
    Did P N Z o a w ((σ.set s (afterApp m ver e xs)).set d (.own (nextVer (σ.mem d)) e (xs ++ ys) m)) (.ref d (nextVer (σ.mem d))) := by
  obtain ⟨te, hd, hte⟩ := (hE.ty t _ ht).desc
  have hT := hE.ty te e hte
  have hl' : xs.length + ys.length ≤ 2147483648 := hl
  have hmm := h.mems s
  rw [hm] at hmm
  have hnm : m.isMp = false := by rcases hmv with rfl | rfl <;> rfl
  obtain ⟨ad, cap, f1, f2, f3, f4, f5⟩ := RepE.row hnm hmm
  obtain ⟨yc, s3, s4, s5, s6⟩ := hsrc
  -- the old row, read
  have hq : RepQ own w e (β s) xs := ⟨ad, cap, m.owner s, f1, f2, f3, f4, f5.imp (·.1) fun ⟨b, o, q1, q2, _⟩ => ⟨b, o, q1, q2⟩⟩
  obtain ⟨_, _, oc, o3, o4, o5, o6⟩ := hq.src (P := P)
  have hoc : ∀ w', w'.heap = w.heap → (Builtin.firstCells e.size xs.length (.slice ad xs.length cap)).run P w' = .ok oc.toArray w' := fun w' hw' => by
    have := o6 xs.length (Nat.le_refl _) w' hw'
    rwa [← o3, List.take_length, f1] at this
  have hlen : (xs ++ ys).length = xs.length + ys.length := by simp
  have hrun := s6 te hd hte ad xs.length cap oc hl f3 hoc
  rw [f1] at he
  split at hrun
  · rename_i hle
    rcases f5 with ⟨rfl, had⟩ | ⟨b, off, rfl, g1, g2⟩
    · -- nothing to nothing
      have hx0 : xs = [] := List.eq_nil_of_length_eq_zero (by omega)
      have hy0 : ys = [] := List.eq_nil_of_length_eq_zero (by omega)
      subst hx0; subst hy0
      have hst : St N Z own β (σ.set s (afterApp m ver e [])) a w := by
        refine h.go (Frm.refl _ _ _) (fun _ _ _ _ => rfl) (Keeps.refl _ _) ?_ rfl ?_
        · intro s'
          show Evo β β s' (σ.mem s') (upd σ.mem s _ s')
          rw [upd_eq]; split
          · rename_i e; subst e; rw [hm]
            rcases hmv with rfl | rfl
            · exact Evo.gone
            · exact Evo.setOwn rfl rfl
          · exact Evo.same _ rfl
        · intro s'
          show RepE Z own w β s' (upd σ.mem s _ s')
          rw [upd_eq]; split
          · rename_i e; subst e
            rcases hmv with rfl | rfl
            · trivial
            · exact ⟨ad, 0, f1, by simp, by omega, by simp, .inl ⟨rfl, fun h => by cases h⟩⟩
          · exact h.mems s'
      have hver : nextVer ((σ.set s (afterApp m ver e [])).mem d) = nextVer (σ.mem d) := by
        show nextVer (upd σ.mem s _ d) = _
        rw [upd_eq]; split
        · rename_i e; subst e; rw [hm]
          rcases hmv with rfl | rfl <;> rfl
        · rfl
      have hst2 := hst.newSite' (s := d) (c := .slice ad 0 0) (e' := .own (nextVer ((σ.set s (afterApp m ver e [])).mem d)) e [] m) (Frm.refl _ _ _) (fun _ _ _ _ => rfl) (Keeps.refl _ _) (fun s' _ => hst.mems s') (fun β' => Evo.newOwn _ _ _ _)
        (RepE.ofRow hnm ⟨ad, 0, by rw [upd_eq, if_pos rfl]; rfl, by simp, by omega, by simp, .inl ⟨rfl, had⟩⟩)
      rw [hver] at hst2
      refine did_value (exec_v he (u := .slice ad 0 0) (w' := w) ?_) hst2 (ref_new _ _ _ (σ.set s (afterApp m ver e [])).mem d _ (σ.mem d) e [] m)
      have hyc0 : yc = [] := List.eq_nil_of_length_eq_zero (by rw [s3]; simp)
      rw [hrun, hyc0]
      cases ad <;> simp [storeCells]
    · -- in place
      have hcapm : (xs.length + ys.length) * e.size ≤ cap * e.size := Nat.mul_le_mul_right _ hle
      have hmul : (xs.length + ys.length) * e.size = xs.length * e.size + ys.length * e.size := Nat.add_mul _ _ _
      have tailOwn : ∀ j, off + xs.length * e.size ≤ j → j < off + cap * e.size → (∃ v, w.cell? ⟨b, j, none⟩ = some v) ∧ w.frozen? ⟨b, j, none⟩ = false := by
        intro j h1 h2
        rcases hmv with rfl | rfl
        · exact (g2.2 j (by omega) h2).2.2
        · exact (g2 j h1 h2).2.2
      obtain ⟨w', k1, k2⟩ := run_storeCells (P := P) (b := b) (o := off + xs.length * e.size) yc 0 w s5 (fun j hj => by rw [Nat.zero_add]; exact (tailOwn _ (by omega) (by omega)).1)
        (fun j hj => by rw [Nat.zero_add]; exact (tailOwn _ (by omega) (by omega)).2)
      have hst := append_place h hm hmv (d := d) f1 f3 g1 g2 hle hl s3 s4 k2
      refine did_value (exec_v he (u := .slice (some ⟨b, off, none⟩) (xs.length + ys.length) cap) (w' := w') ?_) hst ?_
      · rw [hrun]
        simp only [addr_add, k1, Result.andThen_ok]
      · exact ref_new _ _ _ (σ.set s (afterApp m ver e xs)).mem d _ (σ.mem d) e (xs ++ ys) m
  · -- new memory
    obtain ⟨c, c1, c2, hrun⟩ := hrun
    have hz := zeroCells_length hT.isVal hT.good (c - (xs.length + ys.length))
    have ha := alloc1_push w (oc ++ yc ++ (Builtin.zeroCells (mkV e (zeroC e)).cells (c - (xs.length + ys.length))).toList) te (w.drawn + 1)
    have hcl : (oc ++ yc ++ (Builtin.zeroCells (mkV e (zeroC e)).cells (c - (xs.length + ys.length))).toList).length = c * e.size := by
      rw [List.length_append, List.length_append, o3, s3, hz, ← Nat.add_mul, ← Nat.add_mul]; congr 1; omega
    have hst : St N Z own β (σ.set s (afterApp m ver e xs)) a w := by
      refine h.go (Frm.refl _ _ _) (fun _ _ _ _ => rfl) (Keeps.refl _ _) ?_ rfl ?_
      · intro s'
        show Evo β β s' (σ.mem s') (upd σ.mem s _ s')
        rw [upd_eq]; split
        · rename_i e; subst e; rw [hm]
          rcases hmv with rfl | rfl
          · exact Evo.gone
          · exact Evo.setOwn rfl rfl
        · exact Evo.same _ rfl
      · intro s'
        show RepE Z own w β s' (upd σ.mem s _ s')
        rw [upd_eq]; split
        · rename_i e; subst e
          rcases hmv with rfl | rfl
          · trivial
          · exact ⟨ad, cap, f1, f2, f3, f4, f5.imp (fun h => ⟨h.1, fun h => by cases h⟩) fun ⟨b, o, q1, q2, _⟩ => ⟨b, o, q1, q2, trivial⟩⟩
        · exact h.mems s'
    have hver : nextVer ((σ.set s (afterApp m ver e xs)).mem d) = nextVer (σ.mem d) := by
      show nextVer (upd σ.mem s _ d) = _
      rw [upd_eq]; split
      · rename_i e; subst e; rw [hm]
        rcases hmv with rfl | rfl <;> rfl
      · rfl
    have hst2 := append_grow hst (d := d) (xs := xs ++ ys) hmv ha hcl (o4.append s4 o3) (by rw [hlen]; exact c1) c2 (by rw [hlen]; simp only [big]; omega)
    rw [hver, hlen] at hst2
    refine did_value (exec_v he hrun) hst2 (ref_new _ _ _ (σ.set s (afterApp m ver e xs)).mem d _ (σ.mem d) e (xs ++ ys) m)

end
end Go.Re
