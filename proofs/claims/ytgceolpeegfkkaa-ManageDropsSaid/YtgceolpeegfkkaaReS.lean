/- Reflection, part S: append to nil, copy, calls. -/
import Derived.Test.YtgceolpeegfkkaaReR
namespace Go.Re
set_option linter.unusedVariables false
set_option linter.unusedSimpArgs false
open Go.RowKit (Below)

section
variable {P : Program} {E : Env} {N : Nat} {Z : Base} {own : Own} {β : Conc} {σ : S} {a : Act} {w : World} {o : Oper}

theorem appendNil_did (hE : EnvOk P E) (h : St N Z own β σ a w) {d t t' ty : Nat} {e : Ty} {ys : List e.D} (ht : E.ty t = some (.sl e))
    {x : Value} (hsrc : AppOk P E own w t t' ty e x ys) (hl : ys.length ≤ lim)
    (he : execOp a.eval o = (do pure (.value (← Builtin.append_ #[t, t'] ty #[.slice none 0 0, x])))) :
    Did P N Z o a w (σ.set d (.own (nextVer (σ.mem d)) e ys .full)) (.ref d (nextVer (σ.mem d))) := by
  obtain ⟨te, hd, hte⟩ := (hE.ty t _ ht).desc
  have hT := hE.ty te e hte
  have hl' : ys.length ≤ 2147483648 := hl
  obtain ⟨yc, s3, s4, s5, s6⟩ := hsrc
  have hrun := s6 te hd hte none 0 0 [] (by omega) (by omega) (fun w' _ => by simp [Builtin.firstCells])
  simp only [Nat.zero_add] at hrun
  split at hrun
  · rename_i hle
    have hy0 : ys = [] := List.eq_nil_of_length_eq_zero (by omega)
    subst hy0
    refine did_value (exec_v he (u := .slice none 0 0) (w' := w) ?_) (h.newNil d e) (ref_new _ _ _ σ.mem d _ (σ.mem d) e [] .full)
    rw [hrun]; simp
  · obtain ⟨c, c1, c2, hrun⟩ := hrun
    have hz := zeroCells_length hT.isVal hT.good (c - ys.length)
    have ha := alloc1_push w ([] ++ yc ++ (Builtin.zeroCells (mkV e (zeroC e)).cells (c - ys.length)).toList) te (w.drawn + 1)
    have hcl : ([] ++ yc ++ (Builtin.zeroCells (mkV e (zeroC e)).cells (c - ys.length)).toList).length = c * e.size := by
      rw [List.length_append, List.length_append, s3, hz, List.length_nil, Nat.zero_add, ← Nat.add_mul]; congr 1; omega
    have hnil : ElemsC own w e [] ([] : List e.D) := ⟨by simp, fun i h => by simp at h⟩
    have hst2 := append_grow h (d := d) (xs := [] ++ ys) (m := .full) (.inl rfl) ha hcl (hnil.append s4 (by simp)) (by simpa using c1) c2 (by simp only [List.nil_append, big]; omega)
    refine did_value (exec_v he hrun) hst2 (ref_new _ _ _ σ.mem d _ (σ.mem d) e ys .full)

theorem copy_did (hE : EnvOk P E) (h : St N Z own β σ a w) {s ver t t' ty : Nat} {e : Ty} {xs ys : List e.D} (ht : E.ty t = some (.sl e)) (hm : σ.mem s = .own ver e xs .full)
    {x : Value} (hsrc : Src P own w e x ys) (he : execOp a.eval o = (do pure (.value (← Builtin.copy_ #[t, t'] ty #[β s, x])))) :
    Did P N Z o a w (σ.set s (.own ver e (over xs ys) .full)) (.val (.int .i64) ((min ys.length xs.length : Nat) : Int)) := by
  obtain ⟨te, hd, hte⟩ := (hE.ty t _ ht).desc
  have hT := hE.ty te e hte
  have hmm := h.mems s
  rw [hm] at hmm
  obtain ⟨ad, cap, f1, f2, f3, f4, f5⟩ := hmm
  obtain ⟨s1, s2, yc, s3, s4, s5, s6⟩ := hsrc
  have hmin : min ys.length xs.length ≤ ys.length := Nat.min_le_left _ _
  have hfc := s6 (min ys.length xs.length) hmin w rfl
  have hlen : (over xs ys).length = xs.length := by simp [over]; omega
  have hres : RepS own w β (σ.set s (.own ver e (over xs ys) .full)).mem (.val (.int .i64) ((min ys.length xs.length : Nat) : Int)) (goInt (min ys.length xs.length : Nat)) :=
    len_int (by omega)
  have hev : ∀ s', Evo β β s' (σ.mem s') ((σ.set s (.own ver e (over xs ys) .full)).mem s') := by
    intro s'
    show Evo β β s' (σ.mem s') (upd σ.mem s _ s')
    rw [upd_eq]; split
    · rename_i e; subst e; rw [hm]; exact Evo.setOwn rfl hlen.symm
    · exact Evo.same _ rfl
  rw [f1] at he
  rcases f5 with ⟨rfl, had⟩ | ⟨b, off, rfl, g1, g2⟩
  · obtain rfl := had rfl
    have hx0 : xs = [] := List.eq_nil_of_length_eq_zero (by omega)
    subst hx0
    have hov : over [] ys = ([] : List e.D) := by simp [over]
    refine did_value (own' := own) (β' := β) (exec_v he (u := goInt (min ys.length 0 : Nat)) (w' := w) ?_) ?_ hres
    · have hfc' : (Builtin.firstCells e.size (min ys.length 0) x).run P w = .ok (yc.take (min ys.length 0 * e.size)).toArray w := hfc
      simp only [Builtin.copy_, List.getElem?_toArray, List.getElem?_cons_zero, List.getElem?_cons_succ, Sem.run_bind, run_underlying hd, Result.andThen_ok, hT.cells, Sem.run_pure, s1, List.length_nil]
      have : Nat.min ys.length 0 = min ys.length 0 := rfl
      rw [this, hfc']
      simp
    · refine h.go (Frm.refl _ _ _) (fun _ _ _ _ => rfl) (Keeps.refl _ _) hev rfl ?_
      intro s'
      show RepE Z own w β s' (upd σ.mem s _ s')
      rw [upd_eq]; split
      · rename_i e; subst e; rw [hov]; exact ⟨none, 0, f1, by simp, by omega, by simp, .inl ⟨rfl, had⟩⟩
      · exact h.mems s'
  · -- the cells
    let k := min ys.length xs.length
    have hk : k = min ys.length xs.length := rfl
    have hkx : k * e.size ≤ xs.length * e.size := Nat.mul_le_mul_right _ (by omega)
    have hky : k * e.size ≤ ys.length * e.size := Nat.mul_le_mul_right _ (by omega)
    have hcapm : xs.length * e.size ≤ cap * e.size := Nat.mul_le_mul_right _ f2
    have htl : (yc.take (k * e.size)).length = k * e.size := by simp; omega
    obtain ⟨w', k1, k2⟩ := run_storeCells (P := P) (b := b) (o := off) (yc.take (k * e.size)) 0 w (fun v hv => s5 v (List.mem_of_mem_take hv))
      (fun j hj => by rw [Nat.zero_add]; exact (g2.2 _ (by omega) (by omega)).2.2.1) (fun j hj => by rw [Nat.zero_add]; exact (g2.2 _ (by omega) (by omega)).2.2.2)
    rw [Nat.add_zero] at k2
    have hown : ∀ j, j < (yc.take (k * e.size)).length → own b (off + j) = some s := fun j hj => (g2.2 _ (by omega) (by omega)).1
    have hwr : ∀ j, j < (yc.take (k * e.size)).length → Z.wr b (off + j) := fun j hj => (g2.2 _ (by omega) (by omega)).2.1
    have hkeep := k2.keeps hown
    refine did_value (own' := own) (β' := β) (exec_v he (u := goInt (min ys.length xs.length : Nat)) (w' := w') ?_) ?_ (hres.go hkeep (fun s => Evo.same _ rfl))
    · simp only [Builtin.copy_, List.getElem?_toArray, List.getElem?_cons_zero, List.getElem?_cons_succ, Sem.run_bind, run_underlying hd, Result.andThen_ok, hT.cells, Sem.run_pure, s1]
      have : Nat.min ys.length xs.length = k := rfl
      rw [this]
      have hfc' : (Builtin.firstCells e.size k x).run P w = .ok (yc.take (k * e.size)).toArray w := hfc
      rw [hfc']
      simp only [Result.andThen_ok, Sem.run_bind]
      rw [k1]
      rfl
    · refine h.go (k2.frame hwr) (fun _ _ _ _ => rfl) hkeep hev rfl ?_
      intro s'
      show RepE Z own w' β s' (upd σ.mem s _ s')
      rw [upd_eq]; split
      · rename_i eq; subst eq
        refine ⟨_, cap, by rw [f1, hlen], by rw [hlen]; exact f2, f3, by rw [hlen]; exact f4, .inr ⟨b, off, rfl, ?_, k2.shps _ _ g2.1, ?_⟩⟩
        · intro i hi
          rw [hlen] at hi
          have hib : i * e.size + e.size ≤ xs.length * e.size := by rw [← Nat.succ_mul]; exact Nat.mul_le_mul_right _ hi
          rcases Nat.lt_or_ge i ys.length with h3 | h3
          · have g := s4.2 i h3
            have hik : i * e.size + e.size ≤ k * e.size := by rw [← Nat.succ_mul]; exact Nat.mul_le_mul_right _ (by omega)
            have hget : (over xs ys)[i]'(by rw [hlen]; exact hi) = ys[i] := by
              unfold over
              rw [List.getElem_append_left (by simp; omega)]
              simp
            refine ⟨_, g.length, ?_, by rw [hget]; exact g.keeps hkeep⟩
            intro j v hj
            rw [List.getElem?_take] at hj
            split at hj
            · rename_i hjs
              rw [List.getElem?_drop] at hj
              refine ⟨(g2.2 _ (by omega) (by omega)).1, ?_⟩
              have := k2.inside (i * e.size + j) v (by rw [List.getElem?_take, if_pos (by omega)]; exact hj)
              rwa [← Nat.add_assoc] at this
            · cases hj
          · obtain ⟨es, q1, q2, q3⟩ := g1 i hi
            have hki : k * e.size ≤ i * e.size := Nat.mul_le_mul_right _ (by omega)
            have hget : (over xs ys)[i]'(by rw [hlen]; exact hi) = xs[i] := by
              unfold over
              rw [List.getElem_append_right (by simp; omega)]
              simp
              congr 1; omega
            refine ⟨es, q1, ?_, by rw [hget]; exact q3.keeps hkeep⟩
            intro j v hj
            obtain ⟨r1, r2⟩ := q2 j v hj
            refine ⟨r1, ?_⟩
            rw [k2.outside _ (by omega)]; exact r2
        · intro j c1 c2
          obtain ⟨d1, d2, ⟨v, d3⟩, d4⟩ := g2.2 j c1 c2
          refine ⟨d1, d2, ?_, by rw [k2.frozen]; exact d4⟩
          rw [k2.cell]
          split
          · exact ⟨_, List.getElem?_eq_getElem (by omega)⟩
          · exact ⟨v, d3⟩
      · rename_i eq
        exact (h.mems s').keeps hkeep (k2.ownKeeps hown eq) k2.shps rfl

theorem overAt_get {α : Type} (lo : Nat) (xs ys : List α) (hlo : lo ≤ xs.length) (i : Nat) (hi : i < xs.length) : (overAt lo xs ys)[i]? = if lo ≤ i ∧ i < lo + ys.length then ys[i - lo]? else xs[i]? := by
  unfold overAt over
  by_cases h1 : i < lo
  · rw [if_neg (by omega), List.getElem?_append_left (by simp; omega), List.getElem?_take, if_pos h1]
  · rw [List.getElem?_append_right (by simp; omega)]
    have e1 : (xs.take lo).length = lo := by simp; omega
    rw [e1]
    by_cases h2 : i < lo + ys.length
    · rw [if_pos ⟨by omega, h2⟩, List.getElem?_append_left (by simp; omega), List.getElem?_take, if_pos (by simp; omega)]
    · rw [if_neg (by omega), List.getElem?_append_right (by simp; omega), List.getElem?_drop, List.getElem?_drop]
      congr 1; simp; omega

theorem overAt_length {α : Type} (lo : Nat) (xs ys : List α) (hlo : lo ≤ xs.length) : (overAt lo xs ys).length = xs.length := by
  simp [overAt, over]; omega

/-- Copied into a window of a row of one's own. -/
theorem copyWin_did (hE : EnvOk P E) (h : St N Z own β σ a w) {s ver t t' ty lo : Nat} {e : Ty} {xs ys : List e.D} (ht : E.ty t = some (.sl e)) (hm : σ.mem s = .own ver e xs .full) (hlo : lo ≤ xs.length)
    {ad : Option Addr} {cap : Nat} (hb : β s = .slice ad xs.length cap) {x : Value} (hsrc : Src P own w e x ys)
    (he : execOp a.eval o = (do pure (.value (← Builtin.copy_ #[t, t'] ty #[.slice (if cap = lo then ad else ad.map (·.add (lo * e.size))) (xs.length - lo) (cap - lo), x])))) :
    Did P N Z o a w (σ.set s (.own ver e (overAt lo xs ys) .full)) (.val (.int .i64) ((min ys.length (xs.length - lo) : Nat) : Int)) := by
  obtain ⟨te, hd, hte⟩ := (hE.ty t _ ht).desc
  have hT := hE.ty te e hte
  have hmm := h.mems s
  rw [hm] at hmm
  obtain ⟨ad', cap', f1, f2, f3, f4, f5⟩ := hmm
  rw [hb] at f1
  cases f1
  obtain ⟨s1, s2, yc, s3, s4, s5, s6⟩ := hsrc
  have hlen := overAt_length lo xs ys hlo
  obtain ⟨k, hk⟩ : ∃ k, min ys.length (xs.length - lo) = k := ⟨_, rfl⟩
  have hfc := s6 k (by omega) w rfl
  have hres : RepS own w β (σ.set s (.own ver e (overAt lo xs ys) .full)).mem (.val (.int .i64) ((min ys.length (xs.length - lo) : Nat) : Int)) (goInt (min ys.length (xs.length - lo) : Nat)) :=
    len_int (by omega)
  have hev : ∀ s', Evo β β s' (σ.mem s') ((σ.set s (.own ver e (overAt lo xs ys) .full)).mem s') := by
    intro s'
    show Evo β β s' (σ.mem s') (upd σ.mem s _ s')
    rw [upd_eq]; split
    · rename_i e; subst e; rw [hm]; exact Evo.setOwn rfl hlen.symm
    · exact Evo.same _ rfl
  have hrun0 : ∀ (A : Option Addr) (w' : World), (match A with | some b => (storeCells b (yc.take (k * e.size)) 0).run P w = .ok () w' | none => w' = w ∧ yc.take (k * e.size) = []) →
      (Builtin.copy_ #[t, t'] ty #[.slice A (xs.length - lo) (cap - lo), x]).run P w = .ok (goInt (min ys.length (xs.length - lo) : Nat)) w' := by
    intro A w' hA
    simp only [Builtin.copy_, List.getElem?_toArray, List.getElem?_cons_zero, List.getElem?_cons_succ, Sem.run_bind, run_underlying hd, Result.andThen_ok, hT.cells, Sem.run_pure, s1]
    have : Nat.min ys.length (xs.length - lo) = k := hk
    rw [this, hfc, hk]
    cases A with
    | none => obtain ⟨h1, h2⟩ := hA; subst h1; simp
    | some b => simp only [Result.andThen_ok, Sem.run_bind, hA]; rfl
  by_cases hk0 : k = 0
  · -- nothing is copied
    have hov : overAt lo xs ys = xs := by
      apply List.ext_getElem?
      intro i
      rcases Nat.lt_or_ge i xs.length with hi | hi
      · rw [overAt_get lo xs ys hlo i hi, if_neg (by omega)]
      · rw [List.getElem?_eq_none (by omega), List.getElem?_eq_none (by omega)]
    refine did_value (own' := own) (β' := β) (exec_v he (w' := w) (hrun0 _ w ?_)) ?_ hres
    · subst hk0
      generalize (if cap = lo then ad else ad.map (·.add (lo * e.size))) = A
      cases A with
      | none => simp
      | some b => simp [storeCells]
    · refine h.go (Frm.refl _ _ _) (fun _ _ _ _ => rfl) (Keeps.refl _ _) hev rfl ?_
      intro s'
      show RepE Z own w β s' (upd σ.mem s _ s')
      rw [upd_eq]; split
      · rename_i e; subst e; rw [hov, ← hm]; have := h.mems s'; rw [hm] at this ⊢; exact this
      · exact h.mems s'
  · rcases f5 with ⟨hc, _⟩ | ⟨b, off, rfl, g1, g2⟩
    · omega
    have hcl : ¬ cap = lo := by omega
    have hkx : lo * e.size + k * e.size ≤ xs.length * e.size := by rw [← Nat.add_mul]; exact Nat.mul_le_mul_right _ (by omega)
    have hky : k * e.size ≤ ys.length * e.size := Nat.mul_le_mul_right _ (by omega)
    have hcapm : xs.length * e.size ≤ cap * e.size := Nat.mul_le_mul_right _ f2
    have htl : (yc.take (k * e.size)).length = k * e.size := by simp; omega
    obtain ⟨w', k1, k2⟩ := run_storeCells (P := P) (b := b) (o := off + lo * e.size) (yc.take (k * e.size)) 0 w (fun v hv => s5 v (List.mem_of_mem_take hv))
      (fun j hj => by rw [Nat.zero_add]; exact (g2.2 _ (by omega) (by omega)).2.2.1) (fun j hj => by rw [Nat.zero_add]; exact (g2.2 _ (by omega) (by omega)).2.2.2)
    rw [Nat.add_zero] at k2
    have hown : ∀ j, j < (yc.take (k * e.size)).length → own b (off + lo * e.size + j) = some s := fun j hj => (g2.2 _ (by omega) (by omega)).1
    have hwr : ∀ j, j < (yc.take (k * e.size)).length → Z.wr b (off + lo * e.size + j) := fun j hj => (g2.2 _ (by omega) (by omega)).2.1
    have hkeep := k2.keeps hown
    refine did_value (own' := own) (β' := β) (exec_v he (w' := w') (hrun0 _ w' ?_)) ?_ (hres.go hkeep (fun s => Evo.same _ rfl))
    · rw [if_neg hcl]
      simp only [Option.map_some, addr_add]
      exact k1
    · refine h.go (k2.frame hwr) (fun _ _ _ _ => rfl) hkeep hev rfl ?_
      intro s'
      show RepE Z own w' β s' (upd σ.mem s _ s')
      rw [upd_eq]; split
      · rename_i eq; subst eq
        refine ⟨_, cap, by rw [hb, hlen], by rw [hlen]; exact f2, f3, by rw [hlen]; exact f4, .inr ⟨b, off, rfl, ?_, k2.shps _ _ g2.1, ?_⟩⟩
        · intro i hi
          rw [hlen] at hi
          have hib : i * e.size + e.size ≤ xs.length * e.size := by rw [← Nat.succ_mul]; exact Nat.mul_le_mul_right _ hi
          have hgo := overAt_get lo xs ys hlo i hi
          rw [List.getElem?_eq_getElem (by omega)] at hgo
          by_cases h3 : lo ≤ i ∧ i < lo + ys.length
          · rw [if_pos h3, List.getElem?_eq_getElem (by omega)] at hgo
            have hgo := Option.some.inj hgo
            have g := s4.2 (i - lo) (by omega)
            have hik : (i - lo) * e.size + e.size ≤ k * e.size := by rw [← Nat.succ_mul]; exact Nat.mul_le_mul_right _ (by omega)
            have hil : i * e.size = lo * e.size + (i - lo) * e.size := by rw [← Nat.add_mul]; congr 1; omega
            refine ⟨_, g.length, ?_, by rw [hgo]; exact g.keeps hkeep⟩
            intro j v hj
            rw [List.getElem?_take] at hj
            split at hj
            · rename_i hjs
              rw [List.getElem?_drop] at hj
              refine ⟨(g2.2 _ (by omega) (by omega)).1, ?_⟩
              have := k2.inside ((i - lo) * e.size + j) v (by rw [List.getElem?_take, if_pos (by omega)]; exact hj)
              rwa [show off + lo * e.size + ((i - lo) * e.size + j) = off + i * e.size + j by omega] at this
            · cases hj
          · rw [if_neg h3, List.getElem?_eq_getElem hi] at hgo
            have hgo := Option.some.inj hgo
            obtain ⟨es, q1, q2, q3⟩ := g1 i hi
            refine ⟨es, q1, ?_, by rw [hgo]; exact q3.keeps hkeep⟩
            intro j v hj
            obtain ⟨r1, r2⟩ := q2 j v hj
            refine ⟨r1, ?_⟩
            have hj' : j < es.length := (List.getElem?_eq_some_iff.1 hj).1
            rw [k2.outside _ ?_]
            · exact r2
            · rw [htl]
              by_cases h4 : i < lo
              · left
                have : i * e.size + e.size ≤ lo * e.size := by rw [← Nat.succ_mul]; exact Nat.mul_le_mul_right _ (by omega)
                omega
              · right
                have : (lo + k) * e.size ≤ i * e.size := Nat.mul_le_mul_right _ (by omega)
                rw [Nat.add_mul] at this
                omega
        · intro j c1 c2
          obtain ⟨d1, d2, ⟨v, d3⟩, d4⟩ := g2.2 j c1 c2
          refine ⟨d1, d2, ?_, by rw [k2.frozen]; exact d4⟩
          rw [k2.cell]
          split
          · exact ⟨_, List.getElem?_eq_getElem (by omega)⟩
          · exact ⟨v, d3⟩
      · rename_i eq
        exact (h.mems s').keeps hkeep (k2.ownKeeps hown eq) k2.shps rfl


/-- Cells written in a window of a row of one's own. -/
theorem winCore (hE : EnvOk P E) (h : St N Z own β σ a w) {s ver t lo : Nat} {e : Ty} {xs ys : List e.D} (ht : E.ty t = some (.sl e)) (hm : σ.mem s = .own ver e xs .full) (hlo : lo ≤ xs.length)
    {ad : Option Addr} {cap : Nat} (hb : β s = .slice ad xs.length cap) {yc : List Value} (s3 : yc.length = ys.length * e.size) (s4 : ElemsC own w e yc ys) (s5 : ∀ v ∈ yc, v.oneCell' = true) {v : V} {u : Value} (hv : ∀ β mem own w, RepS own w β mem v u) {k : Nat} (hk : min ys.length (xs.length - lo) = k)
    (hrun0 : ∀ (A : Option Addr) (w' : World), A = (if cap = lo then ad else ad.map (·.add (lo * e.size))) → (match A with | some b => (storeCells b (yc.take (k * e.size)) 0).run P w = .ok () w' | none => w' = w ∧ yc.take (k * e.size) = []) →
      (execOp a.eval o).run P w = .ok (.value u) w') :
    Did P N Z o a w (σ.set s (.own ver e (overAt lo xs ys) .full)) v := by
  obtain ⟨te, hd, hte⟩ := (hE.ty t _ ht).desc
  have hT := hE.ty te e hte
  have hmm := h.mems s
  rw [hm] at hmm
  obtain ⟨ad', cap', f1, f2, f3, f4, f5⟩ := hmm
  rw [hb] at f1
  cases f1
  have hlen := overAt_length lo xs ys hlo
  have hev : ∀ s', Evo β β s' (σ.mem s') ((σ.set s (.own ver e (overAt lo xs ys) .full)).mem s') := by
    intro s'
    show Evo β β s' (σ.mem s') (upd σ.mem s _ s')
    rw [upd_eq]; split
    · rename_i e; subst e; rw [hm]; exact Evo.setOwn rfl hlen.symm
    · exact Evo.same _ rfl
  by_cases hk0 : k = 0
  · -- nothing is copied
    have hov : overAt lo xs ys = xs := by
      apply List.ext_getElem?
      intro i
      rcases Nat.lt_or_ge i xs.length with hi | hi
      · rw [overAt_get lo xs ys hlo i hi, if_neg (by omega)]
      · rw [List.getElem?_eq_none (by omega), List.getElem?_eq_none (by omega)]
    refine did_value (own' := own) (β' := β) (hrun0 _ w rfl ?_) ?_ (hv _ _ _ _)
    · subst hk0
      generalize (if cap = lo then ad else ad.map (·.add (lo * e.size))) = A
      cases A with
      | none => simp
      | some b => simp [storeCells]
    · refine h.go (Frm.refl _ _ _) (fun _ _ _ _ => rfl) (Keeps.refl _ _) hev rfl ?_
      intro s'
      show RepE Z own w β s' (upd σ.mem s _ s')
      rw [upd_eq]; split
      · rename_i e; subst e; rw [hov, ← hm]; have := h.mems s'; rw [hm] at this ⊢; exact this
      · exact h.mems s'
  · rcases f5 with ⟨hc, _⟩ | ⟨b, off, rfl, g1, g2⟩
    · omega
    have hcl : ¬ cap = lo := by omega
    have hkx : lo * e.size + k * e.size ≤ xs.length * e.size := by rw [← Nat.add_mul]; exact Nat.mul_le_mul_right _ (by omega)
    have hky : k * e.size ≤ ys.length * e.size := Nat.mul_le_mul_right _ (by omega)
    have hcapm : xs.length * e.size ≤ cap * e.size := Nat.mul_le_mul_right _ f2
    have htl : (yc.take (k * e.size)).length = k * e.size := by simp; omega
    obtain ⟨w', k1, k2⟩ := run_storeCells (P := P) (b := b) (o := off + lo * e.size) (yc.take (k * e.size)) 0 w (fun v hv => s5 v (List.mem_of_mem_take hv))
      (fun j hj => by rw [Nat.zero_add]; exact (g2.2 _ (by omega) (by omega)).2.2.1) (fun j hj => by rw [Nat.zero_add]; exact (g2.2 _ (by omega) (by omega)).2.2.2)
    rw [Nat.add_zero] at k2
    have hown : ∀ j, j < (yc.take (k * e.size)).length → own b (off + lo * e.size + j) = some s := fun j hj => (g2.2 _ (by omega) (by omega)).1
    have hwr : ∀ j, j < (yc.take (k * e.size)).length → Z.wr b (off + lo * e.size + j) := fun j hj => (g2.2 _ (by omega) (by omega)).2.1
    have hkeep := k2.keeps hown
    refine did_value (own' := own) (β' := β) (hrun0 _ w' rfl ?_) ?_ (hv _ _ _ _)
    · rw [if_neg hcl]
      simp only [Option.map_some, addr_add]
      exact k1
    · refine h.go (k2.frame hwr) (fun _ _ _ _ => rfl) hkeep hev rfl ?_
      intro s'
      show RepE Z own w' β s' (upd σ.mem s _ s')
      rw [upd_eq]; split
      · rename_i eq; subst eq
        refine ⟨_, cap, by rw [hb, hlen], by rw [hlen]; exact f2, f3, by rw [hlen]; exact f4, .inr ⟨b, off, rfl, ?_, k2.shps _ _ g2.1, ?_⟩⟩
        · intro i hi
          rw [hlen] at hi
          have hib : i * e.size + e.size ≤ xs.length * e.size := by rw [← Nat.succ_mul]; exact Nat.mul_le_mul_right _ hi
          have hgo := overAt_get lo xs ys hlo i hi
          rw [List.getElem?_eq_getElem (by omega)] at hgo
          by_cases h3 : lo ≤ i ∧ i < lo + ys.length
          · rw [if_pos h3, List.getElem?_eq_getElem (by omega)] at hgo
            have hgo := Option.some.inj hgo
            have g := s4.2 (i - lo) (by omega)
            have hik : (i - lo) * e.size + e.size ≤ k * e.size := by rw [← Nat.succ_mul]; exact Nat.mul_le_mul_right _ (by omega)
            have hil : i * e.size = lo * e.size + (i - lo) * e.size := by rw [← Nat.add_mul]; congr 1; omega
            refine ⟨_, g.length, ?_, by rw [hgo]; exact g.keeps hkeep⟩
            intro j v hj
            rw [List.getElem?_take] at hj
            split at hj
            · rename_i hjs
              rw [List.getElem?_drop] at hj
              refine ⟨(g2.2 _ (by omega) (by omega)).1, ?_⟩
              have := k2.inside ((i - lo) * e.size + j) v (by rw [List.getElem?_take, if_pos (by omega)]; exact hj)
              rwa [show off + lo * e.size + ((i - lo) * e.size + j) = off + i * e.size + j by omega] at this
            · cases hj
          · rw [if_neg h3, List.getElem?_eq_getElem hi] at hgo
            have hgo := Option.some.inj hgo
            obtain ⟨es, q1, q2, q3⟩ := g1 i hi
            refine ⟨es, q1, ?_, by rw [hgo]; exact q3.keeps hkeep⟩
            intro j v hj
            obtain ⟨r1, r2⟩ := q2 j v hj
            refine ⟨r1, ?_⟩
            have hj' : j < es.length := (List.getElem?_eq_some_iff.1 hj).1
            rw [k2.outside _ ?_]
            · exact r2
            · rw [htl]
              by_cases h4 : i < lo
              · left
                have : i * e.size + e.size ≤ lo * e.size := by rw [← Nat.succ_mul]; exact Nat.mul_le_mul_right _ (by omega)
                omega
              · right
                have : (lo + k) * e.size ≤ i * e.size := Nat.mul_le_mul_right _ (by omega)
                rw [Nat.add_mul] at this
                omega
        · intro j c1 c2
          obtain ⟨d1, d2, ⟨v, d3⟩, d4⟩ := g2.2 j c1 c2
          refine ⟨d1, d2, ?_, by rw [k2.frozen]; exact d4⟩
          rw [k2.cell]
          split
          · exact ⟨_, List.getElem?_eq_getElem (by omega)⟩
          · exact ⟨v, d3⟩
      · rename_i eq
        exact (h.mems s').keeps hkeep (k2.ownKeeps hown eq) k2.shps rfl

end
end Go.Re
