/- Reflection, part O: stores; append; copy. -/
import Derived.Test.YtgceolpeegfkkaaReN
import Derived.Orders
namespace Go.Re
set_option linter.unusedVariables false
set_option linter.unusedSimpArgs false
open Go.RowKit (Below)

section
variable {P : Program} {E : Env} {N : Nat} {Z : Base} {own : Own} {β : Conc} {σ : S} {a : Act} {w : World} {o : Oper}

theorem Wrote.keeps {b off : Nat} {vs : List Value} {w w' : World} (h : Wrote b off vs w w') {own : Own} {s : Nat} (ho : ∀ j, j < vs.length → own b (off + j) = some s) : Keeps own own w w' := by
  intro b' o' v h1 h2
  refine ⟨h1, ?_⟩
  by_cases hb : b' = b
  · subst hb
    rw [h.outside]
    · exact h2
    · rcases Nat.lt_or_ge o' off with h3 | h3
      · exact .inl h3
      · rcases Nat.lt_or_ge o' (off + vs.length) with h4 | h4
        · have := ho (o' - off) (by omega)
          rw [show off + (o' - off) = o' by omega, h1] at this; cases this
        · exact .inr h4
  · rw [cell?_of_heap (h.block b' hb)]; exact h2

theorem Wrote.ownKeeps {b off : Nat} {vs : List Value} {w w' : World} (h : Wrote b off vs w w') {own : Own} {s s' : Nat} (ho : ∀ j, j < vs.length → own b (off + j) = some s) (hs : s' ≠ s) : OwnKeeps s' own own w w' := by
  refine ⟨?_, fun r es c h1 h2 => ⟨h1, h.maps h2⟩⟩
  intro b' o' v h1 h2
  refine ⟨h1, ?_, ?_⟩
  · by_cases hb : b' = b
    · subst hb
      rw [h.outside]
      · exact h2
      · rcases Nat.lt_or_ge o' off with h3 | h3
        · exact .inl h3
        · rcases Nat.lt_or_ge o' (off + vs.length) with h4 | h4
          · have := ho (o' - off) (by omega)
            rw [show off + (o' - off) = o' by omega, h1] at this; cases this; exact absurd rfl hs
          · exact .inr h4
    · rw [cell?_of_heap (h.block b' hb)]; exact h2
  · by_cases hb : b' = b
    · subst hb; exact h.frozen o'
    · exact frozen?_of_heap (h.block b' hb)

theorem Wrote.cell {b off : Nat} {vs : List Value} {w w' : World} (h : Wrote b off vs w w') (j : Nat) : w'.cell? ⟨b, j, none⟩ = if off ≤ j ∧ j < off + vs.length then vs[j - off]? else w.cell? ⟨b, j, none⟩ := by
  by_cases hj : off ≤ j ∧ j < off + vs.length
  · rw [if_pos hj]
    have := h.inside (j - off) vs[j - off] (List.getElem?_eq_getElem (by omega))
    rw [show off + (j - off) = j by omega] at this
    rw [this, List.getElem?_eq_getElem (by omega)]
  · rw [if_neg hj]; exact h.outside j (by omega)

theorem writes_fixed_snoc {γ : Type} (b : γ) {fr : List (Nat × Entry)} {s : Nat} {e : γ → Entry} : writes σ b (fixed fr ++ [(s, e)]) = (sets σ fr).set s (e b) := by
  rw [writes_append, writes_fixed]; rfl

/-- Cells of a box, some of them written. -/
theorem BoxR.wrote {s b o off : Nat} {cs ds : List Value} {w' : World} (h : BoxR Z own w s b o cs) (hw : Wrote b (o + off) ds w w') (hl : off + ds.length ≤ cs.length) : BoxR Z own w' s b o (splice cs off ds) := by
  intro j v hj
  have hlen : j < cs.length := by
    have := (List.getElem?_eq_some_iff.1 hj).1
    rwa [splice_length hl] at this
  obtain ⟨e1, e2, e3, e4⟩ := h j cs[j] (List.getElem?_eq_getElem hlen)
  refine ⟨e1, e2, ?_, by rw [hw.frozen]; exact e4⟩
  rw [hw.cell]
  rw [getElem?_splice hl] at hj
  by_cases hc : off ≤ j ∧ j < off + ds.length
  · rw [if_pos hc] at hj
    rw [if_pos (by omega), show o + j - (o + off) = j - off by omega]; exact hj
  · rw [if_neg hc] at hj
    rw [if_neg (by omega), e3, ← hj, List.getElem?_eq_getElem hlen]

theorem store_did (hE : EnvOk P E) (h : St N Z own β σ a w) {t : Nat} {τ : Ty} {v v' : V} {u u' : Value} {r : V × S} (ht : E.ty t = some τ) (hu : RepS own w β σ.mem v u) (hu' : RepS own w β σ.mem v' u')
    (he : execOp a.eval o = (do Instr.storeAt t u u'; pure .skip)) (hr : (storeM τ v v').run σ = some r) : Did P N Z o a w r.2 r.1 := by
  have hT := hE.ty t τ ht
  unfold storeM at hr
  obtain ⟨y, fr, hf, hA, _, h2⟩ := asD_run h hu' hr
  obtain ⟨own1, s1, k1, v1⟩ := h.freeze hf
  have hV := v1 _ _ _ hA
  have hds := hV.cells
  have hdl := hds.length
  split at h2
  · -- a box
    rename_i s ver p
    simp only [M.run] at h2
    split at h2
    · rename_i ver' τb x hm
      split at h2
      · rename_i e; subst e
        obtain ⟨x', h3, h4⟩ := fin_run h2
        obtain ⟨b, off, h5, rfl⟩ := hu.2 τb x hm
        have hm1 := sets_box hf hm
        have hmm := s1.mems s
        rw [hm1] at hmm
        obtain ⟨hv, b', off', cs, h6, h7, h8⟩ := hmm
        rw [h5] at h6; cases h6
        obtain ⟨g1, g2, g3⟩ := setP_rep τb x cs p τ y _ x' h8 hds h3
        have hcl := h8.length
        have hin : ∀ j, j < τ.size → ∃ v, cs[offP τb p + j]? = some v := fun j hj => ⟨_, List.getElem?_eq_getElem (by omega)⟩
        obtain ⟨w', h9, h10⟩ := hT.store (w := w) (b := b) (off := off + offP τb p) hV (fun j hj => by
          obtain ⟨v, hv⟩ := hin j hj
          obtain ⟨_, _, e3, e4⟩ := h7 _ v hv
          rw [← Nat.add_assoc] at e3 e4
          exact ⟨⟨v, e3⟩, e4⟩)
        have hown : ∀ j, j < u'.cells.toList.length → own1 b (off + offP τb p + j) = some s := fun j hj => by
          obtain ⟨v, hv⟩ := hin j (by omega)
          have := (h7 _ v hv).1
          rwa [← Nat.add_assoc] at this
        have hwr : ∀ j, j < u'.cells.toList.length → Z.wr b (off + offP τb p + j) := fun j hj => by
          obtain ⟨v, hv⟩ := hin j (by omega)
          have := (h7 _ v hv).2.1
          rwa [← Nat.add_assoc] at this
        rw [h4]
        simp only [writes_fixed_snoc]
        refine did_skip (β' := β) (own' := own1) (w' := w') ?_ ?_
        · rw [he]; exact run_u (by simp only [Instr.storeAt, Instr.sureAddr, Sem.run_bind, Sem.run_pure, Result.andThen_ok]; exact h9)
        · refine s1.go (h10.frame hwr) (fun _ _ _ _ => rfl) (h10.keeps hown) ?_ rfl ?_
          · intro s'
            show Evo β β s' _ (upd (sets σ fr).mem s _ s')
            rw [upd_eq]; split
            · rename_i e; subst e; rw [hm1]; exact Evo.setBox rfl
            · exact Evo.same _ rfl
          · intro s'
            show RepE Z own1 w' β s' (upd (sets σ fr).mem s _ s')
            rw [upd_eq]; split
            · rename_i e; subst e
              exact ⟨hv, b, off, _, h5, h7.wrote h10 (by omega), g3.keeps (h10.keeps hown)⟩
            · rename_i e
              exact (s1.mems s').keeps (h10.keeps hown) (h10.ownKeeps hown e) h10.shps rfl
      · cases h2
    · cases h2
  · -- an element of a row of its own
    rename_i s ver i p
    simp only [M.run] at h2
    split at h2
    · rename_i ver' τe xs hm
      split at h2
      · rename_i e
        obtain ⟨e, hfr⟩ := e
        subst e
        obtain ⟨xs', h3, h4⟩ := fin_run h2
        obtain ⟨hi, b, off, nn, cc, h5, rfl⟩ := hu.2 τe xs .full hm
        have hnot : ∀ q ∈ fr, q.1 ≠ s := by
          intro q hq e
          have := List.all_eq_true.1 hfr q hq
          rw [e] at this
          simp at this
        have hm1 : (sets σ fr).mem s = .own ver τe xs .full := by rw [sets_mem_other fr hnot]; exact hm
        have hmm := s1.mems s
        rw [hm1] at hmm
        obtain ⟨ad, cap, h6, h7, h8, h9, h10⟩ := hmm
        rw [h5] at h6; cases h6
        rcases h10 with ⟨h11, _⟩ | ⟨b', off', h11, h12, h13, h14⟩
        · omega
        · cases h11
          obtain ⟨es, q1, q2, q3⟩ := h12 i hi
          -- the new element
          have hset : ∃ z, xs' = xs.set i z ∧ setP τe xs[i] p τ y = some z := by
            cases p with
            | nil =>
              obtain ⟨z, hz, rfl⟩ := Option.map_eq_some_iff.1 h3
              exact ⟨z, rfl, by rw [setP_nil]; exact hz⟩
            | cons p0 p =>
              obtain ⟨x, hx, hy⟩ := Option.bind_eq_some_iff.1 h3
              obtain ⟨z, hz, rfl⟩ := Option.map_eq_some_iff.1 hy
              have hx' : xs[i] = x := (List.getElem?_eq_some_iff.1 hx).2
              exact ⟨z, rfl, by rw [hx']; exact hz⟩
          obtain ⟨z, rfl, hz⟩ := hset
          obtain ⟨g1, g2, g3⟩ := setP_rep τe xs[i] es p τ y _ z q3 hds hz
          have hin : ∀ j, j < τ.size → ∃ v, es[offP τe p + j]? = some v := fun j hj => ⟨_, List.getElem?_eq_getElem (by omega)⟩
          have hib : i * τe.size + τe.size ≤ cc * τe.size := by rw [← Nat.succ_mul]; exact Nat.mul_le_mul_right _ (by omega)
          obtain ⟨w', h15, h16⟩ := hT.store (w := w) (b := b) (off := off + i * τe.size + offP τe p) hV (fun j hj => by
            obtain ⟨v, hv⟩ := hin j hj
            have e3 := (q2 _ v hv).2
            have e4 := (h14 (off + i * τe.size + offP τe p + j) (by omega) (by omega)).2.2.2
            rw [← Nat.add_assoc] at e3
            exact ⟨⟨v, e3⟩, e4⟩)
          have hown : ∀ j, j < u'.cells.toList.length → own1 b (off + i * τe.size + offP τe p + j) = some s := fun j hj => (h14 _ (by omega) (by omega)).1
          have hwr : ∀ j, j < u'.cells.toList.length → Z.wr b (off + i * τe.size + offP τe p + j) := fun j hj => (h14 _ (by omega) (by omega)).2.1
          rw [h4]
          simp only [writes_fixed_snoc]
          refine did_skip (β' := β) (own' := own1) (w' := w') ?_ ?_
          · rw [he]; exact run_u (by simp only [Instr.storeAt, Instr.sureAddr, Sem.run_bind, Sem.run_pure, Result.andThen_ok]; exact h15)
          · refine s1.go (h16.frame hwr) (fun _ _ _ _ => rfl) (h16.keeps hown) ?_ rfl ?_
            · intro s'
              show Evo β β s' _ (upd (sets σ fr).mem s _ s')
              rw [upd_eq]; split
              · rename_i e; subst e; rw [hm1]; exact Evo.setOwn rfl (by simp)
              · exact Evo.same _ rfl
            · intro s'
              show RepE Z own1 w' β s' (upd (sets σ fr).mem s _ s')
              rw [upd_eq]; split
              · rename_i e; subst e
                have hlen : (xs.set i z).length = xs.length := by simp
                refine ⟨_, cc, by rw [h5, hlen], by rw [hlen]; exact h7, h8, by rw [hlen]; exact h9, .inr ⟨b, off, rfl, ?_, ?_, ?_⟩⟩
                · intro k hk
                  rw [hlen] at hk
                  by_cases hki : k = i
                  · subst hki
                    refine ⟨splice es (offP τe p) u'.cells.toList, by rw [splice_length (by omega)]; exact q1, ?_, by rw [List.getElem_set_self]; exact g3.keeps (h16.keeps hown)⟩
                    intro j v hj
                    have hjl : j < es.length := by
                      have := (List.getElem?_eq_some_iff.1 hj).1
                      rwa [splice_length (by omega)] at this
                    obtain ⟨e1, e2⟩ := q2 j es[j] (List.getElem?_eq_getElem hjl)
                    refine ⟨e1, ?_⟩
                    rw [h16.cell]
                    rw [getElem?_splice (by omega)] at hj
                    by_cases hc : offP τe p ≤ j ∧ j < offP τe p + u'.cells.toList.length
                    · rw [if_pos hc] at hj
                      rw [if_pos (by omega), show off + k * τe.size + j - (off + k * τe.size + offP τe p) = j - offP τe p by omega]; exact hj
                    · rw [if_neg hc] at hj
                      rw [if_neg (by omega), e2, ← hj, List.getElem?_eq_getElem hjl]
                  · obtain ⟨es', r1, r2, r3⟩ := h12 k hk
                    refine ⟨es', r1, ?_, by rw [List.getElem_set_ne (Ne.symm hki)]; exact r3.keeps (h16.keeps hown)⟩
                    intro j v hj
                    obtain ⟨e1, e2⟩ := r2 j v hj
                    refine ⟨e1, ?_⟩
                    have hjl : j < es'.length := (List.getElem?_eq_some_iff.1 hj).1
                    rw [h16.cell, if_neg, e2]
                    rintro ⟨c1, c2⟩
                    rcases Nat.lt_or_gt_of_ne hki with hlt | hgt
                    · have : k * τe.size + τe.size ≤ i * τe.size := by rw [← Nat.succ_mul]; exact Nat.mul_le_mul_right _ hlt
                      omega
                    · have : i * τe.size + τe.size ≤ k * τe.size := by rw [← Nat.succ_mul]; exact Nat.mul_le_mul_right _ hgt
                      omega
                · exact h16.shps _ _ h13
                · intro j c1 c2
                  obtain ⟨d1, d2, ⟨v, d3⟩, d4⟩ := h14 j c1 c2
                  refine ⟨d1, d2, ?_, by rw [h16.frozen]; exact d4⟩
                  rw [h16.cell]
                  split
                  · rename_i hc
                    exact ⟨_, List.getElem?_eq_getElem (by omega)⟩
                  · exact ⟨v, d3⟩
              · rename_i e
                exact (s1.mems s').keeps (h16.keeps hown) (h16.ownKeeps hown e) h16.shps rfl
      · cases h2
    · cases h2
  · cases h2

theorem set_set (σ : S) (s : Nat) (e e' : Entry) : (σ.set s e).set s e' = σ.set s e' := by
  unfold S.set
  congr 1
  funext k
  rw [upd_eq, upd_eq]
  split
  · rfl
  · rename_i hk; show upd σ.mem s e k = _; rw [upd_eq, if_neg hk]

theorem once_did (hE : EnvOk P E) (h : St N Z own β σ a w) {t : Nat} {τ : Ty} {v v' : V} {u u' : Value} {r : V × S} (ht : E.ty t = some τ) (hu : RepS own w β σ.mem v u) (hu' : RepS own w β σ.mem v' u')
    (he : execOp a.eval o = (do Instr.storeAt t u u'; pure .skip)) (hr : (onceM τ v v').run σ = some r) : Did P N Z o a w r.2 r.1 := by
  have key : ∃ s ver τe xs fr, (storeM τ v v').run σ = some (V.dead, (sets σ fr).set s (.own ver τe xs .full)) ∧ r = (V.dead, (sets σ fr).set s (.own ver τe xs .tail)) := by
    have gen : ∀ (k k' : τ.D → List (Nat × Entry) → M V), (∀ y fr, (k y fr).run σ = some r → ∃ s ver τe xs fr', (k' y fr).run σ = some (V.dead, (sets σ fr').set s (.own ver τe xs .full)) ∧ r = (V.dead, (sets σ fr').set s (.own ver τe xs .tail))) →
        (asD τ v' k).run σ = some r → ∃ s ver τe xs fr, (asD τ v' k').run σ = some (V.dead, (sets σ fr).set s (.own ver τe xs .full)) ∧ r = (V.dead, (sets σ fr).set s (.own ver τe xs .tail)) := by
      intro k k' hk hr
      cases v' with
      | val τ' x =>
        simp only [asD] at hr ⊢
        split at hr
        · exact hk _ _ hr
        · cases hr
      | nil =>
        cases τ with
        | sl e => exact hk _ _ hr
        | _ => cases hr
      | ref s ver =>
        simp only [asD, M.run] at hr ⊢
        split at hr
        · rename_i ver' τe xs m hm
          cases hmp : m.noRd with
          | true => rw [hmp] at hr; cases hr
          | false =>
          rw [hmp, cond_false] at hr
          try rw [cond_false]
          split at hr
          · rename_i e
            rw [if_pos e]
            split at hr
            · exact hk _ _ hr
            · cases hr
          · cases hr
        · cases hr
      | _ => cases hr
    refine gen _ _ ?_ hr
    intro y fr h2
    cases v with
    | elp s ver i p =>
      simp only [M.run] at h2 ⊢
      split at h2
      · rename_i ver' τe xs hm
        split at h2
        · rename_i e
          rw [if_pos e]
          obtain ⟨xs', h3, h4⟩ := fin_run h2
          refine ⟨s, ver', τe, xs', fr, ?_, ?_⟩
          · simp only [M.run, h3, Option.map_some, writes_fixed_snoc]
          · rw [h4]; simp only [writes_fixed_snoc]
        · cases h2
      · cases h2
    | _ => cases h2
  obtain ⟨s, ver, τe, xs, fr, h1, h2⟩ := key
  have hd := store_did hE h ht hu hu' he h1
  subst h2
  intro Q
  refine Oper.wp_mono ?_ (hd Q)
  rintro a' w' ⟨u0, e1, own', β', hs, _⟩
  obtain ⟨own2, hs2, _, _⟩ := hs.freeze1 (s := s) (ver := ver) (τ := τe) (xs := xs) (by show upd _ _ _ _ = _; rw [upd_eq, if_pos rfl])
  rw [set_set] at hs2
  exact ⟨u0, e1, own2, β', hs2, trivial⟩

end
end Go.Re
