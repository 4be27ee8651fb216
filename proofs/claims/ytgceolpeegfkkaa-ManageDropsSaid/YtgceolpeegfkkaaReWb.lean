/- Reflection, part Wb: variables in which rows grow. -/
import Derived.Test.YtgceolpeegfkkaaReWa
namespace Go.Re
set_option linter.unusedVariables false
set_option linter.unusedSimpArgs false
open Go.RowKit (Below)

/-- Cells change their owner. -/
def giveOwn (own : Own) (r : Nat × Nat × Nat) (d : Nat) : Own := fun b j => if b = r.1 ∧ r.2.1 ≤ j ∧ j < r.2.2 then some d else own b j

section
variable {P : Program} {E : Env} {N : Nat} {Z : Base} {own : Own} {β : Conc} {σ : S} {a : Act} {w w' : World} {o : Oper} {r : Nat × Nat × Nat} {d q s b lo hi off : Nat} {l : List (Nat × Nat)} {ds : List Value}

theorem giveOwn_out {j : Nat} (h : ¬ (b = r.1 ∧ r.2.1 ≤ j ∧ j < r.2.2)) : giveOwn own r d b j = own b j := if_neg h
theorem giveOwn_in {j : Nat} (h1 : r.2.1 ≤ j) (h2 : j < r.2.2) : giveOwn own r d r.1 j = some d := if_pos ⟨rfl, h1, h2⟩

theorem give_keeps (hr : ∀ j, r.2.1 ≤ j → j < r.2.2 → own r.1 j = some q) : Keeps own (giveOwn own r d) w w := by
  intro b o v h1 h2
  refine ⟨?_, h2⟩
  rw [giveOwn_out]
  · exact h1
  · rintro ⟨rfl, h3, h4⟩
    rw [hr o h3 h4] at h1; cases h1

theorem give_ownKeeps (hr : ∀ j, r.2.1 ≤ j → j < r.2.2 → own r.1 j = some q) {s' : Nat} (hs : s' ≠ q) : OwnKeeps s' own (giveOwn own r d) w w := by
  have key : ∀ b o, own b o = some s' → giveOwn own r d b o = some s' := by
    intro b o h1
    rw [giveOwn_out]
    · exact h1
    · rintro ⟨rfl, h3, h4⟩
      rw [hr o h3 h4] at h1; cases h1; exact hs rfl
  exact ⟨fun b o v h1 h2 => ⟨key _ _ h1, h2, rfl⟩, fun r es c h1 h2 => ⟨key _ _ h1, h2⟩⟩

theorem TailR.give (h : TailR Z own w s b lo hi) (ha : Apart (b, lo, hi) r) : TailR Z (giveOwn own r d) w s b lo hi := by
  intro j h1 h2
  obtain ⟨h3, h4⟩ := h j h1 h2
  refine ⟨?_, h4⟩
  rw [giveOwn_out]
  · exact h3
  · rintro ⟨e, h5, h6⟩
    exact ha j e h1 h2 h5 h6

theorem TailR.giveSame (h : TailR Z own w s b lo hi) : TailR Z (giveOwn own r s) w s b lo hi := by
  intro j h1 h2
  obtain ⟨h3, h4⟩ := h j h1 h2
  refine ⟨?_, h4⟩
  unfold giveOwn; split
  · rfl
  · exact h3

theorem TailR.got (h : TailR Z own w s r.1 r.2.1 r.2.2) : TailR Z (giveOwn own r d) w d r.1 r.2.1 r.2.2 :=
  fun j h1 h2 => ⟨giveOwn_in h1 h2, (h j h1 h2).2⟩

theorem TailR.wrote {b' : Nat} (h : TailR Z own w s b lo hi) (hw : Wrote b' off ds w w') : TailR Z own w' s b lo hi := by
  intro j h1 h2
  obtain ⟨h3, h4, ⟨v, h5⟩, h6⟩ := h j h1 h2
  refine ⟨h3, h4, ?_, ?_⟩
  · by_cases hb : b = b'
    · subst hb
      rw [hw.cell]; split
      · rename_i hc; exact ⟨_, List.getElem?_eq_getElem (by omega)⟩
      · exact ⟨v, h5⟩
    · exact ⟨v, by rw [cell?_of_heap (hw.block b hb)]; exact h5⟩
  · by_cases hb : b = b'
    · subst hb; rw [hw.frozen]; exact h6
    · rw [frozen?_of_heap (hw.block b hb)]; exact h6

theorem mem_cutG {n : Nat} {q : Nat × Nat} : q ∈ cutG off n l ↔ q ∈ l ∧ (q.1 < off ∨ off + n ≤ q.1) := by
  unfold cutG
  rw [List.mem_filter]
  have h1 : Nat.ble off q.1 = decide (off ≤ q.1) := by
    rw [Bool.eq_iff_iff, decide_eq_true_eq]; exact iff_of_eq Nat.ble_eq
  have h2 : Nat.ble (q.1 + 1) (off + n) = decide (q.1 + 1 ≤ off + n) := by
    rw [Bool.eq_iff_iff, decide_eq_true_eq]; exact iff_of_eq Nat.ble_eq
  rw [h1, h2]
  simp only [Bool.not_eq_true', Bool.and_eq_false_iff, decide_eq_false_iff_not]
  constructor
  · rintro ⟨h, h' | h'⟩
    · exact ⟨h, by omega⟩
    · exact ⟨h, by omega⟩
  · rintro ⟨h, h'⟩
    exact ⟨h, by omega⟩

theorem hasG_some {sz : Nat} (h : hasG off sz l = true) : ∃ q ∈ l, q.1 = off ∧ q.2 = sz := by
  unfold hasG at h
  obtain ⟨q, hq, h⟩ := List.any_eq_true.1 h
  simp only [Bool.and_eq_true] at h
  exact ⟨q, hq, Nat.eq_of_beq_eq_true h.1, Nat.eq_of_beq_eq_true h.2⟩

theorem one?_some {α : Type} {xs : List α} {x : α} (h : one? xs = some x) : xs = [x] := by
  unfold one? at h
  split at h
  · cases h; rfl
  · cases h

theorem GrowR.wrote (h : GrowR Z own w s b lo hi l) (hw : Wrote b (lo + off) ds w w') : GrowR Z own w' s b lo hi (cutG off ds.length l) := by
  obtain ⟨reg, h⟩ := h
  refine ⟨reg, fun q hq => ?_⟩
  obtain ⟨hq, ho⟩ := mem_cutG.1 hq
  obtain ⟨h0, ⟨a, n, c, h1, h2⟩, h3, h4, h5⟩ := h q hq
  refine ⟨h0, ⟨a, n, c, ?_, h2⟩, h3.wrote hw, h4, fun q' hq' => h5 q' (mem_cutG.1 hq').1⟩
  rw [hw.cell, if_neg (by omega)]; exact h1

/-- A row of one's own becomes such a variable. -/
theorem St.toGb (h : St N Z own β σ a w) {ver : Nat} {τ : Ty} {xs : List τ.D} (hm : σ.mem s = .own ver τ xs .full)
    (hg : ∀ b o n c, β s = .slice (some ⟨b, o, none⟩) n c → GrowR Z own w s b o (o + c * τ.size) l ∧ c = 1) : St N Z own β (σ.set s (.own ver τ xs (.gb l))) a w := by
  have hE := h.mems s
  rw [hm] at hE
  obtain ⟨ad, cap, h1, h2, h3, h4, h5⟩ := hE
  refine h.go (Frm.refl _ _ _) (fun _ _ _ _ => rfl) (Keeps.refl _ _) ?_ rfl ?_
  · intro s'
    show Evo β β s' (σ.mem s') (upd σ.mem s _ s')
    rw [upd_eq]; split
    · rename_i e; subst e; rw [hm]; exact Evo.setOwn rfl rfl
    · exact Evo.same _ rfl
  · intro s'
    show RepE Z own w β s' (upd σ.mem s _ s')
    rw [upd_eq]; split
    · rename_i e; subst e
      exact ⟨ad, cap, h1, h2, h3, h4, h5.imp (fun h => ⟨h.1, fun h => by cases h⟩) fun ⟨b, o, e1, e2, e3⟩ => ⟨b, o, e1, e2, e3, hg b o _ cap (by rw [h1, e1])⟩⟩
    · exact h.mems s'

theorem gbox_did (h : St N Z own β σ a w) {d : Nat} {τ : Ty} (hv : τ.isVal = true) (hgd : τ.good = true) {t : Nat}
    (hrun : ∀ w, (execOp a.eval o).run P w = .ok (.value (.pointer (some ⟨w.heap.size, 0, none⟩))) { w with heap := w.heap.push (.cells (mkV τ (zeroC τ)).cells t (0, 0)) })
    {r : V × S} (hr : (gboxM d τ l).run σ = some r) : Did P N Z o a w r.2 r.1 := by
  unfold gboxM at hr
  cases hc : l.all fun q => isNil0 (zeroC τ)[q.1]? with
  | false => rw [hc] at hr; cases hr
  | true =>
  rw [hc] at hr
  simp only [cond_true, M.run] at hr
  obtain ⟨_, h1, h2⟩ := Option.map_eq_some_iff.1 hr
  subst h2
  have hu : RepV own w τ (mkV τ (zeroC τ)) τ.zero := RepV.mk hv (zero_rep hgd)
  have hrep := hu.cells
  have hl := hrep.length
  have hcs : (mkV τ (zeroC τ)).cells.toList = zeroC τ := mkV_cells hv (zero_rep (own := own) (w := w) hgd)
  have hel : ElemsC own w τ (mkV τ (zeroC τ)).cells.toList [τ.zero] := by
    refine ⟨by rw [hl, List.length_singleton, Nat.one_mul]; exact Nat.le_refl _, fun i hi => ?_⟩
    obtain rfl : i = 0 := by simpa using hi
    rw [Nat.zero_mul, List.drop_zero, ← hl, List.take_length]
    exact hrep
  have ha := alloc1_var (mkV τ (zeroC τ)) t w
  have s2 := h.newRow ha (site d 0) hel 1 (by simp) (by omega) (by simp [big]) (by rw [hl, Nat.one_mul])
  have s3 := s2.toGb (s := site d 0) (l := l) (ver := nextVer (σ.mem (site d 0))) (τ := τ) (xs := [τ.zero]) (by show upd σ.mem _ _ _ = _; rw [upd_eq, if_pos rfl]) (by
    intro b o n c hb
    rw [upd_eq, if_pos rfl] at hb
    cases hb
    refine ⟨⟨fun _ => (0, 0, 0), fun q hq => ?_⟩, rfl⟩
    have hq1 := List.all_eq_true.1 hc q hq
    have hq2 : (zeroC τ)[q.1]? = some (.slice none 0 0) := by
      revert hq1
      generalize (zeroC τ)[q.1]? = z
      intro hz
      unfold isNil0 at hz
      split at hz
      · rfl
      · cases hz
    have hq3 : q.1 < (zeroC τ).length := (List.getElem?_eq_some_iff.1 hq2).1
    rw [hcs] at hl
    refine ⟨by omega, ⟨none, 0, 0, ?_, .inl ⟨rfl, rfl⟩⟩, fun j c1 c2 => ?_, fun j _ _ c2 => ?_, fun _ _ _ j _ _ c2 => ?_⟩
    · rw [Nat.zero_add, ha.cell, hcs]; exact hq2
    · exact absurd c2 (Nat.not_lt_zero _)
    · exact absurd c2 (Nat.not_lt_zero _)
    · exact absurd c2 (Nat.not_lt_zero _))
  rw [set_set] at s3
  refine did_value (hrun w) s3 ?_
  refine ⟨by show _ < nextVer (upd σ.mem _ _ _); rw [upd_eq, if_pos rfl]; simp [nextVer], fun τ' xs m e => ?_⟩
  have e : upd σ.mem (site d 0) (Entry.own (nextVer (σ.mem (site d 0))) τ [τ.zero] (.gb l)) (site d 0) = _ := e
  rw [upd_eq, if_pos rfl] at e
  cases e
  exact ⟨by simp, w.heap.size, 0, 1, 1, by rw [upd_eq, if_pos rfl]; rfl, by rw [offP_nil, Nat.zero_mul]⟩

/-- A growing row is taken out. -/
theorem gld_did (hE : EnvOk P E) (h : St N Z own β σ a w) {t d : Nat} {τ : Ty} {v : V} {u : Value} {r : V × S} (ht : E.ty t = some τ) (hu : RepS own w β σ.mem v u)
    (he : execOp a.eval o = (do pure (.value (← Instr.loadAt t u)))) (hr : (gldM d τ v).run σ = some r) : Did P N Z o a w r.2 r.1 := by
  have hT := hE.ty t τ ht
  unfold gldM at hr
  split at hr
  · rename_i e
    split at hr
    · rename_i s ver i p
      simp only [M.run] at hr
      split at hr
      · rename_i ver' τe xs l hm
        split at hr
        · rename_i x hx
          split at hr
          · rename_i hc
            obtain ⟨rfl, rfl, hds, hg⟩ := hc
            obtain ⟨y, h1, h2⟩ := fin_run hr
            have hxs := one?_some hx
            subst hxs
            obtain ⟨hi, b, off, nn, cc, h3, rfl⟩ := hu.2 τe [x] _ hm
            have hmm := h.mems s
            rw [hm] at hmm
            obtain ⟨ad, cap, h4, h5, h6, h7, h8⟩ := (RepE.rowV h3 hmm).2
            rw [h3] at h4; cases h4
            rcases h8 with ⟨h8, _⟩ | ⟨b', off', h8, h9, ⟨h10, h11⟩, h12, hc1⟩
            · rw [h8] at h5; simp at h5
            cases h8
            obtain ⟨es, g1, g2, g3⟩ := h9 0 (by simp)
            have g3 : RepC own w τe es x := g3
            obtain ⟨k1, k2⟩ := getP_rep τe x es p (.sl e) y g3 h1
            have hld := hT.load (w := w) (b := b) (off := off + 0 * τe.size + offP τe p) k2 (fun j v hj => by
              rw [List.getElem?_take] at hj
              split at hj
              · rw [List.getElem?_drop] at hj
                have := (g2 _ _ hj).2
                rwa [← Nat.add_assoc] at this
              · cases hj)
            obtain ⟨A, C, k3, k4, k5, k6, k7⟩ := k2
            rw [k3] at hld
            have k8 : es[offP τe p]? = some (.slice A y.length C) := by
              have h0 : ((es.drop (offP τe p)).take 1)[0]? = some (.slice A y.length C) := by
                rw [show (es.drop (offP τe p)).take 1 = _ from k3]; rfl
              rw [List.getElem?_take, if_pos (by omega), List.getElem?_drop] at h0
              exact h0
            have k9 := (g2 _ _ k8).2
            rw [Nat.zero_mul, Nat.add_zero] at k9
            obtain ⟨reg, hreg⟩ := h12
            obtain ⟨q, hq, hq1, hq2⟩ := hasG_some hg
            obtain ⟨r0, ⟨A', n', C', r1, r2⟩, r3, r4, r5⟩ := hreg q hq
            rw [hq1, k9] at r1; cases r1
            have hin : ∀ j, (reg q.1).2.1 ≤ j → j < (reg q.1).2.2 → own (reg q.1).1 j = some s := fun j c1 c2 => (r3 j c1 c2).1
            have hk : Keeps own (giveOwn own (reg q.1) (site d 0)) w w := give_keeps hin
            have hks : ∀ s', s' ≠ s → OwnKeeps s' own (giveOwn own (reg q.1) (site d 0)) w w := fun s' hs => give_ownKeeps hin hs
            have r4' : Apart (b, off, off + cc * τe.size) (reg q.1) := fun j e c1 c2 c3 c4 => r4 j e.symm c3 c4 c1 c2
            rw [h2]
            have hmem : ∀ s', (upd (upd σ.mem s (Entry.own ver τe [x] (.gb (cutG (offP τe p) 1 l)))) (site d 0) (.own (nextVer (σ.mem (site d 0))) e y .tail)) s' =
                if s' = site d 0 then Entry.own (nextVer (σ.mem (site d 0))) e y .tail else if s' = s then Entry.own ver τe [x] (.gb (cutG (offP τe p) 1 l)) else σ.mem s' := fun s' => by rw [upd_eq, upd_eq]
            have hβ : ∀ s', upd β (site d 0) (.slice A y.length C) s' = if s' = site d 0 then .slice A y.length C else β s' := fun s' => upd_eq _ _ _ _
            refine did_value (own' := giveOwn own (reg q.1) (site d 0)) (β' := upd β (site d 0) (.slice A y.length C)) (u := .slice A y.length C) (w' := w) (exec_v he ?_) ?_ ?_
            · simp only [Instr.loadAt, Instr.sureAddr, Sem.run_bind, Sem.run_pure, Result.andThen_ok]
              exact hld
            · refine h.go (Frm.refl _ _ _) ?_ hk ?_ rfl ?_
              · intro b' o' hlt hio
                rw [giveOwn_out]
                rintro ⟨rfl, c1, c2⟩
                rcases (r3 _ c1 c2).2.1 with c | c
                · omega
                · exact hio c
              · intro s'
                show Evo β _ s' (σ.mem s') (upd (upd σ.mem s _) (site d 0) _ s')
                rw [hmem]
                split
                · rename_i e; subst e; exact Evo.newOwn _ _ _ _
                · rename_i e
                  split
                  · rename_i e'; subst e'; rw [hm]; exact Evo.setOwn (by rw [hβ, if_neg e]) rfl
                  · exact Evo.same _ (by rw [hβ, if_neg e])
              · intro s'
                show RepE Z _ w _ s' (upd (upd σ.mem s _) (site d 0) _ s')
                rw [hmem]
                split
                · rename_i e'; subst e'
                  refine ⟨A, C, by rw [hβ, if_pos rfl], k4, k5, k6, ?_⟩
                  rcases r2 with ⟨r2, _⟩ | ⟨b1, o1, r2, r2'⟩
                  · exact .inl ⟨r2, fun h => by cases h⟩
                  refine k7.imp (fun h => ⟨h, fun h => by cases h⟩) fun ⟨bb, oo, p1, p2⟩ => ?_
                  rw [r2] at p1; cases p1
                  refine ⟨b1, o1, r2, fun i hi => ?_, ?_⟩
                  · obtain ⟨fs, f1, f2, f3⟩ := p2 i hi
                    exact ⟨fs, f1, fun j v hj => ⟨(hk _ _ _ (f2 j v hj).1 (f2 j v hj).2).1, (f2 j v hj).2⟩, f3.keeps hk⟩
                  · have := TailR.got (d := site d 0) r3
                    rw [r2', hq2] at this
                    rw [r2', hq2]
                    exact this
                · rename_i ne
                  split
                  · rename_i e'; subst e'
                    refine ⟨_, cc, by rw [hβ, if_neg ne]; exact h3, h5, h6, h7, .inr ⟨b, off, rfl, fun i hi => ?_, ⟨h10, h11.give r4'⟩, ⟨reg, fun q' hq' => ?_⟩, hc1⟩⟩
                    · obtain rfl : i = 0 := by simpa using hi
                      refine ⟨es, g1, fun j v hj => ⟨?_, (g2 j v hj).2⟩, g3.keeps hk⟩
                      rw [giveOwn_out]
                      · exact (g2 j v hj).1
                      · rintro ⟨e1, e2, e3⟩
                        have hj' : j < es.length := (List.getElem?_eq_some_iff.1 hj).1
                        have hcc : 1 * τe.size ≤ cc * τe.size := Nat.mul_le_mul_right _ h5
                        exact r4' _ e1 (by show off ≤ off + 0 * τe.size + j; omega) (by show off + 0 * τe.size + j < off + cc * τe.size; omega) e2 e3
                    · obtain ⟨hq', ho'⟩ := mem_cutG.1 hq'
                      obtain ⟨m0, m1, m2, m3, m4⟩ := hreg q' hq'
                      refine ⟨m0, m1, m2.give (m4 q hq (by omega)), m3, fun q2 hq2' => m4 q2 (mem_cutG.1 hq2').1⟩
                  · rename_i ne'
                    exact (h.mems s').keeps hk (hks s' ne') (fun _ _ e => e) (by rw [hβ, if_neg ne])
            · exact ref_new _ _ _ _ _ _ _ _ _ _
          · cases hr
        · cases hr
      · cases hr
    · cases hr
  · cases hr

/-- Some cells of such a variable are written. -/
theorem gb_write {t : Nat} {τ τe : Ty} (hT : TyOk P E.ty t τ) {x x' : τe.D} {y : τ.D} {p : List Stp} {u' : Value} {cc : Nat} (h9 : RowR own w (some s) τe b off [x])
    (h11 : TailR Z own w s b off (off + cc * τe.size)) (hcc : 1 ≤ cc) (hz : setP τe x p τ y = some x') (hV : RepV own w τ u' y) :
    ∃ w', (storeVar t ⟨b, off + 0 * τe.size + offP τe p, none⟩ u').run P w = .ok () w' ∧ Wrote b (off + offP τe p) u'.cells.toList w w' ∧ u'.cells.toList.length = τ.size ∧ offP τe p + τ.size ≤ τe.size ∧
      RowR own w' (some s) τe b off [x'] ∧ Keeps own own w w' ∧ (∀ s', s' ≠ s → OwnKeeps s' own own w w') ∧ Frm Z.w.heap.size Z.io w w' := by
  have hds := hV.cells
  have hdl := hds.length
  have h1c : 1 * τe.size ≤ cc * τe.size := Nat.mul_le_mul_right _ hcc
  rw [Nat.one_mul] at h1c
  obtain ⟨es, q1, q2, q3⟩ := h9 0 (by simp)
  obtain ⟨g1, g2, g3⟩ := setP_rep τe x es p τ y _ x' q3 hds hz
  have hin : ∀ j, j < τ.size → ∃ v, es[offP τe p + j]? = some v := fun j hj => ⟨_, List.getElem?_eq_getElem (by omega)⟩
  rw [Nat.zero_mul, Nat.add_zero] at q2 ⊢
  obtain ⟨w', h15, h16⟩ := hT.store (w := w) (b := b) (off := off + offP τe p) hV (fun j hj => by
    obtain ⟨v, hv⟩ := hin j hj
    have e3 := (q2 _ v hv).2
    have e4 := (h11 (off + offP τe p + j) (by omega) (by omega)).2.2.2
    rw [← Nat.add_assoc] at e3
    exact ⟨⟨v, e3⟩, e4⟩)
  have hown : ∀ j, j < u'.cells.toList.length → own b (off + offP τe p + j) = some s := fun j hj => (h11 _ (by omega) (by omega)).1
  have hwr : ∀ j, j < u'.cells.toList.length → Z.wr b (off + offP τe p + j) := fun j hj => (h11 _ (by omega) (by omega)).2.1
  refine ⟨w', h15, h16, hdl, g2, ?_, h16.keeps hown, fun s' hs => h16.ownKeeps hown hs, h16.frame hwr⟩
  intro i hi
  obtain rfl : i = 0 := by simpa using hi
  rw [Nat.zero_mul, Nat.add_zero]
  refine ⟨splice es (offP τe p) u'.cells.toList, by rw [splice_length (by omega)]; exact q1, ?_, g3.keeps (h16.keeps hown)⟩
  intro j v hj
  have hjl : j < es.length := by
    have := (List.getElem?_eq_some_iff.1 hj).1
    rwa [splice_length (by omega)] at this
  obtain ⟨e1, e2⟩ := q2 j es[j] (List.getElem?_eq_getElem hjl)
  refine ⟨e1, ?_⟩
  rw [h16.cell]
  rw [getElem?_splice (by omega)] at hj
  by_cases hc : offP τe p ≤ j ∧ j < offP τe p + u'.cells.toList.length
  · rw [if_pos hc] at hj
    rw [if_pos (by omega), show off + j - (off + offP τe p) = j - offP τe p by omega]; exact hj
  · rw [if_neg hc] at hj
    rw [if_neg (by omega), e2, ← hj, List.getElem?_eq_getElem hjl]

/-- A datum is stored in such a variable. -/
theorem gst_did (hE : EnvOk P E) (h : St N Z own β σ a w) {t : Nat} {τ : Ty} {v v' : V} {u u' : Value} {r : V × S} (ht : E.ty t = some τ) (hu : RepS own w β σ.mem v u) (hu' : RepS own w β σ.mem v' u')
    (he : execOp a.eval o = (do Instr.storeAt t u u'; pure .skip)) (hr : (gstM τ v v').run σ = some r) : Did P N Z o a w r.2 r.1 := by
  have hT := hE.ty t τ ht
  unfold gstM at hr
  obtain ⟨y, fr, hf, hA, _, h2⟩ := asD_run h hu' hr
  obtain ⟨own1, s1, k1, v1⟩ := h.freeze hf
  have hV := v1 _ _ _ hA
  split at h2
  · rename_i s ver i p
    simp only [M.run] at h2
    split at h2
    · rename_i ver' τe xs l hm
      split at h2
      · rename_i x hx
        split at h2
        · rename_i hc
          obtain ⟨rfl, rfl, hfr⟩ := hc
          obtain ⟨x', h3, h4⟩ := fin_run h2
          have hxs := one?_some hx
          subst hxs
          obtain ⟨hi, b, off, nn, cc, h5, rfl⟩ := hu.2 τe [x] _ hm
          have hnot : ∀ q ∈ fr, q.1 ≠ s := by
            intro q hq e
            have := List.all_eq_true.1 hfr q hq
            rw [e] at this
            simp at this
          have hm1 : (sets σ fr).mem s = .own ver τe [x] (.gb l) := by rw [sets_mem_other fr hnot]; exact hm
          have hmm := s1.mems s
          rw [hm1] at hmm
          obtain ⟨ad, cap, h6, h7, h8, h9, h10⟩ := (RepE.rowV h5 hmm).2
          rw [h5] at h6; cases h6
          rcases h10 with ⟨h11, _⟩ | ⟨b', off', h11, h12, ⟨h13, h14⟩, hG, hc1⟩
          · rw [h11] at h7; simp at h7
          cases h11
          obtain ⟨w', e1, e2, e3, e4, e5, e6, e7, e8⟩ := gb_write (P := P) hT h12 h14 h7 h3 hV
          rw [h4]
          simp only [writes_fixed_snoc]
          refine did_skip (β' := β) (own' := own1) (w' := w') ?_ ?_
          · rw [he]; exact run_u (by simp only [Instr.storeAt, Instr.sureAddr, Sem.run_bind, Sem.run_pure, Result.andThen_ok]; exact e1)
          · refine s1.go e8 (fun _ _ _ _ => rfl) e6 ?_ rfl ?_
            · intro s'
              show Evo β β s' _ (upd (sets σ fr).mem s _ s')
              rw [upd_eq]; split
              · rename_i e; subst e; rw [hm1]; exact Evo.setOwn rfl rfl
              · exact Evo.same _ rfl
            · intro s'
              show RepE Z own1 w' β s' (upd (sets σ fr).mem s _ s')
              rw [upd_eq]; split
              · rename_i e; subst e
                exact ⟨_, cc, h5, h7, h8, h9, .inr ⟨b, off, rfl, e5, ⟨e2.shps _ _ h13, h14.wrote e2⟩, by rw [← e3]; exact hG.wrote e2, hc1⟩⟩
              · rename_i e
                exact (s1.mems s').keeps e6 (e7 s' e) e2.shps rfl
        · cases h2
      · cases h2
    · cases h2
  · cases h2

/-- A row is put in. -/
theorem gin_did (hE : EnvOk P E) (h : St N Z own β σ a w) {t : Nat} {τ : Ty} {s ver i s2 ver2 : Nat} {p : List Stp} {u u' : Value} {r : V × S} (ht : E.ty t = some τ) (hu : RepS own w β σ.mem (.elp s ver i p) u)
    (hu' : RepS own w β σ.mem (.ref s2 ver2) u') (he : execOp a.eval o = (do Instr.storeAt t u u'; pure .skip)) (hr : (ginM τ s ver i p s2 ver2).run σ = some r) : Did P N Z o a w r.2 r.1 := by
  have hT := hE.ty t τ ht
  unfold ginM at hr
  simp only [M.run] at hr
  split at hr
  · rename_i v1 τe xs l v2 e ys hm hm2
    split at hr
    · rename_i hc
      obtain ⟨rfl, rfl, rfl, hne⟩ := hc
      split at hr
      · rename_i x y hx hy
        obtain ⟨rfl, hy⟩ := cast?_some hy
        have hy : ys = y := hy
        subst hy
        obtain ⟨x', h3, h4⟩ := fin_run hr
        have hxs := one?_some hx
        subst hxs
        obtain ⟨hi, b, off, nn, cc, h5, rfl⟩ := hu.2 τe [x] _ hm
        have hmm := h.mems s
        rw [hm] at hmm
        obtain ⟨ad, cap, h6, h7, h8, h9, h10⟩ := (RepE.rowV h5 hmm).2
        rw [h5] at h6; cases h6
        rcases h10 with ⟨h11, _⟩ | ⟨b', off', h11, h12, ⟨h13, h14⟩, hG, hc1⟩
        · rw [h11] at h7; simp at h7
        cases h11
        -- the row that is put in
        have hu2 := hu'.2 e ys .tail hm2
        have hm2' := h.mems s2
        rw [hm2] at hm2'
        obtain ⟨A, C, f1, f2, f3, f4, f5⟩ := hm2'
        have hV : RepV own w (.sl e) u' ys := by
          rw [hu2, f1]
          exact RowR.frozen f2 f3 f4 (f5.imp (·.1) fun ⟨b, o, e6, e7, _⟩ => ⟨b, o, e6, e7⟩)
        obtain ⟨w', e1, e2, e3, e4, e5, e6, e7, e8⟩ := gb_write (P := P) hT h12 h14 h7 h3 hV
        have hcell : u'.cells.toList = [.slice A ys.length C] := by rw [hu2, f1]; rfl
        -- the room behind it
        obtain ⟨R, hR1, hR2⟩ : ∃ R : Nat × Nat × Nat, TailR Z own w s2 R.1 R.2.1 R.2.2 ∧ ((C = 0 ∧ R = (0, 0, 0)) ∨ ∃ b' o', A = some ⟨b', o', none⟩ ∧ R = (b', o' + ys.length * e.size, o' + C * e.size)) := by
          rcases f5 with ⟨f5, _⟩ | ⟨b', o', f5, f6, f7⟩
          · exact ⟨(0, 0, 0), fun j _ c2 => absurd c2 (Nat.not_lt_zero _), .inl ⟨f5, rfl⟩⟩
          · exact ⟨(b', o' + ys.length * e.size, o' + C * e.size), f7, .inr ⟨b', o', f5, rfl⟩⟩
        have hin : ∀ j, R.2.1 ≤ j → j < R.2.2 → own R.1 j = some s2 := fun j c1 c2 => (hR1 j c1 c2).1
        have hk : Keeps own (giveOwn own R s) w w' := e6.trans (give_keeps hin)
        have hks : ∀ s', s' ≠ s → s' ≠ s2 → OwnKeeps s' own (giveOwn own R s) w w' := fun s' c1 c2 => by
          have k1 := e7 s' c1
          have k2 : OwnKeeps s' own (giveOwn own R s) w' w' := give_ownKeeps hin c2
          exact ⟨fun b o v q1 q2 => let ⟨q3, q4, q5⟩ := k1.1 b o v q1 q2; let ⟨q6, q7, q8⟩ := k2.1 b o v q3 q4; ⟨q6, q7, q8.trans q5⟩, fun r es c q1 q2 => let ⟨q3, q4⟩ := k1.2 r es c q1 q2; k2.2 r es c q3 q4⟩
        have hst : ∀ b j, own b j = some s → giveOwn own R s b j = some s := fun b j c1 => by
          unfold giveOwn; split
          · rfl
          · exact c1
        rw [h4]
        have hmem : ∀ s', (upd (upd σ.mem s2 (Entry.own ver2 e ys .view)) s (Entry.own ver τe [x'] (.gb ((offP τe p, e.size) :: cutG (offP τe p) 1 l)))) s' =
            if s' = s then Entry.own ver τe [x'] (.gb ((offP τe p, e.size) :: cutG (offP τe p) 1 l)) else if s' = s2 then Entry.own ver2 e ys .view else σ.mem s' := fun s' => by rw [upd_eq, upd_eq]
        refine did_skip (β' := β) (own' := giveOwn own R s) (w' := w') ?_ ?_
        · rw [he]; exact run_u (by simp only [Instr.storeAt, Instr.sureAddr, Sem.run_bind, Sem.run_pure, Result.andThen_ok]; exact e1)
        · refine h.go e8 ?_ hk ?_ rfl ?_
          · intro b' o' hlt hio
            rw [giveOwn_out]
            rintro ⟨rfl, c1, c2⟩
            rcases (hR1 _ c1 c2).2.1 with c | c
            · omega
            · exact hio c
          · intro s'
            show Evo β β s' (σ.mem s') (upd (upd σ.mem s2 _) s _ s')
            rw [hmem]
            split
            · rename_i c; subst c; rw [hm]; exact Evo.setOwn rfl rfl
            · split
              · rename_i c; subst c; rw [hm2]; exact Evo.setOwn rfl rfl
              · exact Evo.same _ rfl
          · intro s'
            show RepE Z _ w' β s' (upd (upd σ.mem s2 _) s _ s')
            rw [hmem]
            split
            · rename_i c; subst c
              refine ⟨_, cc, h5, h7, h8, h9, .inr ⟨b, off, rfl, fun i hi => ?_, ⟨e2.shps _ _ h13, (h14.wrote e2).giveSame⟩, ?_, hc1⟩⟩
              · obtain ⟨es, q1, q2, q3⟩ := e5 i hi
                exact ⟨es, q1, fun j v hj => ⟨hst _ _ (q2 j v hj).1, (q2 j v hj).2⟩, q3.keeps (give_keeps hin)⟩
              · have hG' := hG.wrote e2
                rw [e3] at hG'
                obtain ⟨reg, hreg⟩ := hG'
                have hcs : 1 * τe.size ≤ cc * τe.size := Nat.mul_le_mul_right _ h7
                have hsz : (Ty.sl e).size = 1 := rfl
                have ap : ∀ b1 lo1 hi1, TailR Z own w' s' b1 lo1 hi1 → Apart R (b1, lo1, hi1) := fun b1 lo1 hi1 hta j c0 c1 c2 c3 c4 => by
                  have d1 := hin j c1 c2
                  have d2 := (hta j c3 c4).1
                  have c0 : R.1 = b1 := c0
                  rw [c0] at d1
                  rw [d1] at d2
                  cases d2; exact hne rfl
                have apb : Apart R (b, off, off + cc * τe.size) := ap _ _ _ (h14.wrote e2)
                have sym : ∀ {r r' : Nat × Nat × Nat}, Apart r r' → Apart r' r := fun h j c0 c1 c2 c3 c4 => h j c0.symm c3 c4 c1 c2
                refine ⟨fun k => if k = offP τe p then R else reg k, fun q hq => ?_⟩
                rcases List.mem_cons.1 hq with hq | hq
                · subst hq
                  refine ⟨by show off + offP τe p < _; omega, ⟨A, ys.length, C, ?_, ?_⟩, ?_, ?_, ?_⟩
                  · show w'.cell? ⟨b, off + offP τe p, none⟩ = _
                    have := e2.inside 0 (.slice A ys.length C) (by rw [hcell]; rfl)
                    rwa [Nat.add_zero] at this
                  · simp only [if_pos]
                    exact hR2
                  · simp only [if_pos]
                    exact TailR.got (hR1.wrote e2)
                  · simp only [if_pos]; exact apb
                  · intro q' hq' hne'
                    rcases List.mem_cons.1 hq' with hq' | hq'
                    · exact absurd (by rw [hq']) hne'
                    · simp only [if_pos, if_neg hne']
                      exact ap _ _ _ (hreg q' hq').2.2.1
                · obtain ⟨_, ho⟩ := mem_cutG.1 hq
                  have hqn : q.1 ≠ offP τe p := by omega
                  obtain ⟨m0, m1, m2, m3, m4⟩ := hreg q hq
                  refine ⟨m0, ?_, ?_, ?_, ?_⟩
                  · simp only [if_neg hqn]; exact m1
                  · simp only [if_neg hqn]; exact m2.giveSame
                  · simp only [if_neg hqn]; exact m3
                  · intro q' hq' hne'
                    rcases List.mem_cons.1 hq' with hq' | hq'
                    · subst hq'
                      simp only [if_pos, if_neg hqn]
                      exact sym (ap _ _ _ m2)
                    · have hqn' : q'.1 ≠ offP τe p := by
                        have := (mem_cutG.1 hq').2
                        omega
                      simp only [if_neg hqn, if_neg hqn']
                      exact m4 q' hq' hne'
            · rename_i ne
              split
              · rename_i c; subst c
                refine ⟨A, C, f1, f2, f3, f4, f5.imp (fun h => ⟨h.1, fun h => by cases h⟩) fun ⟨b', o', q1, q2, q3⟩ => ⟨b', o', q1, ?_, trivial⟩⟩
                exact q2.keeps hk (fun b o v c1 c2 => hk b o v c1 c2)
              · rename_i ne'
                exact (h.mems s').keeps hk (hks s' ne ne') e2.shps rfl
      · cases hr
    · cases hr
  · cases hr

/-- A datum with nil slices is stored. -/
theorem gsz_did (hE : EnvOk P E) (h : St N Z own β σ a w) {t : Nat} {τ τ' : Ty} {xx : τ'.D} {z : List (Nat × Nat)} {s ver i : Nat} {p : List Stp} {u u' : Value} {r : V × S} (ht : E.ty t = some τ) (hu : RepS own w β σ.mem (.elp s ver i p) u)
    (hu' : RepS own w β σ.mem (.zval τ' xx z) u') (he : execOp a.eval o = (do Instr.storeAt t u u'; pure .skip)) (hr : (gszM τ s ver i p τ' xx z).run σ = some r) : Did P N Z o a w r.2 r.1 := by
  have hT := hE.ty t τ ht
  unfold gszM at hr
  simp only [M.run] at hr
  split at hr
  · rename_i ver' τe xs l hm
    split at hr
    · rename_i x y hx hy
      obtain ⟨eq, hy⟩ := cast?_some hy
      subst eq
      have hy : xx = y := hy
      subst hy
      split at hr
      · rename_i hc
        obtain ⟨rfl, rfl⟩ := hc
        obtain ⟨x', h3, h4⟩ := fin_run hr
        have hxs := one?_some hx
        subst hxs
        obtain ⟨hi, b, off, nn, cc, h5, rfl⟩ := hu.2 τe [x] _ hm
        have hmm := h.mems s
        rw [hm] at hmm
        obtain ⟨ad, cap, h6, h7, h8, h9, h10⟩ := (RepE.rowV h5 hmm).2
        rw [h5] at h6; cases h6
        rcases h10 with ⟨h11, _⟩ | ⟨b', off', h11, h12, ⟨h13, h14⟩, hG, hc1⟩
        · rw [h11] at h7; simp at h7
        cases h11
        obtain ⟨hV, hzz⟩ := hu'
        obtain ⟨w', e1, e2, e3, e4, e5, e6, e7, e8⟩ := gb_write (P := P) hT h12 h14 h7 h3 hV
        rw [h4]
        refine did_skip (β' := β) (own' := own) (w' := w') ?_ ?_
        · rw [he]; exact run_u (by simp only [Instr.storeAt, Instr.sureAddr, Sem.run_bind, Sem.run_pure, Result.andThen_ok]; exact e1)
        · refine h.go e8 (fun _ _ _ _ => rfl) e6 ?_ rfl ?_
          · intro s'
            show Evo β β s' _ (upd σ.mem s _ s')
            rw [upd_eq]; split
            · rename_i e; subst e; rw [hm]; exact Evo.setOwn rfl rfl
            · exact Evo.same _ rfl
          · intro s'
            show RepE Z own w' β s' (upd σ.mem s _ s')
            rw [upd_eq]; split
            · rename_i e; subst e
              refine ⟨_, cc, h5, h7, h8, h9, .inr ⟨b, off, rfl, e5, ⟨e2.shps _ _ h13, h14.wrote e2⟩, ?_, hc1⟩⟩
              have hG' := hG.wrote e2
              rw [e3] at hG'
              obtain ⟨reg, hreg⟩ := hG'
              have hcs : 1 * τe.size ≤ cc * τe.size := Nat.mul_le_mul_right _ h7
              have none0 : ∀ r : Nat × Nat × Nat, Apart (0, 0, 0) r := fun r j _ _ c2 => absurd c2 (Nat.not_lt_zero _)
              have sym : ∀ {r r' : Nat × Nat × Nat}, Apart r r' → Apart r' r := fun h j c0 c1 c2 c3 c4 => h j c0.symm c3 c4 c1 c2
              refine ⟨fun k => if offP τe p ≤ k ∧ k < offP τe p + τ'.size then (0, 0, 0) else reg k, fun q hq => ?_⟩
              have inz : ∀ q ∈ z, q.1 < τ'.size := fun q hq => by
                have := (List.getElem?_eq_some_iff.1 (hzz q hq)).1
                omega
              rcases List.mem_append.1 hq with hq | hq
              · obtain ⟨q0, hq0, rfl⟩ := List.mem_map.1 hq
                have hlt := inz q0 hq0
                have hif : offP τe p ≤ offP τe p + q0.1 ∧ offP τe p + q0.1 < offP τe p + τ'.size := ⟨by omega, by omega⟩
                refine ⟨by show off + (offP τe p + q0.1) < _; omega, ⟨none, 0, 0, ?_, .inl ⟨rfl, ?_⟩⟩, ?_, ?_, ?_⟩
                · show w'.cell? ⟨b, off + (offP τe p + q0.1), none⟩ = _
                  rw [← Nat.add_assoc]
                  exact e2.inside _ _ (hzz q0 hq0)
                · simp only [if_pos hif]
                · simp only [if_pos hif]
                  exact fun j _ c2 => absurd c2 (Nat.not_lt_zero _)
                · simp only [if_pos hif]; exact none0 _
                · intro q' hq' hne'
                  simp only [if_pos hif]; exact none0 _
              · obtain ⟨_, ho⟩ := mem_cutG.1 hq
                have hif : ¬ (offP τe p ≤ q.1 ∧ q.1 < offP τe p + τ'.size) := by omega
                obtain ⟨m0, m1, m2, m3, m4⟩ := hreg q hq
                refine ⟨m0, ?_, ?_, ?_, ?_⟩
                · simp only [if_neg hif]; exact m1
                · simp only [if_neg hif]; exact m2
                · simp only [if_neg hif]; exact m3
                · intro q' hq' hne'
                  simp only [if_neg hif]
                  rcases List.mem_append.1 hq' with hq' | hq'
                  · obtain ⟨q0, hq0, rfl⟩ := List.mem_map.1 hq'
                    have hlt := inz q0 hq0
                    have hif' : offP τe p ≤ offP τe p + q0.1 ∧ offP τe p + q0.1 < offP τe p + τ'.size := ⟨by omega, by omega⟩
                    simp only [if_pos hif']
                    exact sym (none0 _)
                  · have hif' : ¬ (offP τe p ≤ q'.1 ∧ q'.1 < offP τe p + τ'.size) := by
                      have := (mem_cutG.1 hq').2
                      omega
                    simp only [if_neg hif']
                    exact m4 q' hq' hne'
            · rename_i e
              exact (h.mems s').keeps e6 (e7 s' e) e2.shps rfl
      · cases hr
    · cases hr
  · cases hr

theorem gstore_did (hE : EnvOk P E) (h : St N Z own β σ a w) {t : Nat} {τ : Ty} {v v' : V} {u u' : Value} {r : V × S} (ht : E.ty t = some τ) (hu : RepS own w β σ.mem v u) (hu' : RepS own w β σ.mem v' u')
    (he : execOp a.eval o = (do Instr.storeAt t u u'; pure .skip)) (hr : (gstoreM E τ v v').run σ = some r) : Did P N Z o a w r.2 r.1 := by
  unfold gstoreM at hr
  split at hr
  · rename_i s ver i p s2 ver2
    cases hg : E.gst s2 with
    | true => rw [hg] at hr; exact gin_did hE h ht hu hu' he hr
    | false => rw [hg] at hr; exact gst_did hE h ht hu hu' he hr
  · exact gsz_did hE h ht hu hu' he hr
  · exact gst_did hE h ht hu hu' he hr

end
end Go.Re
