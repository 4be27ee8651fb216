/- Reflection, part M: pieces, rows that are made, structs that are built. -/
import Derived.Test.YtgceolpeegfkkaaReL
namespace Go.Re
set_option linter.unusedVariables false
set_option linter.unusedSimpArgs false
open Go.RowKit (Below)

section
variable {P : Program} {E : Env} {N : Nat} {Z : Base} {own : Own} {β : Conc} {σ : S} {a : Act} {w : World} {o : Oper}

theorem bound_val {x : Option Operand} {v : Option Int} (h : (x = none ∧ v = none) ∨ ∃ op kd i, x = some op ∧ a.eval op = .int kd i ∧ v = some i) :
    (x.map a.eval = none ∧ v = none) ∨ ∃ kd i, x.map a.eval = some (.int kd i) ∧ v = some i := by
  rcases h with ⟨rfl, rfl⟩ | ⟨op, kd, i, rfl, h, rfl⟩
  · exact .inl ⟨rfl, rfl⟩
  · exact .inr ⟨kd, i, by simp [h], rfl⟩

/-- A box of one's own is given up: what lay in it is only read. -/
theorem St.thawBox (h : St N Z own β σ a w) {s ver : Nat} {τ : Ty} {x : τ.D} (hm : σ.mem s = .box ver τ x) {b o : Nat} {cs : List Value} (hb : β s = .pointer (some ⟨b, o, none⟩)) (hr : BoxR Z own w s b o cs) {n : Nat} (hn : cs.length = n) :
    ∃ own', St N Z own' β (σ.set s (.gone ver)) a w ∧ Keeps own own' w w ∧ ∀ j v, cs[j]? = some v → own' b (o + j) = none ∧ w.cell? ⟨b, o + j, none⟩ = some v := by
  have hown : ∀ b' o', (b' = b ∧ o ≤ o' ∧ o' < o + n) → own b' o' = some s ∧ Z.wr b' o' := by
    rintro b' o' ⟨rfl, h1, h2⟩
    obtain ⟨g1, g2, _⟩ := hr (o' - o) cs[o' - o] (List.getElem?_eq_getElem (by omega))
    rw [show o + (o' - o) = o' by omega] at g1 g2
    exact ⟨g1, g2⟩
  have hk : Keeps own (thaw own b o n) w w := by
    intro b' o' v h1 h2
    refine ⟨?_, h2⟩
    unfold thaw; split
    · rfl
    · exact h1
  have hks : ∀ s', s' ≠ s → OwnKeeps s' own (thaw own b o n) w w := by
    intro s' hs'
    have keep : ∀ b' o', own b' o' = some s' → thaw own b o n b' o' = some s' := by
      intro b' o' h1
      unfold thaw; split
      · rename_i hc; rw [(hown b' o' hc).1] at h1; cases h1; exact absurd rfl hs'
      · exact h1
    exact ⟨fun b' o' v h1 h2 => ⟨keep _ _ h1, h2, rfl⟩, fun r es c h1 h2 => ⟨keep _ _ h1, h2⟩⟩
  refine ⟨thaw own b o n, h.go (Frm.refl _ _ _) ?_ hk ?_ rfl ?_, hk, fun j v hj => ⟨?_, (hr j v hj).2.2.1⟩⟩
  · intro b' o' hlt hio
    unfold thaw; split
    · rename_i hc
      rcases (hown b' o' hc).2 with h4 | h4
      · omega
      · exact absurd h4 hio
    · rfl
  · intro s'
    show Evo β β s' (σ.mem s') (upd σ.mem s _ s')
    rw [upd_eq]; split
    · rename_i e; subst e; rw [hm]; exact ⟨Nat.le_refl _, fun _ _ _ he _ => by (cases he), fun _ _ _ _ he _ => by (cases he)⟩
    · exact Evo.same _ rfl
  · intro s'
    show RepE Z _ w β s' (upd σ.mem s _ s')
    rw [upd_eq]; split
    · trivial
    · rename_i e; exact (h.mems s').keeps hk (hks s' e) (fun _ _ e => e) rfl
  · have hj' : j < cs.length := (List.getElem?_eq_some_iff.1 hj).1
    unfold thaw; rw [if_pos ⟨rfl, by omega, by omega⟩]

/-- An array that is only read, as a slice. -/
theorem arr_piece {n : Nat} {e : Ty} {b o : Nat} {cs : List Value} {x : List e.D} (hn : n ≤ 65536) (hr : RepC own w (.arr n e) cs x)
    (hc : ∀ j v, cs[j]? = some v → own b (o + j) = none ∧ w.cell? ⟨b, o + j, none⟩ = some v) : RepV own w (.sl e) (.slice (some ⟨b, o, none⟩) n n) x := by
  obtain ⟨r1, r2, r3⟩ := hr
  have := RowR.frozen (own := own) (w := w) (e := e) (a := some ⟨b, o, none⟩) (cap := n) (x := x) (by omega) (by omega) (by simp only [big]; omega) (.inr ⟨b, o, rfl, fun i hi => ?_⟩)
  · rw [r1] at this; exact this
  · have hie : i * e.size + e.size ≤ n * e.size := by rw [← Nat.succ_mul]; exact Nat.mul_le_mul_right _ (by omega)
    refine ⟨(cs.drop (i * e.size)).take e.size, by rw [List.length_take, List.length_drop]; omega, fun j v hj => ?_, r3 i hi⟩
    rw [List.getElem?_take] at hj
    split at hj
    · rw [List.getElem?_drop] at hj
      have := hc _ _ hj
      rwa [← Nat.add_assoc] at this
    · cases hj

theorem slice_did (hE : EnvOk P E) (h : St N Z own β σ a w) {t : Nat} {v : V} {u : Value} {lo hi : Option Operand} {lo' hi' : Option Int} {r : V × S} (hu : RepS own w β σ.mem v u)
    (hlo : (lo.map a.eval = none ∧ lo' = none) ∨ ∃ kd i, lo.map a.eval = some (.int kd i) ∧ lo' = some i) (hhi : (hi.map a.eval = none ∧ hi' = none) ∨ ∃ kd i, hi.map a.eval = some (.int kd i) ∧ hi' = some i)
    (he : execOp a.eval o = (do pure (.value (← Instr.sliceAt t u (lo.map a.eval) (hi.map a.eval) none)))) (hr : (sliceM E t v lo' hi').run σ = some r) : Did P N Z o a w r.2 r.1 := by
  have bounds : ∀ {n : Nat}, okSlc lo' hi' n = true → ∃ l m : Nat, l ≤ m ∧ m ≤ n ∧ (∀ {α : Type} (xs : List α), xs.length = n → slcO xs lo' hi' = (xs.take m).drop l) ∧
      ∀ (isSl : Bool) (cap : Nat), n ≤ cap → (Instr.sliceBounds isSl n cap (lo.map a.eval) (hi.map a.eval) none).run P w = .ok (l, m, cap) w := by
    intro n hok
    obtain ⟨l, m, h1, h2, h3, h4, h5, h6, h7⟩ := okSlc_bounds hok
    refine ⟨l, m, h5, h6, h7, fun isSl cap hc => sliceBounds_run h5 h6 hc ?_ ?_⟩
    · rcases hlo with ⟨e1, e2⟩ | ⟨kd, i, e1, e2⟩
      · exact .inl ⟨e1, h2 e2⟩
      · exact .inr ⟨kd, by rw [e1, h1 i e2]⟩
    · rcases hhi with ⟨e1, e2⟩ | ⟨kd, i, e1, e2⟩
      · exact .inl ⟨e1, h4 e2⟩
      · exact .inr ⟨kd, by rw [e1, h3 i e2]⟩
  unfold sliceM at hr
  split at hr
  · rename_i ht
    obtain ⟨x, h1, h2⟩ := asDr_run h hu hr
    obtain ⟨s, rfl, h3, h4⟩ := RepV.str.1 h1.str
    obtain ⟨y, h5, h6⟩ := fin_run h2
    have hl : x.length = s.size := by rw [← h3]; simp
    obtain ⟨l, m, g1, g2, g3, g4⟩ := bounds (chk_some h5)
    have hd : P.underlying t = some .string := (hE.ty t _ ht).desc
    rw [h6]
    refine did_value (exec_v he (u := .string (s.extract l m)) (w' := w) ?_) h ?_
    · have := g4 false s.size (by omega)
      rw [hl] at this
      simp [Instr.sliceAt, run_underlying hd, Instr.slice, this]
    · rw [g3 x rfl]
      refine RepV.str.2 ⟨_, rfl, ?_, ?_⟩
      · rw [← h3]
        simp [ByteArray.data_extract, List.extract_eq_take_drop, List.map_take, List.map_drop, List.drop_take]
      · simp; omega
  · rename_i e ht
    split at hr
    · -- of nil
      obtain ⟨y, h5, h6⟩ := fin_run hr
      have hu : u = .slice none 0 0 := hu
      obtain ⟨l, m, g1, g2, g3, g4⟩ := bounds (chk_some h5)
      obtain ⟨te, hd, hte⟩ := (hE.ty t _ ht).desc
      have hT := hE.ty te e hte
      obtain rfl : m = 0 := by omega
      obtain rfl : l = 0 := by omega
      rw [h6]
      refine did_value (exec_v he (u := .slice none 0 0) (w' := w) ?_) h rfl
      have := g4 true 0 (Nat.le_refl _)
      rw [hu]
      simp [Instr.sliceAt, run_underlying hd, Instr.slice, this, hT.cells]
    rename_i hnn
    obtain ⟨x, fr, hf, hA, hR, h2⟩ := asD_run h hu hr
    obtain ⟨y, h5, h6⟩ := fin_run h2
    obtain ⟨own1, s1, k1, v1⟩ := h.freeze hf
    have hV := v1 _ _ _ hA
    obtain ⟨ad, cap, q, rfl, e2, e3, e4, e5⟩ := hR.q
    obtain ⟨l, m, g1, g2, g3, g4⟩ := bounds (chk_some h5)
    obtain ⟨te, hd, hte⟩ := (hE.ty t _ ht).desc
    have hT := hE.ty te e hte
    rw [h6]
    simp only [writes_fixed]
    refine did_value (exec_v he (u := .slice (if cap = l then ad else ad.map (·.add (l * e.size))) (m - l) (cap - l)) (w' := w) ?_) s1 ?_
    · have := g4 true cap e2
      simp [Instr.sliceAt, run_underlying hd, Instr.slice, this, hT.cells]
    · rw [g3 x rfl]
      exact (hV.piece g1 g2).2.2
  · -- of an array
    rename_i n e hp
    obtain ⟨te, q2, q3⟩ := (hE.ty t _ hp).desc
    have hT := hE.ty te e q3
    unfold arrSlice at hr
    split at hr
    · rename_i s ver
      simp only [M.run] at hr
      split at hr
      · rename_i ver' τb x hm
        split at hr
        · rename_i hc
          obtain ⟨hc1, hc2⟩ := hc
          subst hc1
          split at hr
          · rename_i xs hx
            obtain ⟨eq, hx⟩ := cast?_some hx
            subst eq
            have hx : x = xs := hx
            subst hx
            obtain ⟨y, h5, h6⟩ := fin_run hr
            obtain ⟨l, m, g1, g2, g3, g4⟩ := bounds (chk_some h5)
            obtain ⟨b, o, k1, k2⟩ := hu.2 (.arr n e) x hm
            rw [offP_nil, Nat.add_zero] at k2
            have hmm := h.mems s
            rw [hm] at hmm
            obtain ⟨hv, b', o', cs, k3, k4, k5⟩ := hmm
            rw [k1] at k3; cases k3
            obtain ⟨r1, r2, r3⟩ := k5
            obtain ⟨own1, s1, kk, hrow⟩ := h.thawBox hm k1 k4 r2
            have hV : RepV own1 w (.sl e) (.slice (some ⟨b, o, none⟩) n n) x := by
              have := RowR.frozen (own := own1) (w := w) (e := e) (a := some ⟨b, o, none⟩) (cap := n) (x := x) (by omega) (by omega) (by simp only [big]; omega) (.inr ⟨b, o, rfl, fun i hi => ?_⟩)
              · rw [r1] at this; exact this
              · have hie : i * e.size + e.size ≤ n * e.size := by rw [← Nat.succ_mul]; exact Nat.mul_le_mul_right _ (by omega)
                refine ⟨(cs.drop (i * e.size)).take e.size, by rw [List.length_take, List.length_drop]; omega, fun j v hj => ?_, (r3 i hi).keeps kk⟩
                rw [List.getElem?_take] at hj
                split at hj
                · rw [List.getElem?_drop] at hj
                  have := hrow _ _ hj
                  rwa [← Nat.add_assoc] at this
                · cases hj
            rw [h6]
            refine did_value (exec_v he (u := .slice (if n = l then some ⟨b, o, none⟩ else (some ⟨b, o, none⟩ : Option Addr).map (·.add (l * e.size))) (m - l) (n - l)) (w' := w) ?_) s1 ?_
            · have := g4 false n (Nat.le_refl _)
              rw [k2]
              simp [Instr.sliceAt, run_underlying q2, this, hT.cells, Instr.sureAddr]
              split <;> rfl
            · rw [g3 x r1]
              exact (hV.piece g1 g2).2.2
          · cases hr
        · cases hr
      · cases hr
    · -- of a variable that is only read
      rename_i s ver i p
      simp only [M.run] at hr
      split at hr
      · rename_i ver' τe xs hm
        split at hr
        · rename_i hc
          obtain ⟨hc1, hc2⟩ := hc
          subst hc1
          split at hr
          rotate_left
          · cases hr
          rename_i ys hys
          obtain ⟨x, hx, hy⟩ := Option.bind_eq_some_iff.1 hys
          obtain ⟨z, h5, h6⟩ := fin_run hr
          obtain ⟨l, m, g1, g2, g3, g4⟩ := bounds (chk_some h5)
          obtain ⟨hi, b, off, nn, cc, k1, k2⟩ := hu.2 τe xs .tail hm
          have hmm := h.mems s
          rw [hm] at hmm
          obtain ⟨ad, cap, k3, k4, k5, k6, k7⟩ := hmm
          rw [k1] at k3; cases k3
          obtain ⟨hx1, hx2⟩ := List.getElem?_eq_some_iff.1 hx
          rcases k7 with ⟨k8, _⟩ | ⟨b', off', k8, k9, _⟩
          · omega
          cases k8
          obtain ⟨es, q1, q2', q3'⟩ := k9 i hx1
          rw [hx2] at q3'
          obtain ⟨q4, q5⟩ := getP_rep τe x es p _ ys q3' hy
          have hV := arr_piece (own := own) (w := w) (b := b) (o := off + i * τe.size + offP τe p) hc2 q5 (fun j v hj => by
            rw [List.getElem?_take] at hj
            split at hj
            · rw [List.getElem?_drop] at hj
              have := q2' _ _ hj
              rwa [← Nat.add_assoc] at this
            · cases hj)
          rw [h6]
          refine did_value (exec_v he (u := .slice (if n = l then some ⟨b, off + i * τe.size + offP τe p, none⟩ else (some ⟨b, off + i * τe.size + offP τe p, none⟩ : Option Addr).map (·.add (l * e.size))) (m - l) (n - l)) (w' := w) ?_) h ?_
          · have := g4 false n (Nat.le_refl _)
            rw [k2]
            simp [Instr.sliceAt, run_underlying q2, this, hT.cells, Instr.sureAddr]
            split <;> rfl
          · rw [g3 ys q5.1]
            exact (hV.piece g1 g2).2.2
        · cases hr
      · cases hr
    · rename_i τ x
      split at hr
      · rename_i xs hx
        split at hr
        · rename_i hc2
          obtain ⟨eq, hx⟩ := cast?_some hx
          subst eq
          have hx : x = xs := hx
          subst hx
          obtain ⟨y, h5, h6⟩ := fin_run hr
          obtain ⟨l, m, g1, g2, g3, g4⟩ := bounds (chk_some h5)
          obtain ⟨_, b, off, cs, k2, k3, q5⟩ := hu
          have hV := arr_piece (own := own) (w := w) (b := b) (o := off) hc2 q5 k3
          rw [h6]
          refine did_value (exec_v he (u := .slice (if n = l then some ⟨b, off, none⟩ else (some ⟨b, off, none⟩ : Option Addr).map (·.add (l * e.size))) (m - l) (n - l)) (w' := w) ?_) h ?_
          · have := g4 false n (Nat.le_refl _)
            rw [k2]
            simp [Instr.sliceAt, run_underlying q2, this, hT.cells, Instr.sureAddr]
            split <;> rfl
          · rw [g3 x q5.1]
            exact (hV.piece g1 g2).2.2
        · cases hr
      · cases hr
    · cases hr
  · cases hr

/-- A row of one's own, cut: the room behind stays one's own. -/
theorem cut_did (hE : EnvOk P E) (h : St N Z own β σ a w) {t : Nat} {v : V} {u : Value} {hi : Option Operand} {hi' : Option Int} {r : V × S} (hu : RepS own w β σ.mem v u)
    (hhi : (hi.map a.eval = none ∧ hi' = none) ∨ ∃ kd i, hi.map a.eval = some (.int kd i) ∧ hi' = some i)
    (he : execOp a.eval o = (do pure (.value (← Instr.sliceAt t u none (hi.map a.eval) none)))) (hr : (cutM E t v hi').run σ = some r) : Did P N Z o a w r.2 r.1 := by
  unfold cutM at hr
  split at hr
  · rename_i e ht
    split at hr
    · rename_i s ver hx
      simp only [M.run] at hr
      split at hr
      · rename_i ver' e' xs hm
        split at hr
        · rename_i hc; subst hc
          split at hr
          · rename_i xs' hxs
            obtain ⟨eq, hxs⟩ := cast?_some hxs
            cases eq
            have hxs : xs = xs' := hxs
            subst hxs
            obtain ⟨y, h5, h6⟩ := fin_run hr
            have h5 := chk_some h5
            simp only [Bool.and_eq_true, decide_eq_true_eq] at h5
            obtain ⟨h5, h7⟩ := h5
            obtain ⟨m, rfl⟩ : ∃ m : Nat, hx = (m : Int) := ⟨hx.toNat, by omega⟩
            have hml : m ≤ xs.length := by omega
            obtain ⟨te, hd, hte⟩ := (hE.ty t _ ht).desc
            have hT := hE.ty te e hte
            have hv : u = β s := hu.2 e xs .full hm
            have hmm := h.mems s
            rw [hm] at hmm
            obtain ⟨ad, cap, f1, f2, f3, f4, f5⟩ := hmm
            rw [h6]
            have hlen : (xs.take m).length = m := by simp; omega
            have hst : St N Z own (upd β s (.slice ad m cap)) (σ.set s (.own (nextVer (σ.mem s)) e (xs.take m) .full)) a w := by
              refine h.newSite (Frm.refl _ _ _) (fun _ _ _ _ => rfl) (Keeps.refl _ _) (fun _ _ => OwnKeeps.refl _ _ _) (fun _ _ e => e) (fun β' => Evo.newOwn _ _ _ _) ?_
              refine ⟨ad, cap, by rw [upd_eq, if_pos rfl, hlen], by omega, f3, by omega, f5.imp id ?_⟩
              rintro ⟨b, off, g1, g2, g3⟩
              refine ⟨b, off, g1, fun i hi => ?_, g3⟩
              obtain ⟨es, q1, q2, q3⟩ := g2 i (by omega)
              exact ⟨es, q1, q2, by rw [List.getElem_take]; exact q3⟩
            refine did_value (exec_v he (u := .slice ad m cap) (w' := w) ?_) hst ?_
            · have hb : (Instr.sliceBounds true xs.length cap none (hi.map a.eval) none).run P w = .ok (0, m, cap) w := by
                refine sliceBounds_run (Nat.zero_le _) hml f2 (.inl ⟨rfl, rfl⟩) ?_
                rcases hhi with ⟨_, e2⟩ | ⟨kd, i, e1, e2⟩
                · cases e2
                · cases e2; exact .inr ⟨kd, e1⟩
              rw [hv, f1]
              simp only [Instr.sliceAt, Sem.run_bind, run_underlying hd, Result.andThen_ok, Instr.slice, hb, hT.cells, Sem.run_pure, Nat.zero_mul, Nat.sub_zero]
              cases ad with
              | none => simp
              | some x => simp [Addr.add]
            · have := ref_new own w β σ.mem s (.slice ad m cap) (σ.mem s) e (xs.take m) .full
              exact this
          · cases hr
        · cases hr
      · cases hr
    · cases hr
  · cases hr

/-- A window of a row of one's own. -/
theorem win_did (hE : EnvOk P E) (h : St N Z own β σ a w) {t : Nat} {v : V} {u : Value} {lo : Option Operand} {lo' : Option Int} {r : V × S} (hu : RepS own w β σ.mem v u)
    (hlo : (lo.map a.eval = none ∧ lo' = none) ∨ ∃ kd i, lo.map a.eval = some (.int kd i) ∧ lo' = some i)
    (he : execOp a.eval o = (do pure (.value (← Instr.sliceAt t u (lo.map a.eval) none none)))) (hr : (winM E t v lo').run σ = some r) : Did P N Z o a w r.2 r.1 := by
  unfold winM at hr
  split at hr
  · rename_i e ht
    split at hr
    · rename_i s ver hx
      simp only [M.run] at hr
      split at hr
      · rename_i ver' e' xs hm
        split at hr
        · rename_i hc
          obtain ⟨hc1, hc2⟩ := hc
          subst hc1; subst hc2
          obtain ⟨y, h5, h6⟩ := fin_run hr
          have h5 := chk_some h5
          simp only [Bool.and_eq_true, decide_eq_true_eq] at h5
          obtain ⟨h5, h7⟩ := h5
          obtain ⟨l, rfl⟩ : ∃ l : Nat, hx = (l : Int) := ⟨hx.toNat, by omega⟩
          have hll : l ≤ xs.length := by omega
          obtain ⟨te, hd, hte⟩ := (hE.ty t _ ht).desc
          have hT := hE.ty te e' hte
          have hv : u = β s := hu.2 e' xs .full hm
          have hmm := h.mems s
          rw [hm] at hmm
          obtain ⟨ad, cap, f1, f2, f3, f4, f5⟩ := hmm
          rw [h6]
          refine did_value (exec_v he (u := .slice (if cap = l then ad else ad.map (·.add (l * e'.size))) (xs.length - l) (cap - l)) (w' := w) ?_) h ⟨hu.1, fun τ ys m hm' => ?_⟩
          · have hb : (Instr.sliceBounds true xs.length cap (lo.map a.eval) none none).run P w = .ok (l, xs.length, cap) w := by
              refine sliceBounds_run hll (Nat.le_refl _) f2 ?_ (.inl ⟨rfl, rfl⟩)
              rcases hlo with ⟨_, e2⟩ | ⟨kd, i, e1, e2⟩
              · cases e2
              · cases e2; exact .inr ⟨kd, e1⟩
            rw [hv, f1]
            simp [Instr.sliceAt, run_underlying hd, Instr.slice, hb, hT.cells]
          · have hm' : σ.mem s = .own ver τ ys m := hm'
            rw [hm] at hm'; cases hm'
            exact fun _ => ⟨by omega, ad, cap, f1, by simp⟩
        · cases hr
      · cases hr
    · cases hr
  · cases hr

/-- The first elements of a row of one's own. -/
theorem pre_did (hE : EnvOk P E) (h : St N Z own β σ a w) {t : Nat} {v : V} {u : Value} {hi : Option Operand} {hi' : Option Int} {r : V × S} (hu : RepS own w β σ.mem v u)
    (hhi : (hi.map a.eval = none ∧ hi' = none) ∨ ∃ kd i, hi.map a.eval = some (.int kd i) ∧ hi' = some i)
    (he : execOp a.eval o = (do pure (.value (← Instr.sliceAt t u none (hi.map a.eval) none)))) (hr : (preM E t v hi').run σ = some r) : Did P N Z o a w r.2 r.1 := by
  unfold preM at hr
  split at hr
  · rename_i e ht
    split at hr
    · rename_i s ver hx
      simp only [M.run] at hr
      split at hr
      · rename_i ver' e' xs hm
        split at hr
        · rename_i hc
          obtain ⟨hc1, hc2⟩ := hc
          subst hc1; subst hc2
          obtain ⟨y, h5, h6⟩ := fin_run hr
          have h5 := chk_some h5
          simp only [Bool.and_eq_true, decide_eq_true_eq] at h5
          obtain ⟨h5, h7⟩ := h5
          obtain ⟨l, rfl⟩ : ∃ l : Nat, hx = (l : Int) := ⟨hx.toNat, by omega⟩
          have hll : l ≤ xs.length := by omega
          obtain ⟨te, hd, hte⟩ := (hE.ty t _ ht).desc
          have hT := hE.ty te e' hte
          have hv : u = β s := hu.2 e' xs .full hm
          have hmm := h.mems s
          rw [hm] at hmm
          obtain ⟨ad, cap, f1, f2, f3, f4, f5⟩ := hmm
          rw [h6]
          refine did_value (exec_v he (u := .slice ad l cap) (w' := w) ?_) h ⟨hu.1, fun τ ys m hm' => ?_⟩
          · have hb : (Instr.sliceBounds true xs.length cap none (hi.map a.eval) none).run P w = .ok (0, l, cap) w := by
              refine sliceBounds_run (Nat.zero_le _) hll f2 (.inl ⟨rfl, rfl⟩) ?_
              rcases hhi with ⟨_, e2⟩ | ⟨kd, i, e1, e2⟩
              · cases e2
              · cases e2; exact .inr ⟨kd, e1⟩
            rw [hv, f1]
            simp only [Instr.sliceAt, Sem.run_bind, run_underlying hd, Result.andThen_ok, Instr.slice, hb, hT.cells, Sem.run_pure, Nat.zero_mul, Nat.sub_zero]
            cases ad with
            | none => simp
            | some x => simp [Addr.add]
          · have hm' : σ.mem s = .own ver τ ys m := hm'
            rw [hm] at hm'; cases hm'
            exact fun _ => ⟨by omega, ad, cap, f1, rfl⟩
        · cases hr
      · cases hr
    · cases hr
  · cases hr

theorem sliceOp_did (hE : EnvOk P E) (h : St N Z own β σ a w) {d t : Nat} {v : V} {u : Value} {lo hi : Option Operand} {lo' hi' : Option Int} {r : V × S} (hu : RepS own w β σ.mem v u)
    (hlo : (lo.map a.eval = none ∧ lo' = none) ∨ ∃ kd i, lo.map a.eval = some (.int kd i) ∧ lo' = some i) (hhi : (hi.map a.eval = none ∧ hi' = none) ∨ ∃ kd i, hi.map a.eval = some (.int kd i) ∧ hi' = some i)
    (he : execOp a.eval o = (do pure (.value (← Instr.sliceAt t u (lo.map a.eval) (hi.map a.eval) none)))) (hr : (sliceOpM E d t v lo' hi').run σ = some r) : Did P N Z o a w r.2 r.1 := by
  unfold sliceOpM at hr
  cases hc : E.cut d with
  | true =>
    rw [hc] at hr
    simp only [cond_true] at hr
    rcases hlo with ⟨e1, rfl⟩ | ⟨kd, i, e1, rfl⟩
    · rw [e1] at he
      exact cut_did hE h hu hhi he hr
    · cases hr
  | false =>
    rw [hc] at hr
    simp only [cond_false] at hr
    cases hw : E.win d with
    | true =>
      rw [hw] at hr
      simp only [cond_true] at hr
      rcases hhi with ⟨e1, rfl⟩ | ⟨kd, i, e1, rfl⟩
      · rw [e1] at he
        exact win_did hE h hu hlo he hr
      · cases hr
    | false =>
      rw [hw] at hr
      simp only [cond_false] at hr
      cases hp : E.pre d with
      | true =>
        rw [hp] at hr
        simp only [cond_true] at hr
        rcases hlo with ⟨e1, rfl⟩ | ⟨kd, i, e1, rfl⟩
        · rw [e1] at he
          exact pre_did hE h hu hhi he hr
        · cases hr
      | false =>
        rw [hp] at hr
        exact slice_did hE h hu hlo hhi he hr

theorem sliceBounds3_run {n cap l m : Nat} (hl : l ≤ m) (hm : m ≤ n) (hc : n ≤ cap) {lo : Option Value} {k k' : IntKind} (h1 : lo = none ∧ l = 0 ∨ ∃ k, lo = some (.int k (l : Int))) :
    (Instr.sliceBounds true n cap lo (some (.int k (m : Int))) (some (.int k' (m : Int)))).run P w = .ok (l, m, m) w := by
  rcases h1 with ⟨rfl, rfl⟩ | ⟨k2, rfl⟩ <;>
    simp [Instr.sliceBounds, sliceBound_run, hl, Nat.le_trans hm hc]

theorem RepV.piece3 {e : Ty} {ad : Option Addr} {n cap : Nat} {x : List e.D} (h : RepV own w (.sl e) (.slice ad n cap) x) {l m : Nat} (h1 : l ≤ m) (h2 : m ≤ n) :
    n = x.length ∧ n ≤ cap ∧ RepV own w (.sl e) (.slice (if m = l then ad else ad.map (·.add (l * e.size))) (m - l) (m - l)) ((x.take m).drop l) := by
  obtain ⟨a', cap', e1, e2, e3, e4, e5⟩ := RepV.sl.1 h
  cases e1
  have : RepV own w (.sl e) (.slice ad m m) (x.take m) := by
    have hlen : (x.take m).length = m := by simp; omega
    refine RepV.sl.2 ⟨ad, m, by rw [hlen], by omega, by omega, by omega, ?_⟩
    rcases e5 with e6 | ⟨b, o, rfl, e6⟩
    · left; omega
    · right
      refine ⟨b, o, rfl, fun i hi => ?_⟩
      obtain ⟨es, g1, g2, g3⟩ := e6 i (by omega)
      exact ⟨es, g1, g2, by rw [List.getElem_take]; exact g3⟩
  have h3 := (this.piece h1 (Nat.le_refl m)).2.2
  rw [List.take_take, Nat.min_self] at h3
  exact ⟨rfl, e2, h3⟩

/-- A piece with no room behind it. -/
theorem slice3_did (hE : EnvOk P E) (h : St N Z own β σ a w) {d t : Nat} {v : V} {u : Value} {lo : Option Operand} {lo' : Option Int} {k k' : IntKind} {hi mx : Int} {ho mo : Value} {r : V × S} (hu : RepS own w β σ.mem v u)
    (hlo : (lo.map a.eval = none ∧ lo' = none) ∨ ∃ kd i, lo.map a.eval = some (.int kd i) ∧ lo' = some i) (hho : ho = .int k hi) (hmo : mo = .int k' mx)
    (he : execOp a.eval o = (do pure (.value (← Instr.sliceAt t u (lo.map a.eval) (some ho) (some mo))))) (hr : (slice3M E d t v lo' hi mx).run σ = some r) : Did P N Z o a w r.2 r.1 := by
  unfold slice3M at hr
  split at hr
  · rename_i e ht
    obtain ⟨x, fr, hf, hA, hR, h2⟩ := asD_run h hu hr
    simp only [slice3F, M.run] at h2
    obtain ⟨_, h50, h6⟩ := Option.map_eq_some_iff.1 h2
    have h51 := chk_some h50
    simp only [Bool.and_eq_true, decide_eq_true_eq] at h51
    obtain ⟨h5, h7⟩ := h51
    clear h50
    subst h7
    obtain ⟨own1, s1, k1, v1⟩ := h.freeze hf
    have hV := v1 _ _ _ hA
    obtain ⟨ad, cap, q, rfl, e2, e3, e4, e5⟩ := hR.q
    obtain ⟨l, m, b1, b2, b3, b4, b5, b6, b7⟩ := okSlc_bounds h5
    obtain rfl : hi = (m : Int) := b3 hi rfl
    obtain ⟨te, hd, hte⟩ := (hE.ty t _ ht).desc
    have hT := hE.ty te e hte
    have hP := hV.piece3 b5 b6
    subst h6
    rw [sets_set, b7 x rfl]
    have hlen : ((x.take m).drop l).length = m - l := by simp; omega
    have hrun : (Instr.sliceAt t (.slice ad x.length cap) (lo.map a.eval) (some ho) (some mo)).run P w = .ok (.slice (if m = l then ad else ad.map (·.add (l * e.size))) (m - l) (m - l)) w := by
      have hb : (Instr.sliceBounds true x.length cap (lo.map a.eval) (some ho) (some mo)).run P w = .ok (l, m, m) w := by
        rw [hho, hmo]
        refine sliceBounds3_run b5 b6 e2 ?_
        rcases hlo with ⟨c1, c2⟩ | ⟨kd, i, c1, c2⟩
        · exact .inl ⟨c1, b2 c2⟩
        · exact .inr ⟨kd, by rw [c1, b1 i c2]⟩
      simp [Instr.sliceAt, run_underlying hd, Instr.slice, hb, hT.cells]
    generalize hval : (Value.slice (if m = l then ad else ad.map (·.add (l * e.size))) (m - l) (m - l)) = val at hrun hP
    obtain ⟨ad', cap', c1, c2, c3, c4, c5⟩ := RepV.sl.1 hP.2.2
    have c1 : val = .slice ad' ((x.take m).drop l).length cap' := by cases c1; rfl
    have hcap : cap' = ((x.take m).drop l).length := by rw [← hval] at c1; injection c1 with _ _ c; rw [hlen]; exact c.symm
    have hver : nextVer ((sets σ fr).mem (site d 0)) = nextVer (σ.mem (site d 0)) := sets_ver fr hf.weak (site d 0)
    have hst : St N Z own1 (upd β (site d 0) val) ((sets σ fr).set (site d 0) (.own (nextVer ((sets σ fr).mem (site d 0))) e ((x.take m).drop l) .tail)) a w := by
      refine s1.newSite (Frm.refl _ _ _) (fun _ _ _ _ => rfl) (Keeps.refl _ _) (fun _ _ => OwnKeeps.refl _ _ _) (fun _ _ e => e) (fun β' => Evo.newOwn _ _ _ _) ?_
      refine ⟨ad', cap', by rw [upd_eq, if_pos rfl]; exact c1, c2, c3, c4, ?_⟩
      rcases c5 with c5 | ⟨b, o', c6, c7⟩
      · exact .inl ⟨c5, fun h => by cases h⟩
      · exact .inr ⟨b, o', c6, c7, fun j j1 j2 => by rw [hcap] at j2; omega⟩
    refine did_value (exec_v he hrun) (by rw [hver] at hst; exact hst) ?_
    have := ref_new own1 w β (sets σ fr).mem (site d 0) val ((sets σ fr).mem (site d 0)) e ((x.take m).drop l) .tail
    rw [hver] at this
    exact this
  · cases hr

/-! ### rows that are made -/
theorem ElemsC.of_arr {n : Nat} {e : Ty} {cs : List Value} {x : List e.D} (h : RepC own w (.arr n e) cs x) : ElemsC own w e cs x ∧ x.length = n ∧ cs.length = n * e.size :=
  ⟨⟨by rw [h.1, h.2.1]; exact Nat.le_refl _, h.2.2⟩, h.1, h.2.1⟩

theorem flat_get {α : Type} (z : List α) : ∀ (n j : Nat), ((List.replicate n z).flatten)[j]? = if j < n * z.length then z[j % z.length]? else none
  | 0, j => by simp
  | n + 1, j => by
    rw [List.replicate_succ, List.flatten_cons]
    rcases Nat.lt_or_ge j z.length with h | h
    · rw [List.getElem?_append_left h, if_pos (by rw [Nat.succ_mul]; omega), Nat.mod_eq_of_lt h]
    · rw [List.getElem?_append_right h, flat_get z n]
      have e1 : (j - z.length) % z.length = j % z.length := (Nat.mod_eq_sub_mod h).symm
      rw [e1]
      by_cases h2 : j - z.length < n * z.length
      · rw [if_pos h2, if_pos (by rw [Nat.succ_mul]; omega)]
      · rw [if_neg h2, if_neg (by rw [Nat.succ_mul]; omega)]

theorem zeros_eq {τ : Ty} (hv : τ.isVal = true) (hg : τ.good = true) (n : Nat) : (Array.range (n * τ.size)).map (fun i => ((mkV τ (zeroC τ)).cells)[i % ((mkV τ (zeroC τ)).cells).size]!) = (zeroC (.arr n τ)).toArray := by
  have hz := zero_rep (own := fun _ _ => none) (w := default) hg
  have hc := mkV_cells hv hz
  have hl := hz.length
  have hcs : (mkV τ (zeroC τ)).cells = (zeroC τ).toArray := Array.ext' hc
  rw [hcs]
  apply Array.ext'
  simp only [Array.toList_map, Array.toList_range]
  show _ = (List.replicate n (zeroC τ)).flatten
  apply List.ext_getElem?
  intro j
  rw [List.getElem?_map, flat_get, hl]
  by_cases hj : j < n * τ.size
  · have hs : 0 < τ.size := by
      rcases Nat.eq_zero_or_pos τ.size with h0 | h0
      · rw [h0, Nat.mul_zero] at hj; omega
      · exact h0
    have hm : j % τ.size < (zeroC τ).length := by rw [hl]; exact Nat.mod_lt _ hs
    rw [List.getElem?_range hj, Option.map_some, if_pos hj, List.getElem?_eq_getElem hm]
    simp [hl, List.getElem?_eq_getElem hm]
  · rw [List.getElem?_eq_none (by simp; omega), if_neg hj]
    rfl

theorem own_did (h : St N Z own β σ a w) {d : Nat} {w' : World} {τ : Ty} {xs : List τ.D} {c : List Value} (ha : Alloc1 w w' c) (hr : ElemsC own w τ c xs) (cap : Nat) (h1 : xs.length ≤ cap)
    (h2 : cap < 9223372036854775808) (h3 : xs.length ≤ big) (h4 : c.length = cap * τ.size)
    (hrun : (execOp a.eval o).run P w = .ok (.value (.slice (some ⟨w.heap.size, 0, none⟩) xs.length cap)) w') :
    Did P N Z o a w (σ.set d (.own (nextVer (σ.mem d)) τ xs .full)) (.ref d (nextVer (σ.mem d))) :=
  did_value hrun (h.newRow ha d hr cap h1 h2 h3 h4) (ref_new _ _ _ _ _ _ _ _ _ _)

theorem make_did (hE : EnvOk P E) (h : St N Z own β σ a w) {d t : Nat} {e : Ty} {k k' : IntKind} {n c : Int} (ht : E.ty t = some (.sl e)) (hc : (decide (0 ≤ n) && decide (n ≤ c) && decide (c ≤ (lim : Int))) = true)
    (he : execOp a.eval o = (do pure (.value (← Instr.makeSlice t (.int k n) (.int k' c))))) :
    Did P N Z o a w (σ.set (site d 0) (.own (nextVer (σ.mem (site d 0))) e (List.replicate n.toNat e.zero) .full)) (.ref (site d 0) (nextVer (σ.mem (site d 0)))) := by
  rw [Bool.and_eq_true, Bool.and_eq_true] at hc
  have h0 : 0 ≤ n := of_decide_eq_true hc.1.1
  have h1 : n ≤ c := of_decide_eq_true hc.1.2
  have h2 : c ≤ 2147483648 := of_decide_eq_true hc.2
  obtain ⟨te, hd, hte⟩ := (hE.ty t _ ht).desc
  have hT := hE.ty te e hte
  obtain ⟨i, g1, g2, g3, g4⟩ := hT.info
  have hz := zeros_eq hT.isVal hT.good c.toNat
  have w1 : w64 n = n := w64_in (by omega) (by omega)
  have w2 : w64 c = c := w64_in (by omega) (by omega)
  unfold w64 at w1 w2
  have hrepz := zero_rep (own := own) (w := w) (τ := .arr c.toNat e) hT.good
  obtain ⟨q1, q2, q3⟩ := ElemsC.of_arr hrepz
  have hlen : (List.replicate n.toNat e.zero).length = n.toNat := by simp
  have hbytes : ¬ ((i.bytes : Int) * c > 2 ^ 48) := by
    have : (i.bytes : Int) * c ≤ 32768 * 2147483648 := Int.mul_le_mul (by omega) h2 (by omega) (by omega)
    omega
  have el : ElemsC own w e (zeroC (.arr c.toNat e)) (List.replicate n.toNat e.zero) := by
    refine ⟨?_, ?_⟩
    · rw [hlen, q3]; exact Nat.mul_le_mul_right _ (by omega)
    · intro j hj
      rw [hlen] at hj
      have hx : (Ty.zero (.arr c.toNat e)).length = c.toNat := q2
      have := q1.2 j (by rw [hx]; omega)
      have e1 : (Ty.zero (.arr c.toNat e))[j]'(by rw [hx]; omega) = e.zero := by simp [Ty.zero]
      rw [e1] at this
      simpa using this
  refine own_did h (w' := { w with heap := w.heap.push (.cells (zeroC (.arr c.toNat e)).toArray te (0, 0)) }) (alloc1_push w (zeroC (.arr c.toNat e)) te w.drawn) el c.toNat (by rw [hlen]; omega) (by omega) (by rw [hlen]; simp only [big]; omega) q3 ?_
  rw [hlen]
  refine exec_v he ?_
  have hcn : ¬ (c < 0) := by omega
  have hnn : ¬ (n < 0) := by omega
  have hnc : ¬ (n > c) := by omega
  simp only [Instr.makeSlice, Sem.run_bind, run_underlying hd, Result.andThen_ok, asInt, asIntOf, Sem.run_pure, typeInfo, run_program, g1, w1, w2]
  have hcond : ¬ (decide (c < 0) || decide ((i.bytes : Int) * c > 2 ^ 48) || decide (n < 0) || decide (n > c)) = true := by
    simp only [Bool.or_eq_true, decide_eq_true_eq, not_or]
    exact ⟨⟨⟨hcn, hbytes⟩, hnn⟩, hnc⟩
  rw [if_neg hcond]
  simp only [Sem.run_bind, run_askRoom, Result.andThen_ok, hT.cells, Sem.run_ite]
  by_cases hz0 : c.toNat * e.size = 0
  · have e0 : (zeroC (.arr c.toNat e)).toArray = #[] := by
      have : (zeroC (.arr c.toNat e)).length = 0 := by rw [q3]; exact hz0
      rw [List.eq_nil_of_length_eq_zero this]
    rw [if_pos hz0, e0]
    simp [newRow, hz0, Array.range_zero']
  · rw [if_neg hz0]
    simp only [Sem.run_bind, hT.zeroRun, Result.andThen_ok, Sem.run_pure, newRow, run_newObj, hz]

/-- The first elements of a row that is only read, as an array. -/
theorem arr_of_row {e : Ty} {b o : Nat} {x : List e.D} (h : RowR own w none e b o x) {n : Nat} (hn : n ≤ x.length) :
    ∃ cs, RepC own w (.arr n e) cs (x.take n) ∧ ∀ j v, cs[j]? = some v → own b (o + j) = none ∧ w.cell? ⟨b, o + j, none⟩ = some v := by
  have key : ∀ n, n ≤ x.length → ∃ cs : List Value, cs.length = n * e.size ∧ (∀ i (h : i < n) (h' : i < x.length), RepC own w e ((cs.drop (i * e.size)).take e.size) x[i]) ∧
      ∀ j v, cs[j]? = some v → own b (o + j) = none ∧ w.cell? ⟨b, o + j, none⟩ = some v := by
    intro n
    induction n with
    | zero => exact fun _ => ⟨[], by simp, fun i h => by omega, fun j v h => by simp at h⟩
    | succ n ih =>
      intro hn
      obtain ⟨cs, k1, k2, k3⟩ := ih (by omega)
      obtain ⟨es, g1, g2, g3⟩ := h n hn
      refine ⟨cs ++ es, by rw [List.length_append, k1, g1, Nat.succ_mul], ?_, ?_⟩
      · intro i hi hi'
        rcases Nat.lt_or_ge i n with h | h
        · have hb : i * e.size + e.size ≤ n * e.size := by rw [← Nat.succ_mul]; exact Nat.mul_le_mul_right _ h
          rw [List.drop_append_of_le_length (by omega), List.take_append_of_le_length (by simp; omega)]
          exact k2 i h hi'
        · have : i = n := by omega
          subst this
          rw [List.drop_append, List.drop_eq_nil_of_le (by omega), List.nil_append, k1, Nat.sub_self, List.drop_zero, ← g1, List.take_length]
          exact g3
      · intro j v hj
        rcases Nat.lt_or_ge j cs.length with h | h
        · rw [List.getElem?_append_left h] at hj; exact k3 j v hj
        · rw [List.getElem?_append_right h] at hj
          have := g2 _ _ hj
          rwa [show o + n * e.size + (j - cs.length) = o + j by omega] at this
  obtain ⟨cs, k1, k2, k3⟩ := key n hn
  refine ⟨cs, ⟨by rw [List.length_take]; omega, k1, fun i hi => ?_⟩, k3⟩
  have hi' : i < n := by rw [List.length_take] at hi; omega
  have := k2 i hi' (by omega)
  rw [List.getElem_take]
  exact this

theorem toArr_did (hE : EnvOk P E) (h : St N Z own β σ a w) {t n : Nat} {e : Ty} {y : List e.D} {fr : List (Nat × Entry)} {u : Value} (ht : E.ty t = some (.arr n e)) (hn : 1 ≤ n) (hf : Frz σ fr) (hA : RepA own w β σ.mem fr (.sl e) u y)
    (he : execOp a.eval o = (do pure (.value (← Instr.arrayAt t u)))) {r : V × S} (hr : (M.fin Unit (chk (decide (n ≤ y.length))) (fun _ => V.rpt (.arr n e) (y.take n)) (fixed fr)).run σ = some r) : Did P N Z o a w r.2 r.1 := by
  obtain ⟨_, h1, h2⟩ := fin_run hr
  have h1 := of_decide_eq_true (chk_some h1)
  obtain ⟨own1, s1, k1, v1⟩ := h.freeze hf
  obtain ⟨te, q2, q3⟩ := (hE.ty t _ ht).desc
  obtain ⟨ad, cap, e1, e2, e3, e4, e5⟩ := RepV.sl.1 (v1 _ _ _ hA)
  cases e1
  rcases e5 with e5 | ⟨b, off, e5, e6⟩
  · omega
  obtain ⟨cs, g1, g2⟩ := arr_of_row (own := own1) (w := w) (e := e) (b := b) (o := off) (x := y) e6 h1
  rw [h2]
  simp only [writes_fixed]
  refine did_value (exec_v he (u := .pointer (some ⟨b, off, none⟩)) (w' := w) ?_) s1 ⟨rfl, b, off, cs, rfl, g2, g1⟩
  have hl : ¬ (y.length < n) := by omega
  simp [Instr.arrayAt, run_underlying q2, hl, e5]

end
end Go.Re
