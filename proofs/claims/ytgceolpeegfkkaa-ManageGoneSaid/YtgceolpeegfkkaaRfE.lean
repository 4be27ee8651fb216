/- Reflection, part AE: functions. -/
import Derived.Test.YtgceolpeegfkkaaRfD
namespace Go.Re
set_option linter.unusedVariables false
set_option linter.unusedSimpArgs false
set_option linter.unnecessarySimpa false
open Go.RowKit (Below)

/-- The results are where it's told. -/
def rvB (E : Env) : List ResultVar → List RV → Bool
  | [], [] => true
  | .tmp t :: r, .tmp t' _ :: r' => Nat.beq t t' && rvB E r r'
  | .cell a ty :: r, .cell a' τ :: r' => Nat.beq a a' && (decide (E.ty ty = some τ) && rvB E r r')
  | _, _ => false

section
variable {P : Program} {E : Env} {N : Nat} {Z : Base} {own : Own} {β : Conc} {σ : S} {a : Act} {w : World}

/-- A piece of the result. -/
theorem row_ret {B : Nat} {e : Ty} {xs : List e.D} {m : Mode} {s : Nat} (hm : m = .full ∨ m = .tail) (h : RepE Z own w β s (.own 0 e xs m))
    (hB : ∀ b o n cap, β s = .slice (some ⟨b, o, none⟩) n cap → (m = .full → 0 < cap * e.size → B ≤ b) ∧ (m = .tail → xs.length * e.size < cap * e.size → B ≤ b)) :
    RetC own w B s (.sl e, m) (β s) xs := by
  obtain ⟨ad, cap, e1, e2, e3, e4, e5⟩ := RepE.row (by rcases hm with rfl | rfl <;> rfl) h
  rcases hm with rfl | rfl
  · refine ⟨ad, cap, e1, e2, e3, e4, e5.imp (fun h => ⟨h.2 rfl, h.1⟩) ?_⟩
    rintro ⟨b, o, e6, e7, e8, e9⟩
    refine ⟨b, o, e6, fun hpos => (hB b o _ cap (by rw [e1, e6])).1 rfl hpos, e7, e8, fun j h1 h2 => ?_⟩
    obtain ⟨k1, k2, k3, k4⟩ := e9 j h1 h2
    exact ⟨k1, k3, k4⟩
  · refine ⟨ad, cap, e1, e2, e3, e4, e5.imp (·.1) ?_⟩
    rintro ⟨b, o, e6, e7, e9⟩
    refine ⟨b, o, e6, e7, fun hpos => (hB b o _ cap (by rw [e1, e6])).2 rfl hpos, fun j h1 h2 => ?_⟩
    obtain ⟨k1, k2, k3, k4⟩ := e9 j h1 h2
    exact ⟨k1, k3, k4⟩

def All2 {α β : Type} (R : α → β → Prop) : List α → List β → Prop
  | [], [] => True
  | x :: r, y :: s => R x y ∧ All2 R r s
  | _, _ => False

/-- What the results are, when the frame ends. -/
def outV (a : Act) (w : World) (P : Program) : ResultVar → Value → Prop
  | .tmp t, u => u = a.tmps.getD t undef
  | .cell x ty, u => ∃ ad, a.tmps.getD x undef = .pointer (some ad) ∧ (loadVar ty ad).run P w = .ok u w

theorem mapM_out {f : ResultVar → Sem Value} (hf : ∀ r u, outV a w P r u → (f r).run P w = .ok u w) : ∀ (rs : List ResultVar) (us : List Value), All2 (outV a w P) rs us → (rs.mapM f).run P w = .ok us w
  | [], [], _ => rfl
  | r :: rs, u :: us, h => by
    obtain ⟨h1, h2⟩ := h
    rw [List.mapM_cons, Sem.run_bind, hf r u h1, Result.andThen_ok, Sem.run_bind, mapM_out hf rs us h2, Result.andThen_ok]; rfl
  | [], _ :: _, h => h.elim
  | _ :: _, [], h => h.elim

theorem results_out {fn : Func} {us : List Value} (h : All2 (outV a w P) fn.results.toList us) : (results fn a.tmps).run P w = .ok (retV us) w := by
  unfold results
  rw [Array.mapM_eq_mapM_toList]
  simp only [bind_map_left, Sem.run_bind]
  rw [mapM_out (f := _) ?_ _ _ h]
  · simp only [Result.andThen_ok, Sem.run_pure]
    congr 1
    match us with
    | [] => rfl
    | [u] => rfl
    | u :: v :: r => rfl
  · intro r u hr
    cases r with
    | tmp t => have hr : u = _ := hr; rw [hr]; rfl
    | cell x ty =>
      obtain ⟨ad, h1, h2⟩ := hr
      simp only [h1, asAddr, Sem.run_bind, Sem.run_pure, Result.andThen_ok]
      exact h2

/-- The rows that go to the caller: old site, its new name, from which cell on. -/
def RV.keeps (r : RV) (σ : S) (a : Act) (q : Nat) : List (Nat × Nat × Nat) :=
  match r.ji with
  | .row t e m => match σ.slots t with
    | .ref s _ => [(s, q, lowOf m e (a.tmps.getD t undef))]
    | _ => []
  | j => j.keeps σ a
def keepsR (rid : Nat → Nat) : Nat → List RV → S → Act → List (Nat × Nat × Nat)
  | _, [], _, _ => []
  | i, r :: l, σ, a => r.keeps σ a (rid i) ++ keepsR rid (i + 1) l σ a

theorem RV.keeps_keys (r : RV) (σ : S) (a : Act) (q : Nat) : (r.keeps σ a q).map (·.1) = r.ji.kept σ := by
  unfold RV.keeps
  split
  · rename_i t e m hj
    rw [hj]
    simp only [JI.kept]; cases σ.slots t <;> rfl
  · exact Go.Re.keeps_keys _ _ _
theorem keepsR_keys (rid : Nat → Nat) : ∀ (l : List RV) (i : Nat) (σ : S) (a : Act), (keepsR rid i l σ a).map (·.1) = keptAll (l.map RV.ji) σ
  | [], _, _, _ => rfl
  | r :: l, i, σ, a => by simp [keepsR, keptAll, RV.keeps_keys, keepsR_keys rid l]

theorem nil_ret {B q : Nat} {e : Ty} {m : Mode} {u : Value} (hm : m.isMp = false) (hu : u = .slice none 0 0) : RetC own w B q (.sl e, m) u ([] : List e.D) := by
  subst hu
  cases m with
  | full => exact ⟨none, 0, rfl, Nat.le_refl _, by omega, Nat.zero_le _, .inl ⟨rfl, rfl⟩⟩
  | tail => exact ⟨none, 0, rfl, Nat.le_refl _, by omega, Nat.zero_le _, .inl rfl⟩
  | view => exact RepV.sl.2 ⟨none, 0, rfl, Nat.le_refl _, by omega, Nat.zero_le _, .inl rfl⟩
  | mp => cases hm
  | gb l => exact RepV.sl.2 ⟨none, 0, rfl, Nat.le_refl _, by omega, Nat.zero_le _, .inl rfl⟩

theorem RetC.of_rep {B q : Nat} {p : Ty × Mode} {u : Value} {x : p.1.D} (h : RepV own w p.1 u x) (hp : ∀ e, p = (.sl e, .full) ∨ p = (.sl e, .tail) ∨ p = (.sl e, .mp) → False) : RetC own w B q p u x := by
  obtain ⟨τ, m⟩ := p
  cases τ with
  | sl e => cases m with
    | full => exact (hp e (.inl rfl)).elim
    | tail => exact (hp e (.inr (.inl rfl))).elim
    | view => exact h
    | gb l => exact h
    | mp => exact (hp e (.inr (.inr rfl))).elim
  | bool => cases m <;> exact h
  | str => cases m <;> exact h
  | unit => cases m <;> exact h
  | int k => cases m <;> exact h
  | pair p q => cases m <;> exact h
  | st b => cases m <;> exact h
  | arr n e => cases m <;> exact h

/-- One result. -/
theorem rv_one (hE : EnvOk P E) (h : St N Z own β σ a w) {B : Nat} {l : List (Nat × Nat × Nat)} (hn : (l.map (·.1)).Nodup) {r : RV} (hZ : ∀ s b o, s ∈ r.ji.kept σ → own b o = some s → Z.wr b o → B ≤ b) {x : r.pm.1.D} (hx : r.read σ = some x) {q : Nat}
    (hl : ∀ p ∈ r.keeps σ a q, p ∈ l) (hl' : ∀ s ∈ r.ji.loose σ, s ∉ l.map (·.1)) {f : ResultVar} (hf : rvB E [f] [r] = true) :
    ∃ u, outV a w P f u ∧ RetC (ownJ Z own l) w B q r.pm u x := by
  cases r with
  | cell t τ =>
    cases f with
    | tmp _ => simp [rvB] at hf
    | cell y ty =>
      simp only [rvB, Bool.and_eq_true, decide_eq_true_eq] at hf
      obtain ⟨h1, h2, _⟩ := hf
      have h1 := Nat.eq_of_beq_eq_true h1
      subst h1
      have hx : rdBox τ (σ.slots y) σ = some x := hx
      unfold rdBox at hx
      split at hx
      · rename_i s ver hs
        split at hx
        · rename_i ver' τ' z hm
          cases hb : Nat.beq ver ver' with
          | false => rw [hb] at hx; cases hx
          | true =>
            rw [hb] at hx
            have hb1 := Nat.eq_of_beq_eq_true hb
            subst hb1
            obtain ⟨eq, hx⟩ := cast?_some hx
            subst eq
            have hx : z = x := hx
            subst hx
            have hsl := h.slots y
            rw [hs] at hsl
            obtain ⟨b', o', g1, g2⟩ := hsl.2 τ' z hm
            rw [offP_nil, Nat.add_zero] at g2
            have hM := h.mems s
            rw [hm] at hM
            obtain ⟨hv, b, o, cs, e1, e2, e3⟩ := hM
            rw [g1] at e1; cases e1
            refine ⟨mkV τ' cs, ⟨_, g2, (hE.ty _ _ h2).load e3 fun j v hj => (e2 j v hj).2.2.1⟩, ?_⟩
            exact RetC.of_rep (p := (τ', .view)) ⟨hv, cs, rfl, e3.keeps (keepsJ l)⟩ (fun e he => by rcases he with he | he | he <;> cases he)
        · cases hx
      · cases hx
  | tmp t p =>
    cases f with
    | cell _ _ => simp [rvB] at hf
    | tmp y =>
      simp only [rvB, Bool.and_eq_true] at hf
      have h1 := Nat.eq_of_beq_eq_true hf.1
      subst h1
      refine ⟨_, rfl, ?_⟩
      have hx : rdRes p (σ.slots y) σ = some x := hx
      have row : ∀ {e : Ty} {m : Mode} {x : List e.D}, (m = .full ∨ m = .tail) → rdRow e m (σ.slots y) σ = some x → (∀ s ver, σ.slots y = .ref s ver → (s, q, lowOf m e (a.tmps.getD y undef)) ∈ l ∧ ∀ b o, own b o = some s → Z.wr b o → B ≤ b) →
          RetC (ownJ Z own l) w B q (.sl e, m) (a.tmps.getD y undef) x := by
        intro e m x hmm hx hl
        unfold rdRow at hx
        split at hx
        · rename_i hs
          have hnm : m.isMp = false := by rcases hmm with rfl | rfl <;> rfl
          rw [hnm] at hx
          cases hx
          have hsl := h.slots y
          rw [hs] at hsl
          exact nil_ret hnm hsl
        · rename_i s ver hs
          split at hx
          · rename_i ver' e' xs m' hm
            cases hb : Nat.beq ver ver' && m'.le m with
            | false => rw [hb] at hx; cases hx
            | true =>
              rw [hb] at hx
              simp only [Bool.and_eq_true] at hb
              have hb1 := Nat.eq_of_beq_eq_true hb.1
              subst hb1
              obtain ⟨eq, hx⟩ := cast?_some hx
              cases eq
              have hx : xs = x := hx
              subst hx
              refine row_ret (s := q) (β := fun _ => a.tmps.getD y undef) hmm (row_core h hs hm hb.2 (find3_mem hn (hl s ver hs).1) rfl) fun b o n cap hsl' => ?_
              have hsl := h.slots y
              rw [hs] at hsl
              have hv : a.tmps.getD y undef = β s := hsl.2 _ xs m' hm
              have hM := h.mems s
              rw [hm] at hM
              have hnm : m'.isMp = false := by rcases hmm with rfl | rfl <;> cases m' <;> first | rfl | exact absurd hb.2 (by simp [Mode.le])
              obtain ⟨ad, cap', e1, e2, e3, e4, e5⟩ := RepE.row hnm hM
              have hsl' : a.tmps.getD y undef = .slice (some ⟨b, o, none⟩) n cap := hsl'
              rw [hv, e1] at hsl'
              cases hsl'
              rcases e5 with ⟨e6, e60⟩ | ⟨b', o', e6, e7, e8⟩
              · subst e6
                have hx0 : xs.length = 0 := by omega
                exact ⟨fun _ hpos => by simp at hpos, fun _ hpos => by simp at hpos⟩
              · cases e6
                have hbb := (hl s ver hs).2
                cases m' with
                | full =>
                  have h1 := Nat.mul_le_mul_right e.size e2
                  exact ⟨fun _ hpos => by obtain ⟨g1, g2, _⟩ := e8.2 o (Nat.le_refl _) (by omega); exact hbb _ _ g1 g2, fun _ hpos => by obtain ⟨g1, g2, _⟩ := e8.2 o (Nat.le_refl _) (by omega); exact hbb _ _ g1 g2⟩
                | tail =>
                  refine ⟨fun hf => ?_, fun _ hpos => ?_⟩
                  · rw [hf] at hb; exact absurd hb.2 (by simp [Mode.le])
                  · obtain ⟨g1, g2, _⟩ := e8 (o + xs.length * e.size) (Nat.le_refl _) (by omega); exact hbb _ _ g1 g2
                | view => exact absurd hb.2 (by cases m <;> simp [Mode.le])
                | gb l => exact absurd hb.2 (by cases m <;> simp [Mode.le])
                | mp => cases hnm
          · cases hx
        · cases hx
      have mrow : ∀ {e : Ty} {x : List e.D}, rdRow e .mp (σ.slots y) σ = some x → (∀ s ver, σ.slots y = .ref s ver → (s, q, lowOf .mp e (a.tmps.getD y undef)) ∈ l ∧ ∀ b o, own b o = some s → Z.wr b o → B ≤ b) →
          RetC (ownJ Z own l) w B q (.sl e, .mp) (a.tmps.getD y undef) x := by
        intro e x hx hl
        unfold rdRow at hx
        split at hx
        · cases hx
        · rename_i s ver hs
          split at hx
          · rename_i ver' e' xs m' hm
            cases hb : Nat.beq ver ver' && m'.le .mp with
            | false => rw [hb] at hx; cases hx
            | true =>
              rw [hb] at hx
              simp only [Bool.and_eq_true] at hb
              have hb1 := Nat.eq_of_beq_eq_true hb.1
              subst hb1
              obtain ⟨eq, hx⟩ := cast?_some hx
              cases eq
              have hx : xs = x := hx
              subst hx
              obtain rfl : m' = .mp := by cases m' <;> first | rfl | exact absurd hb.2 (by simp [Mode.le])
              have hsl := h.slots y
              rw [hs] at hsl
              have hv : a.tmps.getD y undef = β s := hsl.2 _ xs .mp hm
              have hl0 : lowOf .mp e (a.tmps.getD y undef) = 0 := by
                have hM := h.mems s
                rw [hm] at hM
                obtain ⟨r, hr⟩ := MapR.val (show MapR _ _ _ _ _ _ _ from hM)
                rw [hv, hr]; rfl
              exact mp_core h (fun r h1 h2 => (hl s ver hs).2 r 0 h1 (.inl h2)) hm (find3_mem hn (hl s ver hs).1) hv hl0
          · cases hx
        · cases hx
      have val : RV.ji (.tmp y p) = .val y p.1 → rdA p.1 (σ.slots y) σ = some x → (∀ e, p = (.sl e, .full) ∨ p = (.sl e, .tail) ∨ p = (.sl e, .mp) → False) → RetC (ownJ Z own l) w B q p (a.tmps.getD y undef) x := by
        intro hj hx hp
        rw [hj] at hl'
        exact RetC.of_rep (val_join h hx hl') hp
      obtain ⟨τ, m⟩ := p
      cases τ with
      | sl e => cases m with
        | full => exact row (.inl rfl) hx fun s ver hs => ⟨hl _ (by simp [RV.keeps, RV.ji, hs]), fun b o => hZ s b o (by simp [RV.ji, JI.kept, hs])⟩
        | tail => exact row (.inr rfl) hx fun s ver hs => ⟨hl _ (by simp [RV.keeps, RV.ji, hs]), fun b o => hZ s b o (by simp [RV.ji, JI.kept, hs])⟩
        | mp => exact mrow hx fun s ver hs => ⟨hl _ (by simp [RV.keeps, RV.ji, hs]), fun b o => hZ s b o (by simp [RV.ji, JI.kept, hs])⟩
        | view => exact val rfl hx (fun e he => by rcases he with he | he | he <;> cases he)
        | gb l => exact val rfl hx (fun e he => by rcases he with he | he | he <;> cases he)
      | bool => exact val (by cases m <;> rfl) hx (fun e he => by rcases he with he | he | he <;> cases he)
      | str => exact val (by cases m <;> rfl) hx (fun e he => by rcases he with he | he | he <;> cases he)
      | unit => exact val (by cases m <;> rfl) hx (fun e he => by rcases he with he | he | he <;> cases he)
      | int k => exact val (by cases m <;> rfl) hx (fun e he => by rcases he with he | he | he <;> cases he)
      | pair p q => exact val (by cases m <;> rfl) hx (fun e he => by rcases he with he | he | he <;> cases he)
      | st b => exact val (by cases m <;> rfl) hx (fun e he => by rcases he with he | he | he <;> cases he)
      | arr n e => exact val (by cases m <;> rfl) hx (fun e he => by rcases he with he | he | he <;> cases he)

/-- All of them. -/
theorem rv_all (hE : EnvOk P E) (h : St N Z own β σ a w) {B : Nat} {l : List (Nat × Nat × Nat)} (hn : (l.map (·.1)).Nodup) {rid : Nat → Nat} :
    ∀ (rs : List RV) (_ : ∀ s b o, s ∈ keptAll (rs.map RV.ji) σ → own b o = some s → Z.wr b o → B ≤ b) (i : Nat) (fs : List ResultVar) (x : Ds ((rs.map RV.pm).map (·.1))), rdRVs rs σ = some x → rvB E fs rs = true → (∀ p ∈ keepsR rid i rs σ a, p ∈ l) →
      (∀ s ∈ looseAll (rs.map RV.ji) σ, s ∉ l.map (·.1)) → ∃ us, All2 (outV a w P) fs us ∧ RetAll (ownJ Z own l) w B rid i (rs.map RV.pm) us x
  | [], _, i, fs, x, hx, hf, _, _ => by
    cases fs with
    | nil => exact ⟨[], trivial, rfl⟩
    | cons f fs => cases f <;> simp [rvB] at hf
  | [r], hZ, i, fs, x, hx, hf, hl, hl' => by
    match fs, hf with
    | [], hf => cases r <;> simp [rvB] at hf
    | f :: g :: fs, hf => cases f <;> cases r <;> cases g <;> simp [rvB] at hf
    | [f], hf =>
      obtain ⟨u, h1, h2⟩ := rv_one hE h hn (r := r) (fun s b o hs => hZ s b o (by simp [keptAll, hs])) (x := x) hx (q := rid i) (fun p hp => hl p (by simp [keepsR, hp])) (fun s hs => hl' s (by simp [looseAll, hs])) hf
      exact ⟨[u], ⟨h1, trivial⟩, ⟨u, rfl, h2⟩⟩
  | r :: r' :: rs, hZ, i, fs, x, hx, hf, hl, hl' => by
    obtain ⟨x1, h1, h2⟩ := Option.bind_eq_some_iff.1 hx
    obtain ⟨x2, h3, h4⟩ := Option.bind_eq_some_iff.1 h2
    cases h4
    match fs, hf with
    | [], hf => cases r <;> simp [rvB] at hf
    | f :: fs, hf =>
      have hf' : rvB E [f] [r] = true ∧ rvB E fs (r' :: rs) = true := by
        cases f <;> cases r <;> simp only [rvB, Bool.and_eq_true, Bool.false_eq_true, and_true] at hf ⊢
        · exact hf
        · exact ⟨⟨hf.1, hf.2.1⟩, hf.2.2⟩
      obtain ⟨u, g1, g2⟩ := rv_one hE h hn (r := r) (fun s b o hs => hZ s b o (List.mem_append_left _ hs)) (x := x1) h1 (q := rid i) (fun p hp => hl p (List.mem_append_left _ hp)) (fun s hs => hl' s (List.mem_append_left _ hs)) hf'.1
      obtain ⟨us, k1, k2⟩ := rv_all hE h hn (r' :: rs) (fun s b o hs => hZ s b o (List.mem_append_right _ hs)) (i + 1) fs x2 h3 hf'.2 (fun p hp => hl p (List.mem_append_right _ hp)) (fun s hs => hl' s (List.mem_append_right _ hs))
      exact ⟨u :: us, ⟨g1, k1⟩, ⟨u, us, rfl, g2, k2⟩⟩

/-! ### the beginning -/
/-- The cells that a call may write. -/
def ioOf (n : Nat) (regs : Nat → Nat × Nat × Nat) (b o : Nat) : Prop := ∃ i, i < n ∧ inReg (regs i) b o

open Classical in
/-- Who may write, when the call begins. -/
noncomputable def ownIn (n : Nat) (regs : Nat → Nat × Nat × Nat) (own0 : Own) : Own := fun b o => if h : ioOf n regs b o then some (site (Classical.choose h) 0) else own0 b o

theorem IoR.cell {own : Own} {w : World} {id : Nat} {reg : Nat × Nat × Nat} {p : Par} {v : Value} {y : p.ty.D} (h : IoR own w id reg p v y) {b o : Nat} (hr : inReg reg b o) :
    own b o = some id ∧ ∃ u, w.cell? ⟨b, o, none⟩ = some u := by
  obtain ⟨r1, r2, r3⟩ := hr
  cases p with
  | val τ => have := h.2; omega
  | nils e => have := h.2; omega
  | pv q => have := h.2; omega
  | box τ =>
    obtain ⟨_, b', o', cs, _, e2, e3, e4⟩ := h
    rw [e2] at r1 r2 r3
    simp only at r1 r2 r3
    subst r1
    have hl := e3.length
    obtain ⟨g1, g2, _⟩ := e4 (o - o') cs[o - o'] (List.getElem?_eq_getElem (by omega))
    rw [show o' + (o - o') = o by omega] at g1 g2
    exact ⟨g1, _, g2⟩
  | row e =>
    obtain ⟨ad, cap, _, _, _, _, ⟨_, _, e5⟩ | ⟨b', o', _, e6, _, _, e7⟩⟩ := h
    · omega
    · rw [e6] at r1 r2 r3
      simp only at r1 r2 r3
      subst r1
      obtain ⟨g1, g2, _⟩ := e7 o r2 r3
      exact ⟨g1, g2⟩
  | take e =>
    obtain ⟨ad, cap, _, _, _, _, ⟨_, _, e5⟩ | ⟨b', o', _, e6, _, _, e7⟩⟩ := h
    · omega
    · rw [e6] at r1 r2 r3
      simp only at r1 r2 r3
      subst r1
      obtain ⟨g1, g2, _⟩ := e7 o r2 r3
      exact ⟨g1, g2⟩

theorem ArgAll.get {own : Own} {w : World} {ids : Nat → Nat} {regs : Nat → Nat × Nat × Nat} : ∀ {ps : List Par} {i : Nat} {vs : List Value} {x : Ds (ps.map Par.ty)}, ArgAll own w ids regs i ps vs x →
    vs.length = ps.length ∧ ∀ k p, ps[k]? = some p → ∃ v y, vs[k]? = some v ∧ IoR own w (ids (i + k)) (regs (i + k)) p v y
  | [], _, vs, _, h => ⟨by have h : vs = [] := h; rw [h]; rfl, fun k p h => by simp at h⟩
  | [p], i, vs, x, ⟨v, h1, h2⟩ => by
    subst h1
    refine ⟨rfl, fun k q hq => ?_⟩
    cases k with
    | zero => simp at hq; subst hq; exact ⟨v, x, rfl, h2⟩
    | succ k => simp at hq
  | p :: q :: r, i, vs, x, ⟨v, us, h1, h2, h3⟩ => by
    subst h1
    obtain ⟨g1, g2⟩ := ArgAll.get h3
    refine ⟨by simp [g1], fun k q' hq => ?_⟩
    cases k with
    | zero => simp at hq; subst hq; exact ⟨v, x.1, rfl, h2⟩
    | succ k =>
      obtain ⟨v', y, k1, k2⟩ := g2 k q' (by simpa using hq)
      refine ⟨v', y, by simpa using k1, ?_⟩
      rw [show i + (k + 1) = i + 1 + k by omega]; exact k2

theorem Wr.ent1 {own0 own1 : Own} {ids : Nat → Nat} {regs : Nat → Nat × Nat × Nat} (hK : Keeps own0 own1 w w) (hP : ∀ s v, Z.pin s = some v → betaJ a s = v) {p : Par} {i : Nat} {v : Value} {y : p.ty.D} {σ : S}
    (hR : ∀ b o, inReg (regs i) b o → own1 b o = some (site i 0) ∧ Z.wr b o) (h : IoR own0 w (ids i) (regs i) p v y) (hv : a.tmps.getD i undef = v) (h0 : Wr Z own1 w a σ) : Wr Z own1 w a (entryS.ent i p y σ) := by
  cases p with
  | val τ => exact h0.put (by rw [hv]; exact h.1.keeps hK)
  | nils e => exact h0.putNil (by rw [hv]; exact h.1)
  | pv q => exact h0.putV fun β mem => by rw [hv]; exact RepS.go hK (fun s => Evo.same _ rfl) (h.1 β mem)
  | box τ =>
    obtain ⟨g0, b, o, cs, g1, g2, g3, g4⟩ := h
    have hl := g3.length
    refine h0.putMem (en := .box 0 τ y) ⟨g0, b, o, cs, by rw [betaJ_site, hv]; exact g1, fun j u hj => ?_, g3.keeps hK⟩ (.inr ⟨0, rfl, ⟨_, _, rfl⟩, b, o, by rw [hv]; exact g1⟩) (fun v' hp _ => hP _ _ hp)
    have hj' : j < cs.length := (List.getElem?_eq_some_iff.1 hj).1
    obtain ⟨k1, k2, k3⟩ := g4 j u hj
    obtain ⟨k4, k5⟩ := hR b (o + j) (by rw [g2]; exact ⟨rfl, by simp, by simp; omega⟩)
    exact ⟨k4, k5, k2, k3⟩
  | row e =>
    obtain ⟨ad, cap, g1, g2, g3, g4, g5⟩ := h
    refine h0.putMem (en := .own 0 e y .full) ⟨ad, cap, by rw [betaJ_site, hv]; exact g1, g2, g3, g4, ?_⟩ (.inl ⟨0, rfl, _, _, _, rfl⟩) (fun v' hp _ => hP _ _ hp)
    rcases g5 with ⟨e1, e2, _⟩ | ⟨b, o, e1, e2, e3, e4, e5⟩
    · exact .inl ⟨e2, fun _ => e1⟩
    · refine .inr ⟨b, o, e1, fun k hk => ?_, e4, fun j h1 h2 => ?_⟩
      · obtain ⟨es, k1, k2, k3⟩ := e3 k hk
        refine ⟨es, k1, fun j u hj => ⟨?_, (k2 j u hj).2⟩, k3.keeps hK⟩
        have hj' : j < es.length := (List.getElem?_eq_some_iff.1 hj).1
        have i1 := Nat.inside (sz := e.size) hk (show j < e.size by omega)
        have i2 := Nat.mul_le_mul_right e.size g2
        exact (hR b (o + k * e.size + j) (by rw [e2]; exact ⟨rfl, by simp; omega, by simp; omega⟩)).1
      · obtain ⟨k1, k2, k3⟩ := e5 j h1 h2
        obtain ⟨k4, k5⟩ := hR b j (by rw [e2]; exact ⟨rfl, h1, h2⟩)
        exact ⟨k4, k5, k2, k3⟩
  | take e =>
    obtain ⟨ad, cap, g1, g2, g3, g4, g5⟩ := h
    refine h0.putMem (en := .own 0 e y .full) ⟨ad, cap, by rw [betaJ_site, hv]; exact g1, g2, g3, g4, ?_⟩ (.inl ⟨0, rfl, _, _, _, rfl⟩) (fun v' hp _ => hP _ _ hp)
    rcases g5 with ⟨e1, e2, _⟩ | ⟨b, o, e1, e2, e3, e4, e5⟩
    · exact .inl ⟨e2, fun _ => e1⟩
    · refine .inr ⟨b, o, e1, fun k hk => ?_, e4, fun j h1 h2 => ?_⟩
      · obtain ⟨es, k1, k2, k3⟩ := e3 k hk
        refine ⟨es, k1, fun j u hj => ⟨?_, (k2 j u hj).2⟩, k3.keeps hK⟩
        have hj' : j < es.length := (List.getElem?_eq_some_iff.1 hj).1
        have i1 := Nat.inside (sz := e.size) hk (show j < e.size by omega)
        have i2 := Nat.mul_le_mul_right e.size g2
        exact (hR b (o + k * e.size + j) (by rw [e2]; exact ⟨rfl, by simp; omega, by simp; omega⟩)).1
      · obtain ⟨k1, k2, k3⟩ := e5 j h1 h2
        obtain ⟨k4, k5⟩ := hR b j (by rw [e2]; exact ⟨rfl, h1, h2⟩)
        exact ⟨k4, k5, k2, k3⟩

theorem Wr.ent {own0 own1 : Own} {ids : Nat → Nat} {regs : Nat → Nat × Nat × Nat} (hK : Keeps own0 own1 w w) (hP : ∀ s v, Z.pin s = some v → betaJ a s = v) : ∀ (ps : List Par) (i : Nat) (vs : List Value) (x : Ds (ps.map Par.ty)) (σ : S),
    (∀ k, k < ps.length → ∀ b o, inReg (regs (i + k)) b o → own1 b o = some (site (i + k) 0) ∧ Z.wr b o) → ArgAll own0 w ids regs i ps vs x → (∀ k v, vs[k]? = some v → a.tmps.getD (i + k) undef = v) →
    Wr Z own1 w a σ → Wr Z own1 w a (entryS i ps x σ)
  | [], _, vs, _, _, _, _, _, h0 => h0
  | [p], i, vs, x, σ, hR, ⟨v, h1, h2⟩, ht, h0 => by
    subst h1
    exact Wr.ent1 hK hP (fun b o h => hR 0 (by simp) b o h) h2 (ht 0 v rfl) h0
  | p :: q :: r, i, vs, x, σ, hR, ⟨v, us, h1, h2, h3⟩, ht, h0 => by
    subst h1
    refine Wr.ent hK hP (q :: r) (i + 1) us x.2 _ (fun k hk b o h => ?_) h3 (fun k u hk => ?_) (Wr.ent1 hK hP (fun b o h => hR 0 (by simp) b o h) h2 (ht 0 v rfl) h0)
    · have := hR (k + 1) (by simp at hk ⊢; omega) b o (by rw [show i + (k + 1) = i + 1 + k by omega]; exact h)
      rw [show i + (k + 1) = i + 1 + k by omega] at this; exact this
    · have := ht (k + 1) u (by simpa using hk)
      rw [show i + (k + 1) = i + 1 + k by omega] at this; exact this

theorem dsL_app : ∀ (xs ys : List Ty) (x : Ds xs) (y : Ds ys), dsL xs ys (dsApp xs ys x y) = x
  | [], _, _, _ => rfl
  | [_], [], _, _ => rfl
  | [_], _ :: _, _, _ => rfl
  | _ :: b :: r, ys, x, y => by
    exact Prod.ext rfl (dsL_app (b :: r) ys x.2 y)

theorem dsR_app : ∀ (xs ys : List Ty) (x : Ds xs) (y : Ds ys), dsR xs ys (dsApp xs ys x y) = y
  | [], _, _, _ => rfl
  | [_], [], _, _ => rfl
  | [_], _ :: _, _, _ => rfl
  | _ :: b :: r, ys, x, y => dsR_app (b :: r) ys x.2 y

theorem dsHC (a : Ty) : ∀ (r : List Ty) (x : a.D) (y : Ds r), dsH a r (rdIo.dsC a r x y) = x ∧ dsT a r (rdIo.dsC a r x y) = y
  | [], _, _ => ⟨rfl, rfl⟩
  | _ :: _, _, _ => ⟨rfl, rfl⟩

/-- What the end needs of what may be written: where it lies is what it was. -/
theorem io_out {own0 ownF : Own} {w0 : World} {ids : Nat → Nat} {regs : Nat → Nat × Nat × Nat} (h : St N Z own β σ a w) (hK : Keeps own ownF w w) :
    ∀ (ps : List Par) (i : Nat) (vs : List Value) (z : Ds (ioTys ps)), rdIo i ps σ = some z →
      (∀ k p, ps[k]? = some p → ∃ v y, vs[k]? = some v ∧ IoR own0 w0 (ids (i + k)) (regs (i + k)) p v y) → (∀ k v, vs[k]? = some v → Z.pin (site (i + k) 0) = some v) →
      (∀ k, k < ps.length → (∀ e, ps[k]? ≠ some (.take e)) → ∀ b o, inReg (regs (i + k)) b o → ownF b o = some (ids (i + k))) → OutAll ownF w ids regs i ps vs z
  | [], _, _, _, _, _, _, _ => trivial
  | .val τ :: r, i, vs, z, hz, hg, hp, hF => by
    refine io_out (own0 := own0) (w0 := w0) (ids := ids) (regs := regs) h hK r (i + 1) vs.tail z hz (fun k p hk => ?_) (fun k v hk => ?_) (fun k hk hnt => ?_)
    · have := hg (k + 1) p (by simpa using hk)
      rw [show i + (k + 1) = i + 1 + k by omega] at this
      obtain ⟨v, y, h1, h2⟩ := this
      exact ⟨v, y, by cases vs <;> simpa using h1, h2⟩
    · have := hp (k + 1) v (by cases vs <;> simpa using hk)
      rw [show i + (k + 1) = i + 1 + k by omega] at this; exact this
    · have := hF (k + 1) (by simp; omega) (fun e he => hnt e (by simpa using he))
      rw [show i + (k + 1) = i + 1 + k by omega] at this; exact this
  | .nils e :: r, i, vs, z, hz, hg, hp, hF => by
    refine io_out (own0 := own0) (w0 := w0) (ids := ids) (regs := regs) h hK r (i + 1) vs.tail z hz (fun k p hk => ?_) (fun k v hk => ?_) (fun k hk hnt => ?_)
    · have := hg (k + 1) p (by simpa using hk)
      rw [show i + (k + 1) = i + 1 + k by omega] at this
      obtain ⟨v, y, h1, h2⟩ := this
      exact ⟨v, y, by cases vs <;> simpa using h1, h2⟩
    · have := hp (k + 1) v (by cases vs <;> simpa using hk)
      rw [show i + (k + 1) = i + 1 + k by omega] at this; exact this
    · have := hF (k + 1) (by simp; omega) (fun e he => hnt e (by simpa using he))
      rw [show i + (k + 1) = i + 1 + k by omega] at this; exact this
  | .pv q :: r, i, vs, z, hz, hg, hp, hF => by
    refine io_out (own0 := own0) (w0 := w0) (ids := ids) (regs := regs) h hK r (i + 1) vs.tail z hz (fun k p hk => ?_) (fun k v hk => ?_) (fun k hk hnt => ?_)
    · have := hg (k + 1) p (by simpa using hk)
      rw [show i + (k + 1) = i + 1 + k by omega] at this
      obtain ⟨v, y, h1, h2⟩ := this
      exact ⟨v, y, by cases vs <;> simpa using h1, h2⟩
    · have := hp (k + 1) v (by cases vs <;> simpa using hk)
      rw [show i + (k + 1) = i + 1 + k by omega] at this; exact this
    · have := hF (k + 1) (by simp; omega) (fun e he => hnt e (by simpa using he))
      rw [show i + (k + 1) = i + 1 + k by omega] at this; exact this
  | .take q :: r, i, vs, z, hz, hg, hp, hF => by
    refine io_out (own0 := own0) (w0 := w0) (ids := ids) (regs := regs) h hK r (i + 1) vs.tail z hz (fun k p hk => ?_) (fun k v hk => ?_) (fun k hk hnt => ?_)
    · have := hg (k + 1) p (by simpa using hk)
      rw [show i + (k + 1) = i + 1 + k by omega] at this
      obtain ⟨v, y, h1, h2⟩ := this
      exact ⟨v, y, by cases vs <;> simpa using h1, h2⟩
    · have := hp (k + 1) v (by cases vs <;> simpa using hk)
      rw [show i + (k + 1) = i + 1 + k by omega] at this; exact this
    · have := hF (k + 1) (by simp; omega) (fun e he => hnt e (by simpa using he))
      rw [show i + (k + 1) = i + 1 + k by omega] at this; exact this
  | .box τ :: r, i, vs, z, hz, hg, hp, hF => by
    have tail := fun z (hz : rdIo (i + 1) r σ = some z) => io_out h hK r (i + 1) vs.tail z hz (fun k p hk => by
        have := hg (k + 1) p (by simpa using hk)
        rw [show i + (k + 1) = i + 1 + k by omega] at this
        obtain ⟨v, y, h1, h2⟩ := this
        exact ⟨v, y, by cases vs <;> simpa using h1, h2⟩) (fun k v hk => by
        have := hp (k + 1) v (by cases vs <;> simpa using hk)
        rw [show i + (k + 1) = i + 1 + k by omega] at this; exact this) (fun k hk hnt => by
        have := hF (k + 1) (by simp; omega) (fun e he => hnt e (by simpa using he))
        rw [show i + (k + 1) = i + 1 + k by omega] at this; exact this)
    obtain ⟨v, y, h1, h2⟩ := hg 0 (.box τ) rfl
    have hv : vs.headD undef = v := by cases vs <;> simp at h1 ⊢; exact h1
    have hpin := hp 0 v h1
    have hF0 := hF 0 (by simp) (fun e he => by simp at he)
    simp only [Nat.add_zero] at h2 hpin hF0
    simp only [rdIo] at hz
    split at hz
    · rename_i τ' x' hm
      obtain ⟨x, hx, hz⟩ := Option.bind_eq_some_iff.1 hz
      obtain ⟨y', hy', hz⟩ := Option.bind_eq_some_iff.1 hz
      cases hz
      obtain ⟨e, hx⟩ := cast?_some hx
      subst e
      have hx : x' = x := hx
      subst hx
      obtain ⟨c1, c2⟩ := dsHC τ' (ioTys r) x' y'
      refine ⟨?_, ?_⟩
      · rw [c1, hv]
        have hM := h.mems (site i 0)
        rw [hm] at hM
        obtain ⟨g0, b, o, cs, g1, g2, g3⟩ := hM
        have hb := h.pins _ _ hpin (by rw [hm]; rfl)
        obtain ⟨_, b', o', cs', k1, k2, k3, k4⟩ := h2
        rw [hb, k1] at g1
        cases g1
        have hl := g3.length
        refine ⟨g0, b, o, cs, k1, k2, g3.keeps hK, fun j u hj => ?_⟩
        have hj' : j < cs.length := (List.getElem?_eq_some_iff.1 hj).1
        obtain ⟨_, _, q3, q4⟩ := g2 j u hj
        exact ⟨hF0 b (o + j) (by rw [k2]; exact ⟨rfl, by simp, by simp; omega⟩), q3, q4⟩
      · rw [c2]; exact tail y' hy'
    · cases hz
  | .row e :: r, i, vs, z, hz, hg, hp, hF => by
    have tail := fun z (hz : rdIo (i + 1) r σ = some z) => io_out h hK r (i + 1) vs.tail z hz (fun k p hk => by
        have := hg (k + 1) p (by simpa using hk)
        rw [show i + (k + 1) = i + 1 + k by omega] at this
        obtain ⟨v, y, h1, h2⟩ := this
        exact ⟨v, y, by cases vs <;> simpa using h1, h2⟩) (fun k v hk => by
        have := hp (k + 1) v (by cases vs <;> simpa using hk)
        rw [show i + (k + 1) = i + 1 + k by omega] at this; exact this) (fun k hk hnt => by
        have := hF (k + 1) (by simp; omega) (fun e he => hnt e (by simpa using he))
        rw [show i + (k + 1) = i + 1 + k by omega] at this; exact this)
    obtain ⟨v, y, h1, h2⟩ := hg 0 (.row e) rfl
    have hv : vs.headD undef = v := by cases vs <;> simp at h1 ⊢; exact h1
    have hpin := hp 0 v h1
    have hF0 := hF 0 (by simp) (fun e he => by simp at he)
    simp only [Nat.add_zero] at h2 hpin hF0
    simp only [rdIo] at hz
    split at hz
    · rename_i e' xs hm
      obtain ⟨x, hx, hz⟩ := Option.bind_eq_some_iff.1 hz
      obtain ⟨y', hy', hz⟩ := Option.bind_eq_some_iff.1 hz
      cases hz
      obtain ⟨eq, hx⟩ := cast?_some hx
      cases eq
      have hx : xs = x := hx
      subst hx
      obtain ⟨c1, c2⟩ := dsHC (.sl e) (ioTys r) xs y'
      refine ⟨?_, ?_⟩
      · rw [c1, hv]
        have hM := h.mems (site i 0)
        rw [hm] at hM
        obtain ⟨ad, cap, g1, g2, g3, g4, g5⟩ := hM
        have hb := h.pins _ _ hpin (by rw [hm]; rfl)
        obtain ⟨ad', cap', k1, k2, k3, k4, k5⟩ := h2
        rw [hb] at g1
        have g1' := g1
        rw [k1] at g1
        injection g1 with i1 i2 i3
        subst i1; subst i3
        refine ⟨ad', cap', g1', g2, g3, g4, ?_⟩
        rcases k5 with ⟨q1, q2, q3⟩ | ⟨b, o, q1, q2, q3, q4, q5⟩
        · exact .inl ⟨q1, q2, q3⟩
        · rcases g5 with ⟨p2, p1⟩ | ⟨b', o', p1, p2, p3, p4⟩
          · rw [p1 rfl] at q1; cases q1
          · rw [p1] at q1; cases q1
            refine .inr ⟨b, o, p1, q2, fun j hj => ?_, p3, fun j j1 j2 => ?_⟩
            · obtain ⟨es, s1, s2, s3⟩ := p2 j hj
              refine ⟨es, s1, fun k u hk => ⟨?_, (s2 k u hk).2⟩, s3.keeps hK⟩
              have hk' : k < es.length := (List.getElem?_eq_some_iff.1 hk).1
              have i1 := Nat.inside (sz := e.size) hj (show k < e.size by omega)
              have i2 := Nat.mul_le_mul_right e.size g2
              exact hF0 b (o + j * e.size + k) (by rw [q2]; exact ⟨rfl, by simp; omega, by simp; omega⟩)
            · obtain ⟨_, _, r3, r4⟩ := p4 j j1 j2
              exact ⟨hF0 b j (by rw [q2]; exact ⟨rfl, j1, j2⟩), r3, r4⟩
      · rw [c2]; exact tail y' hy'
    · cases hz

/-- What may be written is still one's own at the end. -/
theorem io_own {own0 : Own} {w0 : World} {ids : Nat → Nat} {regs : Nat → Nat × Nat × Nat} (h : St N Z own β σ a w) :
    ∀ (ps : List Par) (i : Nat) (vs : List Value) (z : Ds (ioTys ps)), rdIo i ps σ = some z →
      (∀ k p, ps[k]? = some p → ∃ v y, vs[k]? = some v ∧ IoR own0 w0 (ids (i + k)) (regs (i + k)) p v y) → (∀ k v, vs[k]? = some v → Z.pin (site (i + k) 0) = some v) →
      ∀ k, k < ps.length → (∀ e, ps[k]? ≠ some (.take e)) → ∀ b o, inReg (regs (i + k)) b o → own b o = some (site (i + k) 0) ∧ Z.wr b o ∧ site (i + k) 0 ∈ ioS i ps
  | [], _, _, _, _, _, _, k, hk, _, _, _, _ => by simp at hk
  | p :: r, i, vs, z, hz, hg, hp, k, hk, hnt, b, o, hr => by
    cases k with
    | zero =>
      obtain ⟨v, y, h1, h2⟩ := hg 0 p rfl
      have hpin := hp 0 v h1
      simp only [Nat.add_zero] at h2 hpin hr ⊢
      cases p with
      | val τ => obtain ⟨_, _, r3⟩ := hr; have := h2.2; omega
      | nils e => obtain ⟨_, _, r3⟩ := hr; have := h2.2; omega
      | pv q => obtain ⟨_, _, r3⟩ := hr; have := h2.2; omega
      | box τ =>
        simp only [rdIo] at hz
        split at hz
        · rename_i τ' x' hm
          obtain ⟨x, hx, hz⟩ := Option.bind_eq_some_iff.1 hz
          obtain ⟨e, hx⟩ := cast?_some hx
          subst e
          have hM := h.mems (site i 0)
          rw [hm] at hM
          obtain ⟨g0, b1, o1, cs, g1, g2, g3⟩ := hM
          have hb := h.pins _ _ hpin (by rw [hm]; rfl)
          obtain ⟨_, b', o', cs', k1, k2, k3, k4⟩ := h2
          rw [hb, k1] at g1
          cases g1
          have hl := g3.length
          obtain ⟨r1, r2, r3⟩ := hr
          rw [k2] at r1 r2 r3
          simp only at r1 r2 r3
          subst r1
          obtain ⟨q1, q2, _⟩ := g2 (o - o1) cs[o - o1] (List.getElem?_eq_getElem (by omega))
          rw [show o1 + (o - o1) = o by omega] at q1 q2
          exact ⟨q1, q2, by simp [ioS]⟩
        · cases hz
      | row e =>
        simp only [rdIo] at hz
        split at hz
        · rename_i e' xs hm
          obtain ⟨x, hx, hz⟩ := Option.bind_eq_some_iff.1 hz
          obtain ⟨eq, hx⟩ := cast?_some hx
          cases eq
          have hM := h.mems (site i 0)
          rw [hm] at hM
          obtain ⟨ad, cap, g1, g2, g3, g4, g5⟩ := hM
          have hb := h.pins _ _ hpin (by rw [hm]; rfl)
          obtain ⟨ad', cap', k1, k2, k3, k4, k5⟩ := h2
          rw [hb, k1] at g1
          injection g1 with i1 i2 i3
          subst i1; subst i3
          obtain ⟨r1, r2, r3⟩ := hr
          rcases k5 with ⟨q1, q2, q3⟩ | ⟨b1, o1, q1, q2, q3, q4, q5⟩
          · omega
          · rcases g5 with ⟨p2, p1⟩ | ⟨b', o', p1, p2, p3, p4⟩
            · rw [p1 rfl] at q1; cases q1
            · rw [p1] at q1; cases q1
              rw [q2] at r1 r2 r3
              simp only at r1 r2 r3
              subst r1
              obtain ⟨s1, s2, _⟩ := p4 o r2 r3
              exact ⟨s1, s2, by simp [ioS]⟩
        · cases hz
      | take e => exact absurd rfl (hnt e)
    | succ k =>
      have hz' : ∃ z', rdIo (i + 1) r σ = some z' := by
        cases p with
        | val τ => exact ⟨z, hz⟩
        | nils e => exact ⟨z, hz⟩
        | pv q => exact ⟨z, hz⟩
        | box τ =>
          simp only [rdIo] at hz
          split at hz
          · obtain ⟨x, hx, hz⟩ := Option.bind_eq_some_iff.1 hz
            obtain ⟨y, hy, hz⟩ := Option.bind_eq_some_iff.1 hz
            exact ⟨y, hy⟩
          · cases hz
        | row e =>
          simp only [rdIo] at hz
          split at hz
          · obtain ⟨x, hx, hz⟩ := Option.bind_eq_some_iff.1 hz
            obtain ⟨y, hy, hz⟩ := Option.bind_eq_some_iff.1 hz
            exact ⟨y, hy⟩
          · cases hz
        | take e => exact ⟨z, hz⟩
      obtain ⟨z', hz'⟩ := hz'
      have := io_own h r (i + 1) vs.tail z' hz' (fun k p hk => by
        have := hg (k + 1) p (by simpa using hk)
        rw [show i + (k + 1) = i + 1 + k by omega] at this
        obtain ⟨v, y, h1, h2⟩ := this
        exact ⟨v, y, by cases vs <;> simpa using h1, h2⟩) (fun k v hk => by
        have := hp (k + 1) v (by cases vs <;> simpa using hk)
        rw [show i + (k + 1) = i + 1 + k by omega] at this; exact this) k (by simp at hk; omega) (fun e he => hnt e (by simpa using he)) b o (by rw [show i + 1 + k = i + (k + 1) by omega]; exact hr)
      rw [show i + 1 + k = i + (k + 1) by omega] at this
      refine ⟨this.1, this.2.1, ?_⟩
      cases p <;> simp only [ioS, List.mem_cons]
      · exact this.2.2
      · exact this.2.2
      · exact this.2.2
      · exact .inr this.2.2
      · exact .inr this.2.2
      · exact this.2.2

/-- A result, whatever the owners below are called. -/
theorem RetC.rename {own own' : Own} {B q : Nat} {p : Ty × Mode} {u : Value} {x : p.1.D} (hK : Keeps own own' w w) (hB : ∀ b o, B ≤ b → own' b o = own b o) (h : RetC own w B q p u x) : RetC own' w B q p u x := by
  have row : ∀ {e : Ty} {b o : Nat} {xs : List e.D} {cap : Nat}, xs.length ≤ cap → (0 < cap * e.size → B ≤ b) → RowR own w (some q) e b o xs → RowR own' w (some q) e b o xs := by
    intro e b o xs cap hc hb hr i hi
    obtain ⟨es, g1, g2, g3⟩ := hr i hi
    refine ⟨es, g1, fun j v hj => ⟨?_, (g2 j v hj).2⟩, g3.keeps hK⟩
    have hj' : j < es.length := (List.getElem?_eq_some_iff.1 hj).1
    have i1 := Nat.inside (sz := e.size) hi (show j < e.size by omega)
    have i2 := Nat.mul_le_mul_right e.size hc
    rw [hB _ _ (hb (by omega))]; exact (g2 j v hj).1
  obtain ⟨τ, m⟩ := p
  cases τ with
  | sl e => cases m with
    | full =>
      obtain ⟨ad, cap, h1, h2, h3, h4, h5⟩ := h
      refine ⟨ad, cap, h1, h2, h3, h4, h5.imp id ?_⟩
      rintro ⟨b, o, e1, e2, e3, e4, e5⟩
      exact ⟨b, o, e1, e2, row h2 e2 e3, e4, fun j j1 j2 => by rw [hB b j (e2 (by omega))]; exact e5 j j1 j2⟩
    | tail =>
      obtain ⟨ad, cap, h1, h2, h3, h4, h5⟩ := h
      refine ⟨ad, cap, h1, h2, h3, h4, h5.imp id ?_⟩
      rintro ⟨b, o, e1, e2, e3, e4⟩
      refine ⟨b, o, e1, fun i hi => ?_, e3, fun j j1 j2 => by rw [hB b j (e3 (by omega))]; exact e4 j j1 j2⟩
      obtain ⟨es, g1, g2, g3⟩ := e2 i hi
      exact ⟨es, g1, fun j v hj => ⟨(hK _ _ _ (g2 j v hj).1 (g2 j v hj).2).1, (g2 j v hj).2⟩, g3.keeps hK⟩
    | view => exact RepV.keeps hK h
    | gb l => exact RepV.keeps hK h
    | mp =>
      have h : MapR _ _ _ _ _ _ _ := h
      show MapR _ _ _ _ _ _ _
      cases e with
      | pair K V =>
        obtain ⟨r, es, c, h1, h2, h3, h4, h5⟩ := h
        exact ⟨r, es, c, h1, h2, by rw [hB r 0 h2]; exact h3, h4, h5.keeps hK⟩
      | _ => exact h.elim
  | bool => cases m <;> exact RepV.keeps hK h
  | str => cases m <;> exact RepV.keeps hK h
  | unit => cases m <;> exact RepV.keeps hK h
  | int k => cases m <;> exact RepV.keeps hK h
  | pair p q => cases m <;> exact RepV.keeps hK h
  | st b => cases m <;> exact RepV.keeps hK h
  | arr n e => cases m <;> exact RepV.keeps hK h

theorem RetAll.rename {own own' : Own} {B : Nat} {rid : Nat → Nat} (hK : Keeps own own' w w) (hB : ∀ b o, B ≤ b → own' b o = own b o) : ∀ {ps : List (Ty × Mode)} {i : Nat} {us : List Value} {x : Ds (ps.map (·.1))},
    RetAll own w B rid i ps us x → RetAll own' w B rid i ps us x
  | [], _, _, _, h => h
  | [p], _, _, _, ⟨u, h1, h2⟩ => ⟨u, h1, h2.rename hK hB⟩
  | p :: q :: r, _, _, _, ⟨u, us, h1, h2, h3⟩ => ⟨u, us, h1, h2.rename hK hB, RetAll.rename hK hB h3⟩

/-- No loop in it. -/
def An.flat : {R : Type} → An R → Bool
  | _, .leaf => true
  | _, .rg _ _ => true
  | _, .seq a b => a.flat && b.flat
  | _, .join _ a b => a.flat && b.flat
  | _, .cond a b => a.flat && b.flat
  | _, .block a => a.flat
  | _, .loop _ _ _ _ => false
  | _, .unroll _ _ => false

theorem ob_flat (E : Env) (N : Nat) : ∀ (c : Code) {R : Type} (an : An R) (Kn : S → Option R) (Ke : Nat → S → Option R) (Kr : S → Option R), an.flat = true → ob E N c an Kn Ke Kr := by
  intro c
  induction c with
  | seq x y ihx ihy =>
    intro R an Kn Ke Kr h
    cases an with
    | seq a b =>
      simp only [An.flat, Bool.and_eq_true] at h
      exact ⟨ihx a _ _ _ h.1, ihy b _ _ _ h.2⟩
    | join J a b =>
      simp only [An.flat, Bool.and_eq_true] at h
      exact ⟨ihx a _ _ _ h.1, ihy b _ _ _ h.2⟩
    | _ => trivial
  | cond c x y ihx ihy =>
    intro R an Kn Ke Kr h
    cases an with
    | cond a b =>
      simp only [An.flat, Bool.and_eq_true] at h
      exact ⟨ihx a _ _ _ h.1, ihy b _ _ _ h.2⟩
    | _ => trivial
  | block id x ih =>
    intro R an Kn Ke Kr h
    cases an with
    | block a =>
      have := ih a Kn (fun i σ' => bif Nat.beq i id then Kn σ' else Ke i σ') Kr h
      cases x <;> exact this
    | loop _ _ _ _ => cases h
    | unroll _ _ => cases h
    | _ => cases x <;> trivial
  | _ => intro R an Kn Ke Kr h; cases an <;> trivial

open Classical in
/-- A function: it does what the evaluator tells. -/
theorem fn_ok (hE : EnvOk P E) {f : Nat} {fn : Func} {c : Code} {ps : List Par} {rs : List RV} {an : An (Ds ((rs.map RV.pm).map (·.1) ++ ioTys ps))}
    (hf : P.funcs[f]? = some fn) (hb : fn.body = some c) (hname : (fn.name == "runtime.NumGoroutine") = false) (hN : Nat.ble ps.length fn.ntmps = true)
    (hrs : rvB E fn.results.toList rs = true) (hob : obF E fn.ntmps c ps rs an) {F : Ds (ps.map Par.ty) → Option (Ds ((rs.map RV.pm).map (·.1) ++ ioTys ps))}
    (hF : ∀ x, evF E fn.ntmps c ps rs an x = F x) : FnOk P f { args := ps, res := rs.map RV.pm, f := F } where
  fn := ⟨fn, hf, by rw [hb]; rfl, hname⟩
  calls := by
    intro w own0 ids rid regs vs x r harg hids hr
    have hr : evF E fn.ntmps c ps rs an x = some r := (hF x).trans hr
    refine calls_of_wp hf hb ?_
    have harg : ArgAll own0 w ids regs 0 ps vs x := harg
    obtain ⟨hlen, hget⟩ := harg.get
    have hget : ∀ k p, ps[k]? = some p → ∃ v y, vs[k]? = some v ∧ IoR own0 w (ids (0 + k)) (regs (0 + k)) p v y := hget
    let a0 : Act := { tmps := vs.toArray ++ Array.replicate (fn.ntmps - vs.toArray.size) undef, defers := [] }
    have hcell : ∀ i, i < ps.length → ∀ b o, inReg (regs i) b o → own0 b o = some (ids i) ∧ b < w.heap.size := by
      intro i hi b o hr
      obtain ⟨v, y, h1, h2⟩ := hget i ps[i] (List.getElem?_eq_getElem hi)
      rw [Nat.zero_add] at h2
      obtain ⟨h3, u, h4⟩ := h2.cell hr
      exact ⟨h3, cell?_lt h4⟩
    have huniq : ∀ i j, i < ps.length → j < ps.length → ∀ b o, inReg (regs i) b o → inReg (regs j) b o → i = j := by
      intro i j hi hj b o h1 h2
      refine Classical.byContradiction fun hne => ?_
      have l1 : 0 < (regs i).2.2 := by obtain ⟨_, _, _⟩ := h1; omega
      have l2 : 0 < (regs j).2.2 := by obtain ⟨_, _, _⟩ := h2; omega
      have e1 := (hcell i hi b o h1).1
      have e2 := (hcell j hj b o h2).1
      rw [e1] at e2
      exact hids i j hne l1 l2 (Option.some.inj e2)
    have hIn : ∀ i, i < ps.length → ∀ b o, inReg (regs i) b o → ownIn ps.length regs own0 b o = some (site i 0) := by
      intro i hi b o hr
      have hx : ioOf ps.length regs b o := ⟨i, hi, hr⟩
      unfold ownIn
      rw [dif_pos hx]
      obtain ⟨h1, h2⟩ := Classical.choose_spec hx
      rw [huniq _ _ h1 hi b o h2 hr]
    have hK0 : Keeps own0 (ownIn ps.length regs own0) w w := by
      intro b o v h1 h2
      refine ⟨?_, h2⟩
      unfold ownIn
      rw [dif_neg]
      · exact h1
      · rintro ⟨i, hi, hr⟩
        rw [(hcell i hi b o hr).1] at h1; cases h1
    let Z : Base := ⟨w, ioOf ps.length regs, ownIn ps.length regs own0, fun s => some (betaJ a0 s)⟩
    have hst0 : St fn.ntmps Z (ownIn ps.length regs own0) (betaJ a0) S.bare a0 w := {
      frame := Frm.refl _ _ _
      old := fun _ _ _ _ => rfl
      size := by
        have := Nat.le_of_ble_eq_true hN
        simp [a0]; omega
      defers := rfl
      slots := fun t => trivial
      mems := fun s => trivial
      pins := fun s v _ h => by cases h }
    have htm : ∀ k v, vs[k]? = some v → a0.tmps.getD (0 + k) undef = v := by
      intro k v hk
      have hk' : k < vs.length := (List.getElem?_eq_some_iff.1 hk).1
      show (vs.toArray ++ Array.replicate (fn.ntmps - vs.toArray.size) undef).getD (0 + k) undef = v
      rw [Nat.zero_add, Array.getD_eq_getD_getElem?, Array.getElem?_append]
      simp only [List.size_toArray, hk', if_true, List.getElem?_toArray, hk, Option.getD_some]
    have hwr : Wr Z (ownIn ps.length regs own0) w a0 (entryS 0 ps x S.bare) := Wr.ent hK0 (fun s v h => Option.some.inj h) ps 0 vs x S.bare
      (fun k hk b o hr => by rw [Nat.zero_add] at hr ⊢; exact ⟨hIn k hk b o hr, .inr ⟨k, hk, hr⟩⟩) harg htm Wr.bare
    have hst : St fn.ntmps Z (ownIn ps.length regs own0) (betaJ a0) (entryS 0 ps x S.bare) a0 w := Wr.st hst0 (fun _ _ _ _ => rfl) hwr
    have hpin : ∀ k v, vs[k]? = some v → Z.pin (site (0 + k) 0) = some v := by
      intro k v hk
      show some (betaJ a0 (site (0 + k) 0)) = some v
      rw [betaJ_site, htm k v hk]
    have key : ∀ (σ : S) (own : Own) (β : Conc) (a' : Act) (w' : World), St fn.ntmps Z own β σ a' w' → finF ps rs σ = some r →
        a'.defers = [] ∧ ∃ v, (results fn a'.tmps).run P w' = .ok v w' ∧ (fun e w' => ∃ own us, e = Ending.returned (retV us) ∧ Frm w.heap.size (fun b o => ∃ i, inReg (regs i) b o) w w' ∧
          (∀ b o, b < w.heap.size → (¬ ∃ i, inReg (regs i) b o) → own b o = own0 b o) ∧
          RetAll own w' w.heap.size rid 0 (rs.map RV.pm) us (dsL ((rs.map RV.pm).map (·.1)) (ioTys ps) r) ∧ OutAll own w' ids regs 0 ps vs (dsR ((rs.map RV.pm).map (·.1)) (ioTys ps) r)) (.returned v) w' := by
      intro σ own β a' w' hs hk
      unfold finF at hk
      cases hc : nodupB (keptAll (rs.map RV.ji) σ ++ ioS 0 ps) && (disB (looseAll (rs.map RV.ji) σ) (keptAll (rs.map RV.ji) σ ++ ioS 0 ps) && (!(ps.any Par.isTake) || (keptAll (rs.map RV.ji) σ).isEmpty)) with
      | false => rw [hc] at hk; cases hk
      | true =>
        rw [hc] at hk
        simp only [Bool.and_eq_true] at hc
        obtain ⟨y, h1, h2⟩ := Option.bind_eq_some_iff.1 hk
        obtain ⟨z, h3, h4⟩ := Option.bind_eq_some_iff.1 h2
        have h4 : dsApp _ _ y z = r := Option.some.inj h4
        let l : List (Nat × Nat × Nat) := keepsR rid 0 rs σ a' ++ (ioS 0 ps).map (fun s => (s, s, 0))
        have hkeys : l.map (·.1) = keptAll (rs.map RV.ji) σ ++ ioS 0 ps := by
          simp only [l, List.map_append, keepsR_keys, List.map_map]
          congr 1
          exact List.map_id _
        have hn : (l.map (·.1)).Nodup := by rw [hkeys]; exact nodupB_spec hc.1
        have hio := io_own hs ps 0 vs z h3 hget hpin
        have hreg : ∀ k, k < ps.length → (∀ e, ps[k]? ≠ some (.take e)) → ∀ b o, inReg (regs k) b o → ownJ Z own l b o = some (site k 0) := by
          intro k hk hnt b o hr
          have := hio k hk hnt b o (by rw [Nat.zero_add]; exact hr)
          rw [Nat.zero_add] at this
          obtain ⟨g1, g2, g3⟩ := this
          rw [ownJ_wr l g1 g2, find3_mem hn (p := (site k 0, site k 0, 0)) (List.mem_append_right _ (List.mem_map.2 ⟨_, g3, rfl⟩))]
          simp
        let ioK : Nat → Nat → Prop := fun b o => ∃ i, i < ps.length ∧ (∀ e, ps[i]? ≠ some (.take e)) ∧ inReg (regs i) b o
        let ownF : Own := fun b o => if ioK b o then own0 b o else if ioOf ps.length regs b o then none else ownJ Z own l b o
        have hF1 : ∀ k, k < ps.length → (∀ e, ps[k]? ≠ some (.take e)) → ∀ b o, inReg (regs k) b o → ownF b o = some (ids k) := by
          intro k hk hnt b o hr
          show (if ioK b o then own0 b o else _) = _
          rw [if_pos ⟨k, hk, hnt, hr⟩]; exact (hcell k hk b o hr).1
        have hKJ : Keeps (ownJ Z own l) ownF w' w' := by
          intro b o v h1 h2
          refine ⟨?_, h2⟩
          show (if ioK b o then own0 b o else _) = _
          rw [if_neg]
          · split
            · rfl
            · exact h1
          · rintro ⟨i, hi, hnt, hr⟩; rw [hreg i hi hnt b o hr] at h1; cases h1
        have hKo : Keeps own ownF w' w' := (keepsJ l).trans hKJ
        have hBJ : ∀ b o, w.heap.size ≤ b → ownF b o = ownJ Z own l b o := by
          intro b o hb
          have hno : ¬ ioOf ps.length regs b o := by
            rintro ⟨i, hi, hr⟩
            have := (hcell i hi b o hr).2; omega
          show (if ioK b o then own0 b o else if ioOf ps.length regs b o then none else _) = _
          rw [if_neg (fun ⟨i, hi, _, hr⟩ => hno ⟨i, hi, hr⟩), if_neg hno]
        have hrv : ∃ us, All2 (outV a' w' P) fn.results.toList us ∧ RetAll ownF w' w.heap.size rid 0 (rs.map RV.pm) us y := by
          have hs' := hs
          obtain ⟨us, g1, g2⟩ := rv_all hE hs (B := w.heap.size) hn rs (fun s b o hs' h1 h2 => by
            rcases h2 with h2 | ⟨i, hi, hr⟩
            · exact h2
            · exfalso
              by_cases hnt : ∀ e, ps[i]? ≠ some (.take e)
              case neg =>
                have hany : ps.any Par.isTake = true := by
                  obtain ⟨e, he⟩ := Classical.not_forall.1 hnt
                  have he := Classical.not_not.1 he
                  exact List.any_eq_true.2 ⟨_, List.mem_of_getElem? he, rfl⟩
                have hcc := hc.2.2
                rw [hany] at hcc
                simp only [Bool.not_true, Bool.false_or, List.isEmpty_iff] at hcc
                rw [hcc] at hs'
                cases hs'
              have := hio i hi hnt b o (by rw [Nat.zero_add]; exact hr)
              rw [Nat.zero_add] at this
              rw [h1] at this
              have e := Option.some.inj this.1
              have hd := List.nodup_append.1 (hkeys ▸ hn)
              exact hd.2.2 s hs' _ this.2.2 e) 0 fn.results.toList y h1 hrs (fun _ h => List.mem_append_left _ h)
            (fun s hs => by rw [hkeys]; exact disB_iff.1 hc.2.1 s hs)
          exact ⟨us, g1, g2.rename hKJ hBJ⟩
        obtain ⟨us, g1, g2⟩ := hrv
        refine ⟨hs.defers, retV us, results_out g1, ownF, us, rfl, ?_, ?_, ?_, ?_⟩
        · have hfr := hs.frame
          have hsub : ∀ b o, (¬ ∃ i, inReg (regs i) b o) → ¬ ioOf ps.length regs b o := fun b o h ⟨i, _, hr⟩ => h ⟨i, hr⟩
          exact ⟨hfr.os, hfr.tape, hfr.output, hfr.size, fun b o hb h => hfr.cell b o hb (hsub b o h), fun b o v hb hv => hfr.live b o v hb hv, fun b k hb => hfr.shape b k hb,
            fun b hb h => hfr.block b hb fun o => hsub b o (h o)⟩
        · intro b o hb h
          have hsub : ¬ ioOf ps.length regs b o := fun ⟨i, _, hr⟩ => h ⟨i, hr⟩
          show (if ioK b o then own0 b o else if ioOf ps.length regs b o then none else ownJ Z own l b o) = own0 b o
          rw [if_neg (fun ⟨i, hi, _, hr⟩ => hsub ⟨i, hi, hr⟩), if_neg hsub]
          have : ownJ Z own l b o = own b o := by
            unfold ownJ; rw [if_pos ⟨hb, hsub⟩]
          rw [this, hs.old b o hb hsub]
          show ownIn ps.length regs own0 b o = own0 b o
          unfold ownIn; rw [dif_neg hsub]
        · rw [← h4, dsL_app]; exact g2
        · rw [← h4, dsR_app]
          exact io_out hs hKo ps 0 vs z h3 hget hpin (fun k hk hnt b o hr => by rw [Nat.zero_add] at hr ⊢; exact hF1 k hk hnt b o hr)
    refine wp_mono (ev_wp hE c an _ _ _ _ r hob hst hr) fun e a' w' hp => ?_
    cases e with
    | normal => obtain ⟨σ, own, β, h1, h2⟩ := hp; exact key σ own β a' w' h1 h2
    | ret => obtain ⟨σ, own, β, h1, h2⟩ := hp; exact key σ own β a' w' h1 h2
    | exit i => obtain ⟨σ, own, β, h1, h2⟩ := hp; cases h2
    | _ => exact hp.elim

end
end Go.Re
