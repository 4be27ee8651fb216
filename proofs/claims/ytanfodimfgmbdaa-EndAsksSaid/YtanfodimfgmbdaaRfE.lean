/- Reflection, part AE: functions. -/
import Derived.Test.YtanfodimfgmbdaaRfD
namespace Go.Re
set_option linter.unusedVariables false
set_option linter.unusedSimpArgs false
open Go.RowKit (Below)

def allVal : List Par → Bool
  | [] => true
  | .val _ :: r => allVal r
  | _ => false

theorem allVal_io : ∀ {ps : List Par}, allVal ps = true → ioTys ps = []
  | [], _ => rfl
  | .val _ :: r, h => allVal_io (ps := r) h
  | .box _ :: _, h => by cases h
  | .row _ :: _, h => by cases h

/-- The results are where it's told. -/
def rvB (E : Env) : List ResultVar → List RV → Bool
  | [], [] => true
  | .tmp t :: r, .tmp t' _ :: r' => Nat.beq t t' && rvB E r r'
  | .cell a ty :: r, .cell a' τ :: r' => Nat.beq a a' && (decide (E.ty ty = some τ) && rvB E r r')
  | _, _ => false

section
variable {P : Program} {E : Env} {N : Nat} {Z : Base} {own : Own} {β : Conc} {σ : S} {a : Act} {w : World}

/-- A piece of the result. -/
theorem row_ret {B : Nat} (hZ : ∀ b o, Z.wr b o → B ≤ b) {e : Ty} {xs : List e.D} {m : Mode} {s : Nat} (hm : m = .full ∨ m = .tail) (h : RepE Z own w β s (.own 0 e xs m)) :
    RetC own w B s (.sl e, m) (β s) xs := by
  obtain ⟨ad, cap, e1, e2, e3, e4, e5⟩ := h
  rcases hm with rfl | rfl
  · refine ⟨ad, cap, e1, e2, e3, e4, e5.imp id ?_⟩
    rintro ⟨b, o, e6, e7, e8, e9⟩
    refine ⟨b, o, e6, fun hpos => hZ b o (e9 o (Nat.le_refl _) (by omega)).2.1, e7, e8, fun j h1 h2 => ?_⟩
    obtain ⟨k1, k2, k3, k4⟩ := e9 j h1 h2
    exact ⟨k1, k3, k4⟩
  · refine ⟨ad, cap, e1, e2, e3, e4, e5.imp id ?_⟩
    rintro ⟨b, o, e6, e7, e9⟩
    refine ⟨b, o, e6, e7, fun hpos => hZ b _ (e9 (o + xs.length * e.size) (Nat.le_refl _) (by omega)).2.1, fun j h1 h2 => ?_⟩
    obtain ⟨k1, k2, k3, k4⟩ := e9 j h1 h2
    exact ⟨k1, k3, k4⟩

def All2 {α β : Type} (R : α → β → Prop) : List α → List β → Prop
  | [], [] => True
  | x :: r, y :: s => R x y ∧ All2 R r s
  | _, _ => False

/-- What the results are, when the frame ends. -/
def outV (a : Act) (w : World) (P : Program) : ResultVar → Value → Prop
  | .tmp t, u => u = a.tmps.getD t undef
  | .cell x ty, u => ∃ ad, a.tmps.getD x undef = .pointer (some ad) ∧ (loadVar ty ad).run P w = .ok u w

theorem mapM_out {f : ResultVar → Sem Value} (hf : ∀ r u, outV a w P r u → (f r).run P w = .ok u w) : ∀ (rs : List ResultVar) (us : List Value), All2 (outV a w P) rs us → (rs.mapM f).run P w = .ok us w
  | [], [], _ => rfl
  | r :: rs, u :: us, h => by
    obtain ⟨h1, h2⟩ := h
    rw [List.mapM_cons, Sem.run_bind, hf r u h1, Result.andThen_ok, Sem.run_bind, mapM_out hf rs us h2, Result.andThen_ok]; rfl
  | [], _ :: _, h => h.elim
  | _ :: _, [], h => h.elim

theorem results_out {fn : Func} {us : List Value} (h : All2 (outV a w P) fn.results.toList us) : (results fn a.tmps).run P w = .ok (retV us) w := by
  unfold results
  rw [Array.mapM_eq_mapM_toList]
  simp only [bind_map_left, Sem.run_bind]
  rw [mapM_out (f := _) ?_ _ _ h]
  · simp only [Result.andThen_ok, Sem.run_pure]
    congr 1
    match us with
    | [] => rfl
    | [u] => rfl
    | u :: v :: r => rfl
  · intro r u hr
    cases r with
    | tmp t => have hr : u = _ := hr; rw [hr]; rfl
    | cell x ty =>
      obtain ⟨ad, h1, h2⟩ := hr
      simp only [h1, asAddr, Sem.run_bind, Sem.run_pure, Result.andThen_ok]
      exact h2

/-- The rows that go to the caller: old site, its new name, from which cell on. -/
def RV.keeps (r : RV) (σ : S) (a : Act) (q : Nat) : List (Nat × Nat × Nat) :=
  match r.ji with
  | .row t e m => match σ.slots t with
    | .ref s _ => [(s, q, lowOf m e (a.tmps.getD t undef))]
    | _ => []
  | j => j.keeps σ a
def keepsR (rid : Nat → Nat) : Nat → List RV → S → Act → List (Nat × Nat × Nat)
  | _, [], _, _ => []
  | i, r :: l, σ, a => r.keeps σ a (rid i) ++ keepsR rid (i + 1) l σ a

theorem RV.keeps_keys (r : RV) (σ : S) (a : Act) (q : Nat) : (r.keeps σ a q).map (·.1) = r.ji.kept σ := by
  unfold RV.keeps
  split
  · rename_i t e m hj
    rw [hj]
    simp only [JI.kept]; cases σ.slots t <;> rfl
  · exact Go.Re.keeps_keys _ _ _
theorem keepsR_keys (rid : Nat → Nat) : ∀ (l : List RV) (i : Nat) (σ : S) (a : Act), (keepsR rid i l σ a).map (·.1) = keptAll (l.map RV.ji) σ
  | [], _, _, _ => rfl
  | r :: l, i, σ, a => by simp [keepsR, keptAll, RV.keeps_keys, keepsR_keys rid l]

theorem nil_ret {B q : Nat} {e : Ty} {m : Mode} {u : Value} (hu : u = .slice none 0 0) : RetC own w B q (.sl e, m) u ([] : List e.D) := by
  subst hu
  cases m with
  | full => exact ⟨none, 0, rfl, Nat.le_refl _, by omega, Nat.zero_le _, .inl ⟨rfl, rfl⟩⟩
  | tail => exact ⟨none, 0, rfl, Nat.le_refl _, by omega, Nat.zero_le _, .inl ⟨rfl, rfl⟩⟩
  | view => exact RepV.sl.2 ⟨none, 0, rfl, Nat.le_refl _, by omega, Nat.zero_le _, .inl rfl⟩

theorem RetC.of_rep {B q : Nat} {p : Ty × Mode} {u : Value} {x : p.1.D} (h : RepV own w p.1 u x) (hp : ∀ e, p = (.sl e, .full) ∨ p = (.sl e, .tail) → False) : RetC own w B q p u x := by
  obtain ⟨τ, m⟩ := p
  cases τ with
  | sl e => cases m with
    | full => exact (hp e (.inl rfl)).elim
    | tail => exact (hp e (.inr rfl)).elim
    | view => exact h
  | bool => cases m <;> exact h
  | str => cases m <;> exact h
  | unit => cases m <;> exact h
  | int k => cases m <;> exact h
  | pair p q => cases m <;> exact h
  | st b => cases m <;> exact h
  | arr n e => cases m <;> exact h

/-- One result. -/
theorem rv_one (hE : EnvOk P E) (h : St N Z own β σ a w) {B : Nat} (hZ : ∀ b o, Z.wr b o → B ≤ b) {l : List (Nat × Nat × Nat)} (hn : (l.map (·.1)).Nodup) {r : RV} {x : r.pm.1.D} (hx : r.read σ = some x) {q : Nat}
    (hl : ∀ p ∈ r.keeps σ a q, p ∈ l) (hl' : ∀ s ∈ r.ji.loose σ, s ∉ l.map (·.1)) {f : ResultVar} (hf : rvB E [f] [r] = true) :
    ∃ u, outV a w P f u ∧ RetC (ownJ Z own l) w B q r.pm u x := by
  cases r with
  | cell t τ =>
    cases f with
    | tmp _ => simp [rvB] at hf
    | cell y ty =>
      simp only [rvB, Bool.and_eq_true, decide_eq_true_eq] at hf
      obtain ⟨h1, h2, _⟩ := hf
      have h1 := Nat.eq_of_beq_eq_true h1
      subst h1
      have hx : rdBox τ (σ.slots y) σ = some x := hx
      unfold rdBox at hx
      split at hx
      · rename_i s ver hs
        split at hx
        · rename_i ver' τ' z hm
          cases hb : Nat.beq ver ver' with
          | false => rw [hb] at hx; cases hx
          | true =>
            rw [hb] at hx
            have hb1 := Nat.eq_of_beq_eq_true hb
            subst hb1
            obtain ⟨eq, hx⟩ := cast?_some hx
            subst eq
            have hx : z = x := hx
            subst hx
            have hsl := h.slots y
            rw [hs] at hsl
            obtain ⟨b', o', g1, g2⟩ := hsl.2 τ' z hm
            rw [offP_nil, Nat.add_zero] at g2
            have hM := h.mems s
            rw [hm] at hM
            obtain ⟨hv, b, o, cs, e1, e2, e3⟩ := hM
            rw [g1] at e1; cases e1
            refine ⟨mkV τ' cs, ⟨_, g2, (hE.ty _ _ h2).load e3 fun j v hj => (e2 j v hj).2.2.1⟩, ?_⟩
            exact RetC.of_rep (p := (τ', .view)) ⟨hv, cs, rfl, e3.keeps (keepsJ l)⟩ (fun e he => by rcases he with he | he <;> cases he)
        · cases hx
      · cases hx
  | tmp t p =>
    cases f with
    | cell _ _ => simp [rvB] at hf
    | tmp y =>
      simp only [rvB, Bool.and_eq_true] at hf
      have h1 := Nat.eq_of_beq_eq_true hf.1
      subst h1
      refine ⟨_, rfl, ?_⟩
      have hx : rdRes p (σ.slots y) σ = some x := hx
      have row : ∀ {e : Ty} {m : Mode} {x : List e.D}, (m = .full ∨ m = .tail) → rdRow e m (σ.slots y) σ = some x → (∀ s ver, σ.slots y = .ref s ver → (s, q, lowOf m e (a.tmps.getD y undef)) ∈ l) →
          RetC (ownJ Z own l) w B q (.sl e, m) (a.tmps.getD y undef) x := by
        intro e m x hmm hx hl
        unfold rdRow at hx
        split at hx
        · rename_i hs
          cases hx
          have hsl := h.slots y
          rw [hs] at hsl
          exact nil_ret hsl
        · rename_i s ver hs
          split at hx
          · rename_i ver' e' xs m' hm
            cases hb : Nat.beq ver ver' && m'.le m with
            | false => rw [hb] at hx; cases hx
            | true =>
              rw [hb] at hx
              simp only [Bool.and_eq_true] at hb
              have hb1 := Nat.eq_of_beq_eq_true hb.1
              subst hb1
              obtain ⟨eq, hx⟩ := cast?_some hx
              cases eq
              have hx : xs = x := hx
              subst hx
              exact row_ret hZ (s := q) (β := fun _ => a.tmps.getD y undef) hmm (row_core h hs hm hb.2 (find3_mem hn (hl s ver hs)) rfl)
          · cases hx
        · cases hx
      have val : RV.ji (.tmp y p) = .val y p.1 → rdA p.1 (σ.slots y) σ = some x → (∀ e, p = (.sl e, .full) ∨ p = (.sl e, .tail) → False) → RetC (ownJ Z own l) w B q p (a.tmps.getD y undef) x := by
        intro hj hx hp
        rw [hj] at hl'
        exact RetC.of_rep (val_join h hx hl') hp
      obtain ⟨τ, m⟩ := p
      cases τ with
      | sl e => cases m with
        | full => exact row (.inl rfl) hx fun s ver hs => hl _ (by simp [RV.keeps, RV.ji, hs])
        | tail => exact row (.inr rfl) hx fun s ver hs => hl _ (by simp [RV.keeps, RV.ji, hs])
        | view => exact val rfl hx (fun e he => by rcases he with he | he <;> cases he)
      | bool => exact val (by cases m <;> rfl) hx (fun e he => by rcases he with he | he <;> cases he)
      | str => exact val (by cases m <;> rfl) hx (fun e he => by rcases he with he | he <;> cases he)
      | unit => exact val (by cases m <;> rfl) hx (fun e he => by rcases he with he | he <;> cases he)
      | int k => exact val (by cases m <;> rfl) hx (fun e he => by rcases he with he | he <;> cases he)
      | pair p q => exact val (by cases m <;> rfl) hx (fun e he => by rcases he with he | he <;> cases he)
      | st b => exact val (by cases m <;> rfl) hx (fun e he => by rcases he with he | he <;> cases he)
      | arr n e => exact val (by cases m <;> rfl) hx (fun e he => by rcases he with he | he <;> cases he)

/-- All of them. -/
theorem rv_all (hE : EnvOk P E) (h : St N Z own β σ a w) {B : Nat} (hZ : ∀ b o, Z.wr b o → B ≤ b) {l : List (Nat × Nat × Nat)} (hn : (l.map (·.1)).Nodup) {rid : Nat → Nat} :
    ∀ (rs : List RV) (i : Nat) (fs : List ResultVar) (x : Ds ((rs.map RV.pm).map (·.1))), rdRVs rs σ = some x → rvB E fs rs = true → (∀ p ∈ keepsR rid i rs σ a, p ∈ l) →
      (∀ s ∈ looseAll (rs.map RV.ji) σ, s ∉ l.map (·.1)) → ∃ us, All2 (outV a w P) fs us ∧ RetAll (ownJ Z own l) w B rid i (rs.map RV.pm) us x
  | [], i, fs, x, hx, hf, _, _ => by
    cases fs with
    | nil => exact ⟨[], trivial, rfl⟩
    | cons f fs => cases f <;> simp [rvB] at hf
  | [r], i, fs, x, hx, hf, hl, hl' => by
    match fs, hf with
    | [], hf => cases r <;> simp [rvB] at hf
    | f :: g :: fs, hf => cases f <;> cases r <;> cases g <;> simp [rvB] at hf
    | [f], hf =>
      obtain ⟨u, h1, h2⟩ := rv_one hE h hZ hn (r := r) (x := x) hx (q := rid i) (fun p hp => hl p (by simp [keepsR, hp])) (fun s hs => hl' s (by simp [looseAll, hs])) hf
      exact ⟨[u], ⟨h1, trivial⟩, ⟨u, rfl, h2⟩⟩
  | r :: r' :: rs, i, fs, x, hx, hf, hl, hl' => by
    obtain ⟨x1, h1, h2⟩ := Option.bind_eq_some_iff.1 hx
    obtain ⟨x2, h3, h4⟩ := Option.bind_eq_some_iff.1 h2
    cases h4
    match fs, hf with
    | [], hf => cases r <;> simp [rvB] at hf
    | f :: fs, hf =>
      have hf' : rvB E [f] [r] = true ∧ rvB E fs (r' :: rs) = true := by
        cases f <;> cases r <;> simp only [rvB, Bool.and_eq_true, Bool.false_eq_true, and_true] at hf ⊢
        · exact hf
        · exact ⟨⟨hf.1, hf.2.1⟩, hf.2.2⟩
      obtain ⟨u, g1, g2⟩ := rv_one hE h hZ hn (r := r) (x := x1) h1 (q := rid i) (fun p hp => hl p (List.mem_append_left _ hp)) (fun s hs => hl' s (List.mem_append_left _ hs)) hf'.1
      obtain ⟨us, k1, k2⟩ := rv_all hE h hZ hn (r' :: rs) (i + 1) fs x2 h3 hf'.2 (fun p hp => hl p (List.mem_append_right _ hp)) (fun s hs => hl' s (List.mem_append_right _ hs))
      exact ⟨u :: us, ⟨g1, k1⟩, ⟨u, us, rfl, g2, k2⟩⟩

/-! ### the beginning -/
structure Ent (own : Own) (w : World) (tm : Nat → Value) (σ : S) : Prop where
  slots : ∀ t, σ.slots t = .dead ∨ ∃ τ x, σ.slots t = .val τ x ∧ RepV own w τ (tm t) x
  mem : ∀ s, σ.mem s = .none

theorem Ent.all {own : Own} {w : World} {tm : Nat → Value} {ids : Nat → Nat} {regs : Nat → Nat × Nat × Nat} : ∀ (ps : List Par) (i : Nat) (vs : List Value) (x : Ds (ps.map Par.ty)) (σ : S), allVal ps = true →
    ArgAll own w ids regs i ps vs x → (∀ k v, vs[k]? = some v → tm (i + k) = v) → Ent own w tm σ → Ent own w tm (entryS i ps x σ) ∧ vs.length = ps.length
  | [], _, vs, _, _, _, h, _, hs => ⟨hs, by have h : vs = [] := h; rw [h]; rfl⟩
  | .box _ :: _, _, _, _, _, h, _, _, _ => by cases h
  | .row _ :: _, _, _, _, _, h, _, _, _ => by cases h
  | [.val τ], i, vs, x, σ, _, ⟨v, h1, h2⟩, ht, hs => by
    subst h1
    refine ⟨⟨fun t => ?_, hs.mem⟩, rfl⟩
    show upd σ.slots i _ t = _ ∨ _
    have e : upd σ.slots i (.val τ x) t = if t = i then .val τ x else σ.slots t := upd_eq _ _ _ _
    by_cases hti : t = i
    · subst hti
      rw [if_pos rfl] at e
      exact .inr ⟨τ, x, e, by have := ht 0 v rfl; rw [Nat.add_zero] at this; rw [this]; exact h2.1⟩
    · rw [if_neg hti] at e
      have := hs.slots t
      rw [← e] at this; exact this
  | .val τ :: q :: r, i, vs, x, σ, hv, ⟨v, us, h1, h2, h3⟩, ht, hs => by
    subst h1
    have hs' : Ent own w tm (σ.put i (.val τ x.1)) := by
      refine ⟨fun t => ?_, hs.mem⟩
      show upd σ.slots i _ t = _ ∨ _
      have e : upd σ.slots i (.val τ x.1) t = if t = i then .val τ x.1 else σ.slots t := upd_eq _ _ _ _
      by_cases hti : t = i
      · subst hti
        rw [if_pos rfl] at e
        exact .inr ⟨τ, x.1, e, by have := ht 0 v rfl; rw [Nat.add_zero] at this; rw [this]; exact h2.1⟩
      · rw [if_neg hti] at e
        have := hs.slots t
        rw [← e] at this; exact this
    obtain ⟨g1, g2⟩ := Ent.all (q :: r) (i + 1) us x.2 _ hv h3 (fun k u hk => by have := ht (k + 1) u (by simpa using hk); rw [← this]; congr 1; omega) hs'
    exact ⟨g1, by simp [g2]⟩

theorem dsL_app : ∀ (xs ys : List Ty) (x : Ds xs) (y : Ds ys), dsL xs ys (dsApp xs ys x y) = x
  | [], _, _, _ => rfl
  | [_], [], _, _ => rfl
  | [_], _ :: _, _, _ => rfl
  | _ :: b :: r, ys, x, y => by
    exact Prod.ext rfl (dsL_app (b :: r) ys x.2 y)

theorem noIo_out {own : Own} {w : World} {ids : Nat → Nat} {regs : Nat → Nat × Nat × Nat} : ∀ (ps : List Par) (i : Nat) (vs : List Value) (y : Ds (ioTys ps)), allVal ps = true → OutAll own w ids regs i ps vs y
  | [], _, _, _, _ => trivial
  | .val _ :: r, i, vs, y, h => noIo_out r (i + 1) vs.tail y h
  | .box _ :: _, _, _, _, h => by cases h
  | .row _ :: _, _, _, _, h => by cases h

/-- No loop in it. -/
def An.flat : {R : Type} → An R → Bool
  | _, .leaf => true
  | _, .rg _ _ => true
  | _, .seq a b => a.flat && b.flat
  | _, .join _ a b => a.flat && b.flat
  | _, .cond a b => a.flat && b.flat
  | _, .block a => a.flat
  | _, .loop _ _ _ _ => false

theorem ob_flat (E : Env) (N : Nat) : ∀ (c : Code) {R : Type} (an : An R) (Kn : S → Option R) (Ke : Nat → S → Option R) (Kr : S → Option R), an.flat = true → ob E N c an Kn Ke Kr := by
  intro c
  induction c with
  | seq x y ihx ihy =>
    intro R an Kn Ke Kr h
    cases an with
    | seq a b =>
      simp only [An.flat, Bool.and_eq_true] at h
      exact ⟨ihx a _ _ _ h.1, ihy b _ _ _ h.2⟩
    | join J a b =>
      simp only [An.flat, Bool.and_eq_true] at h
      exact ⟨ihx a _ _ _ h.1, ihy b _ _ _ h.2⟩
    | _ => trivial
  | cond c x y ihx ihy =>
    intro R an Kn Ke Kr h
    cases an with
    | cond a b =>
      simp only [An.flat, Bool.and_eq_true] at h
      exact ⟨ihx a _ _ _ h.1, ihy b _ _ _ h.2⟩
    | _ => trivial
  | block id x ih =>
    intro R an Kn Ke Kr h
    cases an with
    | block a =>
      have := ih a Kn (fun i σ' => bif Nat.beq i id then Kn σ' else Ke i σ') Kr h
      cases x <;> exact this
    | loop _ _ _ _ => cases h
    | _ => cases x <;> trivial
  | _ => intro R an Kn Ke Kr h; cases an <;> trivial

/-- A function of values: it does what the evaluator tells. -/
theorem fn_ok (hE : EnvOk P E) {f : Nat} {fn : Func} {c : Code} {ps : List Par} {rs : List RV} {an : An (Ds ((rs.map RV.pm).map (·.1) ++ ioTys ps))}
    (hf : P.funcs[f]? = some fn) (hb : fn.body = some c) (hname : (fn.name == "runtime.NumGoroutine") = false) (hps : allVal ps = true) (hN : Nat.ble ps.length fn.ntmps = true)
    (hrs : rvB E fn.results.toList rs = true) (hob : obF E fn.ntmps c ps rs an) {F : Ds (ps.map Par.ty) → Option (Ds ((rs.map RV.pm).map (·.1) ++ ioTys ps))}
    (hF : ∀ x, evF E fn.ntmps c ps rs an x = F x) : FnOk P f { args := ps, res := rs.map RV.pm, f := F } where
  fn := ⟨fn, hf, by rw [hb]; rfl, hname⟩
  calls := by
    intro w own0 ids rid regs vs x r harg _ hr
    have hr : evF E fn.ntmps c ps rs an x = some r := (hF x).trans hr
    refine calls_of_wp hf hb ?_
    have harg : ArgAll own0 w ids regs 0 ps vs x := harg
    obtain ⟨hent, hlen⟩ := Ent.all (tm := fun t => (vs.toArray ++ Array.replicate (fn.ntmps - vs.toArray.size) undef).getD t undef) ps 0 vs x S.bare hps harg (by
      intro k v hk
      have hk' : k < vs.length := (List.getElem?_eq_some_iff.1 hk).1
      rw [Nat.zero_add, Array.getD_eq_getD_getElem?, Array.getElem?_append]
      simp only [List.size_toArray, hk', if_true, List.getElem?_toArray, hk, Option.getD_some]) ⟨fun _ => .inl rfl, fun _ => rfl⟩
    have hst : St fn.ntmps ⟨w, fun _ _ => False, own0⟩ own0 (fun _ => undef) (entryS 0 ps x S.bare) { tmps := vs.toArray ++ Array.replicate (fn.ntmps - vs.toArray.size) undef, defers := [] } w := {
      frame := Frm.refl _ _ _
      old := fun _ _ _ _ => rfl
      size := by
        have := Nat.le_of_ble_eq_true hN
        simp; omega
      defers := rfl
      slots := fun t => by
        rcases hent.slots t with e | ⟨τ, y, e, hy⟩
        · rw [e]; trivial
        · rw [e]; exact hy
      mems := fun s => by rw [hent.mem s]; trivial }
    have key : ∀ (σ : S) (own : Own) (β : Conc) (a' : Act) (w' : World), St fn.ntmps ⟨w, fun _ _ => False, own0⟩ own β σ a' w' → finF ps rs σ = some r →
        a'.defers = [] ∧ ∃ v, (results fn a'.tmps).run P w' = .ok v w' ∧ (fun e w' => ∃ own us, e = Ending.returned (retV us) ∧ Frm w.heap.size (fun b o => ∃ i, inReg (regs i) b o) w w' ∧
          (∀ b o, b < w.heap.size → (¬ ∃ i, inReg (regs i) b o) → own b o = own0 b o) ∧
          RetAll own w' w.heap.size rid 0 (rs.map RV.pm) us (dsL ((rs.map RV.pm).map (·.1)) (ioTys ps) r) ∧ OutAll own w' ids regs 0 ps vs (dsR ((rs.map RV.pm).map (·.1)) (ioTys ps) r)) (.returned v) w' := by
      intro σ own β a' w' hs hk
      unfold finF at hk
      cases hc : nodupB (keptAll (rs.map RV.ji) σ) && disB (looseAll (rs.map RV.ji) σ) (keptAll (rs.map RV.ji) σ) with
      | false => rw [hc] at hk; cases hk
      | true =>
        rw [hc] at hk
        simp only [Bool.and_eq_true] at hc
        obtain ⟨y, h1, h2⟩ := Option.bind_eq_some_iff.1 hk
        obtain ⟨z, h3, h4⟩ := Option.bind_eq_some_iff.1 h2
        have h4 : dsApp _ _ y z = r := Option.some.inj h4
        have hn : ((keepsR rid 0 rs σ a').map (·.1)).Nodup := by rw [keepsR_keys]; exact nodupB_spec hc.1
        obtain ⟨us, g1, g2⟩ := rv_all hE hs (B := w.heap.size) (fun b o hw => hw.resolve_right id) hn rs 0 fn.results.toList y h1 hrs (fun _ h => h)
          (fun s hs => by rw [keepsR_keys]; exact disB_iff.1 hc.2 s hs)
        refine ⟨hs.defers, retV us, results_out g1, ownJ ⟨w, fun _ _ => False, own0⟩ own (keepsR rid 0 rs σ a'), us, rfl, ?_, ?_, ?_, noIo_out ps 0 vs _ hps⟩
        · have hfr := hs.frame
          exact ⟨hfr.os, hfr.tape, hfr.output, hfr.size, fun b o hb _ => hfr.cell b o hb id, fun b o v hb hv => hfr.live b o v hb hv, fun b k hb => hfr.shape b k hb, fun b hb _ => hfr.block b hb fun _ => id⟩
        · intro b o hb _
          have : ownJ ⟨w, fun _ _ => False, own0⟩ own (keepsR rid 0 rs σ a') b o = own b o := by
            unfold ownJ; rw [if_pos ⟨hb, id⟩]
          rw [this]
          exact hs.old b o hb id
        · rw [← h4, dsL_app]; exact g2
    refine wp_mono (ev_wp hE c an _ _ _ _ r hob hst hr) fun e a' w' hp => ?_
    cases e with
    | normal => obtain ⟨σ, own, β, h1, h2⟩ := hp; exact key σ own β a' w' h1 h2
    | ret => obtain ⟨σ, own, β, h1, h2⟩ := hp; exact key σ own β a' w' h1 h2
    | exit i => obtain ⟨σ, own, β, h1, h2⟩ := hp; cases h2
    | _ => exact hp.elim

end
end Go.Re
