/- Reflection, part Z: runs of a region, what they read and write, joins behind guards. -/
import Derived.Test.YtgceolpeegfkkaaReY
namespace Go.Re
set_option linter.unusedVariables false
set_option linter.unusedSimpArgs false
open Go.RowKit (Below)

theorem memB_iff {n : Nat} : ∀ {l : List Nat}, memB n l = true ↔ n ∈ l
  | [] => by simp [memB]
  | m :: r => by
    unfold memB
    by_cases h : m = n
    · subst h; simp
    · have : Nat.beq m n = false := by
        cases hh : Nat.beq m n with
        | true => exact absurd (Nat.eq_of_beq_eq_true hh) h
        | false => rfl
      rw [this]
      simp [memB_iff (l := r), show n ≠ m from fun e => h e.symm]
theorem memB_false {n : Nat} {l : List Nat} : memB n l = false ↔ n ∉ l := by
  rw [← memB_iff]; simp
theorem subB_iff : ∀ {a b : List Nat}, subB a b = true ↔ ∀ x ∈ a, x ∈ b
  | [], b => by simp [subB]
  | x :: a, b => by
    unfold subB
    cases h : memB x b with
    | true => simp [subB_iff (a := a), memB_iff.1 h]
    | false => simp [memB_false.1 h]
theorem disB_iff : ∀ {a b : List Nat}, disB a b = true ↔ ∀ x ∈ a, x ∉ b
  | [], b => by simp [disB]
  | x :: a, b => by
    unfold disB
    cases h : memB x b with
    | true => simp [memB_iff.1 h]
    | false => simp [disB_iff (a := a), memB_false.1 h]
theorem minus_iff {x : Nat} : ∀ {a b : List Nat}, x ∈ minus a b ↔ x ∈ a ∧ x ∉ b
  | [], b => by simp [minus]
  | y :: a, b => by
    unfold minus
    cases h : memB y b with
    | true =>
      have h := memB_iff.1 h
      simp only [cond_true, minus_iff (a := a), List.mem_cons]
      constructor
      · rintro ⟨h1, h2⟩; exact ⟨.inr h1, h2⟩
      · rintro ⟨h1 | h1, h2⟩
        · subst h1; exact absurd h h2
        · exact ⟨h1, h2⟩
    | false =>
      have h := memB_false.1 h
      simp only [cond_false, List.mem_cons, minus_iff (a := a)]
      constructor
      · rintro (h1 | ⟨h1, h2⟩)
        · subst h1; exact ⟨.inl rfl, h⟩
        · exact ⟨.inr h1, h2⟩
      · rintro ⟨h1 | h1, h2⟩
        · exact .inl h1
        · exact .inr ⟨h1, h2⟩

theorem dstAt_eq : ∀ (l : List Oper) (j : Nat), dstAt l j = (l[j]?).bind (·.dst)
  | [], _ => by simp [dstAt]
  | o :: r, 0 => by simp [dstAt]
  | o :: r, j + 1 => by simp [dstAt, dstAt_eq r j]

section
variable {P : Program} {E : Env} {N : Nat} {Z : Base} {own : Own} {β : Conc} {σ : S} {a : Act} {w : World} {o : Oper}

theorem St.putO (h : St N Z own β σ a w) {d : Option Nat} (hd : ∀ t, d = some t → t < N) {v : V} {u : Value} (hv : RepS own w β σ.mem v u) :
    St N Z own β (σ.putO d v) (a.put d u) w := by
  cases d with
  | none => exact h
  | some t => exact h.put (hd t rfl) hv

theorem tmps_bool {t : Nat} {b : Bool} (h : a.tmps.getD t undef = .bool b) : a.tmps[t]? = some (.bool b) := by
  rw [Array.getD_eq_getD_getElem?] at h
  cases h1 : a.tmps[t]? with
  | none => rw [h1] at h; cases h
  | some v => rw [h1] at h; exact congrArg some h

theorem gop_did {l : List Oper} {i : Nat} (hE : EnvOk P E) (h : St N Z own β σ a w) (ho : l[i]? = some o) (hd : ∀ t, o.dst = some t → t < N) {r : V × S}
    (hr : (gopM E l o).run σ = some r) {Q : Exit → Act → World → Prop} {K : Act → World → Prop} (hK : ∀ a' w' own β, St N Z own β (r.2.putO o.dst r.1) a' w' → K a' w') :
    wpOp P l.toArray Q i K a w := by
  unfold wpOp
  have ho' : l.toArray[i]? = some o := by simpa using ho
  simp only [ho']
  have hop : ∀ {r : V × S}, (opM E o).run σ = some r → (∀ a' w' own β, St N Z own β (r.2.putO o.dst r.1) a' w' → K a' w') → o.wp P a w K Q := by
    intro r hr hK
    refine Oper.wp_mono ?_ (opM_did hE h hr Q)
    rintro a' w' ⟨u, rfl, own', β', hs, hv⟩
    exact hK _ _ _ _ (hs.putO hd hv)
  unfold gopM at hr
  split at hr
  · rename_i hg
    simp only [Region.wanted, hg, if_true]
    exact .inl (hop hr hK)
  · rename_i j want hg
    rw [dstAt_eq] at hr
    split at hr
    · rename_i t ht
      simp only [M.run] at hr
      have hsl := h.slots t
      have hy : yielded l.toArray a.tmps j = match a.tmps[t]? with | some (.bool b) => some b | _ => none := by
        unfold yielded
        have : (l.toArray[j]?).bind (·.dst) = some t := by simpa using ht
        rw [this]; rfl
      split at hr
      · rename_i b hv
        rw [hv] at hsl
        have hb := tmps_bool (RepV.bool.1 hsl)
        rw [hb] at hy
        have hy : yielded l.toArray a.tmps j = some b := hy
        split at hr
        · simp only [Region.wanted, hg, hy, beq_self_eq_true, if_true]
          exact .inl (hop hr hK)
        · simp only [Region.wanted, hg, hy, beq_self_eq_true, if_true]
          exact .inl (hop hr hK)
        · rename_i n1 n2
          have : (some b == some want) = false := by
            cases b <;> cases want <;> first | rfl | exact (n1 rfl rfl).elim | exact (n2 rfl rfl).elim
          simp only [Region.wanted, hg, hy, this, Bool.false_eq_true, if_false]
          rw [ret_run hr] at hK
          exact hK _ _ _ _ (h.putO hd (v := .tnil) rfl)
      · rename_i hv
        rw [hv] at hsl
        have hsl : a.tmps.getD t undef = .tuple #[] := hsl
        have hy : yielded l.toArray a.tmps j = none := by
          rw [hy]
          rw [Array.getD_eq_getD_getElem?] at hsl
          cases h1 : a.tmps[t]? with
          | none => rfl
          | some v => rw [h1] at hsl; have hsl : v = .tuple #[] := hsl; subst hsl; rfl
        have : ((none : Option Bool) == some want) = false := rfl
        simp only [Region.wanted, hg, hy, this, Bool.false_eq_true, if_false]
        rw [ret_run hr] at hK
        exact hK _ _ _ _ (h.putO hd (v := .tnil) rfl)
      · cases hr
    · cases hr
end

/-! ### what an operation's run reads and writes -/
theorem writes_slots {β : Type} (b : β) : ∀ (ws : Ws β) (σ : S), (writes σ b ws).slots = σ.slots
  | [], _ => rfl
  | p :: ws, σ => writes_slots b ws (σ.set p.1 (p.2 b))

theorem writes_mem {β : Type} (b : β) : ∀ (ws : Ws β) (σ τ : S) (s : Nat),
    (s ∈ ws.map (·.1) → (writes τ b ws).mem s = (writes σ b ws).mem s) ∧ (s ∉ ws.map (·.1) → (writes σ b ws).mem s = σ.mem s)
  | [], σ, τ, s => ⟨by simp, fun _ => rfl⟩
  | p :: ws, σ, τ, s => by
    have ih := writes_mem b ws (σ.set p.1 (p.2 b)) (τ.set p.1 (p.2 b)) s
    refine ⟨fun h => ?_, fun h => ?_⟩
    · show (writes (τ.set p.1 (p.2 b)) b ws).mem s = (writes (σ.set p.1 (p.2 b)) b ws).mem s
      by_cases hs : s ∈ ws.map (·.1)
      · exact ih.1 hs
      · have ih' := (writes_mem b ws (τ.set p.1 (p.2 b)) (τ.set p.1 (p.2 b)) s).2 hs
        rw [ih', ih.2 hs]
        simp only [List.map_cons, List.mem_cons] at h
        have : s = p.1 := h.resolve_right hs
        subst this
        show upd τ.mem _ _ _ = upd σ.mem _ _ _
        rw [upd_eq, upd_eq, if_pos rfl, if_pos rfl]
    · simp only [List.map_cons, List.mem_cons, not_or] at h
      show (writes (σ.set p.1 (p.2 b)) b ws).mem s = σ.mem s
      rw [ih.2 h.2]
      show upd σ.mem _ _ _ = _
      rw [upd_eq, if_neg h.1]

theorem M.run_local {α : Type} (m : M α) : ∀ {σ τ : S}, (∀ t ∈ (m.foot σ).rs, τ.slots t = σ.slots t) → (∀ s ∈ (m.foot σ).rm, τ.mem s = σ.mem s) →
    m.foot τ = m.foot σ ∧ ∀ v σ', m.run σ = some (v, σ') → σ'.slots = σ.slots ∧ (∀ s, s ∉ (m.foot σ).wm → σ'.mem s = σ.mem s) ∧
      ∃ τ', m.run τ = some (v, τ') ∧ τ'.slots = τ.slots ∧ (∀ s, s ∈ (m.foot σ).wm → τ'.mem s = σ'.mem s) ∧ (∀ s, s ∉ (m.foot σ).wm → τ'.mem s = τ.mem s) := by
  induction m with
  | fail => intro σ τ _ _; exact ⟨rfl, fun v σ' h => by cases h⟩
  | slot n k ih =>
    intro σ τ hs hm
    have e : τ.slots n = σ.slots n := hs n (by simp [M.foot])
    have := @ih (σ.slots n) σ τ (fun t ht => hs t (by simp [M.foot, ht])) (fun s h => hm s (by simpa [M.foot] using h))
    refine ⟨?_, ?_⟩
    · simp only [M.foot, e, this.1]
    · intro v σ' hr
      obtain ⟨h1, h2, h3⟩ := this.2 v σ' hr
      refine ⟨h1, h2, ?_⟩
      simp only [M.run, e]
      exact h3
  | mem n k ih =>
    intro σ τ hs hm
    have e : τ.mem n = σ.mem n := hm n (by simp [M.foot])
    have := @ih (σ.mem n) σ τ (fun t ht => hs t (by simpa [M.foot] using ht)) (fun s h => hm s (by simp [M.foot, h]))
    refine ⟨?_, ?_⟩
    · simp only [M.foot, e, this.1]
    · intro v σ' hr
      obtain ⟨h1, h2, h3⟩ := this.2 v σ' hr
      refine ⟨h1, h2, ?_⟩
      simp only [M.run, e]
      exact h3
  | fin β o g ws =>
    intro σ τ _ _
    refine ⟨rfl, ?_⟩
    intro v σ' hr
    simp only [M.run] at hr ⊢
    obtain ⟨b, hb, h2⟩ := Option.map_eq_some_iff.1 hr
    cases h2
    refine ⟨writes_slots b ws σ, fun s hs => (writes_mem b ws σ σ s).2 hs, writes τ b ws, by rw [hb]; rfl, writes_slots b ws τ, fun s hs => (writes_mem b ws σ τ s).1 hs,
      fun s hs => (writes_mem b ws τ τ s).2 hs⟩

/-! ### runs -/
/-- A run in lexical order: each operation reads and writes what is told of it. -/
inductive Run (E : Env) (all : List Oper) : List Oper → List Dec → S → S → Prop
  | nil (σ : S) : Run E all [] [] σ σ
  | cons {o : Oper} {os : List Oper} {d : Dec} {ds : List Dec} {σ σ' : S} {r : V × S} (hr : (gopM E all o).run σ = some r)
      (hf : footOk ((gopM E all o).foot σ) (looksL all o) d = true) (h : Run E all os ds (r.2.putO o.dst r.1) σ') : Run E all (o :: os) (d :: ds) σ σ'

theorem footOk_iff {f : Foot} {ls : List Nat} {d : Dec} : footOk f ls d = true ↔ (∀ x ∈ f.rs, x ∈ ls) ∧ (∀ x ∈ f.rm, x ∈ d.rm) ∧ (∀ x ∈ f.wm, x ∈ d.wm) := by
  simp [footOk, subB_iff]

theorem putO_slots (σ : S) (d : Option Nat) (v : V) (t : Nat) : (σ.putO d v).slots t = if d = some t then v else σ.slots t := by
  cases d with
  | none => simp [S.putO]
  | some d =>
    show upd σ.slots d v t = _
    rw [upd_eq]
    by_cases h : t = d
    · subst h; simp
    · simp [h, show d ≠ t from fun e => h e.symm]
theorem putO_mem (σ : S) (d : Option Nat) (v : V) : (σ.putO d v).mem = σ.mem := by cases d <;> rfl

theorem gop_frame {E : Env} {all : List Oper} {o : Oper} {d : Dec} {σ : S} {r : V × S} (hr : (gopM E all o).run σ = some r)
    (hf : footOk ((gopM E all o).foot σ) (looksL all o) d = true) : r.2.slots = σ.slots ∧ ∀ s, s ∉ d.wm → r.2.mem s = σ.mem s := by
  obtain ⟨h1, h2, _⟩ := (M.run_local (gopM E all o) (σ := σ) (τ := σ) (fun _ _ => rfl) (fun _ _ => rfl)).2 r.1 r.2 hr
  exact ⟨h1, fun s hs => h2 s fun h => hs ((footOk_iff.1 hf).2.2 s h)⟩

theorem Run.append {E : Env} {all : List Oper} {os : List Oper} {ds : List Dec} {σ σ1 : S} (h : Run E all os ds σ σ1) :
    ∀ {os' : List Oper} {ds' : List Dec} {σ' : S}, Run E all os' ds' σ1 σ' → Run E all (os ++ os') (ds ++ ds') σ σ' := by
  induction h with
  | nil σ => intro _ _ _ h; exact h
  | cons hr hf _ ih => intro _ _ _ h; exact .cons hr hf (ih h)

theorem Run.frame {E : Env} {all : List Oper} {os : List Oper} {ds : List Dec} {σ σ' : S} (h : Run E all os ds σ σ') :
    (∀ t, t ∉ dstsOf os → σ'.slots t = σ.slots t) ∧ (∀ s, s ∉ wmsOf ds → σ'.mem s = σ.mem s) := by
  induction h with
  | nil σ => exact ⟨fun _ _ => rfl, fun _ _ => rfl⟩
  | @cons o os d ds σ σ' r hr hf _ ih =>
    obtain ⟨h1, h2⟩ := gop_frame hr hf
    refine ⟨fun t ht => ?_, fun s hs => ?_⟩
    · have hd : o.dst ≠ some t ∧ t ∉ dstsOf os := by
        unfold dstsOf at ht
        split at ht
        · rename_i d hd
          simp only [List.mem_cons, not_or] at ht
          exact ⟨by (rw [hd]; intro e; cases e; exact ht.1 rfl), ht.2⟩
        · rename_i hd; exact ⟨by (rw [hd]; intro e; cases e), ht⟩
      rw [ih.1 t hd.2, putO_slots, if_neg hd.1, h1]
    · simp only [wmsOf, List.mem_append, not_or] at hs
      rw [ih.2 s hs.2, putO_mem, h2 s hs.1]

/-- One state is another, but for what has been given up. -/
def Ag (D : Drop) (τ σ : S) : Prop :=
  (∀ t, τ.slots t = σ.slots t ∨ (t ∈ D.s ∧ σ.slots t = .dead)) ∧ (∀ s, τ.mem s = σ.mem s ∨ (s ∈ D.m ∧ ∃ v, σ.mem s = .gone v ∧ nextVer (τ.mem s) ≤ v + 1))

theorem Ag.refl (D : Drop) (σ : S) : Ag D σ σ := ⟨fun _ => .inl rfl, fun _ => .inl rfl⟩

theorem Ag.op {E : Env} {all : List Oper} {o : Oper} {d : Dec} {D : Drop} {σ τ : S} {r : V × S} (h : Ag D τ σ) (hr : (gopM E all o).run σ = some r)
    (hf : footOk ((gopM E all o).foot σ) (looksL all o) d = true) (h1 : disB (looksL all o) D.s = true) (h2 : disB d.rm D.m = true) :
    ∃ r', (gopM E all o).run τ = some r' ∧ footOk ((gopM E all o).foot τ) (looksL all o) d = true ∧ Ag D (r'.2.putO o.dst r'.1) (r.2.putO o.dst r.1) := by
  have hf' := footOk_iff.1 hf
  obtain ⟨e1, e2⟩ := M.run_local (gopM E all o) (σ := σ) (τ := τ) (fun t ht => (h.1 t).resolve_right fun hd => disB_iff.1 h1 t (hf'.1 t ht) hd.1)
    (fun s hs => (h.2 s).resolve_right fun hd => disB_iff.1 h2 s (hf'.2.1 s hs) hd.1)
  obtain ⟨h3, h4, τ', h5, h6, h7, h8⟩ := e2 r.1 r.2 hr
  refine ⟨(r.1, τ'), h5, by rw [e1]; exact hf, fun t => ?_, fun s => ?_⟩
  · rw [putO_slots, putO_slots]
    split
    · exact .inl rfl
    · show τ'.slots t = r.2.slots t ∨ _
      rw [h6, h3]; exact h.1 t
  · rw [putO_mem, putO_mem]
    show τ'.mem s = r.2.mem s ∨ (_ ∧ ∃ v, r.2.mem s = .gone v ∧ nextVer (τ'.mem s) ≤ v + 1)
    by_cases hs : s ∈ ((gopM E all o).foot σ).wm
    · exact .inl (h7 s hs)
    · rw [h8 s hs, h4 s hs]; exact h.2 s

theorem rdV_some {τ : Ty} {v : V} {x : τ.D} (h : rdV τ v = some x) : v = .val τ x := by
  unfold rdV at h
  split at h
  · obtain ⟨e, h⟩ := cast?_some h
    subst e; subst h; rfl
  · cases h

theorem wrS_mem : ∀ (J : List (Nat × Ty)) (x : Ds (J.map (·.2))) (σ : S), (wrS J x σ).mem = σ.mem
  | [], _, _ => rfl
  | [_], _, _ => rfl
  | p :: q :: r, x, σ => wrS_mem (q :: r) x.2 (σ.put p.1 (.val p.2 x.1))

theorem wrS_other : ∀ (J : List (Nat × Ty)) (x : Ds (J.map (·.2))) (σ : S) (t : Nat), t ∉ J.map (·.1) → (wrS J x σ).slots t = σ.slots t
  | [], _, _, _, _ => rfl
  | [p], _, σ, t, h => by
    simp at h
    show upd σ.slots p.1 _ t = _
    rw [upd_eq, if_neg h]
  | p :: q :: r, x, σ, t, h => by
    simp only [List.map_cons, List.mem_cons, not_or] at h
    have := wrS_other (q :: r) x.2 (σ.put p.1 (.val p.2 x.1)) t (by simpa using h.2)
    show (wrS (q :: r) x.2 (σ.put p.1 (.val p.2 x.1))).slots t = _
    rw [this]
    show upd σ.slots p.1 _ t = _
    rw [upd_eq, if_neg h.1]

theorem wrS_in : ∀ (J : List (Nat × Ty)) (x : Ds (J.map (·.2))) (σ0 σ : S), rdS J σ = some x → ∀ t ∈ J.map (·.1), (wrS J x σ0).slots t = σ.slots t
  | [], _, _, _, _, t, ht => by simp at ht
  | [p], x, σ0, σ, h, t, ht => by
    simp at ht; subst ht
    show upd σ0.slots p.1 _ p.1 = _
    rw [upd_eq, if_pos rfl]
    exact (rdV_some h).symm
  | p :: q :: r, x, σ0, σ, h, t, ht => by
    obtain ⟨x1, h1, h2⟩ := Option.bind_eq_some_iff.1 h
    obtain ⟨x2, h3, h4⟩ := Option.bind_eq_some_iff.1 h2
    cases h4
    show (wrS (q :: r) x2 (σ0.put p.1 (.val p.2 x1))).slots t = _
    by_cases hq : t ∈ (q :: r).map (·.1)
    · exact wrS_in (q :: r) x2 _ σ h3 t hq
    · rw [wrS_other (q :: r) x2 _ t hq]
      have ht : t = p.1 := by
        simp only [List.map_cons, List.mem_cons] at ht hq
        exact ht.resolve_right hq
      subst ht
      show upd σ0.slots p.1 _ p.1 = _
      rw [upd_eq, if_pos rfl]
      exact (rdV_some h1).symm

theorem put_same (σ : S) (g : Nat) (v : V) (h : σ.slots g = v) : σ.put g v = σ := by
  have : upd σ.slots g v = σ.slots := by
    funext t; rw [upd_eq]; split
    · rename_i e; subst e; exact h.symm
    · rfl
  show ({ σ with slots := upd σ.slots g v } : S) = σ
  rw [this]

theorem Ag.join {J : List (Nat × Ty)} {D D' : Drop} {E : Env} {all os : List Oper} {ds : List Dec} {σ τ σ' τ' : S} {x : Ds (J.map (·.2))} (h : Ag D τ σ) (hr : Run E all os ds τ τ')
    (h' : Ag D' τ' σ') (hx : rdJ J (wmsOf ds) σ σ' = some x) :
    Ag ⟨minus (dstsOf os ++ D.s) (J.map (·.1)), wmsOf ds ++ D.m⟩ τ' (wrS J x (dropS (dstsOf os) (wmsOf ds) σ)) := by
  unfold rdJ at hx
  cases hv : (wmsOf ds).all (fun s => Nat.ble (nextVer (σ'.mem s)) (nextVer (σ.mem s) + 1)) with
  | false => rw [hv] at hx; cases hx
  | true =>
    rw [hv] at hx
    have hx : rdS J σ' = some x := hx
    refine ⟨fun t => ?_, fun s => ?_⟩
    · by_cases ht : t ∈ J.map (·.1)
      · rw [wrS_in J x _ σ' hx t ht]
        rcases h'.1 t with e | ⟨_, e⟩
        · exact .inl e
        · exfalso
          have := wrS_in J x S.bare σ' hx t ht
          rw [e] at this
          -- a value is not dead
          revert this
          have : ∀ (J : List (Nat × Ty)) (x : Ds (J.map (·.2))) (σ0 : S), t ∈ J.map (·.1) → (wrS J x σ0).slots t ≠ .dead := by
            intro J
            induction J with
            | nil => intro _ _ h; simp at h
            | cons p r ih =>
              intro x σ0 h
              cases r with
              | nil =>
                simp at h; subst h
                show upd σ0.slots p.1 _ p.1 ≠ _
                rw [upd_eq, if_pos rfl]; intro e; cases e
              | cons q r =>
                show (wrS (q :: r) x.2 (σ0.put p.1 (.val p.2 x.1))).slots t ≠ _
                by_cases hq : t ∈ (q :: r).map (·.1)
                · exact ih x.2 _ hq
                · rw [wrS_other (q :: r) x.2 _ t hq]
                  have ht : t = p.1 := by
                    simp only [List.map_cons, List.mem_cons] at h hq
                    exact h.resolve_right hq
                  subst ht
                  show upd σ0.slots p.1 _ p.1 ≠ _
                  rw [upd_eq, if_pos rfl]; intro e; cases e
          exact this J x S.bare ht
      · rw [wrS_other J x _ t ht]
        show τ'.slots t = (bif memB t (dstsOf os) then V.dead else σ.slots t) ∨ (_ ∧ (bif memB t (dstsOf os) then V.dead else σ.slots t) = .dead)
        cases hm : memB t (dstsOf os) with
        | true => exact .inr ⟨minus_iff.2 ⟨List.mem_append_left _ (memB_iff.1 hm), ht⟩, rfl⟩
        | false =>
          rw [hr.frame.1 t (memB_false.1 hm)]
          exact (h.1 t).imp id fun ⟨h1, h2⟩ => ⟨minus_iff.2 ⟨List.mem_append_right _ h1, ht⟩, h2⟩
    · rw [wrS_mem]
      show τ'.mem s = (bif memB s (wmsOf ds) then Entry.gone (nextVer (σ.mem s)) else σ.mem s) ∨
        (_ ∧ ∃ v, (bif memB s (wmsOf ds) then Entry.gone (nextVer (σ.mem s)) else σ.mem s) = .gone v ∧ nextVer (τ'.mem s) ≤ v + 1)
      cases hm : memB s (wmsOf ds) with
      | true =>
        have hm := memB_iff.1 hm
        refine .inr ⟨List.mem_append_left _ hm, _, rfl, ?_⟩
        have h1 : nextVer (σ'.mem s) ≤ nextVer (σ.mem s) + 1 := Nat.le_of_ble_eq_true (List.all_eq_true.1 hv s hm)
        rcases h'.2 s with e | ⟨_, v, e1, e2⟩
        · rw [e]; exact h1
        · rw [e1] at h1; exact Nat.le_trans e2 h1
      | false =>
        rw [hr.frame.2 s (memB_false.1 hm)]
        exact (h.2 s).imp id fun ⟨h1, h2⟩ => ⟨List.mem_append_right _ h1, h2⟩

theorem evC_exact {E : Env} {all : List Oper} : ∀ (seg : Seg) (os : List Oper) (D : Drop) (σ : S) {R : Type} (K : Drop → S → Option R) (r : R) (τ : S), evC E all seg os D σ K = some r → Ag D τ σ →
    ∃ σ' τ' D', K D' σ' = some r ∧ seg.decs.length ≤ os.length ∧ Run E all (os.take seg.decs.length) seg.decs τ τ' ∧ Ag D' τ' σ'
  | .done, os, D, σ, R, K, r, τ, h, ha => ⟨σ, τ, D, by simpa [evC] using h, by simp [Seg.decs], by simpa [Seg.decs] using Run.nil τ, ha⟩
  | .op d s, [], D, σ, R, K, r, τ, h, ha => by simp [evC] at h
  | .op d s, o :: os, D, σ, R, K, r, τ, h, ha => by
    unfold evC at h
    cases hc : footOk ((gopM E all o).foot σ) (looksL all o) d && (disB (looksL all o) D.s && disB d.rm D.m) with
    | false => rw [hc] at h; cases h
    | true =>
      rw [hc] at h
      simp only [Bool.and_eq_true] at hc
      obtain ⟨h1, h2, h3⟩ := hc
      simp only [cond_true, M.runK_eq] at h
      obtain ⟨q, h4, h5⟩ := Option.bind_eq_some_iff.1 h
      obtain ⟨q', h6, h7, h8⟩ := ha.op h4 h1 h2 h3
      obtain ⟨σ', τ', D', e1, e2, e3, e4⟩ := evC_exact s os D _ K r _ h5 h8
      refine ⟨σ', τ', D', e1, by simpa [Seg.decs] using e2, ?_, e4⟩
      simp only [Seg.decs, List.length_cons, List.take_succ_cons]
      exact .cons h6 h7 e3
  | .split g J b s, os, D, σ, R, K, r, τ, h, ha => by
    have fin : ∀ {σ1 τ1 : S} {D1 : Drop}, b.decs.length ≤ os.length → Run E all (os.take b.decs.length) b.decs τ τ1 → Ag D1 τ1 σ1 → evC E all s (os.drop b.decs.length) D1 σ1 K = some r →
        ∃ σ' τ' D', K D' σ' = some r ∧ (Seg.split g J b s).decs.length ≤ os.length ∧ Run E all (os.take (Seg.split g J b s).decs.length) (Seg.split g J b s).decs τ τ' ∧ Ag D' τ' σ' := by
      intro σ1 τ1 D1 e2 e3 e4 h2
      obtain ⟨σ', τ', D', f1, f2, f3, f4⟩ := evC_exact s _ _ _ K r τ1 h2 e4
      refine ⟨σ', τ', D', f1, ?_, ?_, f4⟩
      · simp only [Seg.decs, List.length_append, List.length_drop] at f2 ⊢; omega
      · simp only [Seg.decs, List.length_append]
        rw [List.take_add]
        exact e3.append f3
    unfold evC at h
    split at h
    · rename_i c hc
      obtain ⟨x, h1, h2⟩ := Option.bind_eq_some_iff.1 h
      have h1 : evC E all b os D σ (fun _ => rdJ J (wmsOf b.decs) σ) = some x := by
        cases c
        · simpa [put_same σ g _ hc] using h1
        · simpa [put_same σ g _ hc] using h1
      obtain ⟨σ1, τ1, D1, e1, e2, e3, e4⟩ := evC_exact b os D σ _ x τ h1 ha
      exact fin e2 e3 (ha.join e3 e4 e1) h2
    · obtain ⟨σ1, τ1, D1, e1, e2, e3, e4⟩ := evC_exact b os D σ _ r τ h ha
      exact fin e2 e3 e4 e1
    · cases h

end Go.Re
