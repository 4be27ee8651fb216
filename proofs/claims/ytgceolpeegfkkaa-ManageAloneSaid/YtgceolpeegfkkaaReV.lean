/- Reflection, part V: calls. -/
import Derived.Test.YtgceolpeegfkkaaReU
namespace Go.Re
set_option linter.unusedVariables false
set_option linter.unusedSimpArgs false
open Go.RowKit (Below)

section
variable {P : Program} {E : Env} {N : Nat} {Z : Base} {own : Own} {β : Conc} {σ : S} {a : Act} {w : World} {o : Oper}

theorem mem_sets : ∀ (l : List (Nat × Entry)) (σ : S) (s : Nat), (s ∉ l.map (·.1) ∧ (sets σ l).mem s = σ.mem s) ∨ ∃ e', (s, e') ∈ l ∧ (sets σ l).mem s = e'
  | [], σ, s => .inl ⟨by simp, rfl⟩
  | p :: l, σ, s => by
    rcases mem_sets l (σ.set p.1 p.2) s with ⟨h1, h2⟩ | ⟨e', h1, h2⟩
    · have h3 : (σ.set p.1 p.2).mem s = if s = p.1 then p.2 else σ.mem s := upd_eq _ _ _ _
      by_cases e : s = p.1
      · right
        refine ⟨p.2, by rw [e]; exact List.mem_cons_self .., ?_⟩
        show (sets (σ.set p.1 p.2) l).mem s = _
        rw [h2, h3, if_pos e]
      · left
        refine ⟨by simp only [List.map_cons, List.mem_cons, not_or]; exact ⟨e, h1⟩, ?_⟩
        show (sets (σ.set p.1 p.2) l).mem s = _
        rw [h2, h3, if_neg e]
    · right
      exact ⟨e', List.mem_cons_of_mem _ h1, h2⟩

theorem ArgRep.froz {own1 : Own} {fr : List (Nat × Entry)} (hf : Frz σ fr) (k1 : Keeps own own1 w w) (v1 : ∀ τ u x, RepA own w β σ.mem fr τ u x → RepV own1 w τ u x) {p : Par} {u : Value} {x : p.ty.D} {io : Io [p]}
    (hs : ∀ s ∈ ioSites [p] io, ∀ q ∈ fr, q.1 ≠ s) (h : ArgRep own w β σ.mem fr p u x io) : ArgRep own1 w β (sets σ fr).mem [] p u x io := by
  cases p with
  | val τ => exact .inl (v1 _ _ _ h)
  | nils e => exact h
  | pv q => exact fun β' mem' => RepS.go k1 (fun s => Evo.same _ rfl) (h β' mem')
  | box τ =>
    rcases h with ⟨s, ver, τb, xb, p, b, off, hm, h1⟩ | ⟨s, ver, τe, xs, i, p, b, off, n, c, hm, hi, h1, h2, h2', h3, h4, h5, h6⟩
    · exact .inl ⟨s, ver, τb, xb, p, b, off, sets_box hf hm, h1⟩
    · refine .inr ⟨s, ver, τe, xs, i, p, b, off, n, c, ?_, hi, h1, h2, h2', h3, h4, h5, h6⟩
      rw [sets_mem_other fr (hs s (by rw [h6]; simp [ioSites]))]; exact hm
  | row e =>
    obtain ⟨s, ver, xs, hm, h1, h2, h3⟩ := h
    refine ⟨s, ver, xs, ?_, h1, h2, h3⟩
    rw [sets_mem_other fr (hs s (by rw [h3]; simp [ioSites]))]; exact hm
  | take e =>
    obtain ⟨s, ver, xs, hm, h1, h2, h3⟩ := h
    refine ⟨s, ver, xs, ?_, h1, h2, h3⟩
    rw [sets_mem_other fr (hs s (by rw [h3]; simp [ioSites]))]; exact hm

theorem ArgReps.froz {own1 : Own} {fr : List (Nat × Entry)} (hf : Frz σ fr) (k1 : Keeps own own1 w w) (v1 : ∀ τ u x, RepA own w β σ.mem fr τ u x → RepV own1 w τ u x) : ∀ {ps : List Par} {us : List Value} {x : Ds (ps.map Par.ty)} {io : Io ps},
    (∀ s ∈ ioSites ps io, ∀ q ∈ fr, q.1 ≠ s) → ArgReps own w β σ.mem fr ps us x io → ArgReps own1 w β (sets σ fr).mem [] ps us x io
  | [], _, _, _, _, h => h
  | [p], _, _, _, hs, ⟨u, h1, h2⟩ => ⟨u, h1, h2.froz hf k1 v1 hs⟩
  | p :: q :: r, _, _, _, hs, ⟨u, us, io1, io2, h1, h2, h3, h4⟩ => by
    subst h2
    rw [ioSites_cons] at hs
    exact ⟨u, us, io1, io2, h1, rfl, h3.froz hf k1 v1 (fun s hm => hs s (List.mem_append_left _ hm)), ArgReps.froz (ps := q :: r) hf k1 v1 (fun s hm => hs s (List.mem_append_right _ hm)) h4⟩

theorem nodupB_iff : ∀ (l : List Nat), nodupB l = true → l.Nodup
  | [], _ => List.nodup_nil
  | n :: r, h => by
    simp only [nodupB, Bool.and_eq_true, List.all_eq_true] at h
    refine List.nodup_cons.2 ⟨fun hm => ?_, nodupB_iff r h.2⟩
    have := h.1 n hm
    simp at this

/-! ### results -/
/-- One piece of a result is the caller's. -/
theorem ret_one (h : St N Z own β σ a w) {B s : Nat} (hB : Z.w.heap.size ≤ B) (p : Ty × Mode) {u : Value} {x : p.1.D} {γ : Type} {g : γ → p.1.D} {b : γ} (hg : g b = x) (hr : RetC own w B s p u x) :
    ∃ β', St N Z own β' (writes σ b (resW s (nextVer (σ.mem s)) p g)) a w ∧ RepS own w β' (writes σ b (resW s (nextVer (σ.mem s)) p g)).mem (resV s (nextVer (σ.mem s)) p x) u ∧
      (∀ s', s' ≠ s → (writes σ b (resW s (nextVer (σ.mem s)) p g)).mem s' = σ.mem s' ∧ β' s' = β s') ∧ ∀ s', Evo β β' s' (σ.mem s') ((writes σ b (resW s (nextVer (σ.mem s)) p g)).mem s') := by
  have plain : ∀ {τ : Ty} {x : τ.D}, RepV own w τ u x → ∃ β', St N Z own β' σ a w ∧ RepS own w β' σ.mem (.val τ x) u ∧ (∀ s', s' ≠ s → σ.mem s' = σ.mem s' ∧ β' s' = β s') ∧ ∀ s', Evo β β' s' (σ.mem s') (σ.mem s') :=
    fun hv => ⟨β, h, hv, fun _ _ => ⟨rfl, rfl⟩, fun s => Evo.same _ rfl⟩
  have mine0 : ∀ {e : Ty} {x : List e.D} {m : Mode}, (∀ β', β' s = u → RepE Z own w β' s (.own (nextVer (σ.mem s)) e x m)) →
      ∃ β', St N Z own β' (σ.set s (.own (nextVer (σ.mem s)) e x m)) a w ∧ RepS own w β' (σ.set s (.own (nextVer (σ.mem s)) e x m)).mem (.ref s (nextVer (σ.mem s))) u ∧
        (∀ s', s' ≠ s → (σ.set s (.own (nextVer (σ.mem s)) e x m)).mem s' = σ.mem s' ∧ β' s' = β s') ∧ ∀ s', Evo β β' s' (σ.mem s') ((σ.set s (.own (nextVer (σ.mem s)) e x m)).mem s') := by
    intro e x m h1
    refine ⟨upd β s u, ?_, ref_new _ _ _ σ.mem s u (σ.mem s) e x m, ?_, ?_⟩
    · exact h.newSite' (Frm.refl _ _ _) (fun _ _ _ _ => rfl) (Keeps.refl _ _) (fun s' _ => h.mems s') (fun β' => Evo.newOwn _ _ _ _) (h1 _ (by rw [upd_eq, if_pos rfl]))
    · intro s' hs'
      exact ⟨by show upd σ.mem s _ s' = _; rw [upd_eq, if_neg hs'], by rw [upd_eq, if_neg hs']⟩
    · intro s'
      show Evo β _ s' (σ.mem s') (upd σ.mem s _ s')
      rw [upd_eq σ.mem]; split
      · rename_i e; subst e; exact Evo.newOwn _ _ _ _
      · rename_i e; exact Evo.same _ (by rw [upd_eq, if_neg e])
  have mine : ∀ {e : Ty} {x : List e.D} {m : Mode} {ad : Option Addr} {cap : Nat}, m.isMp = false → u = .slice ad x.length cap → x.length ≤ cap → cap < 9223372036854775808 → x.length ≤ big →
      ((cap = 0 ∧ (m = .full → ad = none)) ∨ ∃ b o, ad = some ⟨b, o, none⟩ ∧ RowR own w (m.owner s) e b o x ∧ m.rest Z own w s b o x.length cap e.size) →
      ∃ β', St N Z own β' (σ.set s (.own (nextVer (σ.mem s)) e x m)) a w ∧ RepS own w β' (σ.set s (.own (nextVer (σ.mem s)) e x m)).mem (.ref s (nextVer (σ.mem s))) u ∧
        (∀ s', s' ≠ s → (σ.set s (.own (nextVer (σ.mem s)) e x m)).mem s' = σ.mem s' ∧ β' s' = β s') ∧ ∀ s', Evo β β' s' (σ.mem s') ((σ.set s (.own (nextVer (σ.mem s)) e x m)).mem s') := by
    intro e x m ad cap hnm h1 h2 h3 h4 h5
    exact mine0 fun β' hb => RepE.ofRow hnm ⟨ad, cap, hb.trans h1, h2, h3, h4, h5⟩
  obtain ⟨τ, m⟩ := p
  subst hg
  cases τ with
  | sl e =>
    cases m with
    | full =>
      obtain ⟨ad, cap, h1, h2, h3, h4, h5⟩ := hr
      exact mine (e := e) (x := g b) (m := .full) rfl h1 h2 h3 h4 (h5.imp (fun h => ⟨h.2, fun _ => h.1⟩) fun ⟨b, o, q1, q2, q3, q4, q5⟩ => ⟨b, o, q1, q3, q4, fun j c1 c2 => ⟨(q5 j c1 c2).1, .inl (Nat.le_trans hB (q2 (by omega))), (q5 j c1 c2).2⟩⟩)
    | tail =>
      obtain ⟨ad, cap, h1, h2, h3, h4, h5⟩ := hr
      refine mine (e := e) (x := g b) (m := .tail) rfl h1 h2 h3 h4 (h5.imp (fun h => ⟨h, fun h => by cases h⟩) fun ⟨bb, o, q1, q3, q2, q5⟩ => ⟨bb, o, q1, q3, fun j c1 c2 => ⟨(q5 j c1 c2).1, .inl ?_, (q5 j c1 c2).2⟩⟩)
      exact Nat.le_trans hB (q2 (by omega))
    | view => exact plain hr
    | gb l => exact plain hr
    | mp =>
      refine mine0 (e := e) (x := g b) (m := .mp) fun β' hb => ?_
      show MapR _ _ _ _ _ _ _
      rw [hb]; exact MapR.base hB hr
  | bool => cases m <;> exact plain hr
  | str => cases m <;> exact plain hr
  | unit => cases m <;> exact plain hr
  | int k => cases m <;> exact plain hr
  | pair p q => cases m <;> exact plain hr
  | st b => cases m <;> exact plain hr
  | arr n e => cases m <;> exact plain hr

theorem site_inj {d i j : Nat} (h : i ≠ j) : site d i ≠ site d j := by unfold site; omega

/-- All pieces. -/
theorem ret_all {B d : Nat} (hB : Z.w.heap.size ≤ B) : ∀ (ps : List (Ty × Mode)) (i : Nat) {σ : S} {β : Conc} (_ : St N Z own β σ a w) {us : List Value} {x : Ds (ps.map (·.1))} {γ : Type} {g : γ → Ds (ps.map (·.1))} {b : γ} (_ : g b = x)
    {ver : Nat → Nat} (_ : ∀ k, i ≤ k → k < i + ps.length → ver k = nextVer (σ.mem (site d k))) (_ : RetAll own w B (fun k => site d k) i ps us x),
    ∃ β', St N Z own β' (writes σ b (resWs d ver i ps g)) a w ∧ RepS own w β' (writes σ b (resWs d ver i ps g)).mem (resVs d ver i ps x) (.tuple us.toArray) ∧
      (∀ s', (∀ k, i ≤ k → s' ≠ site d k) → (writes σ b (resWs d ver i ps g)).mem s' = σ.mem s' ∧ β' s' = β s') ∧ (∀ s', Evo β β' s' (σ.mem s') ((writes σ b (resWs d ver i ps g)).mem s')) ∧
      ∀ p, ps = [p] → ∃ u, us = [u] ∧ ∃ y : p.1.D, HEq x y ∧ RepS own w β' (writes σ b (resWs d ver i ps g)).mem (resV (site d i) (ver i) p y) u
  | [], i, σ, β, h, us, x, γ, g, b, hg, ver, hv, hr => ⟨β, h, by have hr : us = [] := hr; rw [hr]; exact rfl, fun _ _ => ⟨rfl, rfl⟩, fun s => Evo.same _ rfl, fun p hp => by cases hp⟩
  | [p], i, σ, β, h, us, x, γ, g, b, hg, ver, hv, ⟨u, h1, h2⟩ => by
    have hvi := hv i (Nat.le_refl _) (by simp)
    obtain ⟨β', k1, k2, k3, k4⟩ := ret_one h (s := site d i) hB p (g := g) (b := b) hg h2
    have e1 : resWs d ver i [p] g = resW (site d i) (ver i) p g := rfl
    rw [e1, hvi, h1]
    refine ⟨β', k1, ⟨u, [], rfl, ?_, rfl⟩, fun s' hs' => k3 s' (hs' i (Nat.le_refl _)), k4, fun p' hp' => ?_⟩
    · rw [hvi]; exact k2
    · cases hp'
      exact ⟨u, rfl, x, HEq.rfl, k2⟩
  | p :: q :: r, i, σ, β, h, us, x, γ, g, b, hg, ver, hv, ⟨u, us', h1, h2, h3⟩ => by
    have hvi := hv i (Nat.le_refl _) (by simp)
    obtain ⟨β1, k1, k2, k3, k4⟩ := ret_one h (s := site d i) hB p (g := fun b => (g b).1) (b := b) (by rw [hg]) h2
    rw [← hvi] at k1 k2 k3 k4
    obtain ⟨β2, l1, l2, l3, l4, _⟩ := ret_all hB (q :: r) (i + 1) k1 (g := fun b => (g b).2) (b := b) (by rw [hg]) (ver := ver) (by
      intro k h4 h5
      rw [(k3 (site d k) (site_inj (by omega))).1]
      exact hv k (by omega) (by simp only [List.length_cons] at h5 ⊢; omega)) h3
    have e1 : writes σ b (resWs d ver i (p :: q :: r) g) = writes (writes σ b (resW (site d i) (ver i) p (fun b => (g b).1))) b (resWs d ver (i + 1) (q :: r) (fun b => (g b).2)) := writes_append _ _ _ _
    rw [e1, h1]
    refine ⟨β2, l1, ⟨u, us', rfl, ?_, l2⟩, ?_, fun s' => (k4 s').trans (l4 s'), fun p' hp' => by cases hp'⟩
    · exact k2.go (Keeps.refl _ _) l4
    · intro s' hs'
      obtain ⟨m1, m2⟩ := l3 s' (fun k hk => hs' k (by omega))
      obtain ⟨m3, m4⟩ := k3 s' (hs' i (Nat.le_refl _))
      exact ⟨m1.trans m3, m2.trans m4⟩

end
end Go.Re
