/- Reflection, part AD: code. -/
import Derived.Test.YtgceolpeegfkkaaRfC
namespace Go.Re
set_option linter.unusedVariables false
set_option linter.unusedSimpArgs false
open Go.RowKit (Below)

section
variable {P : Program} {E : Env} {N : Nat} {Z : Base}

/-- What a piece of code ends in. -/
def Post (N : Nat) (Z : Base) {R : Type} (Kn : S → Option R) (Ke : Nat → S → Option R) (Kr : S → Option R) (r : R) : Exit → Act → World → Prop
  | .normal, a, w => ∃ σ own β, St N Z own β σ a w ∧ Kn σ = some r
  | .exit i, a, w => ∃ σ own β, St N Z own β σ a w ∧ Ke i σ = some r
  | .ret, a, w => ∃ σ own β, St N Z own β σ a w ∧ Kr σ = some r
  | _, _, _ => False

theorem map_inl {A R : Type} {x : Option A} {q : A ⊕ R} (h : x.map .inl = some q) : ∃ y, x = some y ∧ q = .inl y := by
  obtain ⟨y, h1, h2⟩ := Option.map_eq_some_iff.1 h
  exact ⟨y, h1, h2.symm⟩
theorem map_inr {A R : Type} {x : Option R} {q : A ⊕ R} (h : x.map .inr = some q) : ∃ y, x = some y ∧ q = .inr y := by
  obtain ⟨y, h1, h2⟩ := Option.map_eq_some_iff.1 h
  exact ⟨y, h1, h2.symm⟩
theorem jn_some {A R : Type} {x : Option (A ⊕ R)} {k : A → Option R} {r : R} (h : jn x k = some r) : ∃ q, x = some q ∧ (∀ a, q = .inl a → k a = some r) ∧ (∀ b, q = .inr b → b = r) := by
  unfold jn at h
  split at h
  · exact ⟨_, rfl, fun a e => by cases e; exact h, fun b e => by cases e⟩
  · exact ⟨_, rfl, fun a e => (by cases e), fun b e => by cases e; cases h; rfl⟩
  · cases h

theorem least_ex {p : Nat → Prop} (h : ∃ n, p n) : ∃ n, p n ∧ ∀ m, p m → n ≤ m := by
  obtain ⟨n, hn⟩ := h
  induction n using Nat.strongRecOn with
  | _ n ih =>
    by_cases h : ∃ m, m < n ∧ p m
    · obtain ⟨m, h1, h2⟩ := h; exact ih m h1 h2
    · exact ⟨n, hn, fun m hm => Nat.le_of_not_lt fun hlt => h ⟨m, hlt, hm⟩⟩

open Classical in
theorem loop_wp {x : Code} {A R : Type} {L : Nat → A → Option R} (hL0 : ∀ j, L 0 j = none) {I : A → Act → World → Prop} {q : R} {Q : Exit → Act → World → Prop}
    (hr : ∀ m j a w, L (m + 1) j = some q → I j a w → x.wp P (Exit.then (fun a' w' => ∃ j', L m j' = some q ∧ I j' a' w') Q) a w) :
    ∀ {n j a w}, L n j = some q → I j a w → (Code.loop x).wp P Q a w := by
  intro n j a w h1 h2
  let J : Nat → Act → World → Prop := fun n a w => ∃ j, L n j = some q ∧ I j a w
  let μ : Act → World → Nat := fun a w => if h : ∃ n, J n a w then Classical.choose (least_ex h) else 0
  refine wp_loop (fun a w => ∃ n, J n a w) μ ⟨n, j, h1, h2⟩ ?_
  intro a w hI
  have hs := (Classical.choose_spec (least_ex hI)).1
  have hμ : μ a w = Classical.choose (least_ex hI) := dif_pos hI
  generalize hm : Classical.choose (least_ex hI) = m at hs hμ
  obtain ⟨j', h3, h4⟩ := hs
  cases m with
  | zero => rw [hL0] at h3; cases h3
  | succ m =>
    refine wp_mono (hr m j' a w h3 h4) fun e a' w' he => ?_
    cases e with
    | normal =>
      have hI' : ∃ n, J n a' w' := ⟨m, he⟩
      refine ⟨hI', ?_⟩
      rw [hμ]
      have : μ a' w' = Classical.choose (least_ex hI') := dif_pos hI'
      rw [this]
      exact Nat.lt_succ_of_le ((Classical.choose_spec (least_ex hI')).2 m he)
    | _ => exact he

theorem ev_wp (hE : EnvOk P E) (c : Code) {R : Type} (an : An R) (σ : S) (Kn : S → Option R) (Ke : Nat → S → Option R) (Kr : S → Option R) (r : R) {own : Own} {β : Conc} {a : Act} {w : World}
    (hob : ob E N c an Kn Ke Kr) (h : St N Z own β σ a w) (he : ev E N c an σ Kn Ke Kr = some r) : c.wp P (Post N Z Kn Ke Kr r) a w := by
  match c, an, hob, he with
  | .skip, _, _, he => exact wp_skip ⟨σ, own, β, h, by simpa [ev] using he⟩
  | .exit i, _, _, he => exact wp_exit ⟨σ, own, β, h, by simpa [ev] using he⟩
  | .ret, _, _, he => exact wp_ret ⟨σ, own, β, h, by simpa [ev] using he⟩
  | .region id ops draw, .rg fz c, _, he =>
    exact evR_wp hE h he fun σ' a' w' own β hs hk => ⟨σ', own, β, hs, hk⟩
  | .seq x y, .seq an1 an2, hob, he =>
    refine wp_seq (wp_mono (ev_wp hE x an1 σ _ Ke Kr r hob.1 h he) fun e a' w' hp => ?_)
    cases e with
    | normal => obtain ⟨σ', own', β', h1, h2⟩ := hp; exact ev_wp hE y an2 σ' Kn Ke Kr r hob.2 h1 h2
    | _ => exact hp
  | .seq x y, .join J an1 an2, hob, he =>
    obtain ⟨q, h1, h2, h3⟩ := jn_some he
    refine wp_seq (wp_mono (ev_wp hE x an1 σ _ _ _ q hob.1 h h1) fun e a' w' hp => ?_)
    cases e with
    | normal =>
      obtain ⟨σ', own', β', h4, h5⟩ := hp
      obtain ⟨j, h6, h7⟩ := map_inl h5
      obtain ⟨own2, β2, h8⟩ := readJ_st h4 h6
      exact ev_wp hE y an2 _ Kn Ke Kr r hob.2 h8 (h2 j h7)
    | exit i =>
      obtain ⟨σ', own', β', h4, h5⟩ := hp
      obtain ⟨j, h6, h7⟩ := map_inr h5
      exact ⟨σ', own', β', h4, by rw [h6, h3 j h7]⟩
    | ret =>
      obtain ⟨σ', own', β', h4, h5⟩ := hp
      obtain ⟨j, h6, h7⟩ := map_inr h5
      exact ⟨σ', own', β', h4, by rw [h6, h3 j h7]⟩
    | _ => exact hp.elim
  | .cond c x y, .cond an1 an2, hob, he =>
    unfold ev at he
    split at he
    · rename_i t
      split at he
      · rename_i q hq
        have hsl := h.slots t
        rw [hq] at hsl
        have hc : a.eval (.tmp t) = .bool q := RepV.bool.1 hsl
        cases q with
        | true => exact wp_cond_true hc (ev_wp hE x an1 σ Kn Ke Kr r hob.1 h he)
        | false => exact wp_cond_false hc (ev_wp hE y an2 σ Kn Ke Kr r hob.2 h he)
      · rename_i emp neg hq
        have hsl := h.slots t
        rw [hq] at hsl
        obtain ⟨q, hc, hn⟩ := hsl
        have hc : a.eval (.tmp t) = .bool q := hc
        have hx : q = true → ev E N x an1 σ Kn Ke Kr = some r := by
          intro e
          cases emp with
          | true => exact (both_some he).1
          | false =>
            have := hn rfl
            rw [e] at this; subst this
            exact he
        have hy : q = false → ev E N y an2 σ Kn Ke Kr = some r := by
          intro e
          cases emp with
          | true => exact (both_some he).2
          | false =>
            have := hn rfl
            rw [e] at this; subst this
            exact he
        cases q with
        | true => exact wp_cond_true hc (ev_wp hE x an1 σ Kn Ke Kr r hob.1 h (hx rfl))
        | false => exact wp_cond_false hc (ev_wp hE y an2 σ Kn Ke Kr r hob.2 h (hy rfl))
      · cases he
    · rename_i q
      have hc : a.eval (.const (.bool q)) = .bool q := rfl
      cases q with
      | true => exact wp_cond_true hc (ev_wp hE x an1 σ Kn Ke Kr r hob.1 h he)
      | false => exact wp_cond_false hc (ev_wp hE y an2 σ Kn Ke Kr r hob.2 h he)
    · cases he
  | .block id x, .block an, hob, he =>
    have hob : ob E N x an Kn (fun i σ' => bif Nat.beq i id then Kn σ' else Ke i σ') Kr := by
      cases x <;> exact hob
    have he : ev E N x an σ Kn (fun i σ' => bif Nat.beq i id then Kn σ' else Ke i σ') Kr = some r := by
      cases x <;> exact he
    refine wp_block (wp_mono (ev_wp hE x an σ _ _ _ r hob h he) fun e a' w' hp => ?_)
    cases e with
    | exit i =>
      obtain ⟨σ', own', β', h1, h2⟩ := hp
      show if i = id then _ else _
      by_cases hi : i = id
      · subst hi
        rw [if_pos rfl]
        simp at h2
        exact ⟨σ', own', β', h1, h2⟩
      · rw [if_neg hi]
        have : Nat.beq i id = false := by
          cases hh : Nat.beq i id with
          | true => exact absurd (Nat.eq_of_beq_eq_true hh) hi
          | false => rfl
        simp only [this, cond_false] at h2
        exact ⟨σ', own', β', h1, h2⟩
    | _ => exact hp
  | .block id (.loop x), .loop Ji Jo L an, hob, he =>
    obtain ⟨hL0, hLs, hobs⟩ := hob
    obtain ⟨j, h1, h2⟩ := Option.bind_eq_some_iff.1 he
    obtain ⟨q, h3, h4, h5⟩ := jn_some h2
    obtain ⟨own1, β1, h6⟩ := readJ_st h h1
    refine wp_block (loop_wp (L := L) (I := fun j a w => ∃ own β, St N Z own β (writeJ Ji j) a w) (q := q) hL0 ?_ h3 ⟨own1, β1, h6⟩)
    rintro m j a w hl ⟨own, β, hs⟩
    rw [hLs] at hl
    refine wp_mono (ev_wp hE x an _ _ _ _ q (hobs m) hs hl) fun e a' w' hp => ?_
    cases e with
    | normal =>
      obtain ⟨σ', own', β', g1, g2⟩ := hp
      obtain ⟨j', g3, g4⟩ := Option.bind_eq_some_iff.1 g2
      obtain ⟨own2, β2, g5⟩ := readJ_st g1 g3
      exact ⟨j', g4, own2, β2, g5⟩
    | exit i =>
      obtain ⟨σ', own', β', g1, g2⟩ := hp
      show if i = id then _ else _
      by_cases hi : i = id
      · subst hi
        rw [if_pos rfl]
        simp only [Nat.beq_refl, cond_true] at g2
        obtain ⟨jo, g3, g4⟩ := map_inl g2
        obtain ⟨own2, β2, g5⟩ := readJ_st g1 g3
        exact ⟨_, own2, β2, g5, h4 jo g4⟩
      · rw [if_neg hi]
        have : Nat.beq i id = false := by
          cases hh : Nat.beq i id with
          | true => exact absurd (Nat.eq_of_beq_eq_true hh) hi
          | false => rfl
        simp only [this, cond_false] at g2
        obtain ⟨y, g3, g4⟩ := map_inr g2
        exact ⟨σ', own', β', g1, by rw [g3, h5 y g4]⟩
    | ret =>
      obtain ⟨σ', own', β', g1, g2⟩ := hp
      obtain ⟨y, g3, g4⟩ := map_inr g2
      exact ⟨σ', own', β', g1, by rw [g3, h5 y g4]⟩
    | _ => exact hp.elim
  | .block id (.loop x), .unroll n an, hob, he =>
    refine wp_block (loop_wp (L := fun n σ => iter (fun K σ' => ev E N x an σ' K (fun i σ'' => bif Nat.beq i id then Kn σ'' else Ke i σ'') Kr) n σ) (I := fun σ a w => ∃ own β, St N Z own β σ a w) (q := r) (fun _ => rfl) ?_ he ⟨own, β, h⟩)
    rintro m σ1 a w hl ⟨own, β, hs⟩
    refine wp_mono (ev_wp hE x an _ _ _ _ r (hob _) hs hl) fun e a' w' hp => ?_
    cases e with
    | normal =>
      obtain ⟨σ', own', β', g1, g2⟩ := hp
      exact ⟨σ', g2, own', β', g1⟩
    | exit i =>
      obtain ⟨σ', own', β', g1, g2⟩ := hp
      show if i = id then _ else _
      by_cases hi : i = id
      · subst hi
        rw [if_pos rfl]
        simp only [Nat.beq_refl, cond_true] at g2
        exact ⟨σ', own', β', g1, g2⟩
      · rw [if_neg hi]
        have : Nat.beq i id = false := by
          cases hh : Nat.beq i id with
          | true => exact absurd (Nat.eq_of_beq_eq_true hh) hi
          | false => rfl
        simp only [this, cond_false] at g2
        exact ⟨σ', own', β', g1, g2⟩
    | ret => exact hp
    | _ => exact hp.elim
termination_by SizeOf.sizeOf c

end
end Go.Re
