/- Reflection, part AB: regions. -/
import Derived.Test.YtgceolpeegfkkaaRfA
namespace Go.Re
set_option linter.unusedVariables false
set_option linter.unusedSimpArgs false
open Go.RowKit (Below)

section
variable {P : Program} {E : Env} {N : Nat} {Z : Base} {own : Own} {β : Conc} {σ : S} {a : Act} {w : World}

/-- Memory that is given up. -/
theorem RepS.giveUp {mem mem' : Nat → Entry} (hm : ∀ s, mem s = mem' s ∨ ∃ v, mem' s = .gone v ∧ nextVer (mem s) ≤ v + 1) : ∀ {v : V} {u : Value}, RepS own w β mem v u → RepS own w β mem' v u
  | .dead, _, _ => trivial
  | .val τ x, _, h => h
  | .nil, _, h => h
  | .ptr s ver p, _, ⟨h1, h2⟩ => by
    rcases hm s with e | ⟨v, e1, e2⟩
    · exact ⟨e ▸ h1, fun τ x h => h2 τ x (e.trans h)⟩
    · exact ⟨by rw [e1]; exact Nat.lt_of_lt_of_le h1 e2, fun τ x h => by (rw [e1] at h; cases h)⟩
  | .ref s ver, _, ⟨h1, h2⟩ => by
    rcases hm s with e | ⟨v, e1, e2⟩
    · exact ⟨e ▸ h1, fun τ xs m h => h2 τ xs m (e.trans h)⟩
    · exact ⟨by rw [e1]; exact Nat.lt_of_lt_of_le h1 e2, fun τ xs m h => by (rw [e1] at h; cases h)⟩
  | .elp s ver i p, _, ⟨h1, h2⟩ => by
    rcases hm s with e | ⟨v, e1, e2⟩
    · exact ⟨e ▸ h1, fun τ xs m h => h2 τ xs m (e.trans h)⟩
    · exact ⟨by rw [e1]; exact Nat.lt_of_lt_of_le h1 e2, fun τ xs m h => by (rw [e1] at h; cases h)⟩
  | .rpt τ x, _, h => h
  | .nilq _ _, _, h => h
  | .win s ver lo, _, ⟨h1, h2⟩ => by
    rcases hm s with e | ⟨v, e1, e2⟩
    · exact ⟨e ▸ h1, fun τ xs m h => h2 τ xs m (e.trans h)⟩
    · exact ⟨by rw [e1]; exact Nat.lt_of_lt_of_le h1 e2, fun τ xs m h => by (rw [e1] at h; cases h)⟩
  | .pre s ver hi, _, ⟨h1, h2⟩ => by
    rcases hm s with e | ⟨v, e1, e2⟩
    · exact ⟨e ▸ h1, fun τ xs m h => h2 τ xs m (e.trans h)⟩
    · exact ⟨by rw [e1]; exact Nat.lt_of_lt_of_le h1 e2, fun τ xs m h => by (rw [e1] at h; cases h)⟩
  | .plist t, _, ⟨us, b, o, h1, h0, h2, h3⟩ => ⟨us, b, o, h1, h0, h2, RepS.giveUp hm h3⟩
  | .pel x, _, ⟨b, o, u, h1, h2, h3, h4⟩ => ⟨b, o, u, h1, h2, h3, RepS.giveUp hm h4⟩
  | .clo g t, _, ⟨us, h1, h2⟩ => ⟨us, h1, RepS.giveUp hm h2⟩
  | .zval τ x z, _, h => h
  | .tnil, _, h => h
  | .tcons x r, _, ⟨u, us, h1, h2, h3⟩ => ⟨u, us, h1, RepS.giveUp hm h2, RepS.giveUp hm h3⟩

theorem Ag.st {D : Drop} {τ : S} (h : Ag D τ σ) (hs : St N Z own β τ a w) : St N Z own β σ a w where
  frame := hs.frame
  old := hs.old
  size := hs.size
  defers := hs.defers
  slots t := by
    rcases h.1 t with e | ⟨_, e⟩
    · rw [← e]; exact (hs.slots t).giveUp fun s => (h.2 s).imp id fun ⟨_, v, e1, e2⟩ => ⟨v, e1, e2⟩
    · rw [e]; trivial
  mems s := by
    rcases h.2 s with e | ⟨_, v, e, _⟩
    · rw [← e]; exact hs.mems s
    · rw [e]; trivial
  pins s u hp h0 := by
    rcases h.2 s with e | ⟨_, v, e, _⟩
    · rw [← e] at h0; exact hs.pins s u hp h0
    · rw [e] at h0; cases h0

theorem frOf_spec (σ : S) : ∀ (l : List Nat), Frz σ (frOf σ l)
  | [], p, hp => by simp [frOf] at hp
  | s :: r, p, hp => by
    unfold frOf at hp
    split at hp
    · rename_i v τ xs e
      rcases List.mem_cons.1 hp with hp | hp
      · subst hp; exact ⟨v, τ, xs, e, rfl⟩
      · exact frOf_spec σ r p hp
    · exact frOf_spec σ r p hp

theorem St.freezeS (h : St N Z own β σ a w) (fz : List Nat) : ∃ own', St N Z own' β (freezeS fz σ) a w :=
  let ⟨own', h1, _⟩ := h.freeze (frOf_spec σ fz)
  ⟨own', h1⟩

theorem drawn_cell {d b o : Nat} : ({ w with drawn := d } : World).cell? ⟨b, o, none⟩ = w.cell? ⟨b, o, none⟩ := rfl

theorem St.draw (h : St N Z own β σ a w) (d : Nat) : St N Z own β σ a { w with drawn := d } := by
  refine h.go ⟨rfl, rfl, rfl, Nat.le_refl _, fun _ _ _ _ => rfl, fun _ _ v _ e => ⟨⟨v, e⟩, rfl⟩, fun _ _ _ e => e, fun _ _ _ => rfl⟩ (fun _ _ _ _ => rfl) (fun _ _ _ e e' => ⟨e, e'⟩)
    (fun s => Evo.same _ rfl) rfl fun s => ?_
  exact RepE.keeps (own := own) (own' := own) (w := w) (w' := { w with drawn := d }) (β := β) (fun _ _ _ e e' => ⟨e, e'⟩) ⟨fun _ _ _ e e' => ⟨e, e', rfl⟩, fun _ _ _ e e' => ⟨e, e'⟩⟩ (fun _ _ e => e) rfl (h.mems s)

theorem okDst_spec : ∀ {l : List Oper}, okDst N l = true → ∀ (i : Nat) (o : Oper), l[i]? = some o → ∀ t, o.dst = some t → t < N
  | [], _, _, _, h, _, _ => by simp at h
  | o1 :: r, h, i, o, ho, t, ht => by
    simp only [okDst, Bool.and_eq_true] at h
    cases i with
    | zero => cases ho; have := h.1; rw [ht] at this; simpa [Nat.blt_eq] using this
    | succ i => exact okDst_spec h.2 i o (by simpa using ho) t ht

/-- In lexical order, by the plain evaluator. -/
theorem evP_wp (hE : EnvOk P E) {all : List Oper} (hd : okDst N all = true) {R : Type} {K : S → Option R} {r : R} {Q : Exit → Act → World → Prop}
    (hQ : ∀ σ' a' w' own β, St N Z own β σ' a' w' → K σ' = some r → Q .normal a' w') :
    ∀ (os : List Oper) (i : Nat) {σ : S} {a : Act} {w : World} {own : Own} {β : Conc}, (∀ j, os[j]? = all[i + j]?) → St N Z own β σ a w → evP E all os σ K = some r →
      wpOps P all.toArray Q (List.range' i os.length) a w
  | [], i, σ, a, w, own, β, _, h, he => by
    simp only [List.length_nil, List.range'_zero, wpOps]
    exact hQ _ _ _ _ _ h he
  | o :: os, i, σ, a, w, own, β, hl, h, he => by
    simp only [List.length_cons, List.range'_succ]
    rw [wpOps_cons]
    have ho : all[i]? = some o := by have := hl 0; simpa using this.symm
    unfold evP at he
    rw [M.runK_eq] at he
    obtain ⟨q, h1, h2⟩ := Option.bind_eq_some_iff.1 he
    refine gop_did hE h ho (okDst_spec hd i o ho) h1 fun a' w' own' β' hs => ?_
    exact evP_wp hE hd hQ os (i + 1) (fun j => by have := hl (j + 1); simpa [Nat.add_assoc, Nat.add_comm 1 j] using this) hs h2

theorem run_wp (hE : EnvOk P E) {all : List Oper} (hd : okDst N all = true) {Q : Exit → Act → World → Prop} {os : List Oper} {ds : List Dec} {τ τ' : S} (hr : Run E all os ds τ τ') :
    ∀ (i : Nat) {a : Act} {w : World} {own : Own} {β : Conc}, (∀ j, os[j]? = all[i + j]?) → St N Z own β τ a w →
      (∀ a' w' own β, St N Z own β τ' a' w' → Q .normal a' w') → wpOps P all.toArray Q (List.range' i os.length) a w := by
  induction hr with
  | nil σ => intro i a w own β _ h hQ; exact hQ _ _ _ _ h
  | @cons o os d ds σ σ' r hr hf _ ih =>
    intro i a w own β hl h hQ
    simp only [List.length_cons, List.range'_succ]
    rw [wpOps_cons]
    have ho : all[i]? = some o := by have := hl 0; simpa using this.symm
    refine gop_did hE h ho (okDst_spec hd i o ho) hr fun a' w' own' β' hs => ?_
    exact ih (i + 1) (fun j => by have := hl (j + 1); simpa [Nat.add_assoc, Nat.add_comm 1 j] using this) hs hQ

theorem evR_wp (hE : EnvOk P E) {id : Nat} {ops : Array Oper} {draw : Bool} {fz : List Nat} {c : Option Seg} {R : Type} {K : S → Option R} {r : R} {Q : Exit → Act → World → Prop}
    (h : St N Z own β σ a w) (he : evR E N ops.toList draw fz c σ K = some r) (hQ : ∀ σ' a' w' own β, St N Z own β σ' a' w' → K σ' = some r → Q .normal a' w') :
    (Code.region id ops draw).wp P Q a w := by
  unfold evR at he
  cases hd : okDst N ops.toList with
  | false => rw [hd] at he; cases he
  | true =>
    rw [hd] at he
    simp only [cond_true] at he
    have hops : ops.toList.toArray = ops := by simp
    cases c with
    | none =>
      cases draw with
      | true => cases he
      | false =>
        have he : evP E ops.toList ops.toList (freezeS fz σ) K = some r := he
        obtain ⟨own', h'⟩ := h.freezeS fz
        refine wp_region ?_
        have := evP_wp (P := P) hE hd hQ ops.toList 0 (by simp) h' he
        rw [hops] at this
        rw [List.range_eq_range']
        simpa using this
    | some sg =>
      have he : (bif Nat.beq sg.decs.length ops.toList.length && (!draw || (backB 0 ops.toList && anyB ops.toList 0 ops.toList sg.decs)) then
        evC E ops.toList sg ops.toList ⟨[], []⟩ (freezeS fz σ) (fun _ => K) else none) = some r := he
      cases hc : Nat.beq sg.decs.length ops.toList.length && (!draw || (backB 0 ops.toList && anyB ops.toList 0 ops.toList sg.decs)) with
      | false => rw [hc] at he; cases he
      | true =>
        rw [hc] at he
        simp only [cond_true] at he
        simp only [Bool.and_eq_true, Bool.or_eq_true, Bool.not_eq_true'] at hc
        have hlen := Nat.eq_of_beq_eq_true hc.1
        obtain ⟨own', h'⟩ := h.freezeS fz
        obtain ⟨σ', τ', D', e1, e2, e3, e4⟩ := evC_exact sg _ _ _ (fun _ => K) r _ he (Ag.refl _ _)
        rw [hlen, List.take_length] at e3
        have hQ' : ∀ a' w' own β, St N Z own β τ' a' w' → Q .normal a' w' := fun a' w' own β hs => hQ _ _ _ _ _ (e4.st hs) e1
        cases draw with
        | false =>
          refine wp_region ?_
          have := run_wp (P := P) hE hd e3 0 (by simp) h' hQ'
          rw [hops] at this
          rw [List.range_eq_range']
          simpa using this
        | true =>
          obtain ⟨hb, hany⟩ := hc.2.resolve_left (by simp)
          refine wp_region_any hE.mixed ?_
          obtain ⟨f, f1, f2, f3, f4⟩ := e3.states
          have hR : Runs E N ops.toList sg.decs f := ⟨f3, okDst_spec hd, f4, fun k o ho e he hbd => by
              have := backB_spec _ 0 hb k o ho e he hbd; omega,
            fun k l o d o' d' hkl h1 h2 h3 h4 => by
              have := anyB_spec _ _ 0 hany k l o d o' d' hkl h1 h2 h3 h4
              simp only [Nat.zero_add] at this
              exact this.imp (fun hb => ancs_reach ops.toList [] [] (by simp) rfl (by simp) _ _ hb) (fun x => x)⟩
          rw [← f1] at h'
          have := any_wp (P := P) (Z := Z) hE hR (Q := Q) (fun a' w' own β hs => hQ' a' w' own β (by rw [f2] at hs; exact hs)) ops.size (Array.replicate ops.size false) (List.range ops.size) (f 0) a
            { w with drawn := w.drawn + 1 } own' β (by simp) List.nodup_range (by simp) (by
              intro i
              simp only [List.mem_range, Array.length_toList]
              constructor
              · intro hi; refine ⟨hi, ?_⟩; simp [Array.getD_eq_getD_getElem?, hi]
              · exact fun h => h.1) ⟨by
                intro j o _ hl
                simp [Array.getD_eq_getD_getElem?, Array.getElem?_replicate] at hl
                split at hl <;> simp at hl, ?_, ?_⟩ (h'.draw _)
          · rw [hops] at this; exact this
          · intro t
            rw [latest_stop (j := 0) _ (Nat.zero_le _) (fun i _ _ _ hl => by
              simp [Array.getD_eq_getD_getElem?, Array.getElem?_replicate] at hl
              split at hl <;> simp at hl)]
            rfl
          · intro s
            rw [latest_stop (j := 0) _ (Nat.zero_le _) (fun i _ _ _ hl => by
              simp [Array.getD_eq_getD_getElem?, Array.getElem?_replicate] at hl
              split at hl <;> simp at hl)]
            rfl

end
end Go.Re
