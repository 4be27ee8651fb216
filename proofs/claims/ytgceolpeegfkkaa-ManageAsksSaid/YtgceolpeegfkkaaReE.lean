/- Reflection, part E: operands; memory of its own that becomes memory that is only read. -/
import Derived.Test.YtgceolpeegfkkaaReD
namespace Go.Re
set_option linter.unusedVariables false
set_option linter.unusedSimpArgs false
open Go.RowKit (Below)

theorem ofI_toI {k : IntKind} {n : Int} (h : okN k n = true) : toI k (ofI k n) = n ∧ okI k (ofI k n) := by
  cases k <;> simp only [okN, Bool.and_eq_true, decide_eq_true_eq, Bool.false_eq_true] at h <;> simp only [toI, ofI, okI, BitVec.toNat_ofNat]
  all_goals first | exact ⟨trivial, h⟩ | (refine ⟨?_, trivial⟩; omega)

theorem constV_rep {own : Own} {w : World} {β : Conc} {mem : Nat → Entry} (v : Value) : RepS own w β mem (constV v) v := by
  cases v with
  | bool b => exact RepV.bool.2 rfl
  | int k n =>
    cases h : okN k n with
    | true =>
      obtain ⟨h1, h2⟩ := ofI_toI h
      simp only [constV, h]
      exact RepV.int.2 ⟨by rw [h1], h2⟩
    | false => simp only [constV, h]; trivial
  | string s =>
    by_cases h : s.size ≤ 140737488355328
    · simp only [constV, decide_eq_true h]
      exact RepV.str.2 ⟨s, rfl, rfl, by simpa [big] using h⟩
    · simp only [constV, decide_eq_false h]; trivial
  | slice a n c =>
    cases a with
    | some a => trivial
    | none => cases n with
      | succ n => trivial
      | zero => cases c with
        | succ c => trivial
        | zero => exact rfl
  | _ => trivial

section
variable {N : Nat} {Z : Base} {own : Own} {β : Conc} {σ : S} {a : Act} {w : World}

theorem rd_run (h : St N Z own β σ a w) {α : Type} {x : Operand} {k : V → M α} {r : α × S} (hr : (rd x k).run σ = some r) :
    ∃ v, RepS own w β σ.mem v (a.eval x) ∧ (k v).run σ = some r := by
  cases x with
  | tmp t => exact ⟨_, h.slots t, hr⟩
  | const v => exact ⟨constV v, constV_rep v, hr⟩
  | global g => cases hr
  | func f => cases hr

/-- What is only read, or a row of one's own, as far as its elements can be read. -/
def RepQ (own : Own) (w : World) (e : Ty) (u : Value) (x : List e.D) : Prop :=
  ∃ a cap q, u = .slice a x.length cap ∧ x.length ≤ cap ∧ cap < 9223372036854775808 ∧ x.length ≤ big ∧
    (cap = 0 ∨ ∃ b o, a = some ⟨b, o, none⟩ ∧ RowR own w q e b o x)

theorem RepC.q {own : Own} {w : World} {e : Ty} {u : Value} {x : List e.D} (h : RepC own w (.sl e) [u] x) : RepQ own w e u x := by
  obtain ⟨a, cap, h1, h2, h3, h4, h5⟩ := h
  cases h1
  exact ⟨a, cap, none, rfl, h2, h3, h4, h5⟩

theorem RowR.frozen {own : Own} {w : World} {e : Ty} {a : Option Addr} {cap : Nat} {x : List e.D} (h2 : x.length ≤ cap) (h3 : cap < 9223372036854775808) (h4 : x.length ≤ big)
    (h5 : cap = 0 ∨ ∃ b o, a = some ⟨b, o, none⟩ ∧ RowR own w none e b o x) : RepV own w (.sl e) (.slice a x.length cap) x :=
  RepV.sl.2 ⟨a, cap, rfl, h2, h3, h4, h5⟩

/-- What an operand is worth where it's read on the spot. -/
def RepR (own : Own) (w : World) (τ : Ty) (u : Value) (x : τ.D) : Prop :=
  match τ, x with
  | .sl e, x => RepQ own w e u x
  | τ, x => RepV own w τ u x

theorem RepV.r {own : Own} {w : World} {τ : Ty} {u : Value} {x : τ.D} (h : RepV own w τ u x) : RepR own w τ u x := by
  cases τ with
  | sl e => exact (RepV.sl.1 h).q
  | _ => exact h

/-- What is to be frozen: rows of one's own. -/
def Frz (σ : S) (fr : List (Nat × Entry)) : Prop :=
  ∀ p ∈ fr, ∃ ver τ xs, σ.mem p.1 = .own ver τ xs .full ∧ p.2 = .own ver τ xs .tail

/-- An operand as a datum: it is only read, or will be when 'fr' is frozen. -/
def RepA (own : Own) (w : World) (β : Conc) (mem : Nat → Entry) (fr : List (Nat × Entry)) (τ : Ty) (u : Value) (x : τ.D) : Prop :=
  RepV own w τ u x ∨ ∃ s ver e xs, mem s = .own ver e xs .full ∧ (s, Entry.own ver e xs .tail) ∈ fr ∧ u = β s ∧ ∃ h : Ty.sl e = τ, h ▸ (show (Ty.sl e).D from xs) = x

theorem RepA.mono {own : Own} {w : World} {β : Conc} {mem : Nat → Entry} {fr fr' : List (Nat × Entry)} {τ : Ty} {u : Value} {x : τ.D} (h : RepA own w β mem fr τ u x) (hs : ∀ p ∈ fr, p ∈ fr') :
    RepA own w β mem fr' τ u x := h.imp id fun ⟨s, ver, e, xs, h1, h2, h3⟩ => ⟨s, ver, e, xs, h1, hs _ h2, h3⟩

theorem asD_run (h : St N Z own β σ a w) {α : Type} {τ : Ty} {v : V} {u : Value} (hv : RepS own w β σ.mem v u) {k : τ.D → List (Nat × Entry) → M α} {r : α × S}
    (hr : (asD τ v k).run σ = some r) : ∃ x fr, Frz σ fr ∧ RepA own w β σ.mem fr τ u x ∧ RepR own w τ u x ∧ (k x fr).run σ = some r := by
  cases v with
  | val τ' x =>
    simp only [asD] at hr
    split at hr
    · rename_i y hy
      obtain ⟨e, hy⟩ := cast?_some hy
      subst e; subst hy
      have hv : RepV own w τ' u x := hv
      exact ⟨_, [], by simp [Frz], .inl hv, hv.r, hr⟩
    · cases hr
  | nil =>
    cases τ with
    | sl e =>
      have hv : u = .slice none 0 0 := hv
      have h1 : RepV own w (.sl e) u ([] : List e.D) := by
        rw [hv]; exact RepV.sl.2 ⟨none, 0, rfl, Nat.le_refl _, by omega, Nat.zero_le _, .inl rfl⟩
      exact ⟨_, [], by simp [Frz], .inl h1, h1.r, hr⟩
    | _ => cases hr
  | ref s ver =>
    simp only [asD, M.run] at hr
    split at hr
    · rename_i ver' τe xs m hm
      cases hmp : m.noRd with
      | true => rw [hmp] at hr; cases hr
      | false =>
      rw [hmp, cond_false] at hr
      split at hr
      · rename_i e; subst e
        split at hr
        · rename_i y hy
          obtain ⟨e, hy⟩ := cast?_some hy
          subst e
          have hy : xs = y := hy
          subst hy
          obtain ⟨hv1, hv2⟩ := hv
          have hu := hv2 τe xs m hm
          have hE := h.mems s
          rw [hm] at hE
          obtain ⟨ad, cap, e1, e2, e3, e4, e5⟩ := RepE.row (Mode.noRd_mp hmp) hE
          have hR : RepR own w (.sl τe) u xs := by
            refine ⟨ad, cap, m.owner s, hu.trans e1, e2, e3, e4, e5.imp (·.1) fun ⟨b, o, e6, e7, _⟩ => ⟨b, o, e6, e7⟩⟩
          have hV : m.owner s = none → RepV own w (.sl τe) u xs := fun hq => by
            rw [hu, e1]
            exact RowR.frozen e2 e3 e4 (e5.imp (·.1) fun ⟨b, o, e6, e7, _⟩ => ⟨b, o, e6, hq ▸ e7⟩)
          cases m with
          | full =>
            refine ⟨xs, _, ?_, .inr ⟨s, ver, τe, xs, hm, List.mem_singleton.2 rfl, hu, rfl, rfl⟩, hR, hr⟩
            intro p hp
            rw [List.mem_singleton] at hp; subst hp
            exact ⟨ver, τe, xs, hm, rfl⟩
          | tail => exact ⟨xs, [], by simp [Frz], .inl (hV rfl), hR, hr⟩
          | view => exact ⟨xs, [], by simp [Frz], .inl (hV rfl), hR, hr⟩
          | mp => cases hmp
          | gb l => cases hmp
        · cases hr
      · cases hr
    · cases hr
  | _ => cases hr

theorem asDr_run (h : St N Z own β σ a w) {α : Type} {τ : Ty} {v : V} {u : Value} (hv : RepS own w β σ.mem v u) {k : τ.D → M α} {r : α × S}
    (hr : (asDr τ v k).run σ = some r) : ∃ x, RepR own w τ u x ∧ (k x).run σ = some r := by
  obtain ⟨x, fr, _, _, h1, h2⟩ := asD_run h hv hr
  exact ⟨x, h1, h2⟩

/-! ### freezing -/
/-- The state behind some settings. -/
def sets (σ : S) : List (Nat × Entry) → S
  | [] => σ
  | p :: r => sets (σ.set p.1 p.2) r

theorem sets_slots (fr : List (Nat × Entry)) : ∀ σ : S, (sets σ fr).slots = σ.slots := by
  induction fr with
  | nil => intro σ; rfl
  | cons p r ih => intro σ; exact ih _

theorem writes_append {β : Type} (b : β) (l l' : Ws β) : ∀ σ : S, writes σ b (l ++ l') = writes (writes σ b l) b l' := by
  induction l with
  | nil => intro σ; rfl
  | cons p r ih => intro σ; exact ih _

theorem writes_fixed {β : Type} (b : β) (fr : List (Nat × Entry)) : ∀ σ : S, writes σ b (fixed fr) = sets σ fr := by
  induction fr with
  | nil => intro σ; rfl
  | cons p r ih => intro σ; exact ih _

/-- One row of one's own is frozen. -/
def thaw (own : Own) (b o n : Nat) : Own := fun b' o' => if b' = b ∧ o ≤ o' ∧ o' < o + n then none else own b' o'

theorem St.freeze1 (h : St N Z own β σ a w) {s ver : Nat} {τ : Ty} {xs : List τ.D} (hm : σ.mem s = .own ver τ xs .full) :
    ∃ own', St N Z own' β (σ.set s (.own ver τ xs .tail)) a w ∧ Keeps own own' w w ∧ RepV own' w (.sl τ) (β s) xs := by
  have hE := h.mems s
  rw [hm] at hE
  obtain ⟨ad, cap, e1, e2, e3, e4, e5⟩ := hE
  have hevo : ∀ s', Evo β β s' (σ.mem s') ((σ.set s (.own ver τ xs .tail)).mem s') := by
    intro s'
    show Evo β β s' (σ.mem s') (upd σ.mem s _ s')
    rw [upd_eq]
    split
    · rename_i e; subst e; rw [hm]; exact Evo.setOwn rfl rfl
    · exact Evo.same _ rfl
  rcases e5 with ⟨e6, e7⟩ | ⟨b, o, e6, e7, _, e9⟩
  · refine ⟨own, h.go (Frm.refl _ _ _) (fun _ _ _ _ => rfl) (Keeps.refl _ _) hevo rfl ?_, Keeps.refl _ _, ?_⟩
    · intro s'
      show RepE Z own w β s' (upd σ.mem s _ s')
      rw [upd_eq]
      split
      · rename_i e; subst e; exact ⟨ad, cap, e1, e2, e3, e4, .inl ⟨e6, fun _ => e7 rfl⟩⟩
      · exact h.mems s'
    · rw [e1]; exact RowR.frozen e2 e3 e4 (.inl e6)
  · -- the row's own cells lose their owner
    have hown : ∀ b' o', (b' = b ∧ o ≤ o' ∧ o' < o + xs.length * τ.size) → own b' o' = some s := by
      rintro b' o' ⟨rfl, h1, h2⟩
      have : o' < o + cap * τ.size := by
        have := Nat.mul_le_mul_right τ.size e2; omega
      exact (e9 o' h1 this).1
    have hk : Keeps own (thaw own b o (xs.length * τ.size)) w w := by
      intro b' o' v h1 h2
      refine ⟨?_, h2⟩
      unfold thaw; split
      · rfl
      · exact h1
    have hrow : RowR (thaw own b o (xs.length * τ.size)) w none τ b o xs := by
      intro i hi
      obtain ⟨es, h1, h2, h3⟩ := e7 i hi
      refine ⟨es, h1, fun j v hj => ⟨?_, (h2 j v hj).2⟩, h3.keeps hk⟩
      unfold thaw
      rw [if_pos]
      have hj' : j < es.length := (List.getElem?_eq_some_iff.1 hj).1
      have : i * τ.size + τ.size ≤ xs.length * τ.size := by rw [← Nat.succ_mul]; exact Nat.mul_le_mul_right _ hi
      exact ⟨rfl, by omega, by omega⟩
    have hks : ∀ s', s' ≠ s → OwnKeeps s' own (thaw own b o (xs.length * τ.size)) w w := by
      intro s' hs'
      have keep : ∀ b' o', own b' o' = some s' → thaw own b o (xs.length * τ.size) b' o' = some s' := by
        intro b' o' h1
        unfold thaw; split
        · rename_i hc; rw [hown b' o' hc] at h1; cases h1; exact absurd rfl hs'
        · exact h1
      exact ⟨fun b' o' v h1 h2 => ⟨keep _ _ h1, h2, rfl⟩, fun r es c h1 h2 => ⟨keep _ _ h1, h2⟩⟩
    refine ⟨thaw own b o (xs.length * τ.size), h.go (Frm.refl _ _ _) ?_ hk hevo rfl ?_, hk, ?_⟩
    · intro b' o' hlt hio
      unfold thaw; split
      · rename_i hc; obtain ⟨rfl, h1, h2⟩ := hc
        have h3 : o' < o + cap * τ.size := by
          have := Nat.mul_le_mul_right τ.size e2; omega
        rcases (e9 o' h1 h3).2.1 with h4 | h4
        · omega
        · exact absurd h4 hio
      · rfl
    · intro s'
      show RepE Z _ w β s' (upd σ.mem s _ s')
      rw [upd_eq]
      split
      · rename_i e; subst e
        refine ⟨ad, cap, e1, e2, e3, e4, .inr ⟨b, o, e6, hrow, ?_⟩⟩
        intro j h1 h2
        obtain ⟨h3, hw, h4, h5⟩ := e9 j (by omega) h2
        refine ⟨?_, hw, h4, h5⟩
        unfold thaw; rw [if_neg (by omega)]; exact h3
      · rename_i e; exact (h.mems s').keeps hk (hks s' e) (fun _ _ e => e) rfl
    · rw [e1]; exact RowR.frozen e2 e3 e4 (.inr ⟨b, o, e6, hrow⟩)

/-- What is true of a frozen row stays while others are frozen; a row that is frozen already is frozen once more. -/
theorem St.freezes : ∀ (fr : List (Nat × Entry)) {own : Own} {σ : S} (_ : St N Z own β σ a w)
    (_ : ∀ p ∈ fr, ∃ ver τ xs, (σ.mem p.1 = .own ver τ xs .full ∨ σ.mem p.1 = .own ver τ xs .tail) ∧ p.2 = .own ver τ xs .tail),
    ∃ own', St N Z own' β (sets σ fr) a w ∧ Keeps own own' w w ∧
      (∀ s ver τ xs, (σ.mem s = .own ver τ xs .full ∨ σ.mem s = .own ver τ xs .tail) → (s, Entry.own ver τ xs .tail) ∈ fr → RepV own' w (.sl τ) (β s) xs)
  | [], own, σ, h, _ => ⟨own, h, Keeps.refl _ _, fun _ _ _ _ _ hm => by cases hm⟩
  | p :: fr, own, σ, h, hf => by
    obtain ⟨ver, τ, xs, h1, h2⟩ := hf p (by simp)
    have step : ∃ own1, St N Z own1 β (σ.set p.1 p.2) a w ∧ Keeps own own1 w w ∧ RepV own1 w (.sl τ) (β p.1) xs := by
      rw [h2]
      rcases h1 with h1 | h1
      · exact h.freeze1 h1
      · refine ⟨own, ?_, Keeps.refl _ _, ?_⟩
        · refine h.go (Frm.refl _ _ _) (fun _ _ _ _ => rfl) (Keeps.refl _ _) ?_ rfl ?_
          · intro s'
            show Evo β β s' (σ.mem s') (upd σ.mem p.1 _ s')
            rw [upd_eq]; split
            · rename_i e; subst e; rw [h1]; exact Evo.same _ rfl
            · exact Evo.same _ rfl
          · intro s'
            show RepE Z own w β s' (upd σ.mem p.1 _ s')
            rw [upd_eq]; split
            · rename_i e; subst e; rw [← h1]; exact h.mems _
            · exact h.mems s'
        · have hE := h.mems p.1
          rw [h1] at hE
          obtain ⟨ad, cap, e1, e2, e3, e4, e5⟩ := hE
          rw [e1]; exact RowR.frozen e2 e3 e4 (e5.imp (·.1) fun ⟨b, o, e6, e7, _⟩ => ⟨b, o, e6, e7⟩)
    obtain ⟨own1, s1, k1, v1⟩ := step
    have hmem : ∀ s, (σ.set p.1 p.2).mem s = if s = p.1 then p.2 else σ.mem s := fun s => upd_eq _ _ _ _
    have hf' : ∀ q ∈ fr, ∃ ver τ xs, ((σ.set p.1 p.2).mem q.1 = .own ver τ xs .full ∨ (σ.set p.1 p.2).mem q.1 = .own ver τ xs .tail) ∧ q.2 = .own ver τ xs .tail := by
      intro q hq
      obtain ⟨ver', τ', xs', h3, h4⟩ := hf q (by simp [hq])
      refine ⟨ver', τ', xs', ?_, h4⟩
      rw [hmem]
      split
      · rename_i e
        rw [e] at h3
        right
        rw [h2]
        rcases h1 with h1 | h1 <;> rcases h3 with h3 | h3 <;> rw [h1] at h3 <;> cases h3 <;> rfl
      · exact h3
    obtain ⟨own2, s2, k2, v2⟩ := St.freezes fr s1 hf'
    refine ⟨own2, s2, k1.trans k2, ?_⟩
    intro s ver' τ' xs' h3 h4
    rcases List.mem_cons.1 h4 with h5 | h5
    · rw [← h5] at h2
      cases h2
      rw [← h5] at v1
      exact v1.keeps k2
    · refine v2 s ver' τ' xs' ?_ h5
      rw [hmem]; split
      · rename_i e
        subst e
        right
        rw [h2]
        rcases h1 with h1 | h1 <;> rcases h3 with h3 | h3 <;> rw [h1] at h3 <;> cases h3 <;> rfl
      · exact h3

theorem St.freeze (h : St N Z own β σ a w) {fr : List (Nat × Entry)} (hf : Frz σ fr) :
    ∃ own', St N Z own' β (sets σ fr) a w ∧ Keeps own own' w w ∧ ∀ τ u x, RepA own w β σ.mem fr τ u x → RepV own' w τ u x := by
  obtain ⟨own', h1, h2, h3⟩ := h.freezes fr (fun p hp => let ⟨ver, τ, xs, e1, e2⟩ := hf p hp; ⟨ver, τ, xs, .inl e1, e2⟩)
  refine ⟨own', h1, h2, fun τ u x hA => ?_⟩
  rcases hA with hA | ⟨s, ver, e, xs, e1, e2, e3, e4, e5⟩
  · exact hA.keeps h2
  · subst e4; subst e5; subst e3
    exact h3 s ver e xs (.inl e1) e2

theorem Frz.append {fr fr' : List (Nat × Entry)} (h : Frz σ fr) (h' : Frz σ fr') : Frz σ (fr ++ fr') := fun p hp => by
  rcases List.mem_append.1 hp with hp | hp
  · exact h p hp
  · exact h' p hp

theorem sets_mem_other : ∀ (fr : List (Nat × Entry)) {σ : S} {s : Nat}, (∀ p ∈ fr, p.1 ≠ s) → (sets σ fr).mem s = σ.mem s
  | [], _, _, _ => rfl
  | p :: fr, σ, s, h => by
    show (sets (σ.set p.1 p.2) fr).mem s = _
    rw [sets_mem_other fr (fun q hq => h q (by simp [hq]))]
    show upd σ.mem p.1 p.2 s = _
    rw [upd_eq, if_neg (fun e => h p (by simp) e.symm)]

/-- A box is none of what is frozen. -/
theorem sets_box {fr : List (Nat × Entry)} (hf : Frz σ fr) {s ver : Nat} {τ : Ty} {x : τ.D} (h : σ.mem s = .box ver τ x) : (sets σ fr).mem s = .box ver τ x := by
  rw [sets_mem_other fr, h]
  intro p hp e
  obtain ⟨_, _, _, h1, _⟩ := hf p hp
  rw [e, h] at h1; cases h1

theorem sets_ver : ∀ (fr : List (Nat × Entry)) {σ : S}, (∀ p ∈ fr, ∃ ver τ xs, (σ.mem p.1 = .own ver τ xs .full ∨ σ.mem p.1 = .own ver τ xs .tail) ∧ p.2 = .own ver τ xs .tail) →
    ∀ s, nextVer ((sets σ fr).mem s) = nextVer (σ.mem s)
  | [], _, _, _ => rfl
  | p :: fr, σ, h, s => by
    obtain ⟨ver, τ, xs, h1, h2⟩ := h p (by simp)
    have hmem : ∀ s, (σ.set p.1 p.2).mem s = if s = p.1 then p.2 else σ.mem s := fun s => upd_eq _ _ _ _
    show nextVer ((sets (σ.set p.1 p.2) fr).mem s) = _
    rw [sets_ver fr, hmem]
    · split
      · rename_i e; subst e; rw [h2]
        rcases h1 with h1 | h1 <;> rw [h1] <;> rfl
      · rfl
    · intro q hq
      obtain ⟨ver', τ', xs', h3, h4⟩ := h q (by simp [hq])
      refine ⟨ver', τ', xs', ?_, h4⟩
      rw [hmem]
      split
      · rename_i e
        rw [e] at h3
        right
        rw [h2]
        rcases h1 with h1 | h1 <;> rcases h3 with h3 | h3 <;> rw [h1] at h3 <;> cases h3 <;> rfl
      · exact h3

theorem Frz.weak {fr : List (Nat × Entry)} (h : Frz σ fr) : ∀ p ∈ fr, ∃ ver τ xs, (σ.mem p.1 = .own ver τ xs .full ∨ σ.mem p.1 = .own ver τ xs .tail) ∧ p.2 = .own ver τ xs .tail :=
  fun p hp => let ⟨ver, τ, xs, e1, e2⟩ := h p hp; ⟨ver, τ, xs, .inl e1, e2⟩

end
end Go.Re
