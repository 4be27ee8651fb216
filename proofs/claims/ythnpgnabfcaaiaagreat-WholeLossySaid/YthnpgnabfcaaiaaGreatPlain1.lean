/- Plain laws. -/
import Derived.Test.YthnpgnabfcaaiaaGreatXF
import Derived.Test.YthnpgnabfcaaiaaGreatXG
import Derived.Test.YthnpgnabfcaaiaaGreatLib4
/- What every event leaves of a gadget: its config, how many units and endpoints there are. -/
namespace Go.Proofs.YthnpgnabfcaaiaaGreat
open Go Go.Re
set_option linter.unusedVariables false
set_option linter.unusedSimpArgs false
/-- All that comes of it is so. -/
def Ok {α : Type} (G : α → Prop) (o : Option α) : Prop := ∀ y, o = some y → G y
theorem ok_some {α : Type} {G : α → Prop} {y : α} (h : G y) : Ok G (some y) := fun _ e => by cases e; exact h
theorem ok_none {α : Type} {G : α → Prop} : Ok G none := fun _ e => by cases e
theorem ok_bind {α β : Type} {G : β → Prop} {o : Option α} {k : α → Option β} (h : ∀ a, o = some a → Ok G (k a)) : Ok G (o.bind k) := fun y e => by
  obtain ⟨a, h1, h2⟩ := Option.bind_eq_some_iff.1 e
  exact h a h1 y h2
theorem ok_cond {α : Type} {G : α → Prop} {c : Bool} {a b : Option α} (h1 : Ok G a) (h2 : Ok G b) : Ok G (bif c then a else b) := by cases c <;> assumption
theorem ok_jn {A R : Type} {G : R → Prop} {X : Option (A ⊕ R)} {k : A → Option R} (GA : A → Prop) (h1 : Ok (Sum.elim GA G) X) (h2 : ∀ a, GA a → Ok G (k a)) : Ok G (jn X k) := fun y e => by
  unfold jn at e
  split at e
  · exact h2 _ (h1 _ rfl) y e
  · cases e; exact h1 _ rfl
  · cases e
theorem ok_use {α : Type} {G : α → Prop} {o : Option α} (h : Ok G o) {y : α} (e : o = some y) : G y := h y e
/-! ### units: how many -/
theorem clone_len {α : Type} {x y : List α} (h : cloneM x = some y) : y = x := by
  unfold cloneM at h
  cases hc : decide (x.length ≤ lim) with
  | true => rw [hc] at h; cases h; rfl
  | false => rw [hc] at h; cases h
abbrev Ln (L : Nat) (l : List D102) : Prop := l.length = L
theorem attend0_len (L : Nat) : ∀ n j, j.1.length = L → Ok (Sum.elim (Ln L) (Ln L)) (unit_Attend_L0 n j)
  | 0, _, _ => ok_none
  | n + 1, j, h => by
    unfold unit_Attend_L0
    refine ok_cond (ok_jn (fun a => a.1.length = L) ?_ fun a ha => attend0_len L n _ ha) (ok_some h)
    refine ok_bind fun r4 _ => ok_cond (ok_some h) (ok_bind fun r5 h5 => ok_bind fun _ _ => ok_bind fun r6 _ => ok_some ?_)
    have h5 := clone_len h5
    subst h5
    show (List.set _ _ _).length = L
    rw [List.length_set]; exact h
theorem attend_len (x : List D102 × Int × D41) : Ok (Ln x.1.length) (unit_Attend x) := by
  unfold unit_Attend
  refine ok_cond ?_ (ok_jn (Ln x.1.length) (attend0_len _ _ _ rfl) fun a ha => ok_some ha)
  refine ok_bind fun r1 _ => ok_cond (ok_some rfl) (ok_bind fun r2 h2 => ok_bind fun _ _ => ok_bind fun r3 _ => ok_some ?_)
  have h2 := clone_len h2
  subst h2
  exact List.length_set ..
theorem eject_len (x : List D102 × Int) : Ok (Ln x.1.length) (unit_Eject x) := by
  unfold unit_Eject
  refine ok_bind fun r1 _ => ok_cond (ok_some rfl) (ok_bind fun r2 h2 => ok_bind fun _ _ => ok_bind fun x4 _ => ok_bind fun r5 _ => ok_bind fun x7 h7 => ok_some ?_)
  have h2 := clone_len h2
  subst h2
  obtain ⟨z6, _, h7⟩ := Option.bind_eq_some_iff.1 h7
  cases h7
  exact List.length_set ..
theorem switch_len (x : List D102 × Int × Bool) : Ok (Ln x.1.length) (unit_Switch x) := by
  unfold unit_Switch
  refine ok_bind fun r1 _ => ok_cond (ok_some rfl) (ok_bind fun r2 h2 => ok_bind fun _ _ => ok_bind fun x4 _ => ok_bind fun r5 _ => ok_bind fun x7 h7 => ok_some ?_)
  have h2 := clone_len h2
  subst h2
  obtain ⟨z6, _, h7⟩ := Option.bind_eq_some_iff.1 h7
  cases h7
  exact List.length_set ..
theorem keep_len (x : List D102 × Int × D41) : Ok (Ln x.1.length) (unit_Keep x) := by
  unfold unit_Keep
  refine ok_bind fun r1 _ => ok_cond (ok_some rfl) (ok_bind fun r2 h2 => ok_bind fun _ _ => ok_bind fun x4 h4 => ok_some ?_)
  have h2 := clone_len h2
  subst h2
  obtain ⟨z6, _, h4⟩ := Option.bind_eq_some_iff.1 h4
  cases h4
  exact List.length_set ..
theorem take_len (x : List D102 × Int × D43 × List (BitVec 8)) : Ok (fun y => Ln x.1.length y.1) (unit_Take x) := by
  unfold unit_Take
  refine ok_jn (fun a => a.2.2.length = x.1.length) ?_ fun a ha => ok_some ha
  refine ok_bind fun r1 _ => ok_cond (ok_some rfl) (ok_bind fun r2 h2 => ok_bind fun _ _ => ok_bind fun x4 _ => ok_bind fun r5 _ => ok_some ?_)
  have h2 := clone_len h2
  subst h2
  exact List.length_set ..
theorem finish_len (x : List D102 × Int × D43) : Ok (fun y => Ln x.1.length y.1) (unit_Finish x) := by
  unfold unit_Finish
  refine ok_bind fun _ _ => ok_jn (fun a => a.2.2.length = x.1.length) ?_ fun a ha => ok_some ha
  refine ok_bind fun r1 _ => ok_cond (ok_some rfl) (ok_bind fun r2 h2 => ok_bind fun _ _ => ok_bind fun x4 _ => ok_bind fun r5 _ => ok_some ?_)
  have h2 := clone_len h2
  subst h2
  exact List.length_set ..
theorem command_len (x : List D102 × Int × List (BitVec 8)) : Ok (fun y => Ln x.1.length y.1) (unit_Command x) := by
  unfold unit_Command
  refine ok_bind fun _ _ => ok_cond (ok_bind fun _ _ => ok_bind fun _ _ => ok_cond (ok_bind fun _ _ => ok_some rfl) ok_none) (ok_jn (fun a => a.1.length = x.1.length) ?_ fun a ha => ok_some ha)
  refine ok_bind fun r1 _ => ok_cond (ok_some rfl) (ok_bind fun r2 h2 => ok_bind fun _ _ => ok_bind fun r5 _ => ok_some ?_)
  have h2 := clone_len h2
  subst h2
  exact List.length_set ..
end Go.Proofs.YthnpgnabfcaaiaaGreat
/- What every event leaves of a gadget: bulk-only; the step. -/
namespace Go.Proofs.YthnpgnabfcaaiaaGreat
open Go Go.Re
set_option linter.unusedVariables false
set_option linter.unusedSimpArgs false
abbrev Ll (L : Nat) (x : D277) : Prop := x.2.1.length = L
theorem lend_len (L : Nat) (x : D277) (h : Ll L x) : Ok (Ll L) (bulk_line_end x) := by
  unfold bulk_line_end
  refine ok_jn (Ll L) (ok_cond ?_ (ok_some h)) fun a ha => ok_bind fun r6 h6 => ok_some ((ok_use (keep_len _) h6).trans ha)
  refine ok_bind fun r1 h1 => ?_
  have h1 : r1.1.length = L := (ok_use (finish_len _) h1).trans h
  refine ok_jn (Ll L) ?_ fun a ha => ok_some ha
  exact ok_bind fun _ _ => ok_cond (ok_some h1) (ok_some h1)
theorem lend_use {L : Nat} {x r : D277} (h : bulk_line_end x = some r) (hx : Ll L x) : Ll L r := lend_len L x hx r h
theorem wrapper_len (L : Nat) (x : D277 × List (BitVec 8)) (h : Ll L x.1) : Ok (Ll L) (bulk_line_wrapper x) := by
  unfold bulk_line_wrapper
  refine ok_bind fun r1 _ => ok_cond (ok_some h) (ok_bind fun r2 h2 => ok_bind fun _ _ => ok_bind fun r4 _ => ?_)
  have h2 : r2.1.length = L := (ok_use (command_len _) h2).trans h
  refine ok_jn (fun a => Ll L a.1) (ok_cond (ok_some h2) (ok_bind fun _ _ => ok_cond (ok_some h2) (ok_some h2))) fun a ha => ?_
  refine ok_jn (fun a => Ll L a.1) (ok_cond (ok_some ha) (ok_some ha)) fun a ha => ?_
  refine ok_cond (ok_bind fun _ _ => ok_bind fun _ _ => ok_some ha) (ok_cond (ok_bind fun r9 h9 => ok_some (lend_use h9 ha)) (ok_some ha))
theorem comes_len (L : Nat) (x : D277 × List (BitVec 8)) (h : Ll L x.1) : Ok (Ll L) (bulk_line_comes x) := by
  unfold bulk_line_comes
  refine ok_bind fun _ _ => ok_bind fun r1 h1 => ?_
  have h1 : Ll L r1 := by unfold bulk_line_moved at h1; cases h1; exact h
  refine ok_jn (Ll L) (ok_cond (ok_bind fun r2 h2 => ok_some ((ok_use (take_len _) h2).trans h1)) (ok_some h1)) fun a ha => ?_
  refine ok_bind fun _ _ => ok_cond (ok_bind fun r h => ok_some (lend_use h ha)) (ok_bind fun _ _ => ok_cond (ok_bind fun r h => ok_some (lend_use h ha)) (ok_some ha))
theorem goes_len (L : Nat) (x : D277) (h : Ll L x) : Ok (Ll L) (bulk_line_goes x) := by
  unfold bulk_line_goes
  refine ok_bind fun _ _ => ok_bind fun _ _ => ok_bind fun _ _ => ok_bind fun r3 h3 => ?_
  have h3 : Ll L r3 := by unfold bulk_line_moved at h3; cases h3; exact h
  refine ok_cond (ok_some h3) (ok_bind fun _ _ => ok_cond (ok_bind fun r h => ok_some (lend_use h h3)) (ok_bind fun _ _ => ok_cond (ok_bind fun r h => ok_some (lend_use h h3)) (ok_some h3)))
theorem bTake_len (x : D45 × List D102 × List (BitVec 8) × Bool) : Ok (fun y => y.2.length = x.2.1.length) (bulk_Take x) := by
  unfold bulk_Take
  refine ok_bind fun _ _ => ok_cond (ok_some rfl) (ok_jn (fun a => Ll x.2.1.length a.2.2) ?_ fun a ha => ok_some ha)
  exact ok_cond (ok_bind fun r h => ok_some (ok_use (wrapper_len x.2.1.length _ rfl) h)) (ok_cond (ok_bind fun r h => ok_some (ok_use (comes_len x.2.1.length _ rfl) h)) (ok_some rfl))
theorem bSent_len (x : D45 × List D102 × Bool) : Ok (fun y => y.2.length = x.2.1.length) (bulk_Sent x) := by
  unfold bulk_Sent
  refine ok_bind fun _ _ => ok_cond (ok_some rfl) (ok_jn (fun a => Ll x.2.1.length a.2.2) ?_ fun a ha => ok_some ha)
  exact ok_cond (ok_some rfl) (ok_cond (ok_bind fun r h => ok_some (ok_use (goes_len x.2.1.length _ rfl) h)) (ok_some rfl))
/-! ### the step -/
abbrev Pre (B : Type) : Type := D51 × D57 × (D111 × (List D114 × Unit)) × B
/-- Config, units, endpoints of what is at work. -/
def Kp (c : D22) (L : Nat) (g : D51) (e : List D114) : Prop := g.1 = c ∧ g.2.1.length = L ∧ e.length = 4
abbrev Kb (c : D22) (L : Nat) {B : Type} (a : Pre B) : Prop := Kp c L a.2.2.1.1.1 a.2.2.1.2.1
abbrev Ka (c : D22) (L : Nat) (a : D51 × D57 × (D111 × (List D114 × Unit))) : Prop := Kp c L a.2.2.1.1 a.2.2.2.1
abbrev Kg (c : D22) (L : Nat) (g : D51) : Prop := Kp c L g g.2.2.2.2.1
theorem step0_ok (c : D22) (L : Nat) {G : _ → Prop} : ∀ n j, Kp c L j.2.2.1.1.1 j.2.2.1.2.1 → Ok (Sum.elim (Kb c L) G) (gadget_Step_L0 n j)
  | 0, _, _ => ok_none
  | n + 1, j, h => by
    unfold gadget_Step_L0
    refine ok_cond (ok_bind fun _ _ => ok_bind fun _ _ => ok_bind fun _ _ => ok_bind fun _ _ => ok_bind fun _ _ => step0_ok c L n _ ⟨h.1, h.2.1, ?_⟩) (ok_some h)
    show (List.set _ _ _).length = 4
    rw [List.length_set]; exact h.2.2
theorem set4 {l : List D114} (h : l.length = 4) (i : Nat) (e : D114) : (l.set i e).length = 4 := by rw [List.length_set]; exact h
theorem stepK_ok (x : D51 × D61) (hr : x.1.2.2.2.2.1.length = 4) : Ok (fun y => Kg x.1.1 x.1.2.1.length y.1) (gadget_StepK x true) := by
  obtain ⟨c, hc⟩ : ∃ c, c = x.1.1 := ⟨_, rfl⟩
  obtain ⟨L, hL⟩ : ∃ L, L = x.1.2.1.length := ⟨_, rfl⟩
  rw [← hc, ← hL]
  unfold gadget_StepK
  refine ok_bind fun b3 _ => ok_cond (ok_some ⟨hc.symm, hL.symm, hr⟩) (ok_bind fun r4 h4 => ?_)
  have h4 := clone_len h4
  subst h4
  have hK : Kp c L x.1 x.1.2.2.2.2.1 := ⟨hc.symm, hL.symm, hr⟩
  refine ok_jn (Ka c L) ?_ fun a ha => ok_some ha
  refine ok_cond (ok_bind fun _ _ => ok_bind fun _ _ => ok_bind fun r h => ok_some ⟨hc.symm, (ok_use (attend_len _) h).trans hL.symm, rfl⟩) ?_
  refine ok_cond (ok_bind fun _ _ => ok_none) (ok_cond ok_none ?_)
  refine ok_cond (ok_bind fun r h => ok_some ⟨hc.symm, (ok_use (eject_len _) h).trans hL.symm, hr⟩) ?_
  refine ok_cond (ok_bind fun r h => ok_some ⟨hc.symm, (ok_use (switch_len _) h).trans hL.symm, hr⟩) ?_
  refine ok_jn (Kb c L) ?_ fun a ha => ok_some ha
  refine ok_cond (ok_some hK) (ok_cond (ok_cond (ok_bind fun r9 _ => ok_cond (ok_some hK) (ok_bind fun _ _ => ok_bind fun r11 _ => ok_bind fun r12 _ => ok_jn (Kb c L) ?_ fun a ha => ok_some ha))
    (ok_cond (ok_bind fun _ _ => ok_some hK) (ok_jn (Kb c L) (ok_bind fun _ _ => ok_cond (ok_bind fun _ _ => ok_some hK) (ok_some hK)) fun a ha => ok_some ha))) ?_)
  · refine ok_cond (ok_bind fun _ _ => ok_cond (ok_bind fun _ _ => ok_bind fun _ _ => ok_bind fun _ _ => ok_bind fun _ _ => ok_some ⟨hc.symm, hL.symm, set4 hr _ _⟩) (ok_some hK)) ?_
    refine ok_cond (ok_bind fun _ _ => ok_bind fun _ _ => ok_bind fun _ _ => ok_bind fun _ _ => ok_some ⟨hc.symm, hL.symm, set4 hr _ _⟩) ?_
    refine ok_cond (ok_bind fun _ _ => ok_some ⟨hc.symm, hL.symm, rfl⟩) (ok_cond (ok_jn (Kb c L) (step0_ok c L _ _ hK) fun a ha => ok_some ha) (ok_some hK))
  · refine ok_bind fun _ _ => ok_cond (ok_some hK) (ok_jn (Kb c L) (ok_bind fun _ _ => ok_cond (ok_some hK) (ok_some hK)) fun a ha => ?_)
    refine ok_cond (ok_cond ?_ ?_) (ok_cond ok_none (ok_cond ok_none (ok_cond ok_none ok_none)))
    · refine ok_bind fun _ _ => ok_bind fun _ _ => ok_bind fun _ _ => ok_bind fun r37 _ => ok_bind fun _ _ => ok_jn (Kb c L) ?_ fun a ha => ok_some ha
      refine ok_cond (ok_bind fun r38 h38 => ?_) (ok_some ⟨ha.1, ha.2.1, set4 ha.2.2 _ _⟩)
      have h38 : r38.2.length = L := (ok_use (bTake_len _) h38).trans ha.2.1
      refine ok_jn (Kb c L) ?_ fun a ha => ?_
      · exact ok_cond (ok_bind fun _ _ => ok_bind fun _ _ => ok_bind fun _ _ => ok_bind fun _ _ => ok_some ⟨ha.1, h38, set4 (set4 ha.2.2 _ _) _ _⟩) (ok_some ⟨ha.1, h38, set4 ha.2.2 _ _⟩)
      · exact ok_cond (ok_bind fun _ _ => ok_bind fun _ _ => ok_bind fun _ _ => ok_bind fun _ _ => ok_some ⟨ha.1, ha.2.1, set4 ha.2.2 _ _⟩) (ok_some ha)
    · refine ok_bind fun _ _ => ok_bind fun _ _ => ok_bind fun _ _ => ok_bind fun r37 _ => ok_bind fun _ _ => ok_jn (Kb c L) ?_ fun a ha => ok_some ha
      refine ok_cond (ok_bind fun r38 h38 => ?_) (ok_some ⟨ha.1, ha.2.1, set4 ha.2.2 _ _⟩)
      have h38 : r38.2.length = L := (ok_use (bSent_len _) h38).trans ha.2.1
      refine ok_jn (Kb c L) ?_ fun a ha => ?_
      · exact ok_cond (ok_bind fun _ _ => ok_bind fun _ _ => ok_bind fun _ _ => ok_bind fun _ _ => ok_some ⟨ha.1, h38, set4 (set4 ha.2.2 _ _) _ _⟩) (ok_some ⟨ha.1, h38, set4 ha.2.2 _ _⟩)
      · exact ok_cond (ok_bind fun _ _ => ok_bind fun _ _ => ok_bind fun _ _ => ok_bind fun _ _ => ok_some ⟨ha.1, ha.2.1, set4 ha.2.2 _ _⟩) (ok_some ha)
end Go.Proofs.YthnpgnabfcaaiaaGreat
/- The host's functions over the step behind its check are those over the step, for gadgets that may be. -/
namespace Go.Proofs.YthnpgnabfcaaiaaGreat
open Go Go.Re
set_option linter.unusedVariables false
set_option linter.unusedSimpArgs false
/-- The same comes of both, and it is so. -/
def Sm {α : Type} (G : α → Prop) (o o' : Option α) : Prop := o = o' ∧ Ok G o'
theorem sm_some {α : Type} {G : α → Prop} {y : α} (h : G y) : Sm G (some y) (some y) := ⟨rfl, ok_some h⟩
theorem sm_bind {α β : Type} {GA : α → Prop} {G : β → Prop} {o o' : Option α} {k k' : α → Option β} (h : Sm GA o o') (hk : ∀ a, GA a → Sm G (k a) (k' a)) : Sm G (o.bind k) (o'.bind k') := by
  obtain ⟨rfl, h⟩ := h
  cases o with
  | none => exact ⟨rfl, ok_none⟩
  | some a => exact hk a (h a rfl)
theorem sm_bindr {α β : Type} {G : β → Prop} {o : Option α} {k k' : α → Option β} (hk : ∀ a, o = some a → Sm G (k a) (k' a)) : Sm G (o.bind k) (o.bind k') := by
  cases o with
  | none => exact ⟨rfl, ok_none⟩
  | some a => exact hk a rfl
theorem sm_cond {α : Type} {G : α → Prop} {c : Bool} {a b a' b' : Option α} (h1 : Sm G a a') (h2 : Sm G b b') : Sm G (bif c then a else b) (bif c then a' else b') := by cases c <;> assumption
theorem sm_jn {A R : Type} {G : R → Prop} {X X' : Option (A ⊕ R)} {k k' : A → Option R} (GA : A → Prop) (h1 : Sm (Sum.elim GA G) X X') (h2 : ∀ a, GA a → Sm G (k a) (k' a)) : Sm G (jn X k) (jn X' k') := by
  obtain ⟨rfl, h⟩ := h1
  cases X with
  | none => exact ⟨rfl, ok_none⟩
  | some s =>
    cases s with
    | inl a => exact h2 a (h _ rfl)
    | inr r => exact ⟨rfl, ok_some (h _ rfl)⟩
/-- All gadgets with this config, and so many units, may be. -/
def Good (c : D22) (L : Nat) : Prop := ∀ g, Kg c L g → gadget_Right g = some true
section
variable {c : D22} {L : Nat}
theorem step_sm (H : Good c L) (x : D51 × D61) (h : Kg c L x.1) : Sm (fun y => Kg c L y.1) (gadget_Step x) (gadget_StepT x) := by
  refine ⟨?_, ?_⟩
  · unfold gadget_Step
    rw [H _ h]; rfl
  · have := stepK_ok x h.2.2
    rw [h.1, h.2.1] at this
    exact this
theorem all0_sm (H : Good c L) : ∀ n j, Kg c L j.2.1 → Sm (Sum.elim (fun a => Kg c L a.1) (fun a => Kg c L a.1)) (reticuletop_all_L0 n j) (reticuletop_all_L0T n j)
  | 0, _, _ => ⟨rfl, ok_none⟩
  | n + 1, j, h => by
    unfold reticuletop_all_L0 reticuletop_all_L0T
    refine sm_cond (sm_bindr fun x1 _ => sm_bind (step_sm H _ h) fun r2 h2 => sm_bindr fun b _ => all0_sm H n _ h2) (sm_some h)
theorem all_sm (H : Good c L) (x : D51 × List D61) (h : Kg c L x.1) : Sm (fun y => Kg c L y.1) (reticuletop_all x) (reticuletop_allT x) := by
  unfold reticuletop_all reticuletop_allT
  exact sm_jn (fun a => Kg c L a.1) (all0_sm H _ _ h) fun a ha => sm_some ha
abbrev Kx (c : D22) (L : Nat) (x : D76) : Prop := Kg c L x.1
theorem clear_sm (H : Good c L) (x : D76 × Int) (h : Kx c L x.1) : Sm (fun y => Kx c L y.1) (reticuletop_line_clear x) (reticuletop_line_clearT x) := by
  unfold reticuletop_line_clear reticuletop_line_clearT
  exact sm_bindr fun _ _ => sm_bind (all_sm H _ h) fun r hr => sm_some hr
theorem lost_k {x : D76} (h : Kx c L x) {r : D76 × Bool} (e : reticuletop_line_lost x = some r) : Kx c L r.1 := by
  unfold reticuletop_line_lost at e
  obtain ⟨b, _, e⟩ := Option.bind_eq_some_iff.1 e
  cases e
  exact h
theorem send_sm (H : Good c L) (x : D76 × D61) (h : Kx c L x.1) : Sm (fun y => Kx c L y.1) (reticuletop_line_send x) (reticuletop_line_sendT x) := by
  unfold reticuletop_line_send reticuletop_line_sendT
  refine sm_bindr fun r1 h1 => sm_bind (step_sm H _ (lost_k h h1)) fun r2 h2 => sm_jn (fun a => Kx c L a.1) ?_ fun a ha => sm_some ha
  exact sm_bindr fun _ _ => sm_cond (sm_bind (step_sm H _ h2) fun r4 h4 => sm_some h4) (sm_some h2)
theorem ask_sm (H : Good c L) (x : D76 × Int × Int) (h : Kx c L x.1) : Sm (fun y => Kx c L y.1) (reticuletop_line_ask x) (reticuletop_line_askT x) := by
  unfold reticuletop_line_ask reticuletop_line_askT
  refine sm_bindr fun _ _ => sm_bindr fun r2 h2 => sm_jn (fun a => Kx c L a.1) ?_ fun a ha => sm_bind (step_sm H _ ha) fun r hr => sm_some hr
  exact sm_cond (sm_bind (step_sm H _ (lost_k h h2)) fun r hr => sm_some hr) (sm_some (lost_k h h2))
theorem command0_sm (H : Good c L) : ∀ n j, Kx c L j.2.1 → Sm (Sum.elim (fun a => Kx c L a.1) (fun a => Kx c L a.1)) (reticuletop_line_command_L0 n j) (reticuletop_line_command_L0T n j)
  | 0, _, _ => ⟨rfl, ok_none⟩
  | n + 1, j, h => by
    unfold reticuletop_line_command_L0 reticuletop_line_command_L0T
    refine sm_cond (sm_jn (fun a => Kx c L a.2.1) ?_ fun a ha => command0_sm H n _ ha) (sm_some h)
    refine sm_bindr fun b9 _ => sm_cond (sm_bindr fun r10 _ => sm_bindr fun r11 _ => sm_bind (send_sm H _ h) fun r12 h12 => sm_bindr fun _ _ => sm_cond (sm_some h12) (sm_some h12)) ?_
    refine sm_bind (ask_sm H _ h) fun r13 h13 => sm_cond (sm_cond (sm_bindr fun _ _ => sm_some h13) (sm_bindr fun _ _ => sm_some h13)) ?_
    exact sm_cond (sm_bind (clear_sm H _ h13) fun r15 h15 => sm_cond (sm_some h15) (sm_some h15)) (sm_some h13)
theorem command_sm (H : Good c L) (x : D76 × D36 × List (BitVec 8)) (h : Kx c L x.1) : Sm (fun y => Kx c L y.1) (reticuletop_line_command x) (reticuletop_line_commandT x) := by
  unfold reticuletop_line_command reticuletop_line_commandT
  refine sm_bindr fun r1 _ => sm_jn (fun a => Kx c L a.2.1) ?_ fun a ha => ?_
  · exact sm_bindr fun _ _ => sm_bindr fun _ _ => sm_cond (sm_bind (clear_sm H _ h) fun r hr => sm_some hr) (sm_some h)
  · refine sm_cond (sm_some ha) (sm_bindr fun r7 _ => sm_bind (send_sm H _ ha) fun r8 h8 => sm_cond (sm_some h8) ?_)
    exact sm_jn (fun a => Kx c L a.1) (command0_sm H _ _ h8) fun a ha => sm_some ha
theorem ready0_sm (H : Good c L) : ∀ n j, Kx c L j.2.1 → Sm (Sum.elim (fun a => Kx c L a.1) (fun a => Kx c L a)) (reticuletop_line_ready_L0 n j) (reticuletop_line_ready_L0T n j)
  | 0, _, _ => ⟨rfl, ok_none⟩
  | n + 1, j, h => by
    unfold reticuletop_line_ready_L0 reticuletop_line_ready_L0T
    exact sm_cond (sm_bindr fun _ _ => sm_bind (command_sm H _ h) fun r hr => ready0_sm H n _ hr) (sm_some h)
theorem ready_sm (H : Good c L) (x : D76 × Int) (h : Kx c L x.1) : Sm (Kx c L) (reticuletop_line_ready x) (reticuletop_line_readyT x) := by
  unfold reticuletop_line_ready reticuletop_line_readyT
  exact sm_jn (fun a => Kx c L a.1) (ready0_sm H _ _ h) fun a ha => sm_some ha
end
end Go.Proofs.YthnpgnabfcaaiaaGreat
/- Gadgets as they are made; states between commands; tools for finite cases. -/
namespace Go.Proofs.YthnpgnabfcaaiaaGreat
open Go Go.Re
set_option linter.unusedVariables false
set_option linter.unusedSimpArgs false
set_option maxRecDepth 100000
/-- All of them, from 1 on. -/
def Pall (P : Nat → Prop) : Nat → Prop
  | 0 => True
  | n + 1 => Pall P n ∧ P (n + 1)
theorem pall_use {P : Nat → Prop} : ∀ {n : Nat}, Pall P n → ∀ {b : Nat}, 1 ≤ b → b ≤ n → P b
  | 0, _, _, h1, h2 => by omega
  | n + 1, h, b, h1, h2 => by
    by_cases e : b = n + 1
    · subst e; exact h.2
    · exact pall_use h.1 h1 (by omega)
theorem pall_succ {P : Nat → Prop} {n : Nat} (h : Pall P n) (h1 : P (n + 1)) : Pall P (n + 1) := ⟨h, h1⟩
def zblk : List (BitVec 8) := List.replicate 64 0#8
def Md (b : Nat) : D97 := (List.replicate b zblk, [], ())
/-- A unit as it is made; behind a reset of the bus; one that has told all. -/
def fr (m : D97) : D102 := ((m, true, false, false, ()), true, [(6, 41, 0, ())], e41, ())
def fr2 (m : D97) : D102 := ((m, true, false, false, ()), true, [(6, 41, 0, ()), (6, 41, 2, ())], e41, ())
def rdy (m : D97) : D102 := ((m, true, false, false, ()), true, [], e41, ())
def gg (c : D22) (u : List D102) : D51 := (c, u, e27, e32, List.replicate 4 e114, e45, e49, ())
/-- A gadget that is enumerated, bulk-only ready: its units, the toggles, how many packets went. -/
def st (c : D22) (u : List D102) (t1 t2 : Int) (l : List Bool) (n : Int) : D76 :=
  ((c, u, (5, 0, false, 1, 0, ()), e32, [(false, t1, false, 0, nb, ()), (false, t2, false, 0, nb, ()), e114, e114], e45, e49, ()), l, n, ())
def enu : List D61 := (host_Enumerate (5, 0)).getD []
theorem enu_ok : host_Enumerate (5, 0) = some enu := by kernel_rfl
theorem alive27_ok : reticuletop_alive27 () = some true := by kernel_rfl
theorem bmake : Pall (fun b => block_Make ((b : Int), 0#8) = some (List.replicate b zblk, 0)) 64 := by repeat (first | exact trivial | refine pall_succ ?_ (by show _ = _; kernel_rfl))
theorem um_step {b : Nat} (h1 : 1 ≤ b) (h64 : b ≤ 64) (n : Nat) (acc : List D102) (L i : Nat) (hi : i < L) (hL : L ≤ 4) (ha : acc.length = i) :
    unit_Make_L0 (n + 1) ((b : Int), acc, (L : Int), (i : Int)) = unit_Make_L0 n ((b : Int), acc ++ [fr (Md b)], (L : Int), ((i + 1 : Nat) : Int)) := by
  have hb : block_Make ((b : Int), 0#8) = some (List.replicate b zblk, 0) := pall_use bmake h1 h64
  have hlt : ((i : Int) < (L : Int)) := by omega
  have hw : w64 ((i : Int) + 1) = ((i + 1 : Nat) : Int) := by rw [w64_in (by omega) (by omega)]; omega
  conv => lhs; unfold unit_Make_L0
  have hc : chk (decide (acc.length + ([fr (Md b)] : List D102).length ≤ lim)) = some () := by
    unfold chk
    rw [decide_eq_true (by rw [ha]; simp [lim]; omega)]; rfl
  show (bif decide ((i : Int) < (L : Int)) then _ else _) = _
  rw [decide_eq_true hlt, cond_true]
  show (block_Make ((b : Int), 0#8)).bind _ = _
  rw [hb, Option.bind_some]
  show (chk (decide (acc.length + ([fr (Md b)] : List D102).length ≤ lim))).bind _ = _
  rw [hc, Option.bind_some]
  show unit_Make_L0 n ((b : Int), acc ++ [fr (Md b)], (L : Int), w64 ((i : Int) + 1)) = _
  rw [hw]
theorem um_loop {b : Nat} (h1 : 1 ≤ b) (h64 : b ≤ 64) (L : Nat) (hL : L ≤ 4) : ∀ (k n i : Nat) (acc : List D102), i + k = L → acc.length = i → k < n →
    unit_Make_L0 n ((b : Int), acc, (L : Int), (i : Int)) = some (Sum.inl (acc ++ List.replicate k (fr (Md b))))
  | 0, n + 1, i, acc, hi, ha, _ => by
    unfold unit_Make_L0
    show (bif decide ((i : Int) < (L : Int)) then _ else _) = _
    rw [decide_eq_false (by omega), cond_false, List.replicate_zero, List.append_nil]
  | k + 1, n + 1, i, acc, hi, ha, hn => by
    rw [um_step h1 h64 n acc L i (by omega) hL ha, um_loop h1 h64 L hL k n (i + 1) _ (by omega) (by simp [ha]) (by omega), List.append_assoc]
    rfl
theorem within_eq (x : Int × Int) : gadget_within x = some (decide (1 ≤ x.1) && decide (x.1 ≤ x.2)) := by
  unfold gadget_within
  cases decide (1 ≤ x.1) <;> rfl
theorem may_eq (c : D22) : gadget_may c = some ((decide (1 ≤ c.1) && decide (c.1 ≤ 4)) && ((decide (1 ≤ c.2.1) && decide (c.2.1 ≤ 64)) && (decide (1 ≤ c.2.2.1) && decide (c.2.2.1 ≤ 8)))) := by
  unfold gadget_may
  simp only [within_eq, Option.bind_some]
  cases (decide (1 ≤ c.1) && decide (c.1 ≤ 4)) <;> cases (decide (1 ≤ c.2.1) && decide (c.2.1 ≤ 64)) <;> rfl
/-- A config that may be. -/
structure Mc (c : D22) (L b : Nat) : Prop where
  el : c.1 = (L : Int)
  eb : c.2.1 = (b : Int)
  l1 : 1 ≤ L
  l4 : L ≤ 4
  b1 : 1 ≤ b
  b64 : b ≤ 64
  may : gadget_may c = some true
theorem may_cases (c : D22) : gadget_may c = some false ∨ ∃ L b, Mc c L b := by
  rw [may_eq]
  cases h : (decide (1 ≤ c.1) && decide (c.1 ≤ 4)) && ((decide (1 ≤ c.2.1) && decide (c.2.1 ≤ 64)) && (decide (1 ≤ c.2.2.1) && decide (c.2.2.1 ≤ 8))) with
  | false => exact .inl rfl
  | true =>
    have hm : gadget_may c = some true := by rw [may_eq, h]
    simp only [Bool.and_eq_true, decide_eq_true_eq] at h
    obtain ⟨⟨h1, h2⟩, ⟨h3, h4⟩, _⟩ := h
    exact .inr ⟨c.1.toNat, c.2.1.toNat, by omega, by omega, by omega, by omega, by omega, by omega, hm⟩
theorem make_ok {c : D22} {L b : Nat} (h : Mc c L b) : gadget_Make c = some (gg c (List.replicate L (fr (Md b))), 0) := by
  have hu : unit_Make (c.1, c.2.1) = some (List.replicate L (fr (Md b)), 0) := by
    rw [h.el, h.eb]
    have := h.l1; have := h.l4; have := h.b1; have := h.b64
    unfold unit_Make
    show ((bif decide ((L : Int) < 1) then some true else some (decide (4 < (L : Int))) : Option Bool).bind fun b1 => ((bif b1 then some true else some (decide ((b : Int) < 1)) : Option Bool)).bind fun b2 => bif b2 then some (n102, 1) else _) = _
    rw [decide_eq_false (show ¬ (L : Int) < 1 by omega), cond_false, Option.bind_some, decide_eq_false (show ¬ 4 < (L : Int) by omega), cond_false, Option.bind_some, decide_eq_false (show ¬ (b : Int) < 1 by omega), cond_false]
    show jn (unit_Make_L0 Big ((b : Int), [], (L : Int), ((0 : Nat) : Int))) _ = _
    rw [um_loop h.b1 h.b64 L h.l4 L Big 0 [] (by omega) rfl (by unfold Big; omega)]
    rfl
  unfold gadget_Make
  rw [h.may, Option.bind_some]
  show (unit_Make (c.1, c.2.1)).bind _ = _
  rw [hu]; rfl
theorem good_of {c : D22} {L b : Nat} (h : Mc c L b) : Good c L := fun g hg => by
  obtain ⟨e1, e2, e3⟩ := hg
  unfold gadget_Right
  rw [e1, h.may, Option.bind_some, e2, e3, h.el]
  simp
theorem kg_gg {c : D22} {L : Nat} {u : List D102} (h : u.length = L) : Kg c L (gg c u) := ⟨rfl, h, rfl⟩
theorem kx_st {c : D22} {L : Nat} {u : List D102} (h : u.length = L) {t1 t2 n : Int} {l : List Bool} : Kx c L (st c u t1 t2 l n) := ⟨rfl, h, rfl⟩
theorem played0 {c : D22} {L b : Nat} (h : Mc c L b) : reticuletop_played (c, n61, 0) = some (gg c (List.replicate L (fr (Md b))), true) := by
  unfold reticuletop_played
  rw [make_ok h]; rfl
theorem played_no {c : D22} (h : gadget_may c = some false) : reticuletop_played (c, n61, 0) = some (e51, false) := by
  unfold reticuletop_played gadget_Make
  rw [h]; rfl
end Go.Proofs.YthnpgnabfcaaiaaGreat
/- Media: what they show, and a write that is cached. -/
namespace Go.Proofs.YthnpgnabfcaaiaaGreat
open Go Go.Re
set_option linter.unusedVariables false
set_option linter.unusedSimpArgs false
set_option maxRecDepth 100000
abbrev Blk : Type := List (BitVec 8)
/-- A medium that may be. -/
structure Mok (m : D97) (b : Nat) : Prop where
  len : m.1.length = b
  le : b ≤ 64
  few : m.2.1.length ≤ 64
  at_ : ∀ d ∈ m.2.1, 0 ≤ d.1 ∧ d.1 < (b : Int)
/-- What it shows. -/
def fl (D : List D195) (B : List Blk) : List Blk := D.foldl (fun B d => B.set d.1.toNat d.2.1) B
theorem fl_len : ∀ (D : List D195) (B : List Blk), (fl D B).length = B.length
  | [], _ => rfl
  | d :: D, B => by
    show (fl D (B.set d.1.toNat d.2.1)).length = _
    rw [fl_len D, List.length_set]
theorem there_eq (m : D97) (i : Int) : cache_there (m, i) = some (decide (0 ≤ i) && decide (i < (m.1.length : Int))) := by
  unfold cache_there
  show ((bif decide (0 ≤ i) then _ else _ : Option Bool).bind _) = _
  cases decide (0 ≤ i) <;> rfl
theorem idx_loop {m : D97} {b : Nat} (h : Mok m b) : ∀ k n i, i + k = m.2.1.length → k < n →
    slices_IndexFunc_api_Dirty_c312_L0 n (m.2.1, m, (m.2.1.length : Int), (i : Int)) = some (.inl ())
  | 0, n + 1, i, hi, _ => by
    unfold slices_IndexFunc_api_Dirty_c312_L0
    show (bif decide ((i : Int) < (m.2.1.length : Int)) then _ else _) = _
    rw [decide_eq_false (by omega), cond_false]
  | k + 1, n + 1, i, hi, hn => by
    have hf := h.few
    unfold slices_IndexFunc_api_Dirty_c312_L0
    show (bif decide ((i : Int) < (m.2.1.length : Int)) then _ else _) = _
    rw [decide_eq_true (by omega), cond_true]
    show (ix m.2.1 (i : Int)).bind _ = _
    have hi' : i < m.2.1.length := by omega
    rw [ix_at m.2.1 i hi', Option.bind_some]
    obtain ⟨h1, h2⟩ := h.at_ _ (List.getElem_mem hi')
    unfold cache_Right_1
    rw [there_eq, decide_eq_true h1, decide_eq_true (by rw [h.len]; exact h2)]
    show slices_IndexFunc_api_Dirty_c312_L0 n (m.2.1, m, (m.2.1.length : Int), w64 ((i : Int) + 1)) = _
    rw [w64_succ i (by omega), idx_loop h k n (i + 1) (by omega) (by omega)]
theorem right_ok {m : D97} {b : Nat} (h : Mok m b) : cache_Right m = some true := by
  have := h.len; have := h.le; have := h.few
  unfold cache_Right
  rw [decide_eq_true (by omega), cond_true, Option.bind_some, decide_eq_true (by omega), cond_true]
  unfold slices_ContainsFunc_api_Dirty_c312 slices_IndexFunc_api_Dirty_c312
  show (((((jn (slices_IndexFunc_api_Dirty_c312_L0 Big (m.2.1, m, (m.2.1.length : Int), ((0 : Nat) : Int))) _).bind _).bind _) : Option Bool).bind _) = _
  rw [idx_loop h m.2.1.length Big 0 (by omega) (big_lt (by omega))]
  rfl
theorem clone_ok {α : Type} {x : List α} (h : x.length ≤ 2147483648) : cloneM x = some x := by
  unfold cloneM; rw [decide_eq_true (le_lim h)]; rfl
abbrev z97 : D97 × (List (List (BitVec 8)) × (List D195 × Unit)) := (e97, [], n195, ())
theorem all_loop (D : List D195) (b : Nat) (hD : D.length ≤ 64) (h : ∀ d ∈ D, 0 ≤ d.1 ∧ d.1 < (b : Int)) : ∀ k n i (B : List Blk), i + k = D.length → k < n → B.length = b →
    cache_All_L0 n (z97, ((), ()), (), z97, (e97, B, n195, ()), D, (D.length : Int), (i : Int)) = some (.inl (z97, z97, e97, fl (D.drop i) B, n195, ()))
  | 0, n + 1, i, B, hi, _, hB => by
    unfold cache_All_L0
    show (bif decide ((i : Int) < (D.length : Int)) then _ else _) = _
    rw [decide_eq_false (by omega), cond_false, List.drop_of_length_le (by omega)]; rfl
  | k + 1, n + 1, i, B, hi, hn, hB => by
    have hi' : i < D.length := by omega
    obtain ⟨h1, h2⟩ := h _ (List.getElem_mem hi')
    unfold cache_All_L0
    show (bif decide ((i : Int) < (D.length : Int)) then _ else _) = _
    rw [decide_eq_true (by omega), cond_true]
    show jn ((ix D (i : Int)).bind _) _ = _
    rw [ix_at D i hi', Option.bind_some]
    show jn ((chk (inLen D[i].1 B.length)).bind _) _ = _
    rw [chk_true (inLen_ok h1 (by rw [hB]; exact h2)), Option.bind_some, jn_inl]
    show cache_All_L0 n (z97, ((), ()), (), z97, (e97, B.set D[i].1.toNat D[i].2.1, n195, ()), D, (D.length : Int), w64 ((i : Int) + 1)) = _
    rw [w64_succ i (by omega), all_loop D b hD h k n (i + 1) _ (by omega) (by omega) (by rw [List.length_set]; exact hB), List.drop_eq_getElem_cons hi']; rfl
theorem all_ok {m : D97} {b : Nat} (h : Mok m b) : cache_All m = some (fl m.2.1 m.1) := by
  have := h.len; have := h.le; have := h.few
  unfold cache_All
  rw [right_ok h, Option.bind_some]
  show (cloneM m.1).bind _ = _
  rw [clone_ok (by omega), Option.bind_some]
  show jn (cache_All_L0 Big (z97, ((), ()), (), z97, (e97, m.1, n195, ()), m.2.1, (m.2.1.length : Int), ((0 : Nat) : Int))) _ = _
  rw [all_loop m.2.1 b h.few h.at_ m.2.1.length Big 0 m.1 (by omega) (big_lt (by omega)) h.len]; rfl
theorem write_loop (at_ : Int) (x : Blk) (m : D97) (hf : m.2.1.length < 64) : ∀ k n i (B : List Blk) (A : List D195), i + k = m.2.1.length → k < n → A = m.2.1.take i →
    cache_Write_L0 n (x, e97, z97, ((false, at_, m, ()), ()), (), z97, (e97, B, A, ()), m.2.1, (m.2.1.length : Int), (i : Int)) = some (.inl (x, e97, z97, z97, e97, B, m.2.1, ()))
  | 0, n + 1, i, B, A, hi, _, hA => by
    unfold cache_Write_L0
    show (bif decide ((i : Int) < (m.2.1.length : Int)) then _ else _) = _
    rw [decide_eq_false (by omega), cond_false, hA, List.take_of_length_le (by omega)]
  | k + 1, n + 1, i, B, A, hi, hn, hA => by
    have hi' : i < m.2.1.length := by omega
    unfold cache_Write_L0
    show (bif decide ((i : Int) < (m.2.1.length : Int)) then _ else _) = _
    rw [decide_eq_true (by omega), cond_true]
    show jn ((ix m.2.1 (i : Int)).bind _) _ = _
    rw [ix_at m.2.1 i hi', Option.bind_some]
    show jn ((some false : Option Bool).bind _) _ = _
    rw [Option.bind_some]
    show jn ((((some (decide ((m.2.1.length : Int) = 64)) : Option Bool).bind fun b6 => some b6).bind _)) _ = _
    rw [decide_eq_false (by omega)]
    show jn ((chk (decide (A.length + 1 ≤ lim))).bind _) _ = _
    have hl : A.length = i := by rw [hA, List.length_take]; omega
    rw [chk_dec (le_lim (by omega)), Option.bind_some, jn_inl]
    show cache_Write_L0 n (x, e97, z97, ((false, at_, m, ()), ()), (), z97, (e97, B, A ++ [m.2.1[i]], ()), m.2.1, (m.2.1.length : Int), w64 ((i : Int) + 1)) = _
    rw [w64_succ i (by omega), write_loop at_ x m hf k n (i + 1) _ _ (by omega) (by omega) (by rw [hA, List.take_add_one, List.getElem?_eq_getElem hi']; rfl)]
theorem write_ok {m : D97} {b : Nat} (h : Mok m b) (hf : m.2.1.length < 64) (at_ : Int) (x : Blk) (h1 : 0 ≤ at_) (h2 : at_ < (b : Int)) : cache_Write (m, at_, x, false) = some ((m.1, m.2.1 ++ [(at_, x, ())], ()), 0) := by
  have := h.len; have := h.le
  unfold cache_Write
  rw [right_ok h, Option.bind_some]
  show (cache_there (m, at_)).bind _ = _
  rw [there_eq, decide_eq_true h1, decide_eq_true (by rw [h.len]; exact h2)]
  show (cloneM m.1).bind _ = _
  rw [clone_ok (by omega), Option.bind_some]
  show jn (cache_Write_L0 Big (x, e97, z97, ((false, at_, m, ()), ()), (), z97, (e97, m.1, [], ()), m.2.1, (m.2.1.length : Int), ((0 : Nat) : Int))) _ = _
  rw [write_loop at_ x m hf m.2.1.length Big 0 m.1 [] (by omega) (big_lt (by omega)) rfl, jn_inl]
  show jn ((chk (decide (m.2.1.length + 1 ≤ lim))).bind _) _ = _
  rw [chk_dec (le_lim (by omega))]; rfl
theorem within_ok (c : Nat) (a : BitVec 64) (n : Nat) (hc : c ≤ 64) (h : a.toNat + n ≤ c) : block_Within ((c : Int), a, (n : Int)) = some true := by
  unfold block_Within
  show (((bif decide ((0 : Int) ≤ (n : Int)) then some (decide ((n : Int) ≤ (c : Int))) else some false : Option Bool).bind _)) = _
  rw [decide_eq_true (by omega), cond_true, Option.bind_some, decide_eq_true (by omega), cond_true]
  show (some (decide (a ≤ BitVec.ofInt 64 (w64 ((c : Int) - (n : Int))))) : Option Bool).bind _ = _
  have : w64 ((c : Int) - (n : Int)) = ((c - n : Nat) : Int) := by rw [w64_in (by omega) (by omega)]; omega
  rw [this, BitVec.ofInt_natCast, decide_eq_true (by rw [BitVec.le_def, BitVec.toNat_ofNat, Nat.mod_eq_of_lt (by omega)]; omega)]; rfl
/-- The bytes of blocks, one behind the other. -/
theorem read_loop (P : List Blk) (hP : P.length ≤ 64) (h : ∀ x ∈ P, x.length = 64) : ∀ k n i acc, i + k = P.length → k < n → acc = (P.take i).flatten →
    block_Read_L0 n (acc, 0, P, (P.length : Int), (i : Int)) = some (.inl (P.flatten, 0))
  | 0, n + 1, i, acc, hi, _, ha => by
    unfold block_Read_L0
    show (bif decide ((i : Int) < (P.length : Int)) then _ else _) = _
    rw [decide_eq_false (by omega), cond_false, ha, List.take_of_length_le (by omega)]
  | k + 1, n + 1, i, acc, hi, hn, ha => by
    have hi' : i < P.length := by omega
    unfold block_Read_L0
    show (bif decide ((i : Int) < (P.length : Int)) then _ else _) = _
    rw [decide_eq_true (by omega), cond_true]
    show (ix P (i : Int)).bind _ = _
    rw [ix_at P i hi', Option.bind_some]
    have hacc : acc.length = 64 * i := by
      rw [ha, List.length_flatten]
      have : (P.take i).map List.length = List.replicate i 64 := by
        apply List.ext_getElem?
        intro j
        by_cases hj : j < i
        · rw [List.getElem?_map, List.getElem?_take, if_pos hj, List.getElem?_eq_getElem (show j < P.length by omega), List.getElem?_replicate, if_pos hj]
          simp [h _ (List.getElem_mem (show j < P.length by omega))]
        · simp [hj]; omega
      rw [this]; simp [Nat.mul_comm]
    show (chk (decide (acc.length + P[i].length ≤ lim))).bind _ = _
    rw [chk_dec (le_lim (by rw [h _ (List.getElem_mem hi')]; omega)), Option.bind_some]
    show block_Read_L0 n (acc ++ P[i], 0, P, (P.length : Int), w64 ((i : Int) + 1)) = _
    rw [w64_succ i (by omega), read_loop P hP h k n (i + 1) _ (by omega) (by omega) (by rw [ha, List.take_add_one, List.getElem?_eq_getElem hi', List.flatten_append]; simp)]
theorem read_ok (X : List Blk) (hX : X.length ≤ 64) (h : ∀ x ∈ X, x.length = 64) (a : BitVec 64) (n : Nat) (hn : a.toNat + n ≤ X.length) :
    block_Read (X, a, (n : Int)) = some (((X.drop a.toNat).take n).flatten, 0) := by
  unfold block_Read block_some
  show ((bif decide (64 < (X.length : Int)) then _ else _ : Option _).bind _) = _
  rw [decide_eq_false (by omega), cond_false]
  show (((block_Within ((X.length : Int), a, (n : Int))).bind _).bind _) = _
  rw [within_ok _ _ _ hX hn, Option.bind_some]
  show (((chk (decide (0 ≤ ((a.toNat : Int) : Int)) && decide (((a.toNat : Int) : Int) ≤ (X.length : Int)))).bind _).bind _) = _
  rw [decide_eq_true (by omega), decide_eq_true (by omega)]
  show (((chk (decide (0 ≤ (n : Int)) && decide ((n : Int) ≤ ((X.drop a.toNat).length : Int)))).bind _).bind _) = _
  rw [decide_eq_true (by omega), decide_eq_true (by rw [List.length_drop]; omega)]
  show jn (block_Read_L0 Big (nb, 0, (X.drop a.toNat).take n, (((X.drop a.toNat).take n).length : Int), ((0 : Nat) : Int))) _ = _
  rw [read_loop _ (by rw [List.length_take, List.length_drop]; omega) (fun x hx => h x (List.mem_of_mem_drop (List.mem_of_mem_take hx))) _ Big 0 nb (Nat.zero_add _) (big_lt (by rw [List.length_take, List.length_drop]; omega)) rfl]; rfl
end Go.Proofs.YthnpgnabfcaaiaaGreat
/- Bulk-only writes and reads: what the units answer, and each step over that. -/
namespace Go.Proofs.YthnpgnabfcaaiaaGreat
open Go Go.Re
set_option linter.unusedVariables false
set_option linter.unusedSimpArgs false
set_option maxRecDepth 100000
def cfg (L : Nat) (b d : Int) (s t : Bool) : D22 := ((L : Int), b, d, s, t, ())
/-- Units, the first one another one. -/
def us (L : Nat) (m : D97) (v : D102) : List D102 := (List.replicate L (fr2 m)).set 0 v
/-- Bytes, one by one. -/
def by_ (n : Nat) (f : Nat → BitVec 8) : List (BitVec 8) := (List.range n).map f
theorem by_len (n : Nat) (f : Nat → BitVec 8) : (by_ n f).length = n := by unfold by_; simp
theorem by_take {l : List (BitVec 8)} {n : Nat} (h : n ≤ l.length) : l.take n = by_ n (fun i => l.getD i 0#8) := by
  apply List.ext_getElem?
  intro i
  unfold by_
  by_cases hi : i < n
  · simp [List.getElem?_take, hi, List.getD_eq_getElem?_getD, List.getElem?_eq_getElem (show i < l.length by omega)]
  · simp [List.getElem?_take, hi]
theorem by_ix (n : Nat) (f : Nat → BitVec 8) (i : Nat) : (by_ n f)[i]? = if i < n then some (f i) else none := by
  unfold by_
  by_cases h : i < n
  · simp [h]
  · simp [h]
/-- The j-th 64 of the data. -/
def blk (g : Nat → BitVec 8) (j : Nat) : Blk := by_ 64 fun x => g (64 * j + x)
theorem blk_len (g : Nat → BitVec 8) (j : Nat) : (blk g j).length = 64 := by_len ..
/-- A medium, some of whose blocks were written (cached). -/
def mI (b k : Nat) (g : Nat → BitVec 8) (i : Nat) : D97 := (List.replicate b zblk, (List.range i).map fun j => (((k + j : Nat) : Int), blk g j, ()), ())
theorem mI_ok {b k i : Nat} {g : Nat → BitVec 8} (h : k + i ≤ b) (hb : b ≤ 64) : Mok (mI b k g i) b := by
  refine ⟨by simp [mI], hb, by simp [mI]; omega, ?_⟩
  intro d hd
  simp only [mI, List.mem_map, List.mem_range] at hd
  obtain ⟨j, hj, rfl⟩ := hd
  constructor
  · show (0 : Int) ≤ ((k + j : Nat) : Int); omega
  · show ((k + j : Nat) : Int) < (b : Int); omega
theorem mI_succ (b k : Nat) (g : Nat → BitVec 8) (i : Nat) : mI b k g (i + 1) = ((mI b k g i).1, (mI b k g i).2.1 ++ [(((k + i : Nat) : Int), blk g i, ())], ()) := by
  simp [mI, List.range_succ]
abbrev slt (m : D97) : D99 := (m, true, false, false, ())
theorem check_ok {m : D97} {b : Nat} (h : Mok m b) (a n : Nat) (w : Bool) (hn : a + n ≤ b) : slot_Check (slt m, BitVec.ofNat 64 a, (n : Int), w) = some e41 := by
  have hb := h.le
  unfold slot_Check
  show (some e41 : Option D41).bind _ = _
  rw [Option.bind_some]
  show (bif w then some false else some false : Option Bool).bind _ = _
  have : (bif w then some false else some false : Option Bool) = some false := by cases w <;> rfl
  rw [this, Option.bind_some]
  show (cache_All m).bind _ = _
  rw [all_ok h, Option.bind_some]
  show (block_Within (((fl m.2.1 m.1).length : Int), BitVec.ofNat 64 a, (n : Int))).bind _ = _
  rw [fl_len, h.len, within_ok b _ n hb (by rw [BitVec.toNat_ofNat, Nat.mod_eq_of_lt (by omega)]; exact hn)]; rfl
theorem put_ok {m : D97} {b : Nat} (h : Mok m b) (hf : m.2.1.length < 64) (a : Nat) (x : Blk) (ha : a < b) : slot_Put (slt m, (a : Int), x, false) = some (slt (m.1, m.2.1 ++ [((a : Int), x, ())], ()), e41) := by
  unfold slot_Put
  show (slot_Check (slt m, BitVec.ofInt 64 (a : Int), ((1 : Nat) : Int), true)).bind _ = _
  rw [BitVec.ofInt_natCast, check_ok h a 1 true (by omega), Option.bind_some]
  show (cache_Write (m, (a : Int), x, false)).bind _ = _
  rw [write_ok h hf (a : Int) x (by omega) (by omega)]; rfl
theorem read_slot {m : D97} {b : Nat} (h : Mok m b) (hx : ∀ x ∈ fl m.2.1 m.1, x.length = 64) (a n : Nat) (hn : a + n ≤ b) :
    slot_Read (slt m, BitVec.ofNat 64 a, (n : Int)) = some ((((fl m.2.1 m.1).drop a).take n).flatten, e41) := by
  have hb := h.le
  have ea : (BitVec.ofNat 64 a).toNat = a := by rw [BitVec.toNat_ofNat, Nat.mod_eq_of_lt (by omega)]
  unfold slot_Read
  show (slot_Check (slt m, BitVec.ofNat 64 a, (n : Int), false)).bind _ = _
  rw [check_ok h a n false hn, Option.bind_some]
  show (cache_All m).bind _ = _
  rw [all_ok h, Option.bind_some]
  show (block_Read (fl m.2.1 m.1, BitVec.ofNat 64 a, (n : Int))).bind _ = _
  rw [read_ok _ (by rw [fl_len, h.len]; exact hb) hx _ _ (by rw [fl_len, h.len, ea]; exact hn), ea]; rfl
/-- What is written is shown. -/
theorem fl_get (g : Nat → BitVec 8) (k : Nat) : ∀ (i : Nat) (B : List Blk) (p : Nat), k + i ≤ B.length →
    (fl ((List.range i).map fun j => (((k + j : Nat) : Int), blk g j, ())) B)[p]? = if k ≤ p ∧ p < k + i then some (blk g (p - k)) else B[p]?
  | 0, B, p, h => by
    rw [if_neg (by omega)]; rfl
  | i + 1, B, p, h => by
    have e : fl ((List.range (i + 1)).map fun j => (((k + j : Nat) : Int), blk g j, ())) B = (fl ((List.range i).map fun j => (((k + j : Nat) : Int), blk g j, ())) B).set (k + i) (blk g i) := by
      rw [List.range_succ, List.map_append]
      unfold fl
      rw [List.foldl_append]
      show List.set _ (((k + i : Nat) : Int)).toNat _ = _
      rw [Int.toNat_natCast]
    rw [e, List.getElem?_set, fl_len]
    by_cases hp : k + i = p
    · rw [if_pos hp, if_pos (by omega), if_pos (by omega)]
      subst hp; simp
    · rw [if_neg hp, fl_get g k i B p (by omega)]
      by_cases hq : k ≤ p ∧ p < k + i
      · rw [if_pos hq, if_pos (by omega)]
      · rw [if_neg hq, if_neg (by omega)]
theorem blks_flat (g : Nat → BitVec 8) : ∀ n, ((List.range n).map (blk g)).flatten = by_ (64 * n) g
  | 0 => rfl
  | n + 1 => by
    rw [List.range_succ, List.map_append, List.flatten_append, blks_flat g n]
    apply List.ext_getElem?
    intro i
    rw [List.getElem?_append, by_len, by_ix, by_ix]
    by_cases h : i < 64 * n
    · rw [if_pos h, if_pos h, if_pos (by omega)]
    · rw [if_neg h]
      show ((blk g n) ++ [])[i - 64 * n]? = _
      rw [List.append_nil]
      unfold blk
      rw [by_ix]
      by_cases h2 : i < 64 * (n + 1)
      · rw [if_pos (by omega), if_pos h2, show 64 * n + (i - 64 * n) = i by omega]
      · rw [if_neg (by omega), if_neg h2]
theorem mI_read {b k n : Nat} {g : Nat → BitVec 8} (h : k + n ≤ b) (hb : b ≤ 64) : slot_Read (slt (mI b k g n), BitVec.ofNat 64 k, (n : Int)) = some (by_ (64 * n) g, e41) := by
  have hl : (fl (mI b k g n).2.1 (mI b k g n).1).length = b := by rw [fl_len]; simp [mI]
  have hg : ∀ p, (fl (mI b k g n).2.1 (mI b k g n).1)[p]? = if k ≤ p ∧ p < k + n then some (blk g (p - k)) else (List.replicate b zblk)[p]? := fun p => fl_get g k n _ p (by simp [mI]; exact h)
  rw [read_slot (mI_ok h hb) (by
    intro x hx
    obtain ⟨p, hp, rfl⟩ := List.mem_iff_getElem.1 hx
    have := hg p
    rw [List.getElem?_eq_getElem hp] at this
    by_cases hq : k ≤ p ∧ p < k + n
    · rw [if_pos hq] at this; rw [Option.some.inj this]; exact blk_len ..
    · rw [if_neg hq, List.getElem?_replicate, if_pos (by omega)] at this
      rw [Option.some.inj this]; rfl) k n h]
  have : ((fl (mI b k g n).2.1 (mI b k g n).1).drop k).take n = (List.range n).map (blk g) := by
    apply List.ext_getElem?
    intro i
    rw [List.getElem?_take]
    by_cases hi : i < n
    · rw [if_pos hi, List.getElem?_drop, hg, if_pos (by omega)]; simp [hi]
    · rw [if_neg hi]; simp [hi]
  rw [this, blks_flat]
/-! ### jobs -/
def jb (n : Nat) (a : BitVec 64) (i : Nat) : D43 := ((42, a, (n : Int), 0, 0, ()), 64 * (n : Int), 64 * (i : Int), nb, e41, ())
theorem place_ok (u : D102) (op n p q l t : Int) (r : List (BitVec 8)) (s : D41) (k i : Nat) (hk : k < 1000) (hi : i < 1000) :
    job_worker_place ((u, ((op, BitVec.ofNat 64 k, n, p, q, ()), l, t, r, s, ()), ()), 64 * (i : Int)) = some (BitVec.ofNat 64 (k + i)) := by
  unfold job_worker_place
  have e1 : w64 ((64 * (i : Int)).tdiv 64) = ((i : Nat) : Int) := by
    have : (64 * (i : Int)).tdiv 64 = (i : Int) := by rw [Int.mul_tdiv_cancel_left _ (by omega)]
    rw [this, w64_in (by omega) (by omega)]
  have e2 : BitVec.ofNat 64 k + BitVec.ofInt 64 ((i : Nat) : Int) = BitVec.ofNat 64 (k + i) := by
    rw [BitVec.ofInt_natCast]
    apply BitVec.eq_of_toNat_eq
    simp
  show (bif decide (BitVec.ofNat 64 k + BitVec.ofInt 64 (w64 ((64 * (i : Int)).tdiv 64)) < BitVec.ofNat 64 k) then _ else some (BitVec.ofNat 64 k + BitVec.ofInt 64 (w64 ((64 * (i : Int)).tdiv 64)))) = _
  rw [e1, e2, decide_eq_false (by rw [BitVec.lt_def, BitVec.toNat_ofNat, BitVec.toNat_ofNat, Nat.mod_eq_of_lt (by omega), Nat.mod_eq_of_lt (by omega)]; omega)]; rfl
theorem class42 : cdb_Class 42 = some 2 := by kernel_rfl
theorem block_ok {m : D97} {b : Nat} (h : Mok m b) (hf : m.2.1.length < 64) (p : Nat) (x : Blk) (hp : p < b) (hx : x.length = 64) (n l t : Int) (a : BitVec 64) (r : List (BitVec 8)) :
    job_worker_block (((rdy m), ((42, a, n, 0, 0, ()), l, t, r, e41, ()), ()), BitVec.ofNat 64 p, x) = some (rdy (m.1, m.2.1 ++ [((p : Int), x, ())], ()), ((42, a, n, 0, 0, ()), l, t, r, e41, ()), ()) := by
  have hb := h.le
  unfold job_worker_block
  show (some true : Option Bool).bind _ = _
  rw [Option.bind_some, Bool.not_true, cond_false]
  show (cdb_Class 42).bind _ = _
  rw [class42, Option.bind_some, decide_eq_false (by decide), cond_false]
  show (chk (decide (64 ≤ x.length))).bind _ = _
  rw [chk_dec (by omega), Option.bind_some]
  show (slot_Put (slt m, w64 ((bif decide ((4294967296#64) < BitVec.ofNat 64 p) then (4294967296#64) else BitVec.ofNat 64 p).toNat : Int), x.take 64, false)).bind _ = _
  rw [decide_eq_false (by rw [BitVec.lt_def]; show ¬ (4294967296 < (BitVec.ofNat 64 p).toNat); rw [BitVec.toNat_ofNat, Nat.mod_eq_of_lt (by omega)]; omega), cond_false, BitVec.toNat_ofNat, Nat.mod_eq_of_lt (by omega), w64_in (by omega) (by omega), List.take_of_length_le (by omega), put_ok h hf p x hp]
  rfl
/-! ### commands -/
def wcd (op : BitVec 8) (k n : Nat) : List (BitVec 8) := [op, 0#8, 0#8, 0#8, 0#8, BitVec.ofInt 8 (k : Int), 0#8, 0#8, BitVec.ofInt 8 (n : Int), 0#8]
abbrev ParIs (op : BitVec 8) (o : Int) (n k : Nat) : Prop := cdb_Parse (wcd op (k - 1) n) = some ((o, BitVec.ofNat 64 (k - 1), (n : Int), 0, 0, ()), e41)
theorem parw1 : Pall (fun k => ParIs 42#8 42 1 k) 64 := by repeat (first | exact trivial | refine pall_succ ?_ (by show _ = _; kernel_rfl))
theorem parw2 : Pall (fun k => ParIs 42#8 42 2 k) 64 := by repeat (first | exact trivial | refine pall_succ ?_ (by show _ = _; kernel_rfl))
theorem parw3 : Pall (fun k => ParIs 42#8 42 3 k) 64 := by repeat (first | exact trivial | refine pall_succ ?_ (by show _ = _; kernel_rfl))
theorem parw4 : Pall (fun k => ParIs 42#8 42 4 k) 64 := by repeat (first | exact trivial | refine pall_succ ?_ (by show _ = _; kernel_rfl))
theorem parw5 : Pall (fun k => ParIs 42#8 42 5 k) 64 := by repeat (first | exact trivial | refine pall_succ ?_ (by show _ = _; kernel_rfl))
theorem parw6 : Pall (fun k => ParIs 42#8 42 6 k) 64 := by repeat (first | exact trivial | refine pall_succ ?_ (by show _ = _; kernel_rfl))
theorem parw7 : Pall (fun k => ParIs 42#8 42 7 k) 64 := by repeat (first | exact trivial | refine pall_succ ?_ (by show _ = _; kernel_rfl))
theorem parw8 : Pall (fun k => ParIs 42#8 42 8 k) 64 := by repeat (first | exact trivial | refine pall_succ ?_ (by show _ = _; kernel_rfl))
theorem par_w {n k : Nat} (h1 : 1 ≤ n) (h8 : n ≤ 8) (hk : k < 64) : cdb_Parse (wcd 42#8 k n) = some ((42, BitVec.ofNat 64 k, (n : Int), 0, 0, ()), e41) := by
  have : n = 1 ∨ n = 2 ∨ n = 3 ∨ n = 4 ∨ n = 5 ∨ n = 6 ∨ n = 7 ∨ n = 8 := by omega
  rcases this with rfl | rfl | rfl | rfl | rfl | rfl | rfl | rfl
  · exact pall_use (P := fun k => ParIs 42#8 42 1 k) parw1 (b := k + 1) (by omega) (by omega)
  · exact pall_use (P := fun k => ParIs 42#8 42 2 k) parw2 (b := k + 1) (by omega) (by omega)
  · exact pall_use (P := fun k => ParIs 42#8 42 3 k) parw3 (b := k + 1) (by omega) (by omega)
  · exact pall_use (P := fun k => ParIs 42#8 42 4 k) parw4 (b := k + 1) (by omega) (by omega)
  · exact pall_use (P := fun k => ParIs 42#8 42 5 k) parw5 (b := k + 1) (by omega) (by omega)
  · exact pall_use (P := fun k => ParIs 42#8 42 6 k) parw6 (b := k + 1) (by omega) (by omega)
  · exact pall_use (P := fun k => ParIs 42#8 42 7 k) parw7 (b := k + 1) (by omega) (by omega)
  · exact pall_use (P := fun k => ParIs 42#8 42 8 k) parw8 (b := k + 1) (by omega) (by omega)
theorem parr1 : Pall (fun k => ParIs 40#8 40 1 k) 64 := by repeat (first | exact trivial | refine pall_succ ?_ (by show _ = _; kernel_rfl))
theorem parr2 : Pall (fun k => ParIs 40#8 40 2 k) 64 := by repeat (first | exact trivial | refine pall_succ ?_ (by show _ = _; kernel_rfl))
theorem parr3 : Pall (fun k => ParIs 40#8 40 3 k) 64 := by repeat (first | exact trivial | refine pall_succ ?_ (by show _ = _; kernel_rfl))
theorem parr4 : Pall (fun k => ParIs 40#8 40 4 k) 64 := by repeat (first | exact trivial | refine pall_succ ?_ (by show _ = _; kernel_rfl))
theorem parr5 : Pall (fun k => ParIs 40#8 40 5 k) 64 := by repeat (first | exact trivial | refine pall_succ ?_ (by show _ = _; kernel_rfl))
theorem parr6 : Pall (fun k => ParIs 40#8 40 6 k) 64 := by repeat (first | exact trivial | refine pall_succ ?_ (by show _ = _; kernel_rfl))
theorem parr7 : Pall (fun k => ParIs 40#8 40 7 k) 64 := by repeat (first | exact trivial | refine pall_succ ?_ (by show _ = _; kernel_rfl))
theorem parr8 : Pall (fun k => ParIs 40#8 40 8 k) 64 := by repeat (first | exact trivial | refine pall_succ ?_ (by show _ = _; kernel_rfl))
theorem par_r {n k : Nat} (h1 : 1 ≤ n) (h8 : n ≤ 8) (hk : k < 64) : cdb_Parse (wcd 40#8 k n) = some ((40, BitVec.ofNat 64 k, (n : Int), 0, 0, ()), e41) := by
  have : n = 1 ∨ n = 2 ∨ n = 3 ∨ n = 4 ∨ n = 5 ∨ n = 6 ∨ n = 7 ∨ n = 8 := by omega
  rcases this with rfl | rfl | rfl | rfl | rfl | rfl | rfl | rfl
  · exact pall_use (P := fun k => ParIs 40#8 40 1 k) parr1 (b := k + 1) (by omega) (by omega)
  · exact pall_use (P := fun k => ParIs 40#8 40 2 k) parr2 (b := k + 1) (by omega) (by omega)
  · exact pall_use (P := fun k => ParIs 40#8 40 3 k) parr3 (b := k + 1) (by omega) (by omega)
  · exact pall_use (P := fun k => ParIs 40#8 40 4 k) parr4 (b := k + 1) (by omega) (by omega)
  · exact pall_use (P := fun k => ParIs 40#8 40 5 k) parr5 (b := k + 1) (by omega) (by omega)
  · exact pall_use (P := fun k => ParIs 40#8 40 6 k) parr6 (b := k + 1) (by omega) (by omega)
  · exact pall_use (P := fun k => ParIs 40#8 40 7 k) parr7 (b := k + 1) (by omega) (by omega)
  · exact pall_use (P := fun k => ParIs 40#8 40 8 k) parr8 (b := k + 1) (by omega) (by omega)
/-- A write begins; a read; a block is taken; a job ends: with media left open. -/
abbrev CwIs (L n : Nat) : Prop := ∀ (M m : D97) (k : Nat) (a : BitVec 64), cdb_Parse (wcd 42#8 k n) = some ((42, a, (n : Int), 0, 0, ()), e41) → slot_Check (slt m, a, (n : Int), true) = some e41 →
  unit_Command (us L M (rdy m), 0, wcd 42#8 k n) = some (us L M (rdy m), 2, 64 * (n : Int), nb, jb n a 0, e41, ())
abbrev CrIs (L n : Nat) : Prop := ∀ (M m : D97) (k : Nat) (a : BitVec 64) (g : Nat → BitVec 8), cdb_Parse (wcd 40#8 k n) = some ((40, a, (n : Int), 0, 0, ()), e41) → slot_Check (slt m, a, (n : Int), false) = some e41 → slot_Read (slt m, a, (n : Int)) = some (by_ (64 * n) g, e41) →
  unit_Command (us L M (rdy m), 0, wcd 40#8 k n) = some (us L M (rdy m), 1, 64 * (n : Int), by_ (64 * n) g, e43, e41, ())
abbrev FiIs (L n : Nat) : Prop := ∀ (M m : D97) (a : BitVec 64), unit_Finish (us L M (rdy m), 0, jb n a n) = some (us L M (rdy m), e41)
abbrev KeIs (L : Nat) : Prop := ∀ (M m : D97), unit_Keep (us L M (rdy m), 0, e41) = some (us L M (rdy m))
theorem l4 {L : Nat} (h : 1 ≤ L) (hL : L ≤ 4) : L = 1 ∨ L = 2 ∨ L = 3 ∨ L = 4 := by omega
theorem n8 {n : Nat} (h : 1 ≤ n) (hn : n ≤ 8) : n = 1 ∨ n = 2 ∨ n = 3 ∨ n = 4 ∨ n = 5 ∨ n = 6 ∨ n = 7 ∨ n = 8 := by omega
theorem cmd1 (L : Nat) (hl : 1 ≤ L) (hL : L ≤ 4) (op : BitVec 8) (hop : op = 42#8 ∨ op = 40#8) (M m : D97) (k n : Nat) (p c r t) : unit_CommandV (p, c, r, t) (us L M (rdy m), 0, wcd op k n) = unit_CommandV (fun _ => p (wcd op k n), c, r, t) (us L M (rdy m), 0, wcd op k n) := by
  rcases l4 hl hL with rfl | rfl | rfl | rfl <;> rcases hop with rfl | rfl <;> kernel_rfl
theorem cmd2w (L : Nat) (hl : 1 ≤ L) (hL : L ≤ 4) (M m : D97) (k n : Nat) (a : BitVec 64) (c r t) : unit_CommandV (fun _ => some ((42, a, (n : Int), 0, 0, ()), e41), c, r, t) (us L M (rdy m), 0, wcd 42#8 k n) = unit_CommandV (fun _ => some ((42, a, (n : Int), 0, 0, ()), e41), fun _ => c (slt m, a, (n : Int), true), r, t) (us L M (rdy m), 0, wcd 42#8 k n) := by
  rcases l4 hl hL with rfl | rfl | rfl | rfl <;> kernel_rfl
theorem cmd2r (L : Nat) (hl : 1 ≤ L) (hL : L ≤ 4) (M m : D97) (k n : Nat) (a : BitVec 64) (c r t) : unit_CommandV (fun _ => some ((40, a, (n : Int), 0, 0, ()), e41), c, r, t) (us L M (rdy m), 0, wcd 40#8 k n) = unit_CommandV (fun _ => some ((40, a, (n : Int), 0, 0, ()), e41), fun _ => c (slt m, a, (n : Int), false), r, t) (us L M (rdy m), 0, wcd 40#8 k n) := by
  rcases l4 hl hL with rfl | rfl | rfl | rfl <;> kernel_rfl
theorem cmd3r (L : Nat) (hl : 1 ≤ L) (hL : L ≤ 4) (M m : D97) (k n : Nat) (a : BitVec 64) (r t) : unit_CommandV (fun _ => some ((40, a, (n : Int), 0, 0, ()), e41), fun _ => some e41, r, t) (us L M (rdy m), 0, wcd 40#8 k n) = unit_CommandV (fun _ => some ((40, a, (n : Int), 0, 0, ()), e41), fun _ => some e41, fun _ => r (slt m, a, (n : Int)), t) (us L M (rdy m), 0, wcd 40#8 k n) := by
  rcases l4 hl hL with rfl | rfl | rfl | rfl <;> kernel_rfl
theorem cw_run {L n : Nat} (hl : 1 ≤ L) (hL : L ≤ 4) (hn : 1 ≤ n) (hn8 : n ≤ 8) : CwIs L n := by
  intro M m k a h1 h2
  rw [← unit_CommandV_]
  show unit_CommandV (cdb_Parse, slot_Check, slot_Read, job_Take) _ = _
  rw [cmd1 L hl hL _ (.inl rfl), h1, cmd2w L hl hL, h2]
  clear h1 h2
  rcases n8 hn hn8 with rfl | rfl | rfl | rfl | rfl | rfl | rfl | rfl <;> rcases l4 hl hL with rfl | rfl | rfl | rfl <;> kernel_rfl
theorem cr_run {L n : Nat} (hl : 1 ≤ L) (hL : L ≤ 4) (hn : 1 ≤ n) (hn8 : n ≤ 8) : CrIs L n := by
  intro M m k a g h1 h2 h3
  rw [← unit_CommandV_]
  show unit_CommandV (cdb_Parse, slot_Check, slot_Read, job_Take) _ = _
  rw [cmd1 L hl hL _ (.inr rfl), h1, cmd2r L hl hL, h2, cmd3r L hl hL, h3]
  clear h1 h2 h3
  rcases n8 hn hn8 with rfl | rfl | rfl | rfl | rfl | rfl | rfl | rfl <;> rcases l4 hl hL with rfl | rfl | rfl | rfl <;> kernel_rfl
theorem fi_run {L n : Nat} (hl : 1 ≤ L) (hL : L ≤ 4) (hn : 1 ≤ n) (hn8 : n ≤ 8) : FiIs L n := by
  intro M m a
  rcases n8 hn hn8 with rfl | rfl | rfl | rfl | rfl | rfl | rfl | rfl <;> rcases l4 hl hL with rfl | rfl | rfl | rfl <;> kernel_rfl
theorem ke_run {L : Nat} (hl : 1 ≤ L) (hL : L ≤ 4) : KeIs L := by
  intro M m
  rcases l4 hl hL with rfl | rfl | rfl | rfl <;> kernel_rfl
/-- All blocks of all counts. -/
theorem ni {P : Nat → Nat → Prop} (h1 : Pall (P 1) 1) (h2 : Pall (P 2) 2) (h3 : Pall (P 3) 3) (h4 : Pall (P 4) 4) (h5 : Pall (P 5) 5) (h6 : Pall (P 6) 6) (h7 : Pall (P 7) 7) (h8 : Pall (P 8) 8) {n i : Nat} (hi : 1 ≤ i) (hn : i ≤ n) (hm : n ≤ 8) : P n i := by
  rcases n8 (by omega : 1 ≤ n) hm with rfl | rfl | rfl | rfl | rfl | rfl | rfl | rfl
  · exact pall_use h1 hi hn
  · exact pall_use h2 hi hn
  · exact pall_use h3 hi hn
  · exact pall_use h4 hi hn
  · exact pall_use h5 hi hn
  · exact pall_use h6 hi hn
  · exact pall_use h7 hi hn
  · exact pall_use h8 hi hn
theorem jright {n i : Nat} (hi : 1 ≤ i) (hn : i ≤ n) (hn8 : n ≤ 8) : ∀ a : BitVec 64, job_Right (jb n a (i - 1)) = some true := by
  refine ni (P := fun n i => ∀ (a : BitVec 64), job_Right (jb n a (i - 1)) = some true) ?_ ?_ ?_ ?_ ?_ ?_ ?_ ?_ hi hn hn8 <;> repeat (first | exact trivial | refine pall_succ ?_ (by intro a ; kernel_rfl))
theorem concat_ok (x : Nat → BitVec 8) : slices_Concat_byte [nb, by_ 64 x] = some (by_ 64 x) := by kernel_rfl
theorem sel42 : job_selects 42 = some false := by kernel_rfl
/-- A block comes. -/
theorem jtake {m m' : D97} {n i k : Nat} (hi : 1 ≤ i) (hn : i ≤ n) (hn8 : n ≤ 8) (x : Nat → BitVec 8) (hk : k < 1000)
    (hb : ∀ r, job_worker_block ((rdy m, ((42, BitVec.ofNat 64 k, (n : Int), 0, 0, ()), 64 * (n : Int), 64 * (i : Int), r, e41, ()), ()), BitVec.ofNat 64 (k + (i - 1)), by_ 64 x) = some (rdy m', ((42, BitVec.ofNat 64 k, (n : Int), 0, 0, ()), 64 * (n : Int), 64 * (i : Int), r, e41, ()), ())) :
    job_Take (rdy m, jb n (BitVec.ofNat 64 k) (i - 1), by_ 64 x) = some (rdy m', jb n (BitVec.ofNat 64 k) i) := by
  have e1 : w64 (64 * (n : Int) - 64 * ((i - 1 : Nat) : Int)) = 64 * ((n - (i - 1) : Nat) : Int) := by rw [w64_in (by omega) (by omega)]; omega
  have e2 : (bif decide (64 * ((n - (i - 1) : Nat) : Int) < ((by_ 64 x).length : Int)) then 64 * ((n - (i - 1) : Nat) : Int) else ((by_ 64 x).length : Int)) = 64 := by
    rw [by_len, decide_eq_false (by omega)]; rfl
  have e3 : w64 (64 * ((i - 1 : Nat) : Int) + 64) = 64 * (i : Int) := by rw [w64_in (by omega) (by omega)]; omega
  have e4 : w64 (64 * ((i - 1 : Nat) : Int) - 0) = 64 * ((i - 1 : Nat) : Int) := by rw [w64_in (by omega) (by omega)]; omega
  unfold job_Take
  rw [jright hi hn hn8, Option.bind_some, Bool.not_true, cond_false]
  show (chk (decide (0 ≤ (bif decide ((w64 (64 * (n : Int) - 64 * ((i - 1 : Nat) : Int))) < ((by_ 64 x).length : Int)) then (w64 (64 * (n : Int) - 64 * ((i - 1 : Nat) : Int))) else ((by_ 64 x).length : Int) : Int)) && decide ((bif decide ((w64 (64 * (n : Int) - 64 * ((i - 1 : Nat) : Int))) < ((by_ 64 x).length : Int)) then (w64 (64 * (n : Int) - 64 * ((i - 1 : Nat) : Int))) else ((by_ 64 x).length : Int) : Int) ≤ ((by_ 64 x).length : Int)))).bind (fun _ =>
    (slices_Concat_byte ([nb, (by_ 64 x).take (bif decide ((w64 (64 * (n : Int) - 64 * ((i - 1 : Nat) : Int))) < ((by_ 64 x).length : Int)) then (w64 (64 * (n : Int) - 64 * ((i - 1 : Nat) : Int))) else ((by_ 64 x).length : Int) : Int).toNat] : List (List (BitVec 8)))).bind fun r2 => (job_selects 42).bind fun r3 => bif r3 then _ else
    jn (job_Take_L0 Big (e102, e43, w64 (64 * ((i - 1 : Nat) : Int) - 0), rdy m, ((42, BitVec.ofNat 64 k, (n : Int), 0, 0, ()), 64 * (n : Int), w64 (64 * ((i - 1 : Nat) : Int) + (bif decide ((w64 (64 * (n : Int) - 64 * ((i - 1 : Nat) : Int))) < ((by_ 64 x).length : Int)) then (w64 (64 * (n : Int) - 64 * ((i - 1 : Nat) : Int))) else ((by_ 64 x).length : Int))), r2, e41, ()), ())) fun q6 => some (q6.2.2.1, q6.2.2.2.1)) = _
  rw [e1, e2, e3, e4]
  have e5 : (by_ 64 x).take (64 : Int).toNat = by_ 64 x := List.take_of_length_le (by rw [by_len]; decide)
  rw [e5, concat_ok, by_len, sel42]
  show jn (job_Take_L0 Big (e102, e43, 64 * ((i - 1 : Nat) : Int), rdy m, ((42, BitVec.ofNat 64 k, (n : Int), 0, 0, ()), 64 * (n : Int), 64 * (i : Int), by_ 64 x, e41, ()), ())) _ = _
  obtain ⟨B, hB⟩ : ∃ B, Big = B + 2 := ⟨Big - 2, by unfold Big; omega⟩
  have e6 : job_Take_L0 Big (e102, e43, 64 * ((i - 1 : Nat) : Int), rdy m, ((42, BitVec.ofNat 64 k, (n : Int), 0, 0, ()), 64 * (n : Int), 64 * (i : Int), by_ 64 x, e41, ()), ()) = some (.inl (e102, e43, rdy m', ((42, BitVec.ofNat 64 k, (n : Int), 0, 0, ()), 64 * (n : Int), 64 * (i : Int), nb, e41, ()), ())) := by
    rw [hB]
    unfold job_Take_L0
    show (bif decide ((64 : Int) ≤ ((by_ 64 x).length : Int)) then _ else _) = _
    rw [by_len, decide_eq_true (by decide), cond_true]
    show (job_worker_place ((rdy m, ((42, BitVec.ofNat 64 k, (n : Int), 0, 0, ()), 64 * (n : Int), 64 * (i : Int), by_ 64 x, e41, ()), ()), 64 * ((i - 1 : Nat) : Int))).bind _ = _
    rw [place_ok _ _ _ _ _ _ _ _ _ k (i - 1) hk (by omega), Option.bind_some]
    show (chk (decide (0 ≤ (64 : Int)) && decide ((64 : Int) ≤ ((by_ 64 x).length : Int)))).bind (fun _ => (job_worker_block ((rdy m, ((42, BitVec.ofNat 64 k, (n : Int), 0, 0, ()), 64 * (n : Int), 64 * (i : Int), by_ 64 x, e41, ()), ()), BitVec.ofNat 64 (k + (i - 1)), (by_ 64 x).take (64 : Int).toNat)).bind _) = _
    rw [by_len, e5, hb]
    show job_Take_L0 (B + 1) (e102, e43, w64 (64 * ((i - 1 : Nat) : Int) + 64), rdy m', ((42, BitVec.ofNat 64 k, (n : Int), 0, 0, ()), 64 * (n : Int), 64 * (i : Int), (by_ 64 x).drop (64 : Int).toNat, e41, ()), ()) = _
    have e7 : (by_ 64 x).drop (64 : Int).toNat = nb := List.drop_of_length_le (by rw [by_len]; decide)
    rw [e7]
    unfold job_Take_L0
    rfl
  rw [e6]; rfl
theorem tk1 (L : Nat) (hl : 1 ≤ L) (hL : L ≤ 4) (M m : D97) (j : D43) (x : List (BitVec 8)) (p c r t) : unit_TakeV (p, c, r, t) (us L M (rdy m), 0, j, x) = unit_TakeV (p, c, r, fun _ => t (rdy m, j, x)) (us L M (rdy m), 0, j, x) := by
  rcases l4 hl hL with rfl | rfl | rfl | rfl <;> kernel_rfl
theorem tk2 (L : Nat) (hl : 1 ≤ L) (hL : L ≤ 4) (M m m' : D97) (j j' : D43) (x : List (BitVec 8)) (p c r) : unit_TakeV (p, c, r, fun _ => some (rdy m', j')) (us L M (rdy m), 0, j, x) = some (us L M (rdy m'), j') := by
  rcases l4 hl hL with rfl | rfl | rfl | rfl <;> kernel_rfl
/-- A block of a write is taken. -/
theorem take_run {L b k n i : Nat} {g : Nat → BitVec 8} {M : D97} (hl : 1 ≤ L) (hL : L ≤ 4) (hi : 1 ≤ i) (hn : i ≤ n) (hn8 : n ≤ 8) (hk : k + n ≤ b) (hb : b ≤ 64) :
    unit_Take (us L M (rdy (mI b k g (i - 1))), 0, jb n (BitVec.ofNat 64 k) (i - 1), blk g (i - 1)) = some (us L M (rdy (mI b k g i)), jb n (BitVec.ofNat 64 k) i) := by
  rw [← unit_TakeV_]
  show unit_TakeV (cdb_Parse, slot_Check, slot_Read, job_Take) _ = _
  rw [tk1 L hl hL]
  unfold blk
  rw [jtake hi hn hn8 _ (by omega) (m' := mI b k g i), tk2 L hl hL]
  intro r
  have := block_ok (mI_ok (b := b) (k := k) (i := i - 1) (g := g) (by omega) hb) (by simp [mI]; omega) (k + (i - 1)) (blk g (i - 1)) (by omega) (blk_len ..) (n : Int) (64 * (n : Int)) (64 * (i : Int)) (BitVec.ofNat 64 k) r
  rw [← mI_succ, show i - 1 + 1 = i by omega] at this
  exact this
/-- A write begins; a read. -/
theorem write_run {L b k n : Nat} {g : Nat → BitVec 8} {M : D97} (hl : 1 ≤ L) (hL : L ≤ 4) (hn : 1 ≤ n) (hn8 : n ≤ 8) (hk : k + n ≤ b) (hb : b ≤ 64) :
    unit_Command (us L M (rdy (mI b k g 0)), 0, wcd 42#8 k n) = some (us L M (rdy (mI b k g 0)), 2, 64 * (n : Int), nb, jb n (BitVec.ofNat 64 k) 0, e41, ()) :=
  cw_run hl hL hn hn8 M _ k _ (par_w hn hn8 (by omega)) (check_ok (mI_ok (by omega) hb) k n true hk)
theorem read_run {L b k n : Nat} {g : Nat → BitVec 8} {M : D97} (hl : 1 ≤ L) (hL : L ≤ 4) (hn : 1 ≤ n) (hn8 : n ≤ 8) (hk : k + n ≤ b) (hb : b ≤ 64) :
    unit_Command (us L M (rdy (mI b k g n)), 0, wcd 40#8 k n) = some (us L M (rdy (mI b k g n)), 1, 64 * (n : Int), by_ (64 * n) g, e43, e41, ()) :=
  cr_run hl hL hn hn8 M _ k _ g (par_r hn hn8 (by omega)) (check_ok (mI_ok hk hb) k n false hk) (mI_read hk hb)
end Go.Proofs.YthnpgnabfcaaiaaGreat
/- Bulk-only writes and reads: each step; the gadget over what the transport answers, the transport over what the units answer. -/
namespace Go.Proofs.YthnpgnabfcaaiaaGreat
open Go Go.Re
set_option linter.unusedVariables false
set_option linter.unusedSimpArgs false
set_option maxRecDepth 100000
set_option maxHeartbeats 4000000
def tb (t : Bool) : Int := bif t then 1 else 0
/-- An endpoint; one that has sent a packet that is not acknowledged, or just was. -/
def ep (h t : Bool) : D114 := (h, tb t, false, 0, nb, ())
def af (h t ack : Bool) (d : List (BitVec 8)) : D114 := bif ack then ep h (!t) else (h, tb t, true, 0, d, ())
def gs (c : D22) (u : List D102) (a b : D114) (k : D45) : D51 := (c, u, (5, 0, false, 1, 0, ()), e32, [a, b, e114, e114], k, e49, ())
def wW (n k : Nat) : D36 := (7#32, BitVec.ofInt 32 (64 * (n : Int)), false, 0, wcd 42#8 k n, ())
def wR (e n k : Nat) : D36 := (8#32, BitVec.ofInt 32 (64 * (n : Int) + (e : Int)), true, 0, wcd 40#8 k n, ())
def wB (w : D36) : List (BitVec 8) := ((reticuleref19_Bytes w).getD (nb, false)).1
def kO (n k : Nat) (a : BitVec 64) (i : Nat) : D45 := (2, wW n k, nb, jb n a i, true, 64 * ((n - i : Nat) : Int), 64 * (i : Int), 0, e41, false, false, ())
def kI (e n k : Nat) (g : Nat → BitVec 8) (i : Nat) : D45 := (1, wR e n k, by_ (64 * (n - i)) (fun j => g (64 * i + j)), e43, false, 64 * ((n - i : Nat) : Int) + (e : Int), 64 * (i : Int), 0, e41, false, false, ())
def kS (w : D36) (left done : Int) (h : Bool) : D45 := (3, w, nb, e43, false, left, done, 0, e41, h, false, ())
def sB (tag : BitVec 8) (res : BitVec 8) : List (BitVec 8) := [85#8, 83#8, 66#8, 83#8, tag, 0#8, 0#8, 0#8, res, 0#8, 0#8, 0#8, 0#8]
abbrev oev (t : Bool) (x : List (BitVec 8)) : D61 := (3, 5, 2, 0, tb t, false, 0, 0#64, x, ())
abbrev iev (ack : Bool) : D61 := (4, 5, 1, 0, 0, ack, 0, 0#64, nb, ())
abbrev ack1 : D57 := (1, 0, nb, ())
/-! ### the gadget over the transport -/
section
variable {c1 bi d : Int} {s t : Bool} {tg : Bool} {u u' : List D102} {a b : D114} {k : D45} {x : List (BitVec 8)} {a0 : Int} {a1 : D36} {a2 : List (BitVec 8)} {a3 : D43} {a4 : Bool} {a5 a6 a7 : Int} {a8 : D41} {h : Bool}
theorem go64 {y : Nat → BitVec 8} (h1 : bulk_Ready k = some true) (h2 : bulk_Take (k, u, by_ 64 y, t) = some ((a0, a1, a2, a3, a4, a5, a6, a7, a8, false, false, ()), u')) : gadget_StepT (gs (c1, bi, d, s, t, ()) u a (ep false tg) k, oev tg (by_ 64 y)) = some (gs (c1, bi, d, s, t, ()) u' a (ep false (!tg)) (a0, a1, a2, a3, a4, a5, a6, a7, a8, false, false, ()), ack1) := by
  rw [gadget_StepTB_]
  have e1 : ∀ br bn bt bs, gadget_StepKB (br, bn, bt, bs) (gs (c1, bi, d, s, t, ()) u a (ep false tg) k, oev tg (by_ 64 y)) true = gadget_StepKB (fun _ => br k, bn, bt, bs) (gs (c1, bi, d, s, t, ()) u a (ep false tg) k, oev tg (by_ 64 y)) true := by intro br bn bt bs; cases s <;> kernel_rfl
  have e2 : ∀ bn bt bs, gadget_StepKB (fun _ => some true, bn, bt, bs) (gs (c1, bi, d, s, t, ()) u a (ep false tg) k, oev tg (by_ 64 y)) true = gadget_StepKB (fun _ => some true, bn, fun _ => bt (k, u, by_ 64 y, t), bs) (gs (c1, bi, d, s, t, ()) u a (ep false tg) k, oev tg (by_ 64 y)) true := by intro bn bt bs; cases s <;> cases tg <;> kernel_rfl
  refine (e1 bulk_Ready bulk_Next bulk_Take bulk_Sent).trans ?_
  rw [h1]
  refine (e2 bulk_Next bulk_Take bulk_Sent).trans ?_
  rw [h2]
  clear h1 h2 e1 e2
  cases s <;> cases tg <;> kernel_rfl
theorem ga64 {y : Nat → BitVec 8} {r : Bool} (h1 : bulk_Ready k = some r) : gadget_StepT (gs (c1, bi, d, s, t, ()) u a (ep false (!tg)) k, oev tg (by_ 64 y)) = some (gs (c1, bi, d, s, t, ()) u a (ep false (!tg)) k, ack1) := by
  rw [gadget_StepTB_]
  have e1 : ∀ br bn bt bs, gadget_StepKB (br, bn, bt, bs) (gs (c1, bi, d, s, t, ()) u a (ep false (!tg)) k, oev tg (by_ 64 y)) true = gadget_StepKB (fun _ => br k, bn, bt, bs) (gs (c1, bi, d, s, t, ()) u a (ep false (!tg)) k, oev tg (by_ 64 y)) true := by intro br bn bt bs; cases s <;> kernel_rfl
  refine (e1 bulk_Ready bulk_Next bulk_Take bulk_Sent).trans ?_
  rw [h1]
  clear h1 e1
  cases s <;> cases tg <;> kernel_rfl
theorem go31 {x0 x1 x2 x3 x4 x5 x6 x7 x8 x9 y0 y1 y2 y3 y4 y5 y6 y7 y8 y9 z0 z1 z2 z3 z4 z5 z6 z7 z8 z9 w0 : BitVec 8} (h1 : bulk_Ready k = some true) (h2 : bulk_Take (k, u, [x0, x1, x2, x3, x4, x5, x6, x7, x8, x9, y0, y1, y2, y3, y4, y5, y6, y7, y8, y9, z0, z1, z2, z3, z4, z5, z6, z7, z8, z9, w0], t) = some ((a0, a1, a2, a3, a4, a5, a6, a7, a8, false, false, ()), u')) : gadget_StepT (gs (c1, bi, d, s, t, ()) u a (ep false tg) k, oev tg ([x0, x1, x2, x3, x4, x5, x6, x7, x8, x9, y0, y1, y2, y3, y4, y5, y6, y7, y8, y9, z0, z1, z2, z3, z4, z5, z6, z7, z8, z9, w0])) = some (gs (c1, bi, d, s, t, ()) u' a (ep false (!tg)) (a0, a1, a2, a3, a4, a5, a6, a7, a8, false, false, ()), ack1) := by
  rw [gadget_StepTB_]
  have e1 : ∀ br bn bt bs, gadget_StepKB (br, bn, bt, bs) (gs (c1, bi, d, s, t, ()) u a (ep false tg) k, oev tg ([x0, x1, x2, x3, x4, x5, x6, x7, x8, x9, y0, y1, y2, y3, y4, y5, y6, y7, y8, y9, z0, z1, z2, z3, z4, z5, z6, z7, z8, z9, w0])) true = gadget_StepKB (fun _ => br k, bn, bt, bs) (gs (c1, bi, d, s, t, ()) u a (ep false tg) k, oev tg ([x0, x1, x2, x3, x4, x5, x6, x7, x8, x9, y0, y1, y2, y3, y4, y5, y6, y7, y8, y9, z0, z1, z2, z3, z4, z5, z6, z7, z8, z9, w0])) true := by intro br bn bt bs; cases s <;> kernel_rfl
  have e2 : ∀ bn bt bs, gadget_StepKB (fun _ => some true, bn, bt, bs) (gs (c1, bi, d, s, t, ()) u a (ep false tg) k, oev tg ([x0, x1, x2, x3, x4, x5, x6, x7, x8, x9, y0, y1, y2, y3, y4, y5, y6, y7, y8, y9, z0, z1, z2, z3, z4, z5, z6, z7, z8, z9, w0])) true = gadget_StepKB (fun _ => some true, bn, fun _ => bt (k, u, [x0, x1, x2, x3, x4, x5, x6, x7, x8, x9, y0, y1, y2, y3, y4, y5, y6, y7, y8, y9, z0, z1, z2, z3, z4, z5, z6, z7, z8, z9, w0], t), bs) (gs (c1, bi, d, s, t, ()) u a (ep false tg) k, oev tg ([x0, x1, x2, x3, x4, x5, x6, x7, x8, x9, y0, y1, y2, y3, y4, y5, y6, y7, y8, y9, z0, z1, z2, z3, z4, z5, z6, z7, z8, z9, w0])) true := by intro bn bt bs; cases s <;> cases tg <;> kernel_rfl
  refine (e1 bulk_Ready bulk_Next bulk_Take bulk_Sent).trans ?_
  rw [h1]
  refine (e2 bulk_Next bulk_Take bulk_Sent).trans ?_
  rw [h2]
  clear h1 h2 e1 e2
  cases s <;> cases tg <;> kernel_rfl
theorem ga31 {x0 x1 x2 x3 x4 x5 x6 x7 x8 x9 y0 y1 y2 y3 y4 y5 y6 y7 y8 y9 z0 z1 z2 z3 z4 z5 z6 z7 z8 z9 w0 : BitVec 8} {r : Bool} (h1 : bulk_Ready k = some r) : gadget_StepT (gs (c1, bi, d, s, t, ()) u a (ep false (!tg)) k, oev tg ([x0, x1, x2, x3, x4, x5, x6, x7, x8, x9, y0, y1, y2, y3, y4, y5, y6, y7, y8, y9, z0, z1, z2, z3, z4, z5, z6, z7, z8, z9, w0])) = some (gs (c1, bi, d, s, t, ()) u a (ep false (!tg)) k, ack1) := by
  rw [gadget_StepTB_]
  have e1 : ∀ br bn bt bs, gadget_StepKB (br, bn, bt, bs) (gs (c1, bi, d, s, t, ()) u a (ep false (!tg)) k, oev tg ([x0, x1, x2, x3, x4, x5, x6, x7, x8, x9, y0, y1, y2, y3, y4, y5, y6, y7, y8, y9, z0, z1, z2, z3, z4, z5, z6, z7, z8, z9, w0])) true = gadget_StepKB (fun _ => br k, bn, bt, bs) (gs (c1, bi, d, s, t, ()) u a (ep false (!tg)) k, oev tg ([x0, x1, x2, x3, x4, x5, x6, x7, x8, x9, y0, y1, y2, y3, y4, y5, y6, y7, y8, y9, z0, z1, z2, z3, z4, z5, z6, z7, z8, z9, w0])) true := by intro br bn bt bs; cases s <;> kernel_rfl
  refine (e1 bulk_Ready bulk_Next bulk_Take bulk_Sent).trans ?_
  rw [h1]
  clear h1 e1
  cases s <;> cases tg <;> kernel_rfl
theorem gi64 {y : Nat → BitVec 8} (ack : Bool) (h1 : bulk_Next k = some (by_ 64 y, true)) (h2 : bulk_Sent (k, u, t) = some ((a0, a1, a2, a3, a4, a5, a6, a7, a8, h, false, ()), u')) : gadget_StepT (gs (c1, bi, d, s, t, ()) u (ep false tg) b k, iev ack) = some (gs (c1, bi, d, s, t, ()) u' (af h tg ack (by_ 64 y)) b (a0, a1, a2, a3, a4, a5, a6, a7, a8, h, false, ()), 4, tb tg, by_ 64 y, ()) := by
  rw [gadget_StepTB_]
  have e1 : ∀ br bn bt bs, gadget_StepKB (br, bn, bt, bs) (gs (c1, bi, d, s, t, ()) u (ep false tg) b k, iev ack) true = gadget_StepKB (br, fun _ => bn k, bt, bs) (gs (c1, bi, d, s, t, ()) u (ep false tg) b k, iev ack) true := by intro br bn bt bs; cases s <;> kernel_rfl
  have e2 : ∀ br bt bs, gadget_StepKB (br, fun _ => some (by_ 64 y, true), bt, bs) (gs (c1, bi, d, s, t, ()) u (ep false tg) b k, iev ack) true = gadget_StepKB (br, fun _ => some (by_ 64 y, true), bt, fun _ => bs (k, u, t)) (gs (c1, bi, d, s, t, ()) u (ep false tg) b k, iev ack) true := by intro br bt bs; cases s <;> cases tg <;> cases ack <;> kernel_rfl
  refine (e1 bulk_Ready bulk_Next bulk_Take bulk_Sent).trans ?_
  rw [h1]
  refine (e2 bulk_Ready bulk_Take bulk_Sent).trans ?_
  rw [h2]
  clear h1 h2 e1 e2
  cases s <;> cases tg <;> cases ack <;> cases h <;> kernel_rfl
theorem gj64 {y : Nat → BitVec 8} {r : List (BitVec 8) × Bool} (h1 : bulk_Next k = some r) : gadget_StepT (gs (c1, bi, d, s, t, ()) u (af h tg false (by_ 64 y)) b k, iev true) = some (gs (c1, bi, d, s, t, ()) u (af h tg true (by_ 64 y)) b k, 4, tb tg, by_ 64 y, ()) := by
  rw [gadget_StepTB_]
  have e1 : ∀ br bn bt bs, gadget_StepKB (br, bn, bt, bs) (gs (c1, bi, d, s, t, ()) u (af h tg false (by_ 64 y)) b k, iev true) true = gadget_StepKB (br, fun _ => bn k, bt, bs) (gs (c1, bi, d, s, t, ()) u (af h tg false (by_ 64 y)) b k, iev true) true := by intro br bn bt bs; cases s <;> kernel_rfl
  refine (e1 bulk_Ready bulk_Next bulk_Take bulk_Sent).trans ?_
  rw [h1]
  clear h1 e1
  cases s <;> cases tg <;> cases h <;> kernel_rfl
theorem gi13 {x0 x1 x2 x3 x4 x5 x6 x7 x8 x9 y0 y1 y2 : BitVec 8} (ack : Bool) (h1 : bulk_Next k = some ([x0, x1, x2, x3, x4, x5, x6, x7, x8, x9, y0, y1, y2], true)) (h2 : bulk_Sent (k, u, t) = some ((a0, a1, a2, a3, a4, a5, a6, a7, a8, h, false, ()), u')) : gadget_StepT (gs (c1, bi, d, s, t, ()) u (ep false tg) b k, iev ack) = some (gs (c1, bi, d, s, t, ()) u' (af h tg ack ([x0, x1, x2, x3, x4, x5, x6, x7, x8, x9, y0, y1, y2])) b (a0, a1, a2, a3, a4, a5, a6, a7, a8, h, false, ()), 4, tb tg, [x0, x1, x2, x3, x4, x5, x6, x7, x8, x9, y0, y1, y2], ()) := by
  rw [gadget_StepTB_]
  have e1 : ∀ br bn bt bs, gadget_StepKB (br, bn, bt, bs) (gs (c1, bi, d, s, t, ()) u (ep false tg) b k, iev ack) true = gadget_StepKB (br, fun _ => bn k, bt, bs) (gs (c1, bi, d, s, t, ()) u (ep false tg) b k, iev ack) true := by intro br bn bt bs; cases s <;> kernel_rfl
  have e2 : ∀ br bt bs, gadget_StepKB (br, fun _ => some ([x0, x1, x2, x3, x4, x5, x6, x7, x8, x9, y0, y1, y2], true), bt, bs) (gs (c1, bi, d, s, t, ()) u (ep false tg) b k, iev ack) true = gadget_StepKB (br, fun _ => some ([x0, x1, x2, x3, x4, x5, x6, x7, x8, x9, y0, y1, y2], true), bt, fun _ => bs (k, u, t)) (gs (c1, bi, d, s, t, ()) u (ep false tg) b k, iev ack) true := by intro br bt bs; cases s <;> cases tg <;> cases ack <;> kernel_rfl
  refine (e1 bulk_Ready bulk_Next bulk_Take bulk_Sent).trans ?_
  rw [h1]
  refine (e2 bulk_Ready bulk_Take bulk_Sent).trans ?_
  rw [h2]
  clear h1 h2 e1 e2
  cases s <;> cases tg <;> cases ack <;> cases h <;> kernel_rfl
theorem gj13 {x0 x1 x2 x3 x4 x5 x6 x7 x8 x9 y0 y1 y2 : BitVec 8} {r : List (BitVec 8) × Bool} (h1 : bulk_Next k = some r) : gadget_StepT (gs (c1, bi, d, s, t, ()) u (af h tg false ([x0, x1, x2, x3, x4, x5, x6, x7, x8, x9, y0, y1, y2])) b k, iev true) = some (gs (c1, bi, d, s, t, ()) u (af h tg true ([x0, x1, x2, x3, x4, x5, x6, x7, x8, x9, y0, y1, y2])) b k, 4, tb tg, [x0, x1, x2, x3, x4, x5, x6, x7, x8, x9, y0, y1, y2], ()) := by
  rw [gadget_StepTB_]
  have e1 : ∀ br bn bt bs, gadget_StepKB (br, bn, bt, bs) (gs (c1, bi, d, s, t, ()) u (af h tg false ([x0, x1, x2, x3, x4, x5, x6, x7, x8, x9, y0, y1, y2])) b k, iev true) true = gadget_StepKB (br, fun _ => bn k, bt, bs) (gs (c1, bi, d, s, t, ()) u (af h tg false ([x0, x1, x2, x3, x4, x5, x6, x7, x8, x9, y0, y1, y2])) b k, iev true) true := by intro br bn bt bs; cases s <;> kernel_rfl
  refine (e1 bulk_Ready bulk_Next bulk_Take bulk_Sent).trans ?_
  rw [h1]
  clear h1 e1
  cases s <;> cases tg <;> cases h <;> kernel_rfl
theorem gi0  (ack : Bool) (h1 : bulk_Next k = some (nb, true)) (h2 : bulk_Sent (k, u, t) = some ((a0, a1, a2, a3, a4, a5, a6, a7, a8, h, false, ()), u')) : gadget_StepT (gs (c1, bi, d, s, t, ()) u (ep false tg) b k, iev ack) = some (gs (c1, bi, d, s, t, ()) u' (af h tg ack (nb)) b (a0, a1, a2, a3, a4, a5, a6, a7, a8, h, false, ()), 4, tb tg, nb, ()) := by
  rw [gadget_StepTB_]
  have e1 : ∀ br bn bt bs, gadget_StepKB (br, bn, bt, bs) (gs (c1, bi, d, s, t, ()) u (ep false tg) b k, iev ack) true = gadget_StepKB (br, fun _ => bn k, bt, bs) (gs (c1, bi, d, s, t, ()) u (ep false tg) b k, iev ack) true := by intro br bn bt bs; cases s <;> kernel_rfl
  have e2 : ∀ br bt bs, gadget_StepKB (br, fun _ => some (nb, true), bt, bs) (gs (c1, bi, d, s, t, ()) u (ep false tg) b k, iev ack) true = gadget_StepKB (br, fun _ => some (nb, true), bt, fun _ => bs (k, u, t)) (gs (c1, bi, d, s, t, ()) u (ep false tg) b k, iev ack) true := by intro br bt bs; cases s <;> cases tg <;> cases ack <;> kernel_rfl
  refine (e1 bulk_Ready bulk_Next bulk_Take bulk_Sent).trans ?_
  rw [h1]
  refine (e2 bulk_Ready bulk_Take bulk_Sent).trans ?_
  rw [h2]
  clear h1 h2 e1 e2
  cases s <;> cases tg <;> cases ack <;> cases h <;> kernel_rfl
theorem gj0  {r : List (BitVec 8) × Bool} (h1 : bulk_Next k = some r) : gadget_StepT (gs (c1, bi, d, s, t, ()) u (af h tg false (nb)) b k, iev true) = some (gs (c1, bi, d, s, t, ()) u (af h tg true (nb)) b k, 4, tb tg, nb, ()) := by
  rw [gadget_StepTB_]
  have e1 : ∀ br bn bt bs, gadget_StepKB (br, bn, bt, bs) (gs (c1, bi, d, s, t, ()) u (af h tg false (nb)) b k, iev true) true = gadget_StepKB (br, fun _ => bn k, bt, bs) (gs (c1, bi, d, s, t, ()) u (af h tg false (nb)) b k, iev true) true := by intro br bn bt bs; cases s <;> kernel_rfl
  refine (e1 bulk_Ready bulk_Next bulk_Take bulk_Sent).trans ?_
  rw [h1]
  clear h1 e1
  cases s <;> cases tg <;> cases h <;> kernel_rfl
theorem gh (ack : Bool) {r : List (BitVec 8) × Bool} (h1 : bulk_Next k = some r) : gadget_StepT (gs (c1, bi, d, s, t, ()) u (ep true tg) b k, iev ack) = some (gs (c1, bi, d, s, t, ()) u (ep true tg) b k, 3, 0, nb, ()) := by
  rw [gadget_StepTB_]
  have e1 : ∀ br bn bt bs, gadget_StepKB (br, bn, bt, bs) (gs (c1, bi, d, s, t, ()) u (ep true tg) b k, iev ack) true = gadget_StepKB (br, fun _ => bn k, bt, bs) (gs (c1, bi, d, s, t, ()) u (ep true tg) b k, iev ack) true := by intro br bn bt bs; cases s <;> kernel_rfl
  refine (e1 bulk_Ready bulk_Next bulk_Take bulk_Sent).trans ?_
  rw [h1]
  clear h1 e1
  cases s <;> cases tg <;> cases ack <;> kernel_rfl
theorem xc (t2 : Bool) (l : List Bool) (N : Int) (hk : a0 = 3) : reticuletop_line_clearT ((gs (c1, bi, d, s, t, ()) u (ep true tg) (ep false t2) (a0, a1, a2, a3, a4, a5, a6, a7, a8, h, false, ()), l, N, ()), 129) = some ((gs (c1, bi, d, s, t, ()) u (ep false false) (ep false t2) (a0, a1, a2, a3, a4, a5, a6, a7, a8, h, false, ()), l, N, ()), true) := by
  subst hk
  cases s <;> cases tg <;> cases t2 <;> kernel_rfl
end
/-! ### the transport over the units -/
theorem xw {L n : Nat} (hl : 1 ≤ L) (hL : L ≤ 4) (hn : 1 ≤ n) (hn8 : n ≤ 8) (M : D97) (v : D102) (u : List D102) (k : Nat) (t : Bool) (at_ : BitVec 64) (h : unit_Command (us L M v, 0, wcd 42#8 k n) = some (u, 2, 64 * (n : Int), nb, jb n at_ 0, e41, ())) : bulk_Take (e45, us L M v, wB (wW n k), t) = some (kO n k at_ 0, u) := by
  have e1 : ∀ c x f kp, bulk_TakeU (c, x, f, kp) (e45, us L M v, wB (wW n k), t) = bulk_TakeU (fun _ => c (us L M v, 0, wcd 42#8 k n), x, f, kp) (e45, us L M v, wB (wW n k), t) := by
    intro c x f kp
    clear h
    rcases n8 hn hn8 with rfl | rfl | rfl | rfl | rfl | rfl | rfl | rfl <;> rcases l4 hl hL with rfl | rfl | rfl | rfl <;> kernel_rfl
  rw [← bulk_TakeU_]
  refine (e1 unit_Command unit_Take unit_Finish unit_Keep).trans ?_
  rw [h]
  clear h e1
  rcases n8 hn hn8 with rfl | rfl | rfl | rfl | rfl | rfl | rfl | rfl <;> rcases l4 hl hL with rfl | rfl | rfl | rfl <;> cases t <;> kernel_rfl
theorem xr0 {L n : Nat} (hl : 1 ≤ L) (hL : L ≤ 4) (hn : 1 ≤ n) (hn8 : n ≤ 8) (M : D97) (v : D102) (u : List D102) (k : Nat) (t : Bool) (g : Nat → BitVec 8) (h : unit_Command (us L M v, 0, wcd 40#8 k n) = some (u, 1, 64 * (n : Int), by_ (64 * n) g, e43, e41, ())) : bulk_Take (e45, us L M v, wB (wR 0 n k), t) = some (kI 0 n k g 0, u) := by
  have e1 : ∀ c x f kp, bulk_TakeU (c, x, f, kp) (e45, us L M v, wB (wR 0 n k), t) = bulk_TakeU (fun _ => c (us L M v, 0, wcd 40#8 k n), x, f, kp) (e45, us L M v, wB (wR 0 n k), t) := by
    intro c x f kp
    clear h
    rcases n8 hn hn8 with rfl | rfl | rfl | rfl | rfl | rfl | rfl | rfl <;> rcases l4 hl hL with rfl | rfl | rfl | rfl <;> kernel_rfl
  rw [← bulk_TakeU_]
  refine (e1 unit_Command unit_Take unit_Finish unit_Keep).trans ?_
  rw [h]
  clear h e1
  rcases n8 hn hn8 with rfl | rfl | rfl | rfl | rfl | rfl | rfl | rfl <;> rcases l4 hl hL with rfl | rfl | rfl | rfl <;> cases t <;> kernel_rfl
theorem xr5 {L n : Nat} (hl : 1 ≤ L) (hL : L ≤ 4) (hn : 1 ≤ n) (hn8 : n ≤ 8) (M : D97) (v : D102) (u : List D102) (k : Nat) (t : Bool) (g : Nat → BitVec 8) (h : unit_Command (us L M v, 0, wcd 40#8 k n) = some (u, 1, 64 * (n : Int), by_ (64 * n) g, e43, e41, ())) : bulk_Take (e45, us L M v, wB (wR 5 n k), t) = some (kI 5 n k g 0, u) := by
  have e1 : ∀ c x f kp, bulk_TakeU (c, x, f, kp) (e45, us L M v, wB (wR 5 n k), t) = bulk_TakeU (fun _ => c (us L M v, 0, wcd 40#8 k n), x, f, kp) (e45, us L M v, wB (wR 5 n k), t) := by
    intro c x f kp
    clear h
    rcases n8 hn hn8 with rfl | rfl | rfl | rfl | rfl | rfl | rfl | rfl <;> rcases l4 hl hL with rfl | rfl | rfl | rfl <;> kernel_rfl
  rw [← bulk_TakeU_]
  refine (e1 unit_Command unit_Take unit_Finish unit_Keep).trans ?_
  rw [h]
  clear h e1
  rcases n8 hn hn8 with rfl | rfl | rfl | rfl | rfl | rfl | rfl | rfl <;> rcases l4 hl hL with rfl | rfl | rfl | rfl <;> cases t <;> kernel_rfl
theorem xd1 {n i : Nat} (hi : 1 ≤ i) (hn : i ≤ n) (hn8 : n ≤ 8) : ∀ (u u1 : List D102) (t : Bool) (k : Nat) (at_ : BitVec 64) (y : Nat → BitVec 8) (c : (List D102) × Int × (List (BitVec 8)) → Option ((List D102) × D126)) (x : (List D102) × Int × D43 × (List (BitVec 8)) → Option ((List D102) × D43)) (f : (List D102) × Int × D43 → Option ((List D102) × D41)) (kp : (List D102) × Int × D41 → Option (List D102)), bulk_TakeU (c, x, f, kp) (kO n k at_ (i - 1), u, by_ 64 y, t) = bulk_TakeU (c, fun _ => x (u, 0, jb n at_ (i - 1), by_ 64 y), f, kp) (kO n k at_ (i - 1), u, by_ 64 y, t) := by
  refine ni (P := fun n i => ∀ (u u1 : List D102) (t : Bool) (k : Nat) (at_ : BitVec 64) (y : Nat → BitVec 8) (c : (List D102) × Int × (List (BitVec 8)) → Option ((List D102) × D126)) (x : (List D102) × Int × D43 × (List (BitVec 8)) → Option ((List D102) × D43)) (f : (List D102) × Int × D43 → Option ((List D102) × D41)) (kp : (List D102) × Int × D41 → Option (List D102)), bulk_TakeU (c, x, f, kp) (kO n k at_ (i - 1), u, by_ 64 y, t) = bulk_TakeU (c, fun _ => x (u, 0, jb n at_ (i - 1), by_ 64 y), f, kp) (kO n k at_ (i - 1), u, by_ 64 y, t)) ?_ ?_ ?_ ?_ ?_ ?_ ?_ ?_ hi hn hn8 <;> repeat (first | exact trivial | refine pall_succ ?_ (by intro u u1 t k at_ y c x f kp; kernel_rfl))
theorem xd2 {n i : Nat} (hi : 1 ≤ i) (hn : i ≤ n) (hn8 : n ≤ 8) : ∀ (u u1 : List D102) (t : Bool) (k : Nat) (at_ : BitVec 64) (y : Nat → BitVec 8) (c : (List D102) × Int × (List (BitVec 8)) → Option ((List D102) × D126)) (f : (List D102) × Int × D43 → Option ((List D102) × D41)) (kp : (List D102) × Int × D41 → Option (List D102)), i = n ∨ bulk_TakeU (c, fun _ => some (u1, jb n at_ i), f, kp) (kO n k at_ (i - 1), u, by_ 64 y, t) = some (kO n k at_ i, u1) := by
  refine ni (P := fun n i => ∀ (u u1 : List D102) (t : Bool) (k : Nat) (at_ : BitVec 64) (y : Nat → BitVec 8) (c : (List D102) × Int × (List (BitVec 8)) → Option ((List D102) × D126)) (f : (List D102) × Int × D43 → Option ((List D102) × D41)) (kp : (List D102) × Int × D41 → Option (List D102)), i = n ∨ bulk_TakeU (c, fun _ => some (u1, jb n at_ i), f, kp) (kO n k at_ (i - 1), u, by_ 64 y, t) = some (kO n k at_ i, u1)) ?_ ?_ ?_ ?_ ?_ ?_ ?_ ?_ hi hn hn8 <;> repeat (first | exact trivial | refine pall_succ ?_ (by intro u u1 t k at_ y c f kp; first | exact .inl rfl | (right; cases t <;> kernel_rfl)))
theorem xl1 {n : Nat} (hn : 1 ≤ n) (hn8 : n ≤ 8) : ∀ (u u1 : List D102) (t : Bool) (k : Nat) (at_ : BitVec 64) (y : Nat → BitVec 8) (c : (List D102) × Int × (List (BitVec 8)) → Option ((List D102) × D126)) (f : (List D102) × Int × D43 → Option ((List D102) × D41)) (kp : (List D102) × Int × D41 → Option (List D102)), bulk_TakeU (c, fun _ => some (u1, jb n at_ n), f, kp) (kO n k at_ (n - 1), u, by_ 64 y, t) = bulk_TakeU (c, fun _ => some (u1, jb n at_ n), fun _ => f (u1, 0, jb n at_ n), kp) (kO n k at_ (n - 1), u, by_ 64 y, t) := by
  intro u u1 t k at_ y c f kp; rcases n8 hn hn8 with rfl | rfl | rfl | rfl | rfl | rfl | rfl | rfl <;> kernel_rfl
theorem xl2 {n : Nat} (hn : 1 ≤ n) (hn8 : n ≤ 8) : ∀ (u u1 : List D102) (t : Bool) (k : Nat) (at_ : BitVec 64) (y : Nat → BitVec 8) (u2 : List D102) (c : (List D102) × Int × (List (BitVec 8)) → Option ((List D102) × D126)) (kp : (List D102) × Int × D41 → Option (List D102)), bulk_TakeU (c, fun _ => some (u1, jb n at_ n), fun _ => some (u2, e41), kp) (kO n k at_ (n - 1), u, by_ 64 y, t) = bulk_TakeU (c, fun _ => some (u1, jb n at_ n), fun _ => some (u2, e41), fun _ => kp (u2, 0, e41)) (kO n k at_ (n - 1), u, by_ 64 y, t) := by
  intro u u1 t k at_ y u2 c kp; rcases n8 hn hn8 with rfl | rfl | rfl | rfl | rfl | rfl | rfl | rfl <;> kernel_rfl
theorem xl4 {n : Nat} (hn : 1 ≤ n) (hn8 : n ≤ 8) : ∀ (u u1 : List D102) (t : Bool) (k : Nat) (at_ : BitVec 64) (y : Nat → BitVec 8) (u2 u3 : List D102) (c : (List D102) × Int × (List (BitVec 8)) → Option ((List D102) × D126)), bulk_TakeU (c, fun _ => some (u1, jb n at_ n), fun _ => some (u2, e41), fun _ => some u3) (kO n k at_ (n - 1), u, by_ 64 y, t) = some (kS (wW n k) 0 (64 * (n : Int)) false, u3) := by
  intro u u1 t k at_ y u2 u3 c; cases t <;> rcases n8 hn hn8 with rfl | rfl | rfl | rfl | rfl | rfl | rfl | rfl <;> kernel_rfl
theorem ro {n i : Nat} (hi : 1 ≤ i) (hn : i ≤ n) (hn8 : n ≤ 8) : ∀ (k : Nat) (at_ : BitVec 64), bulk_Ready (kO n k at_ (i - 1)) = some true := by
  refine ni (P := fun n i => ∀ (k : Nat) (at_ : BitVec 64), bulk_Ready (kO n k at_ (i - 1)) = some true) ?_ ?_ ?_ ?_ ?_ ?_ ?_ ?_ hi hn hn8 <;> repeat (first | exact trivial | refine pall_succ ?_ (by intro k at_; kernel_rfl))
theorem roi {n i : Nat} (hi : 1 ≤ i) (hn : i ≤ n) (hn8 : n ≤ 8) : ∀ (k : Nat) (at_ : BitVec 64), i = n ∨ bulk_Ready (kO n k at_ i) = some true := by
  refine ni (P := fun n i => ∀ (k : Nat) (at_ : BitVec 64), i = n ∨ bulk_Ready (kO n k at_ i) = some true) ?_ ?_ ?_ ?_ ?_ ?_ ?_ ?_ hi hn hn8 <;> repeat (first | exact trivial | refine pall_succ ?_ (by intro k at_; first | exact .inl rfl | (right; kernel_rfl)))
theorem ro0 {n : Nat} (hn : 1 ≤ n) (hn8 : n ≤ 8) : ∀ (k : Nat) (at_ : BitVec 64), bulk_Ready (kO n k at_ 0) = some true := by
  intro k at_; rcases n8 hn hn8 with rfl | rfl | rfl | rfl | rfl | rfl | rfl | rfl <;> kernel_rfl
theorem re : bulk_Ready e45 = some true := by kernel_rfl
theorem ne : bulk_Next e45 = some (nb, false) := by kernel_rfl
theorem rs {n : Nat} (hn : 1 ≤ n) (hn8 : n ≤ 8) (k : Nat) : bulk_Ready (kS (wW n k) 0 (64 * (n : Int)) false) = some false := by
  rcases n8 hn hn8 with rfl | rfl | rfl | rfl | rfl | rfl | rfl | rfl <;> kernel_rfl
theorem ri0 {n : Nat} (hn : 1 ≤ n) (hn8 : n ≤ 8) (k : Nat) (g : Nat → BitVec 8) : bulk_Ready (kI 0 n k g 0) = some false := by
  rcases n8 hn hn8 with rfl | rfl | rfl | rfl | rfl | rfl | rfl | rfl <;> kernel_rfl
theorem nI0 {n i : Nat} (hi : 1 ≤ i) (hn : i ≤ n) (hn8 : n ≤ 8) : ∀ (k : Nat) (g : Nat → BitVec 8), bulk_Next (kI 0 n k g (i - 1)) = some (blk g (i - 1), true) := by
  refine ni (P := fun n i => ∀ (k : Nat) (g : Nat → BitVec 8), bulk_Next (kI 0 n k g (i - 1)) = some (blk g (i - 1), true)) ?_ ?_ ?_ ?_ ?_ ?_ ?_ ?_ hi hn hn8 <;> repeat (first | exact trivial | refine pall_succ ?_ (by intro k g; kernel_rfl))
theorem sI0 {n i : Nat} (hi : 1 ≤ i) (hn : i ≤ n) (hn8 : n ≤ 8) : ∀ (k : Nat) (g : Nat → BitVec 8) (u : List D102) (t : Bool), i = n ∨ bulk_Sent (kI 0 n k g (i - 1), u, t) = some (kI 0 n k g i, u) := by
  refine ni (P := fun n i => ∀ (k : Nat) (g : Nat → BitVec 8) (u : List D102) (t : Bool), i = n ∨ bulk_Sent (kI 0 n k g (i - 1), u, t) = some (kI 0 n k g i, u)) ?_ ?_ ?_ ?_ ?_ ?_ ?_ ?_ hi hn hn8 <;> repeat (first | exact trivial | refine pall_succ ?_ (by intro k g u t; first | exact .inl rfl | (right; kernel_rfl)))
theorem ri5 {n : Nat} (hn : 1 ≤ n) (hn8 : n ≤ 8) (k : Nat) (g : Nat → BitVec 8) : bulk_Ready (kI 5 n k g 0) = some false := by
  rcases n8 hn hn8 with rfl | rfl | rfl | rfl | rfl | rfl | rfl | rfl <;> kernel_rfl
theorem nI5 {n i : Nat} (hi : 1 ≤ i) (hn : i ≤ n) (hn8 : n ≤ 8) : ∀ (k : Nat) (g : Nat → BitVec 8), bulk_Next (kI 5 n k g (i - 1)) = some (blk g (i - 1), true) := by
  refine ni (P := fun n i => ∀ (k : Nat) (g : Nat → BitVec 8), bulk_Next (kI 5 n k g (i - 1)) = some (blk g (i - 1), true)) ?_ ?_ ?_ ?_ ?_ ?_ ?_ ?_ hi hn hn8 <;> repeat (first | exact trivial | refine pall_succ ?_ (by intro k g; kernel_rfl))
theorem sI5 {n i : Nat} (hi : 1 ≤ i) (hn : i ≤ n) (hn8 : n ≤ 8) : ∀ (k : Nat) (g : Nat → BitVec 8) (u : List D102) (t : Bool), i = n ∨ bulk_Sent (kI 5 n k g (i - 1), u, t) = some (kI 5 n k g i, u) := by
  refine ni (P := fun n i => ∀ (k : Nat) (g : Nat → BitVec 8) (u : List D102) (t : Bool), i = n ∨ bulk_Sent (kI 5 n k g (i - 1), u, t) = some (kI 5 n k g i, u)) ?_ ?_ ?_ ?_ ?_ ?_ ?_ ?_ hi hn hn8 <;> repeat (first | exact trivial | refine pall_succ ?_ (by intro k g u t; first | exact .inl rfl | (right; kernel_rfl)))
theorem nz {n : Nat} (hn : 1 ≤ n) (hn8 : n ≤ 8) (k : Nat) (g : Nat → BitVec 8) : bulk_Next (kI 5 n k g n) = some (nb, true) := by
  rcases n8 hn hn8 with rfl | rfl | rfl | rfl | rfl | rfl | rfl | rfl <;> kernel_rfl
theorem nsw {n : Nat} (hn : 1 ≤ n) (hn8 : n ≤ 8) (k : Nat) (h : Bool) : bulk_Next (kS (wW n k) 0 (64 * (n : Int)) h) = some (sB 7#8 0#8, true) := by
  rcases n8 hn hn8 with rfl | rfl | rfl | rfl | rfl | rfl | rfl | rfl <;> kernel_rfl
theorem ssw {n : Nat} (hn : 1 ≤ n) (hn8 : n ≤ 8) (k : Nat) (h : Bool) (u : List D102) (t : Bool) : bulk_Sent (kS (wW n k) 0 (64 * (n : Int)) h, u, t) = some (e45, u) := by
  rcases n8 hn hn8 with rfl | rfl | rfl | rfl | rfl | rfl | rfl | rfl <;> kernel_rfl
theorem nsr0 {n : Nat} (hn : 1 ≤ n) (hn8 : n ≤ 8) (k : Nat) (h : Bool) : bulk_Next (kS (wR 0 n k) 0 (64 * (n : Int)) h) = some (sB 8#8 0#8, true) := by
  rcases n8 hn hn8 with rfl | rfl | rfl | rfl | rfl | rfl | rfl | rfl <;> kernel_rfl
theorem ssr0 {n : Nat} (hn : 1 ≤ n) (hn8 : n ≤ 8) (k : Nat) (h : Bool) (u : List D102) (t : Bool) : bulk_Sent (kS (wR 0 n k) 0 (64 * (n : Int)) h, u, t) = some (e45, u) := by
  rcases n8 hn hn8 with rfl | rfl | rfl | rfl | rfl | rfl | rfl | rfl <;> kernel_rfl
theorem nsr5 {n : Nat} (hn : 1 ≤ n) (hn8 : n ≤ 8) (k : Nat) (h : Bool) : bulk_Next (kS (wR 5 n k) 5 (64 * (n : Int)) h) = some (sB 8#8 5#8, true) := by
  rcases n8 hn hn8 with rfl | rfl | rfl | rfl | rfl | rfl | rfl | rfl <;> kernel_rfl
theorem ssr5 {n : Nat} (hn : 1 ≤ n) (hn8 : n ≤ 8) (k : Nat) (h : Bool) (u : List D102) (t : Bool) : bulk_Sent (kS (wR 5 n k) 5 (64 * (n : Int)) h, u, t) = some (e45, u) := by
  rcases n8 hn hn8 with rfl | rfl | rfl | rfl | rfl | rfl | rfl | rfl <;> kernel_rfl
theorem xe0 {n : Nat} (hn : 1 ≤ n) (hn8 : n ≤ 8) (k : Nat) (g : Nat → BitVec 8) (u u1 : List D102) (t : Bool) (h : unit_Keep (u, 0, e41) = some u1) : bulk_Sent (kI 0 n k g (n - 1), u, t) = some (kS (wR 0 n k) 0 (64 * (n : Int)) false, u1) := by
  have e1 : ∀ c x f kp, bulk_SentU (c, x, f, kp) (kI 0 n k g (n - 1), u, t) = bulk_SentU (c, x, f, fun _ => kp (u, 0, e41)) (kI 0 n k g (n - 1), u, t) := by
    intro c x f kp
    clear h
    rcases n8 hn hn8 with rfl | rfl | rfl | rfl | rfl | rfl | rfl | rfl <;> kernel_rfl
  rw [← bulk_SentU_]
  refine (e1 unit_Command unit_Take unit_Finish unit_Keep).trans ?_
  rw [h]
  clear h e1
  rcases n8 hn hn8 with rfl | rfl | rfl | rfl | rfl | rfl | rfl | rfl <;> kernel_rfl
theorem xe5t {n : Nat} (hn : 1 ≤ n) (hn8 : n ≤ 8) (k : Nat) (g : Nat → BitVec 8) (u u1 : List D102) (t : Bool) (h : unit_Keep (u, 0, e41) = some u1) : bulk_Sent (kI 5 n k g (n - 1), u, true) = some (kS (wR 5 n k) 5 (64 * (n : Int)) true, u1) := by
  have e1 : ∀ c x f kp, bulk_SentU (c, x, f, kp) (kI 5 n k g (n - 1), u, true) = bulk_SentU (c, x, f, fun _ => kp (u, 0, e41)) (kI 5 n k g (n - 1), u, true) := by
    intro c x f kp
    clear h
    rcases n8 hn hn8 with rfl | rfl | rfl | rfl | rfl | rfl | rfl | rfl <;> kernel_rfl
  rw [← bulk_SentU_]
  refine (e1 unit_Command unit_Take unit_Finish unit_Keep).trans ?_
  rw [h]
  clear h e1
  rcases n8 hn hn8 with rfl | rfl | rfl | rfl | rfl | rfl | rfl | rfl <;> kernel_rfl
theorem xz {n : Nat} (hn : 1 ≤ n) (hn8 : n ≤ 8) (k : Nat) (g : Nat → BitVec 8) (u u1 : List D102) (t : Bool) (h : unit_Keep (u, 0, e41) = some u1) : bulk_Sent (kI 5 n k g n, u, false) = some (kS (wR 5 n k) 5 (64 * (n : Int)) false, u1) := by
  have e1 : ∀ c x f kp, bulk_SentU (c, x, f, kp) (kI 5 n k g n, u, false) = bulk_SentU (c, x, f, fun _ => kp (u, 0, e41)) (kI 5 n k g n, u, false) := by
    intro c x f kp
    clear h
    rcases n8 hn hn8 with rfl | rfl | rfl | rfl | rfl | rfl | rfl | rfl <;> kernel_rfl
  rw [← bulk_SentU_]
  refine (e1 unit_Command unit_Take unit_Finish unit_Keep).trans ?_
  rw [h]
  clear h e1
  rcases n8 hn hn8 with rfl | rfl | rfl | rfl | rfl | rfl | rfl | rfl <;> kernel_rfl
theorem xe5f {n : Nat} (hn : 1 ≤ n) (hn8 : n ≤ 8) (k : Nat) (g : Nat → BitVec 8) (u : List D102) : bulk_Sent (kI 5 n k g (n - 1), u, false) = some (kI 5 n k g n, u) := by
  rcases n8 hn hn8 with rfl | rfl | rfl | rfl | rfl | rfl | rfl | rfl <;> kernel_rfl
theorem wBw {n : Nat} (hn : 1 ≤ n) (hn8 : n ≤ 8) (k : Nat) : wB (wW n k) = [85#8, 83#8, 66#8, 67#8, 7#8, 0#8, 0#8, 0#8, BitVec.ofNat 8 (64 * n + 0), BitVec.ofNat 8 ((64 * n + 0) / 256), 0#8, 0#8, 0#8, 0#8, 10#8, 42#8, 0#8, 0#8, 0#8, 0#8, BitVec.ofInt 8 (k : Int), 0#8, 0#8, BitVec.ofInt 8 (n : Int), 0#8, 0#8, 0#8, 0#8, 0#8, 0#8, 0#8] := by
  rcases n8 hn hn8 with rfl | rfl | rfl | rfl | rfl | rfl | rfl | rfl <;> kernel_rfl
theorem wBr0 {n : Nat} (hn : 1 ≤ n) (hn8 : n ≤ 8) (k : Nat) : wB (wR 0 n k) = [85#8, 83#8, 66#8, 67#8, 8#8, 0#8, 0#8, 0#8, BitVec.ofNat 8 (64 * n + 0), BitVec.ofNat 8 ((64 * n + 0) / 256), 0#8, 0#8, 128#8, 0#8, 10#8, 40#8, 0#8, 0#8, 0#8, 0#8, BitVec.ofInt 8 (k : Int), 0#8, 0#8, BitVec.ofInt 8 (n : Int), 0#8, 0#8, 0#8, 0#8, 0#8, 0#8, 0#8] := by
  rcases n8 hn hn8 with rfl | rfl | rfl | rfl | rfl | rfl | rfl | rfl <;> kernel_rfl
theorem wBr5 {n : Nat} (hn : 1 ≤ n) (hn8 : n ≤ 8) (k : Nat) : wB (wR 5 n k) = [85#8, 83#8, 66#8, 67#8, 8#8, 0#8, 0#8, 0#8, BitVec.ofNat 8 (64 * n + 5), BitVec.ofNat 8 ((64 * n + 5) / 256), 0#8, 0#8, 128#8, 0#8, 10#8, 40#8, 0#8, 0#8, 0#8, 0#8, BitVec.ofInt 8 (k : Int), 0#8, 0#8, BitVec.ofInt 8 (n : Int), 0#8, 0#8, 0#8, 0#8, 0#8, 0#8, 0#8] := by
  rcases n8 hn hn8 with rfl | rfl | rfl | rfl | rfl | rfl | rfl | rfl <;> kernel_rfl
end Go.Proofs.YthnpgnabfcaaiaaGreat
/- Bulk-only writes and reads: the host's side, whatever is lost. -/
namespace Go.Proofs.YthnpgnabfcaaiaaGreat
open Go Go.Re
set_option linter.unusedVariables false
set_option linter.unusedSimpArgs false
set_option maxRecDepth 100000
theorem lost_ok (g : D51) (l : List Bool) (N : Nat) (hN : N < 1000000) : ∃ q, reticuletop_line_lost (g, l, (N : Int), ()) = some ((g, l, ((N + 1 : Nat) : Int), ()), q) := by
  unfold reticuletop_line_lost
  show ∃ q, ((bif decide ((w64 ((N : Int) + 1)) ≤ (l.length : Int)) then (ix l (w64 ((w64 ((N : Int) + 1)) - 1))).bind (fun x1 => some x1) else some false : Option Bool).bind fun b2 => some ((g, l, w64 ((N : Int) + 1), ()), b2)) = _
  rw [w64_succ N (by omega)]
  have e : w64 (((N + 1 : Nat) : Int) - 1) = (N : Int) := by rw [w64_in (by omega) (by omega)]; omega
  rw [e]
  by_cases h : ((N + 1 : Nat) : Int) ≤ (l.length : Int)
  · rw [decide_eq_true h, cond_true, ix_at l N (by omega)]; exact ⟨_, rfl⟩
  · rw [decide_eq_false h, cond_false]; exact ⟨_, rfl⟩
theorem send_ok {g g' : D51} {e : D61} {l : List Bool} {N : Nat} (hN : N < 1000000) (h1 : gadget_StepT (g, e) = some (g', ack1)) (h2 : gadget_StepT (g', e) = some (g', ack1)) :
    reticuletop_line_sendT ((g, l, (N : Int), ()), e) = some ((g', l, ((N + 1 : Nat) : Int), ()), ack1) := by
  obtain ⟨q, hq⟩ := lost_ok g l N hN
  unfold reticuletop_line_sendT
  show (reticuletop_line_lost (g, l, (N : Int), ())).bind _ = _
  rw [hq, Option.bind_some]
  show (gadget_StepT (g, e)).bind _ = _
  rw [h1, Option.bind_some]
  cases q
  · rfl
  · show jn ((some true : Option Bool).bind _) _ = _
    rw [Option.bind_some, cond_true]
    show jn ((gadget_StepT (g', e)).bind _) _ = _
    rw [h2]; rfl
theorem ask_ok {g g1 g' : D51} {r r1 : D57} {l : List Bool} {N : Nat} (hN : N < 1000000) (ha : g.2.2.1.1 = 5) (h1 : gadget_StepT (g, iev true) = some (g', r)) (h2 : gadget_StepT (g, iev false) = some (g1, r1)) (h3 : gadget_StepT (g1, iev true) = some (g', r)) :
    reticuletop_line_askT ((g, l, (N : Int), ()), 1, 0) = some ((g', l, ((N + 1 : Nat) : Int), ()), r) := by
  obtain ⟨q, hq⟩ := lost_ok g l N hN
  unfold reticuletop_line_askT
  show (host_Ask (g.2.2.1.1, 1, 0)).bind _ = _
  rw [ha]
  show (reticuletop_line_lost (g, l, (N : Int), ())).bind _ = _
  rw [hq, Option.bind_some]
  cases q
  · show (gadget_StepT (g, iev true)).bind _ = _
    rw [h1]; rfl
  · show jn ((gadget_StepT (g, iev false)).bind _) _ = _
    rw [h2]
    show (gadget_StepT (g1, iev true)).bind _ = _
    rw [h3]; rfl
theorem cut_ok {out b rest : List (BitVec 8)} (ho : out = b ++ rest) (hb : b.length = 64) (hl : out.length ≤ 10000) : reticuleref16_Cut out = some b := by
  have hlen : out.length = 64 + rest.length := by rw [ho, List.length_append, hb]
  unfold reticuleref16_Cut
  by_cases h : (64 : Int) < (out.length : Int)
  · rw [decide_eq_true h, cond_true, decide_eq_true (by omega : (0 : Int) ≤ 64), decide_eq_true (by omega : (64 : Int) ≤ (out.length : Int))]
    show some (out.take 64) = _
    rw [ho, ← hb, List.take_left]
  · rw [decide_eq_false h, cond_false, ho, List.eq_nil_of_length_eq_zero (by omega : rest.length = 0), List.append_nil]
theorem packet_ok (c : D22) (u : List D102) (a b : D114) (k : D45) (l : List Bool) (N : Int) (x : List (BitVec 8)) :
    reticuletop_line_packet ((gs c u a b k, l, N, ()), 2, 0, x) = some (3, 5, 2, 0, b.2.1, false, 0, 0#64, x, ()) := rfl
section
variable {m i : Nat} {c : D22} {u : List D102} {a b : D114} {k : D45} {l : List Bool} {N : Int} {y : D76} {z : D69} {r : D57} {had out : List (BitVec 8)} {x' : D76}
theorem lp_out (hi : i < 300) {bl rest : List (BitVec 8)} (hk : k.1 = 2) (ho : out = bl ++ rest) (hb : bl.length = 64) (hl : out.length ≤ 10000)
    (hs : reticuletop_line_sendT ((gs c u a b k, l, N, ()), 3, 5, 2, 0, b.2.1, false, 0, 0#64, bl, ()) = some (x', ack1)) :
    reticuletop_line_command_L0T (m + 1) (out, (gs c u a b k, l, N, ()), y, z, r, had, (i : Int)) = reticuletop_line_command_L0T m (rest, x', y, z, ack1, had, ((i + 1 : Nat) : Int)) := by
  have hlen : out.length = 64 + rest.length := by rw [ho, List.length_append, hb]
  conv => lhs; unfold reticuletop_line_command_L0T
  show (bif decide ((i : Int) < 300) then _ else _) = _
  rw [decide_eq_true (by omega), cond_true]
  show jn ((bif decide (k.1 = 2) then some (decide (0 < (out.length : Int))) else some false : Option Bool).bind _) _ = _
  rw [decide_eq_true hk, cond_true, Option.bind_some, decide_eq_true (by omega), cond_true]
  show jn ((reticuleref16_Cut out).bind _) _ = _
  rw [cut_ok ho hb hl, Option.bind_some]
  show jn ((reticuletop_line_packet ((gs c u a b k, l, N, ()), 2, 0, bl)).bind _) _ = _
  rw [packet_ok, Option.bind_some]
  show jn ((reticuletop_line_sendT ((gs c u a b k, l, N, ()), 3, 5, 2, 0, b.2.1, false, 0, 0#64, bl, ())).bind _) _ = _
  rw [hs, Option.bind_some]
  show jn ((chk (decide (0 ≤ ((bl.length : Int) : Int)) && decide (((bl.length : Int) : Int) ≤ (out.length : Int)))).bind _) _ = _
  rw [decide_eq_true (by omega), decide_eq_true (by omega)]
  show reticuletop_line_command_L0T m (out.drop (bl.length : Int).toNat, x', y, z, ack1, had, w64 ((i : Int) + 1)) = _
  rw [w64_succ i (by omega), Int.toNat_natCast, ho, List.drop_left]
theorem lp_data (hi : i < 300) (hk : k.1 = 1) {t : Int} {d : List (BitVec 8)} (hl : had.length + d.length ≤ 10000)
    (ha : reticuletop_line_askT ((gs c u a b k, l, N, ()), 1, 0) = some (x', 4, t, d, ())) :
    reticuletop_line_command_L0T (m + 1) (out, (gs c u a b k, l, N, ()), y, z, r, had, (i : Int)) = reticuletop_line_command_L0T m (out, x', y, z, (4, t, d, ()), had ++ d, ((i + 1 : Nat) : Int)) := by
  conv => lhs; unfold reticuletop_line_command_L0T
  show (bif decide ((i : Int) < 300) then _ else _) = _
  rw [decide_eq_true (by omega), cond_true]
  show jn ((bif decide (k.1 = 2) then some (decide (0 < (out.length : Int))) else some false : Option Bool).bind _) _ = _
  rw [decide_eq_false (by rw [hk]; decide), cond_false, Option.bind_some, cond_false]
  show jn ((reticuletop_line_askT ((gs c u a b k, l, N, ()), 1, 0)).bind _) _ = _
  rw [ha, Option.bind_some]
  show jn (bif decide (k.1 = 3) then _ else _) _ = _
  rw [decide_eq_false (by rw [hk]; decide), cond_false]
  show jn ((chk (decide (had.length + d.length ≤ lim))).bind _) _ = _
  rw [chk_dec (le_lim (by omega))]
  show reticuletop_line_command_L0T m (out, x', y, z, (4, t, d, ()), had ++ d, w64 ((i : Int) + 1)) = _
  rw [w64_succ i (by omega)]
theorem lp_stat (hi : i < 300) (hk : k.1 = 3) {t : Int} {d : List (BitVec 8)} {s : D69}
    (ha : reticuletop_line_askT ((gs c u a b k, l, N, ()), 1, 0) = some (x', 4, t, d, ())) (hr : reticuleref19_ReadStatus d = some (s, true)) :
    reticuletop_line_command_L0T (m + 1) (out, (gs c u a b k, l, N, ()), y, z, r, had, (i : Int)) = some (.inr (x', had, s, true)) := by
  conv => lhs; unfold reticuletop_line_command_L0T
  show (bif decide ((i : Int) < 300) then _ else _) = _
  rw [decide_eq_true (by omega), cond_true]
  show jn ((bif decide (k.1 = 2) then some (decide (0 < (out.length : Int))) else some false : Option Bool).bind _) _ = _
  rw [decide_eq_false (by rw [hk]; decide), cond_false, Option.bind_some, cond_false]
  show jn ((reticuletop_line_askT ((gs c u a b k, l, N, ()), 1, 0)).bind _) _ = _
  rw [ha, Option.bind_some]
  show jn (bif decide (k.1 = 3) then _ else _) _ = _
  rw [decide_eq_true hk, cond_true]
  show jn ((reticuleref19_ReadStatus d).bind _) _ = _
  rw [hr]; rfl
theorem lp_stall (hi : i < 300) (hk : k.1 = 3) {t : Int} {d : List (BitVec 8)} {x2 : D76}
    (ha : reticuletop_line_askT ((gs c u a b k, l, N, ()), 1, 0) = some (x', 3, t, d, ())) (hc : reticuletop_line_clearT (x', 129) = some (x2, true)) :
    reticuletop_line_command_L0T (m + 1) (out, (gs c u a b k, l, N, ()), y, z, r, had, (i : Int)) = reticuletop_line_command_L0T m (out, x2, y, z, (3, t, d, ()), had, ((i + 1 : Nat) : Int)) := by
  conv => lhs; unfold reticuletop_line_command_L0T
  show (bif decide ((i : Int) < 300) then _ else _) = _
  rw [decide_eq_true (by omega), cond_true]
  show jn ((bif decide (k.1 = 2) then some (decide (0 < (out.length : Int))) else some false : Option Bool).bind _) _ = _
  rw [decide_eq_false (by rw [hk]; decide), cond_false, Option.bind_some, cond_false]
  show jn ((reticuletop_line_askT ((gs c u a b k, l, N, ()), 1, 0)).bind _) _ = _
  rw [ha, Option.bind_some]
  show jn (bif decide ((3 : Int) = 4) then _ else _) _ = _
  rw [decide_eq_false (by decide), cond_false]
  show jn (bif decide ((3 : Int) = 3) then _ else _) _ = _
  rw [decide_eq_true rfl, cond_true]
  show jn ((reticuletop_line_clearT (x', 129)).bind _) _ = _
  rw [hc, Option.bind_some]
  show reticuletop_line_command_L0T m (out, x2, y, z, (3, t, d, ()), had, w64 ((i : Int) + 1)) = _
  rw [w64_succ i (by omega)]
/-- A command begins. -/
theorem cmd_ok {cb : D36} {bs : List (BitVec 8)} {R} (hB : reticuleref19_Bytes cb = some (bs, true)) (hb : b.1 = false)
    (hs : reticuletop_line_sendT ((gs c u a b k, l, N, ()), 3, 5, 2, 0, b.2.1, false, 0, 0#64, bs, ()) = some (x', ack1))
    (hL : ∀ y z, reticuletop_line_command_L0T Big (out, x', y, z, ack1, nb, ((0 : Nat) : Int)) = some (.inr R)) :
    reticuletop_line_commandT ((gs c u a b k, l, N, ()), cb, out) = some R := by
  unfold reticuletop_line_commandT
  show (reticuleref19_Bytes cb).bind _ = _
  rw [hB, Option.bind_some]
  show jn ((some true : Option Bool).bind _) _ = _
  rw [Option.bind_some, cond_true]
  show jn ((some b.1 : Option Bool).bind _) _ = _
  rw [hb, Option.bind_some, cond_false, jn_inl]
  show (bif !true then _ else _) = _
  rw [Bool.not_true, cond_false]
  show (reticuletop_line_packet ((gs c u a b k, l, N, ()), 2, 0, bs)).bind _ = _
  rw [packet_ok, Option.bind_some]
  show (reticuletop_line_sendT ((gs c u a b k, l, N, ()), 3, 5, 2, 0, b.2.1, false, 0, 0#64, bs, ())).bind _ = _
  rw [hs, Option.bind_some]
  show jn (reticuletop_line_command_L0T Big (out, x', _, _, ack1, nb, ((0 : Nat) : Int))) _ = _
  rw [hL]; rfl
end
end Go.Proofs.YthnpgnabfcaaiaaGreat
/- Bulk-only: what is written is read, whatever is lost; with and without bytes more that are asked for. -/
namespace Go.Proofs.YthnpgnabfcaaiaaGreat
open Go Go.Re
set_option linter.unusedVariables false
set_option linter.unusedSimpArgs false
set_option maxRecDepth 100000
theorem by_split (g : Nat → BitVec 8) (i j : Nat) : by_ (64 * (j + 1)) (fun x => g (64 * i + x)) = blk g i ++ by_ (64 * j) (fun x => g (64 * (i + 1) + x)) := by
  apply List.ext_getElem?
  intro p
  rw [List.getElem?_append, blk_len, by_ix, by_ix]
  unfold blk
  rw [by_ix]
  by_cases h : p < 64
  · rw [if_pos h, if_pos h, if_pos (by omega)]
  · rw [if_neg h]
    by_cases h2 : p < 64 * (j + 1)
    · rw [if_pos h2, if_pos (by omega), show 64 * (i + 1) + (p - 64) = 64 * i + p by omega]
    · rw [if_neg h2, if_neg (by omega)]
theorem by_add (g : Nat → BitVec 8) (i : Nat) : by_ (64 * i) g ++ blk g i = by_ (64 * (i + 1)) g := by
  rw [← blks_flat, ← blks_flat, List.range_succ, List.map_append, List.flatten_append]; simp
section
variable {L b k n : Nat} {M : D97} {g : Nat → BitVec 8} (c1 bi d : Int) (s t : Bool)
abbrev uu (L : Nat) (M : D97) (b k : Nat) (g : Nat → BitVec 8) (i : Nat) : List D102 := us L M (rdy (mI b k g i))
theorem step_w (hl : 1 ≤ L) (hL : L ≤ 4) (hn : 1 ≤ n) (hn8 : n ≤ 8) (hk : k + n ≤ b) (hb : b ≤ 64) (tg : Bool) (a : D114) :
    gadget_StepT (gs (c1, bi, d, s, t, ()) (uu L M b k g 0) a (ep false tg) e45, oev tg (wB (wW n k))) = some (gs (c1, bi, d, s, t, ()) (uu L M b k g 0) a (ep false (!tg)) (kO n k (BitVec.ofNat 64 k) 0), ack1) := by
  have h2 := xw hl hL hn hn8 M (rdy (mI b k g 0)) _ k t (BitVec.ofNat 64 k) (write_run (g := g) hl hL hn hn8 hk hb)
  rw [wBw hn hn8] at h2 ⊢
  exact go31 re h2
theorem again_w (hn : 1 ≤ n) (hn8 : n ≤ 8) (tg : Bool) (u : List D102) (a : D114) :
    gadget_StepT (gs (c1, bi, d, s, t, ()) u a (ep false (!tg)) (kO n k (BitVec.ofNat 64 k) 0), oev tg (wB (wW n k))) = some (gs (c1, bi, d, s, t, ()) u a (ep false (!tg)) (kO n k (BitVec.ofNat 64 k) 0), ack1) := by
  rw [wBw hn hn8]
  exact ga31 (ro0 hn hn8 k (BitVec.ofNat 64 k))
theorem take_d (hl : 1 ≤ L) (hL : L ≤ 4) {i : Nat} (hi : i + 1 < n) (hn8 : n ≤ 8) (hk : k + n ≤ b) (hb : b ≤ 64) :
    bulk_Take (kO n k (BitVec.ofNat 64 k) i, uu L M b k g i, blk g i, t) = some (kO n k (BitVec.ofNat 64 k) (i + 1), uu L M b k g (i + 1)) := by
  have e1 := xd1 (n := n) (i := i + 1) (by omega) (by omega) hn8 (uu L M b k g i) [] t k (BitVec.ofNat 64 k) (fun x => g (64 * i + x)) unit_Command unit_Take unit_Finish unit_Keep
  have e2 := take_run (M := M) (g := g) (b := b) (k := k) (n := n) (i := i + 1) hl hL (by omega) (by omega) hn8 hk hb
  have e3 := xd2 (n := n) (i := i + 1) (by omega) (by omega) hn8 (uu L M b k g i) (uu L M b k g (i + 1)) t k (BitVec.ofNat 64 k) (fun x => g (64 * i + x)) unit_Command unit_Finish unit_Keep
  rw [Nat.add_sub_cancel] at e1 e2 e3
  rw [← bulk_TakeU_]
  refine e1.trans ?_
  rw [show unit_Take (uu L M b k g i, 0, jb n (BitVec.ofNat 64 k) i, by_ 64 fun x => g (64 * i + x)) = _ from e2]
  exact e3.resolve_left (by omega)
theorem step_d (hl : 1 ≤ L) (hL : L ≤ 4) {i : Nat} (hi : i + 1 < n) (hn8 : n ≤ 8) (hk : k + n ≤ b) (hb : b ≤ 64) (tg : Bool) (a : D114) :
    gadget_StepT (gs (c1, bi, d, s, t, ()) (uu L M b k g i) a (ep false tg) (kO n k (BitVec.ofNat 64 k) i), oev tg (blk g i)) = some (gs (c1, bi, d, s, t, ()) (uu L M b k g (i + 1)) a (ep false (!tg)) (kO n k (BitVec.ofNat 64 k) (i + 1)), ack1) := by
  have h := ro (n := n) (i := i + 1) (by omega) (by omega) hn8 k (BitVec.ofNat 64 k)
  rw [Nat.add_sub_cancel] at h
  exact go64 h (take_d t hl hL hi hn8 hk hb)
theorem take_l (hl : 1 ≤ L) (hL : L ≤ 4) (hn : 1 ≤ n) (hn8 : n ≤ 8) (hk : k + n ≤ b) (hb : b ≤ 64) :
    bulk_Take (kO n k (BitVec.ofNat 64 k) (n - 1), uu L M b k g (n - 1), blk g (n - 1), t) = some (kS (wW n k) 0 (64 * (n : Int)) false, uu L M b k g n) := by
  have e1 := xd1 (n := n) (i := n) (by omega) (by omega) hn8 (uu L M b k g (n - 1)) [] t k (BitVec.ofNat 64 k) (fun x => g (64 * (n - 1) + x)) unit_Command unit_Take unit_Finish unit_Keep
  have e2 := take_run (M := M) (g := g) (b := b) (k := k) (n := n) (i := n) hl hL (by omega) (by omega) hn8 hk hb
  rw [← bulk_TakeU_]
  refine e1.trans ?_
  rw [show unit_Take (uu L M b k g (n - 1), 0, jb n (BitVec.ofNat 64 k) (n - 1), by_ 64 fun x => g (64 * (n - 1) + x)) = _ from e2]
  refine (xl1 hn hn8 (uu L M b k g (n - 1)) (uu L M b k g n) t k (BitVec.ofNat 64 k) (fun x => g (64 * (n - 1) + x)) unit_Command unit_Finish unit_Keep).trans ?_
  rw [fi_run hl hL hn hn8 M _ (BitVec.ofNat 64 k)]
  refine (xl2 hn hn8 (uu L M b k g (n - 1)) (uu L M b k g n) t k (BitVec.ofNat 64 k) (fun x => g (64 * (n - 1) + x)) (uu L M b k g n) unit_Command unit_Keep).trans ?_
  rw [ke_run hl hL M _]
  exact xl4 hn hn8 (uu L M b k g (n - 1)) (uu L M b k g n) t k (BitVec.ofNat 64 k) (fun x => g (64 * (n - 1) + x)) (uu L M b k g n) (uu L M b k g n) unit_Command
theorem step_l (hl : 1 ≤ L) (hL : L ≤ 4) (hn : 1 ≤ n) (hn8 : n ≤ 8) (hk : k + n ≤ b) (hb : b ≤ 64) (tg : Bool) (a : D114) :
    gadget_StepT (gs (c1, bi, d, s, t, ()) (uu L M b k g (n - 1)) a (ep false tg) (kO n k (BitVec.ofNat 64 k) (n - 1)), oev tg (blk g (n - 1))) = some (gs (c1, bi, d, s, t, ()) (uu L M b k g n) a (ep false (!tg)) (kS (wW n k) 0 (64 * (n : Int)) false), ack1) :=
  go64 (ro (n := n) (i := n) (by omega) (by omega) hn8 k (BitVec.ofNat 64 k)) (take_l t hl hL hn hn8 hk hb)
theorem stat_ok {w : D36} {left : Int} {h : Bool} {tag res : BitVec 8} (u : List D102) (bb : D114) (tg : Bool) {l : List Bool} {N : Nat} (hN : N < 100000)
    (h1 : bulk_Next (kS w left (64 * (n : Int)) h) = some (sB tag res, true)) (h2 : bulk_Sent (kS w left (64 * (n : Int)) h, u, t) = some (e45, u)) :
    reticuletop_line_askT ((gs (c1, bi, d, s, t, ()) u (ep false tg) bb (kS w left (64 * (n : Int)) h), l, (N : Int), ()), 1, 0) = some ((gs (c1, bi, d, s, t, ()) u (ep false (!tg)) bb e45, l, ((N + 1 : Nat) : Int), ()), 4, tb tg, sB tag res, ()) :=
  ask_ok (by omega) rfl (gi13 true h1 h2) (gi13 false h1 h2) (gj13 ne)
variable {l : List Bool}
def tn : Nat → Bool → Bool
  | 0, t => t
  | j + 1, t => tn j (!t)
theorem wr_chain (hl : 1 ≤ L) (hL : L ≤ 4) (hn : 1 ≤ n) (hn8 : n ≤ 8) (hk : k + n ≤ b) (hb : b ≤ 64) (a : D114) {m : Nat} {y : D76} {z : D69} {had : List (BitVec 8)} :
    ∀ j i, i + (j + 1) = n → ∀ tg N cnt r, N + j < 1000 → cnt + j < 200 → reticuletop_line_command_L0T (m + (j + 1)) (by_ (64 * (j + 1)) (fun x => g (64 * i + x)), (gs (c1, bi, d, s, t, ()) (uu L M b k g i) a (ep false tg) (kO n k (BitVec.ofNat 64 k) i), l, ((N : Nat) : Int), ()), y, z, r, had, ((cnt : Nat) : Int)) =
      reticuletop_line_command_L0T m (nb, (gs (c1, bi, d, s, t, ()) (uu L M b k g n) a (ep false (tn (j + 1) tg)) (kS (wW n k) 0 (64 * (n : Int)) false), l, ((N + (j + 1) : Nat) : Int), ()), y, z, ack1, had, ((cnt + (j + 1) : Nat) : Int))
  | 0, i, hi, tg, N, cnt, r, hN, hc => by
    obtain rfl : i = n - 1 := by omega
    rw [by_split]
    exact lp_out (by omega) (k := kO n k (BitVec.ofNat 64 k) (n - 1)) (b := ep false tg) rfl rfl (blk_len ..) (by rw [List.length_append, blk_len, by_len]; omega) (send_ok (by omega) (step_l c1 bi d s t hl hL hn hn8 hk hb tg a) (ga64 (rs hn hn8 k)))
  | j + 1, i, hi, tg, N, cnt, r, hN, hc => by
    rw [by_split, show m + (j + 1 + 1) = (m + (j + 1)) + 1 by omega]
    refine (lp_out (by omega) (k := kO n k (BitVec.ofNat 64 k) i) (b := ep false tg) rfl rfl (blk_len ..) (by rw [List.length_append, blk_len, by_len]; omega) (send_ok (by omega) (step_d c1 bi d s t hl hL (by omega) hn8 hk hb tg a) (ga64 ((roi (n := n) (i := i + 1) (by omega) (by omega) hn8 k (BitVec.ofNat 64 k)).resolve_left (by omega))))).trans ?_
    rw [wr_chain hl hL hn hn8 hk hb a j (i + 1) (by omega) (!tg) (N + 1) (cnt + 1) ack1 (by omega) (by omega), show N + 1 + (j + 1) = N + (j + 1 + 1) by omega, show cnt + 1 + (j + 1) = cnt + (j + 1 + 1) by omega]
    rfl
theorem bytes_w (hn : 1 ≤ n) (hn8 : n ≤ 8) : reticuleref19_Bytes (wW n k) = some (wB (wW n k), true) := by
  rcases n8 hn hn8 with rfl | rfl | rfl | rfl | rfl | rfl | rfl | rfl <;> kernel_rfl
theorem bytes_r0 (hn : 1 ≤ n) (hn8 : n ≤ 8) : reticuleref19_Bytes (wR 0 n k) = some (wB (wR 0 n k), true) := by
  rcases n8 hn hn8 with rfl | rfl | rfl | rfl | rfl | rfl | rfl | rfl <;> kernel_rfl
theorem bytes_r5 (hn : 1 ≤ n) (hn8 : n ≤ 8) : reticuleref19_Bytes (wR 5 n k) = some (wB (wR 5 n k), true) := by
  rcases n8 hn hn8 with rfl | rfl | rfl | rfl | rfl | rfl | rfl | rfl <;> kernel_rfl
theorem stat_w : reticuleref19_ReadStatus (sB 7#8 0#8) = some ((7#32, 0#32, 0, ()), true) := by kernel_rfl
theorem stat_r0 : reticuleref19_ReadStatus (sB 8#8 0#8) = some ((8#32, 0#32, 0, ()), true) := by kernel_rfl
theorem stat_r5 : reticuleref19_ReadStatus (sB 8#8 5#8) = some ((8#32, 5#32, 0, ()), true) := by kernel_rfl
theorem big_sub (m : Nat) (h : m ≤ 1000) : ∃ B, Big = B + m := ⟨Big - m, by unfold Big; omega⟩
theorem write_all (hl : 1 ≤ L) (hL : L ≤ 4) (hn : 1 ≤ n) (hn8 : n ≤ 8) (hk : k + n ≤ b) (hb : b ≤ 64) (t1 t2 : Bool) (N : Nat) (hN : N < 100) : ∃ t1' t2' N', N' < 200 ∧
    reticuletop_line_commandT ((gs (c1, bi, d, s, t, ()) (uu L M b k g 0) (ep false t1) (ep false t2) e45, l, (N : Int), ()), wW n k, by_ (64 * n) g) =
      some ((gs (c1, bi, d, s, t, ()) (uu L M b k g n) (ep false t1') (ep false t2') e45, l, ((N' : Nat) : Int), ()), nb, (7#32, 0#32, 0, ()), true) := by
  obtain ⟨j, rfl⟩ : ∃ j, n = j + 1 := ⟨n - 1, by omega⟩
  obtain ⟨B, hB⟩ := big_sub (1 + (j + 1)) (by omega)
  refine ⟨!t1, tn (j + 1) (!t2), N + 1 + (j + 1) + 1, by omega, ?_⟩
  refine cmd_ok (bytes_w hn hn8) rfl (send_ok (by omega) (step_w c1 bi d s t hl hL hn hn8 hk hb t2 (ep false t1)) (again_w c1 bi d s t hn hn8 t2 _ _)) ?_
  intro y z
  have e0 : by_ (64 * (j + 1)) g = by_ (64 * (j + 1)) (fun x => g (64 * 0 + x)) := by congr 1; funext x; rw [Nat.mul_zero, Nat.zero_add]
  rw [hB, e0, show B + (1 + (j + 1)) = (B + 1) + (j + 1) by omega, wr_chain c1 bi d s t hl hL hn hn8 hk hb (ep false t1) j 0 (by omega) (!t2) (N + 1) 0 ack1 (by omega) (by omega)]
  exact lp_stat (by omega) (k := kS (wW (j + 1) k) 0 (64 * ((j + 1 : Nat) : Int)) false) rfl (stat_ok c1 bi d s t _ _ t1 (by omega) (nsw hn hn8 k false) (ssw hn hn8 k false _ t)) stat_w
theorem rd_chain (e : Nat) (he : e = 0 ∨ e = 5) (hn8 : n ≤ 8) (u : List D102) (bb : D114) {m : Nat} {y : D76} {z : D69} :
    ∀ j i, i + j < n → ∀ tg N cnt r, N + j < 1000 → cnt + j < 200 → ∃ r', reticuletop_line_command_L0T (m + j) (nb, (gs (c1, bi, d, s, t, ()) u (ep false tg) bb (kI e n k g i), l, ((N : Nat) : Int), ()), y, z, r, by_ (64 * i) g, ((cnt : Nat) : Int)) =
      reticuletop_line_command_L0T m (nb, (gs (c1, bi, d, s, t, ()) u (ep false (tn j tg)) bb (kI e n k g (i + j)), l, ((N + j : Nat) : Int), ()), y, z, r', by_ (64 * (i + j)) g, ((cnt + j : Nat) : Int))
  | 0, i, hi, tg, N, cnt, r, hN, hc => ⟨r, rfl⟩
  | j + 1, i, hi, tg, N, cnt, r, hN, hc => by
    obtain ⟨r', h⟩ := rd_chain e he hn8 u bb (m := m) (y := y) (z := z) j (i + 1) (by omega) (!tg) (N + 1) (cnt + 1) (4, tb tg, blk g i, ()) (by omega) (by omega)
    refine ⟨r', ?_⟩
    have ha : reticuletop_line_askT ((gs (c1, bi, d, s, t, ()) u (ep false tg) bb (kI e n k g i), l, ((N : Nat) : Int), ()), 1, 0) = some ((gs (c1, bi, d, s, t, ()) u (ep false (!tg)) bb (kI e n k g (i + 1)), l, ((N + 1 : Nat) : Int), ()), 4, tb tg, blk g i, ()) := by
      rcases he with rfl | rfl
      · exact ask_ok (by omega) rfl (gi64 true (nI0 (i := i + 1) (by omega) (by omega) hn8 k g) ((sI0 (i := i + 1) (by omega) (by omega) hn8 k g u t).resolve_left (by omega))) (gi64 false (nI0 (i := i + 1) (by omega) (by omega) hn8 k g) ((sI0 (i := i + 1) (by omega) (by omega) hn8 k g u t).resolve_left (by omega))) (gj64 (nI0 (i := i + 2) (by omega) (by omega) hn8 k g))
      · exact ask_ok (by omega) rfl (gi64 true (nI5 (i := i + 1) (by omega) (by omega) hn8 k g) ((sI5 (i := i + 1) (by omega) (by omega) hn8 k g u t).resolve_left (by omega))) (gi64 false (nI5 (i := i + 1) (by omega) (by omega) hn8 k g) ((sI5 (i := i + 1) (by omega) (by omega) hn8 k g u t).resolve_left (by omega))) (gj64 (nI5 (i := i + 2) (by omega) (by omega) hn8 k g))
    rw [show m + (j + 1) = (m + j) + 1 by omega]
    refine (lp_data (by omega) (k := kI e n k g i) rfl (by rw [by_len, blk_len]; omega) ha).trans ?_
    rw [by_add, h, show i + 1 + j = i + (j + 1) by omega, show N + 1 + j = N + (j + 1) by omega, show cnt + 1 + j = cnt + (j + 1) by omega]
    rfl
theorem step_r0 (hl : 1 ≤ L) (hL : L ≤ 4) (hn : 1 ≤ n) (hn8 : n ≤ 8) (hk : k + n ≤ b) (hb : b ≤ 64) (tg : Bool) (a : D114) :
    gadget_StepT (gs (c1, bi, d, s, t, ()) (uu L M b k g n) a (ep false tg) e45, oev tg (wB (wR 0 n k))) = some (gs (c1, bi, d, s, t, ()) (uu L M b k g n) a (ep false (!tg)) (kI 0 n k g 0), ack1) := by
  have h2 := xr0 hl hL hn hn8 M (rdy (mI b k g n)) _ k t g (read_run hl hL hn hn8 hk hb)
  rw [wBr0 hn hn8] at h2 ⊢
  exact go31 re h2
theorem step_r5 (hl : 1 ≤ L) (hL : L ≤ 4) (hn : 1 ≤ n) (hn8 : n ≤ 8) (hk : k + n ≤ b) (hb : b ≤ 64) (tg : Bool) (a : D114) :
    gadget_StepT (gs (c1, bi, d, s, t, ()) (uu L M b k g n) a (ep false tg) e45, oev tg (wB (wR 5 n k))) = some (gs (c1, bi, d, s, t, ()) (uu L M b k g n) a (ep false (!tg)) (kI 5 n k g 0), ack1) := by
  have h2 := xr5 hl hL hn hn8 M (rdy (mI b k g n)) _ k t g (read_run hl hL hn hn8 hk hb)
  rw [wBr5 hn hn8] at h2 ⊢
  exact go31 re h2
theorem again_r0 (hn : 1 ≤ n) (hn8 : n ≤ 8) (tg : Bool) (u : List D102) (a : D114) :
    gadget_StepT (gs (c1, bi, d, s, t, ()) u a (ep false (!tg)) (kI 0 n k g 0), oev tg (wB (wR 0 n k))) = some (gs (c1, bi, d, s, t, ()) u a (ep false (!tg)) (kI 0 n k g 0), ack1) := by
  rw [wBr0 hn hn8]
  exact ga31 (ri0 hn hn8 k g)
theorem again_r5 (hn : 1 ≤ n) (hn8 : n ≤ 8) (tg : Bool) (u : List D102) (a : D114) :
    gadget_StepT (gs (c1, bi, d, s, t, ()) u a (ep false (!tg)) (kI 5 n k g 0), oev tg (wB (wR 5 n k))) = some (gs (c1, bi, d, s, t, ()) u a (ep false (!tg)) (kI 5 n k g 0), ack1) := by
  rw [wBr5 hn hn8]
  exact ga31 (ri5 hn hn8 k g)
theorem last0 (hl : 1 ≤ L) (hL : L ≤ 4) (hn : 1 ≤ n) (hn8 : n ≤ 8) (tg ack : Bool) (bb : D114) :
    gadget_StepT (gs (c1, bi, d, s, t, ()) (uu L M b k g n) (ep false tg) bb (kI 0 n k g (n - 1)), iev ack) = some (gs (c1, bi, d, s, t, ()) (uu L M b k g n) (af false tg ack (blk g (n - 1))) bb (kS (wR 0 n k) 0 (64 * (n : Int)) false), 4, tb tg, blk g (n - 1), ()) :=
  gi64 ack (nI0 (i := n) (by omega) (by omega) hn8 k g) (xe0 hn hn8 k g _ _ t (ke_run hl hL M _))
theorem last5t (hl : 1 ≤ L) (hL : L ≤ 4) (hn : 1 ≤ n) (hn8 : n ≤ 8) (tg ack : Bool) (bb : D114) :
    gadget_StepT (gs (c1, bi, d, s, true, ()) (uu L M b k g n) (ep false tg) bb (kI 5 n k g (n - 1)), iev ack) = some (gs (c1, bi, d, s, true, ()) (uu L M b k g n) (af true tg ack (blk g (n - 1))) bb (kS (wR 5 n k) 5 (64 * (n : Int)) true), 4, tb tg, blk g (n - 1), ()) :=
  gi64 ack (nI5 (i := n) (by omega) (by omega) hn8 k g) (xe5t hn hn8 k g _ _ true (ke_run hl hL M _))
theorem last5f (hn : 1 ≤ n) (hn8 : n ≤ 8) (tg ack : Bool) (u : List D102) (bb : D114) :
    gadget_StepT (gs (c1, bi, d, s, false, ()) u (ep false tg) bb (kI 5 n k g (n - 1)), iev ack) = some (gs (c1, bi, d, s, false, ()) u (af false tg ack (blk g (n - 1))) bb (kI 5 n k g n), 4, tb tg, blk g (n - 1), ()) :=
  gi64 ack (nI5 (i := n) (by omega) (by omega) hn8 k g) (xe5f hn hn8 k g _)
theorem zero5 (hl : 1 ≤ L) (hL : L ≤ 4) (hn : 1 ≤ n) (hn8 : n ≤ 8) (tg ack : Bool) (bb : D114) :
    gadget_StepT (gs (c1, bi, d, s, false, ()) (uu L M b k g n) (ep false tg) bb (kI 5 n k g n), iev ack) = some (gs (c1, bi, d, s, false, ()) (uu L M b k g n) (af false tg ack nb) bb (kS (wR 5 n k) 5 (64 * (n : Int)) false), 4, tb tg, nb, ()) :=
  gi0 ack (nz hn hn8 k g) (xz hn hn8 k g _ _ false (ke_run hl hL M _))
theorem read_0 (hl : 1 ≤ L) (hL : L ≤ 4) (hn : 1 ≤ n) (hn8 : n ≤ 8) (hk : k + n ≤ b) (hb : b ≤ 64) (t1 t2 : Bool) (N : Nat) (hN : N < 200) : ∃ t1' t2' N', N' < 300 ∧
    reticuletop_line_commandT ((gs (c1, bi, d, s, t, ()) (uu L M b k g n) (ep false t1) (ep false t2) e45, l, (N : Int), ()), wR 0 n k, nb) =
      some ((gs (c1, bi, d, s, t, ()) (uu L M b k g n) (ep false t1') (ep false t2') e45, l, ((N' : Nat) : Int), ()), by_ (64 * n) g, (8#32, 0#32, 0, ()), true) := by
  obtain ⟨j, rfl⟩ : ∃ j, n = j + 1 := ⟨n - 1, by omega⟩
  obtain ⟨B, hB⟩ := big_sub (2 + j) (by omega)
  refine ⟨!!tn j t1, !t2, N + 1 + j + 1 + 1, by omega, ?_⟩
  refine cmd_ok (bytes_r0 hn hn8) rfl (send_ok (by omega) (step_r0 c1 bi d s t hl hL hn hn8 hk hb t2 (ep false t1)) (again_r0 c1 bi d s t hn hn8 t2 _ _)) ?_
  intro y z
  obtain ⟨r', h⟩ := rd_chain (l := l) (k := k) (g := g) c1 bi d s t 0 (.inl rfl) hn8 (uu L M b k g (j + 1)) (ep false (!t2)) (m := B + 2) (y := y) (z := z) j 0 (by omega) t1 (N + 1) 0 ack1 (by omega) (by omega)
  rw [hB, show B + (2 + j) = (B + 2) + j by omega]
  refine h.trans ?_
  rw [Nat.zero_add]
  refine (lp_data (by omega) (k := kI 0 (j + 1) k g j) rfl (by rw [by_len, blk_len]; omega) (ask_ok (by omega) rfl (last0 c1 bi d s t hl hL hn hn8 (tn j t1) true _) (last0 c1 bi d s t hl hL hn hn8 (tn j t1) false _) (gj64 (nsr0 hn hn8 k false)))).trans ?_
  rw [show j + 1 - 1 = j from rfl, by_add]
  exact lp_stat (by omega) (k := kS (wR 0 (j + 1) k) 0 (64 * ((j + 1 : Nat) : Int)) false) rfl (stat_ok c1 bi d s t _ _ (!tn j t1) (by omega) (nsr0 hn hn8 k false) (ssr0 hn hn8 k false _ t)) stat_r0
theorem read_5 (hl : 1 ≤ L) (hL : L ≤ 4) (hn : 1 ≤ n) (hn8 : n ≤ 8) (hk : k + n ≤ b) (hb : b ≤ 64) (t1 t2 : Bool) (N : Nat) (hN : N < 200) : ∃ t1' t2' N', N' < 300 ∧
    reticuletop_line_commandT ((gs (c1, bi, d, s, t, ()) (uu L M b k g n) (ep false t1) (ep false t2) e45, l, (N : Int), ()), wR 5 n k, nb) =
      some ((gs (c1, bi, d, s, t, ()) (uu L M b k g n) (ep false t1') (ep false t2') e45, l, ((N' : Nat) : Int), ()), by_ (64 * n) g, (8#32, 5#32, 0, ()), true) := by
  obtain ⟨j, rfl⟩ : ∃ j, n = j + 1 := ⟨n - 1, by omega⟩
  obtain ⟨B, hB⟩ := big_sub (3 + j) (by omega)
  cases t
  · refine ⟨!!!tn j t1, !t2, N + 1 + j + 1 + 1 + 1, by omega, ?_⟩
    refine cmd_ok (bytes_r5 hn hn8) rfl (send_ok (by omega) (step_r5 c1 bi d s false hl hL hn hn8 hk hb t2 (ep false t1)) (again_r5 c1 bi d s false hn hn8 t2 _ _)) ?_
    intro y z
    obtain ⟨r', h⟩ := rd_chain (l := l) (k := k) (g := g) c1 bi d s false 5 (.inr rfl) hn8 (uu L M b k g (j + 1)) (ep false (!t2)) (m := B + 3) (y := y) (z := z) j 0 (by omega) t1 (N + 1) 0 ack1 (by omega) (by omega)
    rw [hB, show B + (3 + j) = (B + 3) + j by omega]
    refine h.trans ?_
    rw [Nat.zero_add]
    refine (lp_data (by omega) (k := kI 5 (j + 1) k g j) rfl (by rw [by_len, blk_len]; omega) (ask_ok (by omega) rfl (last5f c1 bi d s hn hn8 (tn j t1) true _ _) (last5f c1 bi d s hn hn8 (tn j t1) false _ _) (gj64 (nz hn hn8 k g)))).trans ?_
    rw [show j + 1 - 1 = j from rfl, by_add]
    refine (lp_data (by omega) (k := kI 5 (j + 1) k g (j + 1)) rfl (by rw [by_len]; show 64 * (j + 1) + 0 ≤ 10000; omega) (ask_ok (by omega) rfl (zero5 c1 bi d s hl hL hn hn8 (!tn j t1) true _) (zero5 c1 bi d s hl hL hn hn8 (!tn j t1) false _) (gj0 (nsr5 hn hn8 k false)))).trans ?_
    rw [show by_ (64 * (j + 1)) g ++ nb = by_ (64 * (j + 1)) g from List.append_nil _]
    exact lp_stat (by omega) (k := kS (wR 5 (j + 1) k) 5 (64 * ((j + 1 : Nat) : Int)) false) rfl (stat_ok c1 bi d s false _ _ (!!tn j t1) (by omega) (nsr5 hn hn8 k false) (ssr5 hn hn8 k false _ false)) stat_r5
  · refine ⟨!false, !t2, N + 1 + j + 1 + 1 + 1, by omega, ?_⟩
    refine cmd_ok (bytes_r5 hn hn8) rfl (send_ok (by omega) (step_r5 c1 bi d s true hl hL hn hn8 hk hb t2 (ep false t1)) (again_r5 c1 bi d s true hn hn8 t2 _ _)) ?_
    intro y z
    obtain ⟨r', h⟩ := rd_chain (l := l) (k := k) (g := g) c1 bi d s true 5 (.inr rfl) hn8 (uu L M b k g (j + 1)) (ep false (!t2)) (m := B + 3) (y := y) (z := z) j 0 (by omega) t1 (N + 1) 0 ack1 (by omega) (by omega)
    rw [hB, show B + (3 + j) = (B + 3) + j by omega]
    refine h.trans ?_
    rw [Nat.zero_add]
    refine (lp_data (by omega) (k := kI 5 (j + 1) k g j) rfl (by rw [by_len, blk_len]; omega) (ask_ok (by omega) rfl (last5t c1 bi d s hl hL hn hn8 (tn j t1) true _) (last5t c1 bi d s hl hL hn hn8 (tn j t1) false _) (gj64 (nsr5 hn hn8 k true)))).trans ?_
    rw [show j + 1 - 1 = j from rfl, by_add]
    refine (lp_stall (by omega) (k := kS (wR 5 (j + 1) k) 5 (64 * ((j + 1 : Nat) : Int)) true) (a := ep true (!tn j t1)) rfl (ask_ok (by omega) rfl (gh true (nsr5 hn hn8 k true)) (gh false (nsr5 hn hn8 k true)) (gh true (nsr5 hn hn8 k true))) (xc (!t2) _ _ rfl)).trans ?_
    exact lp_stat (by omega) (k := kS (wR 5 (j + 1) k) 5 (64 * ((j + 1 : Nat) : Int)) true) rfl (stat_ok c1 bi d s true _ _ false (by omega) (nsr5 hn hn8 k true) (ssr5 hn hn8 k true _ true)) stat_r5
end
end Go.Proofs.YthnpgnabfcaaiaaGreat
/- WholeReads and WholeLossy, the plain laws. -/
namespace Go.Proofs.YthnpgnabfcaaiaaGreat
open Go Go.Re
set_option linter.unusedVariables false
set_option linter.unusedSimpArgs false
set_option maxRecDepth 100000
theorem us_len (L : Nat) (m : D97) (v : D102) : (us L m v).length = L := by unfold us; simp
theorem enu_run {L : Nat} (h1 : 1 ≤ L) (hL : L ≤ 4) (b d : Int) (s t : Bool) (m : D97) :
    reticuletop_allT (gg (cfg L b d s t) (List.replicate L (fr m)), enu) = some ((st (cfg L b d s t) (List.replicate L (fr2 m)) 0 0 [] 0).1, true) := by
  rcases l4 h1 hL with rfl | rfl | rfl | rfl <;> (show _ = _; kernel_rfl)
theorem ready_run {L : Nat} (h : 1 ≤ L) (hL : L ≤ 4) (s t : Bool) (b d : Int) (m : D97) :
    reticuletop_line_readyT (st (cfg L b d s t) (List.replicate L (fr2 m)) 0 0 [] 0, 0) = some (st (cfg L b d s t) (us L m (rdy m)) 1 1 [] 10) := by
  rcases l4 h hL with rfl | rfl | rfl | rfl <;> cases s <;> kernel_rfl
theorem tdiv64 {n : Nat} (h : n < 9000000000000000000) : w64 ((n : Int).tdiv 64) = ((n / 64 : Nat) : Int) := by
  have : (n : Int).tdiv 64 = ((n / 64 : Nat) : Int) := by rw [show (64 : Int) = ((64 : Nat) : Int) from rfl, ← Int.ofNat_tdiv]
  rw [this, w64_in (by omega) (by omega)]
theorem wW_eq (n k : Nat) : wW n k = (7#32, BitVec.ofInt 32 ((64 * n : Nat) : Int), false, 0, wcd 42#8 k n, ()) := by
  unfold wW; rw [show ((64 * n : Nat) : Int) = 64 * (n : Int) by omega]
theorem wR0_eq (n k : Nat) : wR 0 n k = (8#32, BitVec.ofInt 32 ((64 * n : Nat) : Int), true, 0, wcd 40#8 k n, ()) := by
  unfold wR; rw [show ((64 * n : Nat) : Int) = 64 * (n : Int) + ((0 : Nat) : Int) by omega]
theorem wR5_eq (n k : Nat) : wR 5 n k = (8#32, BitVec.ofInt 32 (((64 * n : Nat) : Int) + 5), true, 0, wcd 40#8 k n, ()) := by
  unfold wR; rw [show ((64 * n : Nat) : Int) + 5 = 64 * (n : Int) + ((5 : Nat) : Int) by omega]
theorem kx_gs {c : D22} {L : Nat} {u : List D102} (h : u.length = L) {a b : D114} {k : D45} {l : List Bool} {N : Int} : Kx c L (gs c u a b k, l, N, ()) := ⟨rfl, h, rfl⟩
theorem ten_ok (op : BitVec 8) (k n : Nat) : reticuletop_ten (op, (k : Int), (n : Int)) = some (wcd op k n) := rfl
theorem st_gs (c : D22) (L b k : Nat) (g : Nat → BitVec 8) (l : List Bool) (N : Nat) : st c (us L (Md b) (rdy (Md b))) 1 1 l (N : Int) = (gs c (uu L (Md b) b k g 0) (ep false true) (ep false true) e45, l, (N : Int), ()) := rfl
theorem WholeReads_main (x : D22 × BitVec 8 × List (BitVec 8)) (hx : x.2.2.length < 9000000000000000000) : reticuletop_WholeReads x = some true := by
  obtain ⟨⟨c1, bi, d, s, t, ⟨⟩⟩, at_, data⟩ := x
  unfold reticuletop_WholeReads
  rw [alive27_ok, Option.bind_some]
  show (reticuletop_played ((c1, bi, d, s, t, ()), n61, 0)).bind _ = _
  rcases may_cases (c1, bi, d, s, t, ()) with h | ⟨L, b, h⟩
  · rw [played_no h]; rfl
  have hc1 : c1 = (L : Int) := h.el
  have hb : bi = (b : Int) := h.eb
  subst hc1
  subst hb
  have H := good_of h
  have hl1 := h.l1
  have hl4 := h.l4
  have hb64 := h.b64
  have hx : data.length < 9000000000000000000 := hx
  rw [played0 h, Option.bind_some]
  simp only [tdiv64 hx]
  obtain ⟨n, hn⟩ : ∃ n, n = data.length / 64 := ⟨_, rfl⟩
  rw [← hn]
  show ((some (decide ((n : Int) < 1)) : Option Bool).bind _) = _
  rw [Option.bind_some]
  by_cases h1 : (n : Int) < 1
  · rw [decide_eq_true h1]; rfl
  rw [decide_eq_false h1, cond_false, Option.bind_some]
  by_cases h2 : 8 < (n : Int)
  · rw [decide_eq_true h2]; rfl
  rw [decide_eq_false h2, cond_false, Option.bind_some]
  show (bif decide ((b : Int) < (n : Int)) then _ else _) = _
  by_cases h3 : (b : Int) < (n : Int)
  · rw [decide_eq_true h3]; rfl
  rw [decide_eq_false h3, cond_false]
  have n1 : 1 ≤ n := by omega
  have n8 : n ≤ 8 := by omega
  have e0 : w64 ((b : Int) - (n : Int)) = ((b - n : Nat) : Int) := by rw [w64_in (by omega) (by omega)]; omega
  have e64 : w64 ((64 : Int) * (n : Int)) = ((64 * n : Nat) : Int) := by rw [w64_in (by omega) (by omega)]; omega
  simp only [e0, e64, w64_succ (b - n) (by omega)]
  obtain ⟨k, hk⟩ : ∃ k, k = at_.toNat % (b - n + 1) := ⟨_, rfl⟩
  have hkn : k + n ≤ b := by have := Nat.mod_lt at_.toNat (show b - n + 1 > 0 by omega); omega
  have ek : (bif (((b - n + 1 : Nat) : Int) == 0) then none else some (((at_.toNat : Nat) : Int).tmod ((b - n + 1 : Nat) : Int)) : Option Int) = some (k : Int) := by
    have : (((b - n + 1 : Nat) : Int) == 0) = false := by rw [beq_eq_false_iff_ne]; omega
    rw [this, cond_false, ← Int.ofNat_tmod, hk]
  rw [ek, Option.bind_some]
  have e3 : chk (decide (0 ≤ ((64 * n : Nat) : Int)) && decide (((64 * n : Nat) : Int) ≤ (data.length : Int))) = some () := by
    rw [decide_eq_true (by omega), decide_eq_true (by omega)]; rfl
  rw [e3, Option.bind_some, enu_ok, Option.bind_some]
  show (reticuletop_all (gg (cfg L b d s t) (List.replicate L (fr (Md b))), enu)).bind _ = _
  rw [(all_sm H _ (kg_gg (by simp))).1, enu_run hl1 hl4, Option.bind_some]
  show (reticuletop_line_ready (st (cfg L b d s t) (List.replicate L (fr2 (Md b))) 0 0 [] 0, 0)).bind _ = _
  rw [(ready_sm H _ (kx_st (by simp))).1, ready_run hl1 hl4, Option.bind_some, Int.toNat_natCast]
  obtain ⟨g, hg⟩ : ∃ g : Nat → BitVec 8, data.take (64 * n) = by_ (64 * n) g := ⟨_, by_take (by omega)⟩
  rw [hg]
  rw [show st (cfg L b d s t) (us L (Md b) (rdy (Md b))) 1 1 [] 10 = _ from st_gs (cfg L b d s t) L b k g [] 10]
  rw [ten_ok, Option.bind_some]
  show (reticuletop_line_command ((gs (cfg L b d s t) (uu L (Md b) b k g 0) (ep false true) (ep false true) e45, [], ((10 : Nat) : Int), ()), (7#32, BitVec.ofInt 32 ((64 * n : Nat) : Int), false, 0, wcd 42#8 k n, ()), by_ (64 * n) g)).bind _ = _
  obtain ⟨a1, a2, N1, hN1, hw⟩ := write_all (l := []) (M := Md b) (g := g) (L : Int) (b : Int) d s t hl1 hl4 n1 n8 hkn hb64 true true 10 (by omega)
  rw [← wW_eq, (command_sm H _ (kx_gs (us_len _ _ _))).1]
  rw [show reticuletop_line_commandT ((gs (cfg L b d s t) (uu L (Md b) b k g 0) (ep false true) (ep false true) e45, [], ((10 : Nat) : Int), ()), wW n k, by_ (64 * n) g) = _ from hw, Option.bind_some]
  rw [ten_ok, Option.bind_some]
  show (reticuletop_line_command ((gs (cfg L b d s t) (uu L (Md b) b k g n) (ep false a1) (ep false a2) e45, [], ((N1 : Nat) : Int), ()), (8#32, BitVec.ofInt 32 ((64 * n : Nat) : Int), true, 0, wcd 40#8 k n, ()), nb)).bind _ = _
  obtain ⟨b1, b2, N2, hN2, hr⟩ := read_0 (l := []) (M := Md b) (g := g) (L : Int) (b : Int) d s t hl1 hl4 n1 n8 hkn hb64 a1 a2 N1 hN1
  rw [← wR0_eq, (command_sm H _ (kx_gs (us_len _ _ _))).1]
  rw [show reticuletop_line_commandT ((gs (cfg L b d s t) (uu L (Md b) b k g n) (ep false a1) (ep false a2) e45, [], ((N1 : Nat) : Int), ()), wR 0 n k, nb) = _ from hr, Option.bind_some]
  have e9 : chk (decide ((by_ (64 * n) g).length ≤ lim)) = some () := chk_dec (le_lim (by rw [by_len]; omega))
  simp only [cond_true, cond_false, Option.bind_some, decide_true, Bool.and_self, e9]
  rfl
theorem WholeReads_pure (x : D22 × BitVec 8 × List (BitVec 8)) {p q : Prop} (_ : p) (_ : q) (h : Ty.ok (.sl (.int .u8)) x.2.2) : reticuletop_WholeReads x = some true :=
  WholeReads_main x (by have := h.1; unfold big at this; omega)
theorem WholeLossy_main (x : D22 × List (BitVec 8) × List Bool) (hx : x.2.1.length < 9000000000000000000) : reticuletop_WholeLossy x = some true := by
  obtain ⟨⟨c1, bi, d, s, t, ⟨⟩⟩, data, lost⟩ := x
  unfold reticuletop_WholeLossy
  rw [alive27_ok, Option.bind_some]
  show (reticuletop_played ((c1, bi, d, s, t, ()), n61, 0)).bind _ = _
  rcases may_cases (c1, bi, d, s, t, ()) with h | ⟨L, b, h⟩
  · rw [played_no h]; rfl
  have hc1 : c1 = (L : Int) := h.el
  have hb : bi = (b : Int) := h.eb
  subst hc1
  subst hb
  have H := good_of h
  have hl1 := h.l1
  have hl4 := h.l4
  have hb64 := h.b64
  have hx : data.length < 9000000000000000000 := hx
  rw [played0 h, Option.bind_some]
  simp only [tdiv64 hx]
  obtain ⟨n, hn⟩ : ∃ n, n = data.length / 64 := ⟨_, rfl⟩
  rw [← hn]
  show ((some (decide ((n : Int) < 1)) : Option Bool).bind _) = _
  rw [Option.bind_some]
  by_cases h1 : (n : Int) < 1
  · rw [decide_eq_true h1]; rfl
  rw [decide_eq_false h1, cond_false, Option.bind_some]
  by_cases h2 : 8 < (n : Int)
  · rw [decide_eq_true h2]; rfl
  rw [decide_eq_false h2, cond_false, Option.bind_some]
  show ((bif decide ((b : Int) < (n : Int)) then some true else some (decide (100 < (lost.length : Int))) : Option Bool).bind _) = _
  by_cases h3 : (b : Int) < (n : Int)
  · rw [decide_eq_true h3]; rfl
  rw [decide_eq_false h3, cond_false, Option.bind_some]
  by_cases h4 : 100 < (lost.length : Int)
  · show (bif decide (100 < (lost.length : Int)) then _ else _) = _
    rw [decide_eq_true h4]; rfl
  show (bif decide (100 < (lost.length : Int)) then _ else _) = _
  rw [decide_eq_false h4, cond_false]
  have n1 : 1 ≤ n := by omega
  have n8 : n ≤ 8 := by omega
  have e64 : w64 ((64 : Int) * (n : Int)) = ((64 * n : Nat) : Int) := by rw [w64_in (by omega) (by omega)]; omega
  have e65 : w64 (((64 * n : Nat) : Int) + 5) = ((64 * n : Nat) : Int) + 5 := by rw [w64_in (by omega) (by omega)]
  simp only [e64, e65]
  have hkn : 0 + n ≤ b := by omega
  have e3 : chk (decide (0 ≤ ((64 * n : Nat) : Int)) && decide (((64 * n : Nat) : Int) ≤ (data.length : Int))) = some () := by
    rw [decide_eq_true (by omega), decide_eq_true (by omega)]; rfl
  rw [e3, Option.bind_some, enu_ok, Option.bind_some]
  show (reticuletop_all (gg (cfg L b d s t) (List.replicate L (fr (Md b))), enu)).bind _ = _
  rw [(all_sm H _ (kg_gg (by simp))).1, enu_run hl1 hl4, Option.bind_some]
  show (reticuletop_line_ready (st (cfg L b d s t) (List.replicate L (fr2 (Md b))) 0 0 [] 0, 0)).bind _ = _
  rw [(ready_sm H _ (kx_st (by simp))).1, ready_run hl1 hl4, Option.bind_some, Int.toNat_natCast]
  obtain ⟨g, hg⟩ : ∃ g : Nat → BitVec 8, data.take (64 * n) = by_ (64 * n) g := ⟨_, by_take (by omega)⟩
  rw [hg]
  rw [show st (cfg L b d s t) (us L (Md b) (rdy (Md b))) 1 1 [] 10 = _ from st_gs (cfg L b d s t) L b 0 g [] 10]
  rw [show reticuletop_ten (42#8, 0, (n : Int)) = _ from ten_ok 42#8 0 n, Option.bind_some]
  show (reticuletop_line_command ((gs (cfg L b d s t) (uu L (Md b) b 0 g 0) (ep false true) (ep false true) e45, lost, ((0 : Nat) : Int), ()), (7#32, BitVec.ofInt 32 ((64 * n : Nat) : Int), false, 0, wcd 42#8 0 n, ()), by_ (64 * n) g)).bind _ = _
  obtain ⟨a1, a2, N1, hN1, hw⟩ := write_all (l := lost) (M := Md b) (g := g) (k := 0) (L : Int) (b : Int) d s t hl1 hl4 n1 n8 hkn hb64 true true 0 (by omega)
  rw [← wW_eq, (command_sm H _ (kx_gs (us_len _ _ _))).1]
  rw [show reticuletop_line_commandT ((gs (cfg L b d s t) (uu L (Md b) b 0 g 0) (ep false true) (ep false true) e45, lost, ((0 : Nat) : Int), ()), wW n 0, by_ (64 * n) g) = _ from hw, Option.bind_some]
  rw [show reticuletop_ten (40#8, 0, (n : Int)) = _ from ten_ok 40#8 0 n, Option.bind_some]
  show (reticuletop_line_command ((gs (cfg L b d s t) (uu L (Md b) b 0 g n) (ep false a1) (ep false a2) e45, lost, ((N1 : Nat) : Int), ()), (8#32, BitVec.ofInt 32 (((64 * n : Nat) : Int) + 5), true, 0, wcd 40#8 0 n, ()), nb)).bind _ = _
  obtain ⟨b1, b2, N2, hN2, hr⟩ := read_5 (l := lost) (M := Md b) (g := g) (k := 0) (L : Int) (b : Int) d s t hl1 hl4 n1 n8 hkn hb64 a1 a2 N1 hN1
  rw [← wR5_eq, (command_sm H _ (kx_gs (us_len _ _ _))).1]
  rw [show reticuletop_line_commandT ((gs (cfg L b d s t) (uu L (Md b) b 0 g n) (ep false a1) (ep false a2) e45, lost, ((N1 : Nat) : Int), ()), wR 5 n 0, nb) = _ from hr, Option.bind_some]
  have e9 : chk (decide ((by_ (64 * n) g).length ≤ lim)) = some () := chk_dec (le_lim (by rw [by_len]; omega))
  simp only [cond_true, cond_false, Option.bind_some, decide_true, Bool.and_self, e9]
theorem WholeLossy_pure (x : D22 × List (BitVec 8) × List Bool) {p q : Prop} (_ : p) (h : Ty.ok (.sl (.int .u8)) x.2.1) (_ : q) : reticuletop_WholeLossy x = some true :=
  WholeLossy_main x (by have := h.1; unfold big at this; omega)
end Go.Proofs.YthnpgnabfcaaiaaGreat
