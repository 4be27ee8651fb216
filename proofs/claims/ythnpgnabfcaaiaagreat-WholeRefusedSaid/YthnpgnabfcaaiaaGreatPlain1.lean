/- Plain laws. -/
import Derived.Test.YthnpgnabfcaaiaaGreatXF
import Derived.Test.YthnpgnabfcaaiaaGreatXG
import Derived.Test.YthnpgnabfcaaiaaGreatLib4
/- What every event leaves of a gadget: its config, how many units and endpoints there are. -/
namespace Go.Proofs.YthnpgnabfcaaiaaGreat
open Go Go.Re
set_option linter.unusedVariables false
set_option linter.unusedSimpArgs false
/-- All that comes of it is so. -/
def Ok {α : Type} (G : α → Prop) (o : Option α) : Prop := ∀ y, o = some y → G y
theorem ok_some {α : Type} {G : α → Prop} {y : α} (h : G y) : Ok G (some y) := fun _ e => by cases e; exact h
theorem ok_none {α : Type} {G : α → Prop} : Ok G none := fun _ e => by cases e
theorem ok_bind {α β : Type} {G : β → Prop} {o : Option α} {k : α → Option β} (h : ∀ a, o = some a → Ok G (k a)) : Ok G (o.bind k) := fun y e => by
  obtain ⟨a, h1, h2⟩ := Option.bind_eq_some_iff.1 e
  exact h a h1 y h2
theorem ok_cond {α : Type} {G : α → Prop} {c : Bool} {a b : Option α} (h1 : Ok G a) (h2 : Ok G b) : Ok G (bif c then a else b) := by cases c <;> assumption
theorem ok_jn {A R : Type} {G : R → Prop} {X : Option (A ⊕ R)} {k : A → Option R} (GA : A → Prop) (h1 : Ok (Sum.elim GA G) X) (h2 : ∀ a, GA a → Ok G (k a)) : Ok G (jn X k) := fun y e => by
  unfold jn at e
  split at e
  · exact h2 _ (h1 _ rfl) y e
  · cases e; exact h1 _ rfl
  · cases e
theorem ok_use {α : Type} {G : α → Prop} {o : Option α} (h : Ok G o) {y : α} (e : o = some y) : G y := h y e
/-! ### units: how many -/
theorem clone_len {α : Type} {x y : List α} (h : cloneM x = some y) : y = x := by
  unfold cloneM at h
  cases hc : decide (x.length ≤ lim) with
  | true => rw [hc] at h; cases h; rfl
  | false => rw [hc] at h; cases h
abbrev Ln (L : Nat) (l : List D102) : Prop := l.length = L
theorem attend0_len (L : Nat) : ∀ n j, j.1.length = L → Ok (Sum.elim (Ln L) (Ln L)) (unit_Attend_L0 n j)
  | 0, _, _ => ok_none
  | n + 1, j, h => by
    unfold unit_Attend_L0
    refine ok_cond (ok_jn (fun a => a.1.length = L) ?_ fun a ha => attend0_len L n _ ha) (ok_some h)
    refine ok_bind fun r4 _ => ok_cond (ok_some h) (ok_bind fun r5 h5 => ok_bind fun _ _ => ok_bind fun r6 _ => ok_some ?_)
    have h5 := clone_len h5
    subst h5
    show (List.set _ _ _).length = L
    rw [List.length_set]; exact h
theorem attend_len (x : List D102 × Int × D41) : Ok (Ln x.1.length) (unit_Attend x) := by
  unfold unit_Attend
  refine ok_cond ?_ (ok_jn (Ln x.1.length) (attend0_len _ _ _ rfl) fun a ha => ok_some ha)
  refine ok_bind fun r1 _ => ok_cond (ok_some rfl) (ok_bind fun r2 h2 => ok_bind fun _ _ => ok_bind fun r3 _ => ok_some ?_)
  have h2 := clone_len h2
  subst h2
  exact List.length_set ..
theorem eject_len (x : List D102 × Int) : Ok (Ln x.1.length) (unit_Eject x) := by
  unfold unit_Eject
  refine ok_bind fun r1 _ => ok_cond (ok_some rfl) (ok_bind fun r2 h2 => ok_bind fun _ _ => ok_bind fun x4 _ => ok_bind fun r5 _ => ok_bind fun x7 h7 => ok_some ?_)
  have h2 := clone_len h2
  subst h2
  obtain ⟨z6, _, h7⟩ := Option.bind_eq_some_iff.1 h7
  cases h7
  exact List.length_set ..
theorem switch_len (x : List D102 × Int × Bool) : Ok (Ln x.1.length) (unit_Switch x) := by
  unfold unit_Switch
  refine ok_bind fun r1 _ => ok_cond (ok_some rfl) (ok_bind fun r2 h2 => ok_bind fun _ _ => ok_bind fun x4 _ => ok_bind fun r5 _ => ok_bind fun x7 h7 => ok_some ?_)
  have h2 := clone_len h2
  subst h2
  obtain ⟨z6, _, h7⟩ := Option.bind_eq_some_iff.1 h7
  cases h7
  exact List.length_set ..
theorem keep_len (x : List D102 × Int × D41) : Ok (Ln x.1.length) (unit_Keep x) := by
  unfold unit_Keep
  refine ok_bind fun r1 _ => ok_cond (ok_some rfl) (ok_bind fun r2 h2 => ok_bind fun _ _ => ok_bind fun x4 h4 => ok_some ?_)
  have h2 := clone_len h2
  subst h2
  obtain ⟨z6, _, h4⟩ := Option.bind_eq_some_iff.1 h4
  cases h4
  exact List.length_set ..
theorem take_len (x : List D102 × Int × D43 × List (BitVec 8)) : Ok (fun y => Ln x.1.length y.1) (unit_Take x) := by
  unfold unit_Take
  refine ok_jn (fun a => a.2.2.length = x.1.length) ?_ fun a ha => ok_some ha
  refine ok_bind fun r1 _ => ok_cond (ok_some rfl) (ok_bind fun r2 h2 => ok_bind fun _ _ => ok_bind fun x4 _ => ok_bind fun r5 _ => ok_some ?_)
  have h2 := clone_len h2
  subst h2
  exact List.length_set ..
theorem finish_len (x : List D102 × Int × D43) : Ok (fun y => Ln x.1.length y.1) (unit_Finish x) := by
  unfold unit_Finish
  refine ok_bind fun _ _ => ok_jn (fun a => a.2.2.length = x.1.length) ?_ fun a ha => ok_some ha
  refine ok_bind fun r1 _ => ok_cond (ok_some rfl) (ok_bind fun r2 h2 => ok_bind fun _ _ => ok_bind fun x4 _ => ok_bind fun r5 _ => ok_some ?_)
  have h2 := clone_len h2
  subst h2
  exact List.length_set ..
theorem command_len (x : List D102 × Int × List (BitVec 8)) : Ok (fun y => Ln x.1.length y.1) (unit_Command x) := by
  unfold unit_Command
  refine ok_bind fun _ _ => ok_cond (ok_bind fun _ _ => ok_bind fun _ _ => ok_cond (ok_bind fun _ _ => ok_some rfl) ok_none) (ok_jn (fun a => a.1.length = x.1.length) ?_ fun a ha => ok_some ha)
  refine ok_bind fun r1 _ => ok_cond (ok_some rfl) (ok_bind fun r2 h2 => ok_bind fun _ _ => ok_bind fun r5 _ => ok_some ?_)
  have h2 := clone_len h2
  subst h2
  exact List.length_set ..
end Go.Proofs.YthnpgnabfcaaiaaGreat
/- What every event leaves of a gadget: bulk-only; the step. -/
namespace Go.Proofs.YthnpgnabfcaaiaaGreat
open Go Go.Re
set_option linter.unusedVariables false
set_option linter.unusedSimpArgs false
abbrev Ll (L : Nat) (x : D277) : Prop := x.2.1.length = L
theorem lend_len (L : Nat) (x : D277) (h : Ll L x) : Ok (Ll L) (bulk_line_end x) := by
  unfold bulk_line_end
  refine ok_jn (Ll L) (ok_cond ?_ (ok_some h)) fun a ha => ok_bind fun r6 h6 => ok_some ((ok_use (keep_len _) h6).trans ha)
  refine ok_bind fun r1 h1 => ?_
  have h1 : r1.1.length = L := (ok_use (finish_len _) h1).trans h
  refine ok_jn (Ll L) ?_ fun a ha => ok_some ha
  exact ok_bind fun _ _ => ok_cond (ok_some h1) (ok_some h1)
theorem lend_use {L : Nat} {x r : D277} (h : bulk_line_end x = some r) (hx : Ll L x) : Ll L r := lend_len L x hx r h
theorem wrapper_len (L : Nat) (x : D277 × List (BitVec 8)) (h : Ll L x.1) : Ok (Ll L) (bulk_line_wrapper x) := by
  unfold bulk_line_wrapper
  refine ok_bind fun r1 _ => ok_cond (ok_some h) (ok_bind fun r2 h2 => ok_bind fun _ _ => ok_bind fun r4 _ => ?_)
  have h2 : r2.1.length = L := (ok_use (command_len _) h2).trans h
  refine ok_jn (fun a => Ll L a.1) (ok_cond (ok_some h2) (ok_bind fun _ _ => ok_cond (ok_some h2) (ok_some h2))) fun a ha => ?_
  refine ok_jn (fun a => Ll L a.1) (ok_cond (ok_some ha) (ok_some ha)) fun a ha => ?_
  refine ok_cond (ok_bind fun _ _ => ok_bind fun _ _ => ok_some ha) (ok_cond (ok_bind fun r9 h9 => ok_some (lend_use h9 ha)) (ok_some ha))
theorem comes_len (L : Nat) (x : D277 × List (BitVec 8)) (h : Ll L x.1) : Ok (Ll L) (bulk_line_comes x) := by
  unfold bulk_line_comes
  refine ok_bind fun _ _ => ok_bind fun r1 h1 => ?_
  have h1 : Ll L r1 := by unfold bulk_line_moved at h1; cases h1; exact h
  refine ok_jn (Ll L) (ok_cond (ok_bind fun r2 h2 => ok_some ((ok_use (take_len _) h2).trans h1)) (ok_some h1)) fun a ha => ?_
  refine ok_bind fun _ _ => ok_cond (ok_bind fun r h => ok_some (lend_use h ha)) (ok_bind fun _ _ => ok_cond (ok_bind fun r h => ok_some (lend_use h ha)) (ok_some ha))
theorem goes_len (L : Nat) (x : D277) (h : Ll L x) : Ok (Ll L) (bulk_line_goes x) := by
  unfold bulk_line_goes
  refine ok_bind fun _ _ => ok_bind fun _ _ => ok_bind fun _ _ => ok_bind fun r3 h3 => ?_
  have h3 : Ll L r3 := by unfold bulk_line_moved at h3; cases h3; exact h
  refine ok_cond (ok_some h3) (ok_bind fun _ _ => ok_cond (ok_bind fun r h => ok_some (lend_use h h3)) (ok_bind fun _ _ => ok_cond (ok_bind fun r h => ok_some (lend_use h h3)) (ok_some h3)))
theorem bTake_len (x : D45 × List D102 × List (BitVec 8) × Bool) : Ok (fun y => y.2.length = x.2.1.length) (bulk_Take x) := by
  unfold bulk_Take
  refine ok_bind fun _ _ => ok_cond (ok_some rfl) (ok_jn (fun a => Ll x.2.1.length a.2.2) ?_ fun a ha => ok_some ha)
  exact ok_cond (ok_bind fun r h => ok_some (ok_use (wrapper_len x.2.1.length _ rfl) h)) (ok_cond (ok_bind fun r h => ok_some (ok_use (comes_len x.2.1.length _ rfl) h)) (ok_some rfl))
theorem bSent_len (x : D45 × List D102 × Bool) : Ok (fun y => y.2.length = x.2.1.length) (bulk_Sent x) := by
  unfold bulk_Sent
  refine ok_bind fun _ _ => ok_cond (ok_some rfl) (ok_jn (fun a => Ll x.2.1.length a.2.2) ?_ fun a ha => ok_some ha)
  exact ok_cond (ok_some rfl) (ok_cond (ok_bind fun r h => ok_some (ok_use (goes_len x.2.1.length _ rfl) h)) (ok_some rfl))
/-! ### the step -/
abbrev Pre (B : Type) : Type := D51 × D57 × (D111 × (List D114 × Unit)) × B
/-- Config, units, endpoints of what is at work. -/
def Kp (c : D22) (L : Nat) (g : D51) (e : List D114) : Prop := g.1 = c ∧ g.2.1.length = L ∧ e.length = 4
abbrev Kb (c : D22) (L : Nat) {B : Type} (a : Pre B) : Prop := Kp c L a.2.2.1.1.1 a.2.2.1.2.1
abbrev Ka (c : D22) (L : Nat) (a : D51 × D57 × (D111 × (List D114 × Unit))) : Prop := Kp c L a.2.2.1.1 a.2.2.2.1
abbrev Kg (c : D22) (L : Nat) (g : D51) : Prop := Kp c L g g.2.2.2.2.1
theorem step0_ok (c : D22) (L : Nat) {G : _ → Prop} : ∀ n j, Kp c L j.2.2.1.1.1 j.2.2.1.2.1 → Ok (Sum.elim (Kb c L) G) (gadget_Step_L0 n j)
  | 0, _, _ => ok_none
  | n + 1, j, h => by
    unfold gadget_Step_L0
    refine ok_cond (ok_bind fun _ _ => ok_bind fun _ _ => ok_bind fun _ _ => ok_bind fun _ _ => ok_bind fun _ _ => step0_ok c L n _ ⟨h.1, h.2.1, ?_⟩) (ok_some h)
    show (List.set _ _ _).length = 4
    rw [List.length_set]; exact h.2.2
theorem set4 {l : List D114} (h : l.length = 4) (i : Nat) (e : D114) : (l.set i e).length = 4 := by rw [List.length_set]; exact h
theorem stepK_ok (x : D51 × D61) (hr : x.1.2.2.2.2.1.length = 4) : Ok (fun y => Kg x.1.1 x.1.2.1.length y.1) (gadget_StepK x true) := by
  obtain ⟨c, hc⟩ : ∃ c, c = x.1.1 := ⟨_, rfl⟩
  obtain ⟨L, hL⟩ : ∃ L, L = x.1.2.1.length := ⟨_, rfl⟩
  rw [← hc, ← hL]
  unfold gadget_StepK
  refine ok_bind fun b3 _ => ok_cond (ok_some ⟨hc.symm, hL.symm, hr⟩) (ok_bind fun r4 h4 => ?_)
  have h4 := clone_len h4
  subst h4
  have hK : Kp c L x.1 x.1.2.2.2.2.1 := ⟨hc.symm, hL.symm, hr⟩
  refine ok_jn (Ka c L) ?_ fun a ha => ok_some ha
  refine ok_cond (ok_bind fun _ _ => ok_bind fun _ _ => ok_bind fun r h => ok_some ⟨hc.symm, (ok_use (attend_len _) h).trans hL.symm, rfl⟩) ?_
  refine ok_cond (ok_bind fun _ _ => ok_none) (ok_cond ok_none ?_)
  refine ok_cond (ok_bind fun r h => ok_some ⟨hc.symm, (ok_use (eject_len _) h).trans hL.symm, hr⟩) ?_
  refine ok_cond (ok_bind fun r h => ok_some ⟨hc.symm, (ok_use (switch_len _) h).trans hL.symm, hr⟩) ?_
  refine ok_jn (Kb c L) ?_ fun a ha => ok_some ha
  refine ok_cond (ok_some hK) (ok_cond (ok_cond (ok_bind fun r9 _ => ok_cond (ok_some hK) (ok_bind fun _ _ => ok_bind fun r11 _ => ok_bind fun r12 _ => ok_jn (Kb c L) ?_ fun a ha => ok_some ha))
    (ok_cond (ok_bind fun _ _ => ok_some hK) (ok_jn (Kb c L) (ok_bind fun _ _ => ok_cond (ok_bind fun _ _ => ok_some hK) (ok_some hK)) fun a ha => ok_some ha))) ?_)
  · refine ok_cond (ok_bind fun _ _ => ok_cond (ok_bind fun _ _ => ok_bind fun _ _ => ok_bind fun _ _ => ok_bind fun _ _ => ok_some ⟨hc.symm, hL.symm, set4 hr _ _⟩) (ok_some hK)) ?_
    refine ok_cond (ok_bind fun _ _ => ok_bind fun _ _ => ok_bind fun _ _ => ok_bind fun _ _ => ok_some ⟨hc.symm, hL.symm, set4 hr _ _⟩) ?_
    refine ok_cond (ok_bind fun _ _ => ok_some ⟨hc.symm, hL.symm, rfl⟩) (ok_cond (ok_jn (Kb c L) (step0_ok c L _ _ hK) fun a ha => ok_some ha) (ok_some hK))
  · refine ok_bind fun _ _ => ok_cond (ok_some hK) (ok_jn (Kb c L) (ok_bind fun _ _ => ok_cond (ok_some hK) (ok_some hK)) fun a ha => ?_)
    refine ok_cond (ok_cond ?_ ?_) (ok_cond ok_none (ok_cond ok_none (ok_cond ok_none ok_none)))
    · refine ok_bind fun _ _ => ok_bind fun _ _ => ok_bind fun _ _ => ok_bind fun r37 _ => ok_bind fun _ _ => ok_jn (Kb c L) ?_ fun a ha => ok_some ha
      refine ok_cond (ok_bind fun r38 h38 => ?_) (ok_some ⟨ha.1, ha.2.1, set4 ha.2.2 _ _⟩)
      have h38 : r38.2.length = L := (ok_use (bTake_len _) h38).trans ha.2.1
      refine ok_jn (Kb c L) ?_ fun a ha => ?_
      · exact ok_cond (ok_bind fun _ _ => ok_bind fun _ _ => ok_bind fun _ _ => ok_bind fun _ _ => ok_some ⟨ha.1, h38, set4 (set4 ha.2.2 _ _) _ _⟩) (ok_some ⟨ha.1, h38, set4 ha.2.2 _ _⟩)
      · exact ok_cond (ok_bind fun _ _ => ok_bind fun _ _ => ok_bind fun _ _ => ok_bind fun _ _ => ok_some ⟨ha.1, ha.2.1, set4 ha.2.2 _ _⟩) (ok_some ha)
    · refine ok_bind fun _ _ => ok_bind fun _ _ => ok_bind fun _ _ => ok_bind fun r37 _ => ok_bind fun _ _ => ok_jn (Kb c L) ?_ fun a ha => ok_some ha
      refine ok_cond (ok_bind fun r38 h38 => ?_) (ok_some ⟨ha.1, ha.2.1, set4 ha.2.2 _ _⟩)
      have h38 : r38.2.length = L := (ok_use (bSent_len _) h38).trans ha.2.1
      refine ok_jn (Kb c L) ?_ fun a ha => ?_
      · exact ok_cond (ok_bind fun _ _ => ok_bind fun _ _ => ok_bind fun _ _ => ok_bind fun _ _ => ok_some ⟨ha.1, h38, set4 (set4 ha.2.2 _ _) _ _⟩) (ok_some ⟨ha.1, h38, set4 ha.2.2 _ _⟩)
      · exact ok_cond (ok_bind fun _ _ => ok_bind fun _ _ => ok_bind fun _ _ => ok_bind fun _ _ => ok_some ⟨ha.1, ha.2.1, set4 ha.2.2 _ _⟩) (ok_some ha)
end Go.Proofs.YthnpgnabfcaaiaaGreat
/- The host's functions over the step behind its check are those over the step, for gadgets that may be. -/
namespace Go.Proofs.YthnpgnabfcaaiaaGreat
open Go Go.Re
set_option linter.unusedVariables false
set_option linter.unusedSimpArgs false
/-- The same comes of both, and it is so. -/
def Sm {α : Type} (G : α → Prop) (o o' : Option α) : Prop := o = o' ∧ Ok G o'
theorem sm_some {α : Type} {G : α → Prop} {y : α} (h : G y) : Sm G (some y) (some y) := ⟨rfl, ok_some h⟩
theorem sm_bind {α β : Type} {GA : α → Prop} {G : β → Prop} {o o' : Option α} {k k' : α → Option β} (h : Sm GA o o') (hk : ∀ a, GA a → Sm G (k a) (k' a)) : Sm G (o.bind k) (o'.bind k') := by
  obtain ⟨rfl, h⟩ := h
  cases o with
  | none => exact ⟨rfl, ok_none⟩
  | some a => exact hk a (h a rfl)
theorem sm_bindr {α β : Type} {G : β → Prop} {o : Option α} {k k' : α → Option β} (hk : ∀ a, o = some a → Sm G (k a) (k' a)) : Sm G (o.bind k) (o.bind k') := by
  cases o with
  | none => exact ⟨rfl, ok_none⟩
  | some a => exact hk a rfl
theorem sm_cond {α : Type} {G : α → Prop} {c : Bool} {a b a' b' : Option α} (h1 : Sm G a a') (h2 : Sm G b b') : Sm G (bif c then a else b) (bif c then a' else b') := by cases c <;> assumption
theorem sm_jn {A R : Type} {G : R → Prop} {X X' : Option (A ⊕ R)} {k k' : A → Option R} (GA : A → Prop) (h1 : Sm (Sum.elim GA G) X X') (h2 : ∀ a, GA a → Sm G (k a) (k' a)) : Sm G (jn X k) (jn X' k') := by
  obtain ⟨rfl, h⟩ := h1
  cases X with
  | none => exact ⟨rfl, ok_none⟩
  | some s =>
    cases s with
    | inl a => exact h2 a (h _ rfl)
    | inr r => exact ⟨rfl, ok_some (h _ rfl)⟩
/-- All gadgets with this config, and so many units, may be. -/
def Good (c : D22) (L : Nat) : Prop := ∀ g, Kg c L g → gadget_Right g = some true
section
variable {c : D22} {L : Nat}
theorem step_sm (H : Good c L) (x : D51 × D61) (h : Kg c L x.1) : Sm (fun y => Kg c L y.1) (gadget_Step x) (gadget_StepT x) := by
  refine ⟨?_, ?_⟩
  · unfold gadget_Step
    rw [H _ h]; rfl
  · have := stepK_ok x h.2.2
    rw [h.1, h.2.1] at this
    exact this
theorem all0_sm (H : Good c L) : ∀ n j, Kg c L j.2.1 → Sm (Sum.elim (fun a => Kg c L a.1) (fun a => Kg c L a.1)) (reticuletop_all_L0 n j) (reticuletop_all_L0T n j)
  | 0, _, _ => ⟨rfl, ok_none⟩
  | n + 1, j, h => by
    unfold reticuletop_all_L0 reticuletop_all_L0T
    refine sm_cond (sm_bindr fun x1 _ => sm_bind (step_sm H _ h) fun r2 h2 => sm_bindr fun b _ => all0_sm H n _ h2) (sm_some h)
theorem all_sm (H : Good c L) (x : D51 × List D61) (h : Kg c L x.1) : Sm (fun y => Kg c L y.1) (reticuletop_all x) (reticuletop_allT x) := by
  unfold reticuletop_all reticuletop_allT
  exact sm_jn (fun a => Kg c L a.1) (all0_sm H _ _ h) fun a ha => sm_some ha
abbrev Kx (c : D22) (L : Nat) (x : D76) : Prop := Kg c L x.1
theorem clear_sm (H : Good c L) (x : D76 × Int) (h : Kx c L x.1) : Sm (fun y => Kx c L y.1) (reticuletop_line_clear x) (reticuletop_line_clearT x) := by
  unfold reticuletop_line_clear reticuletop_line_clearT
  exact sm_bindr fun _ _ => sm_bind (all_sm H _ h) fun r hr => sm_some hr
theorem lost_k {x : D76} (h : Kx c L x) {r : D76 × Bool} (e : reticuletop_line_lost x = some r) : Kx c L r.1 := by
  unfold reticuletop_line_lost at e
  obtain ⟨b, _, e⟩ := Option.bind_eq_some_iff.1 e
  cases e
  exact h
theorem send_sm (H : Good c L) (x : D76 × D61) (h : Kx c L x.1) : Sm (fun y => Kx c L y.1) (reticuletop_line_send x) (reticuletop_line_sendT x) := by
  unfold reticuletop_line_send reticuletop_line_sendT
  refine sm_bindr fun r1 h1 => sm_bind (step_sm H _ (lost_k h h1)) fun r2 h2 => sm_jn (fun a => Kx c L a.1) ?_ fun a ha => sm_some ha
  exact sm_bindr fun _ _ => sm_cond (sm_bind (step_sm H _ h2) fun r4 h4 => sm_some h4) (sm_some h2)
theorem ask_sm (H : Good c L) (x : D76 × Int × Int) (h : Kx c L x.1) : Sm (fun y => Kx c L y.1) (reticuletop_line_ask x) (reticuletop_line_askT x) := by
  unfold reticuletop_line_ask reticuletop_line_askT
  refine sm_bindr fun _ _ => sm_bindr fun r2 h2 => sm_jn (fun a => Kx c L a.1) ?_ fun a ha => sm_bind (step_sm H _ ha) fun r hr => sm_some hr
  exact sm_cond (sm_bind (step_sm H _ (lost_k h h2)) fun r hr => sm_some hr) (sm_some (lost_k h h2))
theorem command0_sm (H : Good c L) : ∀ n j, Kx c L j.2.1 → Sm (Sum.elim (fun a => Kx c L a.1) (fun a => Kx c L a.1)) (reticuletop_line_command_L0 n j) (reticuletop_line_command_L0T n j)
  | 0, _, _ => ⟨rfl, ok_none⟩
  | n + 1, j, h => by
    unfold reticuletop_line_command_L0 reticuletop_line_command_L0T
    refine sm_cond (sm_jn (fun a => Kx c L a.2.1) ?_ fun a ha => command0_sm H n _ ha) (sm_some h)
    refine sm_bindr fun b9 _ => sm_cond (sm_bindr fun r10 _ => sm_bindr fun r11 _ => sm_bind (send_sm H _ h) fun r12 h12 => sm_bindr fun _ _ => sm_cond (sm_some h12) (sm_some h12)) ?_
    refine sm_bind (ask_sm H _ h) fun r13 h13 => sm_cond (sm_cond (sm_bindr fun _ _ => sm_some h13) (sm_bindr fun _ _ => sm_some h13)) ?_
    exact sm_cond (sm_bind (clear_sm H _ h13) fun r15 h15 => sm_cond (sm_some h15) (sm_some h15)) (sm_some h13)
theorem command_sm (H : Good c L) (x : D76 × D36 × List (BitVec 8)) (h : Kx c L x.1) : Sm (fun y => Kx c L y.1) (reticuletop_line_command x) (reticuletop_line_commandT x) := by
  unfold reticuletop_line_command reticuletop_line_commandT
  refine sm_bindr fun r1 _ => sm_jn (fun a => Kx c L a.2.1) ?_ fun a ha => ?_
  · exact sm_bindr fun _ _ => sm_bindr fun _ _ => sm_cond (sm_bind (clear_sm H _ h) fun r hr => sm_some hr) (sm_some h)
  · refine sm_cond (sm_some ha) (sm_bindr fun r7 _ => sm_bind (send_sm H _ ha) fun r8 h8 => sm_cond (sm_some h8) ?_)
    exact sm_jn (fun a => Kx c L a.1) (command0_sm H _ _ h8) fun a ha => sm_some ha
theorem ready0_sm (H : Good c L) : ∀ n j, Kx c L j.2.1 → Sm (Sum.elim (fun a => Kx c L a.1) (fun a => Kx c L a)) (reticuletop_line_ready_L0 n j) (reticuletop_line_ready_L0T n j)
  | 0, _, _ => ⟨rfl, ok_none⟩
  | n + 1, j, h => by
    unfold reticuletop_line_ready_L0 reticuletop_line_ready_L0T
    exact sm_cond (sm_bindr fun _ _ => sm_bind (command_sm H _ h) fun r hr => ready0_sm H n _ hr) (sm_some h)
theorem ready_sm (H : Good c L) (x : D76 × Int) (h : Kx c L x.1) : Sm (Kx c L) (reticuletop_line_ready x) (reticuletop_line_readyT x) := by
  unfold reticuletop_line_ready reticuletop_line_readyT
  exact sm_jn (fun a => Kx c L a.1) (ready0_sm H _ _ h) fun a ha => sm_some ha
end
end Go.Proofs.YthnpgnabfcaaiaaGreat
/- Gadgets as they are made; states between commands; tools for finite cases. -/
namespace Go.Proofs.YthnpgnabfcaaiaaGreat
open Go Go.Re
set_option linter.unusedVariables false
set_option linter.unusedSimpArgs false
set_option maxRecDepth 100000
/-- All of them, from 1 on. -/
def Pall (P : Nat → Prop) : Nat → Prop
  | 0 => True
  | n + 1 => Pall P n ∧ P (n + 1)
theorem pall_use {P : Nat → Prop} : ∀ {n : Nat}, Pall P n → ∀ {b : Nat}, 1 ≤ b → b ≤ n → P b
  | 0, _, _, h1, h2 => by omega
  | n + 1, h, b, h1, h2 => by
    by_cases e : b = n + 1
    · subst e; exact h.2
    · exact pall_use h.1 h1 (by omega)
theorem pall_succ {P : Nat → Prop} {n : Nat} (h : Pall P n) (h1 : P (n + 1)) : Pall P (n + 1) := ⟨h, h1⟩
def zblk : List (BitVec 8) := List.replicate 64 0#8
def Md (b : Nat) : D97 := (List.replicate b zblk, [], ())
/-- A unit as it is made; behind a reset of the bus; one that has told all. -/
def fr (m : D97) : D102 := ((m, true, false, false, ()), true, [(6, 41, 0, ())], e41, ())
def fr2 (m : D97) : D102 := ((m, true, false, false, ()), true, [(6, 41, 0, ()), (6, 41, 2, ())], e41, ())
def rdy (m : D97) : D102 := ((m, true, false, false, ()), true, [], e41, ())
def gg (c : D22) (u : List D102) : D51 := (c, u, e27, e32, List.replicate 4 e114, e45, e49, ())
/-- A gadget that is enumerated, bulk-only ready: its units, the toggles, how many packets went. -/
def st (c : D22) (u : List D102) (t1 t2 : Int) (l : List Bool) (n : Int) : D76 :=
  ((c, u, (5, 0, false, 1, 0, ()), e32, [(false, t1, false, 0, nb, ()), (false, t2, false, 0, nb, ()), e114, e114], e45, e49, ()), l, n, ())
def enu : List D61 := (host_Enumerate (5, 0)).getD []
theorem enu_ok : host_Enumerate (5, 0) = some enu := by kernel_rfl
theorem alive27_ok : reticuletop_alive27 () = some true := by kernel_rfl
theorem bmake : Pall (fun b => block_Make ((b : Int), 0#8) = some (List.replicate b zblk, 0)) 64 := by repeat (first | exact trivial | refine pall_succ ?_ (by show _ = _; kernel_rfl))
theorem um_step {b : Nat} (h1 : 1 ≤ b) (h64 : b ≤ 64) (n : Nat) (acc : List D102) (L i : Nat) (hi : i < L) (hL : L ≤ 4) (ha : acc.length = i) :
    unit_Make_L0 (n + 1) ((b : Int), acc, (L : Int), (i : Int)) = unit_Make_L0 n ((b : Int), acc ++ [fr (Md b)], (L : Int), ((i + 1 : Nat) : Int)) := by
  have hb : block_Make ((b : Int), 0#8) = some (List.replicate b zblk, 0) := pall_use bmake h1 h64
  have hlt : ((i : Int) < (L : Int)) := by omega
  have hw : w64 ((i : Int) + 1) = ((i + 1 : Nat) : Int) := by rw [w64_in (by omega) (by omega)]; omega
  conv => lhs; unfold unit_Make_L0
  have hc : chk (decide (acc.length + ([fr (Md b)] : List D102).length ≤ lim)) = some () := by
    unfold chk
    rw [decide_eq_true (by rw [ha]; simp [lim]; omega)]; rfl
  show (bif decide ((i : Int) < (L : Int)) then _ else _) = _
  rw [decide_eq_true hlt, cond_true]
  show (block_Make ((b : Int), 0#8)).bind _ = _
  rw [hb, Option.bind_some]
  show (chk (decide (acc.length + ([fr (Md b)] : List D102).length ≤ lim))).bind _ = _
  rw [hc, Option.bind_some]
  show unit_Make_L0 n ((b : Int), acc ++ [fr (Md b)], (L : Int), w64 ((i : Int) + 1)) = _
  rw [hw]
theorem um_loop {b : Nat} (h1 : 1 ≤ b) (h64 : b ≤ 64) (L : Nat) (hL : L ≤ 4) : ∀ (k n i : Nat) (acc : List D102), i + k = L → acc.length = i → k < n →
    unit_Make_L0 n ((b : Int), acc, (L : Int), (i : Int)) = some (Sum.inl (acc ++ List.replicate k (fr (Md b))))
  | 0, n + 1, i, acc, hi, ha, _ => by
    unfold unit_Make_L0
    show (bif decide ((i : Int) < (L : Int)) then _ else _) = _
    rw [decide_eq_false (by omega), cond_false, List.replicate_zero, List.append_nil]
  | k + 1, n + 1, i, acc, hi, ha, hn => by
    rw [um_step h1 h64 n acc L i (by omega) hL ha, um_loop h1 h64 L hL k n (i + 1) _ (by omega) (by simp [ha]) (by omega), List.append_assoc]
    rfl
theorem within_eq (x : Int × Int) : gadget_within x = some (decide (1 ≤ x.1) && decide (x.1 ≤ x.2)) := by
  unfold gadget_within
  cases decide (1 ≤ x.1) <;> rfl
theorem may_eq (c : D22) : gadget_may c = some ((decide (1 ≤ c.1) && decide (c.1 ≤ 4)) && ((decide (1 ≤ c.2.1) && decide (c.2.1 ≤ 64)) && (decide (1 ≤ c.2.2.1) && decide (c.2.2.1 ≤ 8)))) := by
  unfold gadget_may
  simp only [within_eq, Option.bind_some]
  cases (decide (1 ≤ c.1) && decide (c.1 ≤ 4)) <;> cases (decide (1 ≤ c.2.1) && decide (c.2.1 ≤ 64)) <;> rfl
/-- A config that may be. -/
structure Mc (c : D22) (L b : Nat) : Prop where
  el : c.1 = (L : Int)
  eb : c.2.1 = (b : Int)
  l1 : 1 ≤ L
  l4 : L ≤ 4
  b1 : 1 ≤ b
  b64 : b ≤ 64
  may : gadget_may c = some true
theorem may_cases (c : D22) : gadget_may c = some false ∨ ∃ L b, Mc c L b := by
  rw [may_eq]
  cases h : (decide (1 ≤ c.1) && decide (c.1 ≤ 4)) && ((decide (1 ≤ c.2.1) && decide (c.2.1 ≤ 64)) && (decide (1 ≤ c.2.2.1) && decide (c.2.2.1 ≤ 8))) with
  | false => exact .inl rfl
  | true =>
    have hm : gadget_may c = some true := by rw [may_eq, h]
    simp only [Bool.and_eq_true, decide_eq_true_eq] at h
    obtain ⟨⟨h1, h2⟩, ⟨h3, h4⟩, _⟩ := h
    exact .inr ⟨c.1.toNat, c.2.1.toNat, by omega, by omega, by omega, by omega, by omega, by omega, hm⟩
theorem make_ok {c : D22} {L b : Nat} (h : Mc c L b) : gadget_Make c = some (gg c (List.replicate L (fr (Md b))), 0) := by
  have hu : unit_Make (c.1, c.2.1) = some (List.replicate L (fr (Md b)), 0) := by
    rw [h.el, h.eb]
    have := h.l1; have := h.l4; have := h.b1; have := h.b64
    unfold unit_Make
    show ((bif decide ((L : Int) < 1) then some true else some (decide (4 < (L : Int))) : Option Bool).bind fun b1 => ((bif b1 then some true else some (decide ((b : Int) < 1)) : Option Bool)).bind fun b2 => bif b2 then some (n102, 1) else _) = _
    rw [decide_eq_false (show ¬ (L : Int) < 1 by omega), cond_false, Option.bind_some, decide_eq_false (show ¬ 4 < (L : Int) by omega), cond_false, Option.bind_some, decide_eq_false (show ¬ (b : Int) < 1 by omega), cond_false]
    show jn (unit_Make_L0 Big ((b : Int), [], (L : Int), ((0 : Nat) : Int))) _ = _
    rw [um_loop h.b1 h.b64 L h.l4 L Big 0 [] (by omega) rfl (by unfold Big; omega)]
    rfl
  unfold gadget_Make
  rw [h.may, Option.bind_some]
  show (unit_Make (c.1, c.2.1)).bind _ = _
  rw [hu]; rfl
theorem good_of {c : D22} {L b : Nat} (h : Mc c L b) : Good c L := fun g hg => by
  obtain ⟨e1, e2, e3⟩ := hg
  unfold gadget_Right
  rw [e1, h.may, Option.bind_some, e2, e3, h.el]
  simp
theorem kg_gg {c : D22} {L : Nat} {u : List D102} (h : u.length = L) : Kg c L (gg c u) := ⟨rfl, h, rfl⟩
theorem kx_st {c : D22} {L : Nat} {u : List D102} (h : u.length = L) {t1 t2 n : Int} {l : List Bool} : Kx c L (st c u t1 t2 l n) := ⟨rfl, h, rfl⟩
theorem played0 {c : D22} {L b : Nat} (h : Mc c L b) : reticuletop_played (c, n61, 0) = some (gg c (List.replicate L (fr (Md b))), true) := by
  unfold reticuletop_played
  rw [make_ok h]; rfl
theorem played_no {c : D22} (h : gadget_may c = some false) : reticuletop_played (c, n61, 0) = some (e51, false) := by
  unfold reticuletop_played gadget_Make
  rw [h]; rfl
end Go.Proofs.YthnpgnabfcaaiaaGreat
/- WholeRefused: each stretch of the host's doings, reckoned; what the blocks show. -/
namespace Go.Proofs.YthnpgnabfcaaiaaGreat
open Go Go.Re
set_option linter.unusedVariables false
set_option linter.unusedSimpArgs false
set_option maxRecDepth 100000
def cfg (L : Nat) (b d : Int) (s t : Bool) : D22 := ((L : Int), b, d, s, t, ())
/-- Units, the first one another one. -/
def us (L : Nat) (m : D97) (v : D102) : List D102 := (List.replicate L (fr2 m)).set 0 v
/-- For each number of units, each policy. -/
theorem lst {P : Nat → Bool → Prop} (h1 : ∀ s, P 1 s) (h2 : ∀ s, P 2 s) (h3 : ∀ s, P 3 s) (h4 : ∀ s, P 4 s) {L : Nat} (h : 1 ≤ L) (hL : L ≤ 4) (s : Bool) : P L s := by
  have : L = 1 ∨ L = 2 ∨ L = 3 ∨ L = 4 := by omega
  rcases this with rfl | rfl | rfl | rfl
  · exact h1 s
  · exact h2 s
  · exact h3 s
  · exact h4 s
theorem enu_run {L : Nat} (h1 : 1 ≤ L) (hL : L ≤ 4) (b d : Int) (s t : Bool) (m : D97) :
    reticuletop_allT (gg (cfg L b d s t) (List.replicate L (fr m)), enu) = some ((st (cfg L b d s t) (List.replicate L (fr2 m)) 0 0 [] 0).1, true) := by
  have : L = 1 ∨ L = 2 ∨ L = 3 ∨ L = 4 := by omega
  rcases this with rfl | rfl | rfl | rfl <;> (show _ = _; kernel_rfl)
theorem ready_run {L : Nat} (h : 1 ≤ L) (hL : L ≤ 4) (s t : Bool) (b d : Int) (m : D97) :
    reticuletop_line_readyT (st (cfg L b d s t) (List.replicate L (fr2 m)) 0 0 [] 0, 0) = some (st (cfg L b d s t) (us L m (rdy m)) 1 1 [] 10) := by
  revert t b d m
  refine lst (P := fun L s => ∀ t b d m, reticuletop_line_readyT (st (cfg L b d s t) (List.replicate L (fr2 m)) 0 0 [] 0, 0) = some (st (cfg L b d s t) (us L m (rdy m)) 1 1 [] 10)) ?_ ?_ ?_ ?_ h hL s <;>
    intro s <;> cases s <;> intro t b d m <;> kernel_rfl
/-- A unit that is protected. -/
def prot (m : D97) : D102 := ((m, true, true, false, ()), true, [], e41, ())
def SBR : List (BitVec 8) := [112#8, 0#8, 7#8, 0#8, 0#8, 0#8, 0#8, 10#8, 0#8, 0#8, 0#8, 0#8, 39#8, 0#8, 0#8, 0#8, 0#8, 0#8]
abbrev SwIs (L : Nat) (s t : Bool) (d bi : Int) (b : Nat) : Prop :=
  gadget_StepT ((st (cfg L bi d s t) (us L (Md b) (rdy (Md b))) 1 1 [] 10).1, 7, 0, 0, 0, 0, false, 0, 1#64, nb, ()) = some ((st (cfg L bi d s t) (us L (Md b) (prot (Md b))) 1 1 [] 10).1, 0, 0, nb, ())
theorem sw1 (s t : Bool) (d bi : Int) : Pall (fun b => SwIs 1 s t d bi b) 64 := by repeat (first | exact trivial | refine pall_succ ?_ (by show _ = _; kernel_rfl))
theorem sw2 (s t : Bool) (d bi : Int) : Pall (fun b => SwIs 2 s t d bi b) 64 := by repeat (first | exact trivial | refine pall_succ ?_ (by show _ = _; kernel_rfl))
theorem sw3 (s t : Bool) (d bi : Int) : Pall (fun b => SwIs 3 s t d bi b) 64 := by repeat (first | exact trivial | refine pall_succ ?_ (by show _ = _; kernel_rfl))
theorem sw4 (s t : Bool) (d bi : Int) : Pall (fun b => SwIs 4 s t d bi b) 64 := by repeat (first | exact trivial | refine pall_succ ?_ (by show _ = _; kernel_rfl))
theorem sw_run {L b : Nat} (h1 : 1 ≤ L) (hL : L ≤ 4) (s t : Bool) (d bi : Int) (hb : 1 ≤ b) (hb2 : b ≤ 64) : SwIs L s t d bi b := by
  have : L = 1 ∨ L = 2 ∨ L = 3 ∨ L = 4 := by omega
  rcases this with rfl | rfl | rfl | rfl
  · exact pall_use (sw1 s t d bi) hb hb2
  · exact pall_use (sw2 s t d bi) hb hb2
  · exact pall_use (sw3 s t d bi) hb hb2
  · exact pall_use (sw4 s t d bi) hb hb2
/-- Bytes, one by one. -/
def by_ (n : Nat) (f : Nat → BitVec 8) : List (BitVec 8) := (List.range n).map f
theorem by_take {l : List (BitVec 8)} {n : Nat} (h : n ≤ l.length) : l.take n = by_ n (fun i => l.getD i 0#8) := by
  apply List.ext_getElem?
  intro i
  unfold by_
  by_cases hi : i < n
  · simp [List.getElem?_take, hi, List.getD_eq_getElem?_getD, List.getElem?_eq_getElem (show i < l.length by omega)]
  · simp [List.getElem?_take, hi]
/-- The write, and the question why. -/
noncomputable def refu (L : Nat) (b d : Int) (s t : Bool) (m : D97) (n : Nat) (k : BitVec 8) (f : Nat → BitVec 8) :=
  (reticuletop_line_commandT (st (cfg L b d s t) (us L m (prot m)) 1 1 [] 10, (7#32, BitVec.ofInt 32 (64 * (n : Int)), false, 0, [42#8, 0#8, 0#8, 0#8, 0#8, k, 0#8, 0#8, BitVec.ofInt 8 (n : Int), 0#8], ()), by_ (64 * n) f)).bind fun r =>
  (reticuletop_line_commandT (r.1, (8#32, 18#32, true, 0, [3#8, 0#8, 0#8, 0#8, 18#8, 0#8], ()), nb)).bind fun q => some (r.2.2, q.1.1.2.1, q.2)
abbrev RefuIs (L : Nat) (s t : Bool) (n : Nat) : Prop := ∀ b d m k f, refu L b d s t m n k f = some (((7#32, (bif t then BitVec.ofInt 32 (64 * (n : Int)) else 0#32), 1, ()), true), us L m (prot m), SBR, (8#32, 0#32, 0, ()), true)
theorem refu1 (s t : Bool) : Pall (fun n => RefuIs 1 s t n) 8 := by cases s <;> cases t <;> repeat (first | exact trivial | refine pall_succ ?_ (by intro b d m k f; show _ = _; kernel_rfl))
theorem refu2 (s t : Bool) : Pall (fun n => RefuIs 2 s t n) 8 := by cases s <;> cases t <;> repeat (first | exact trivial | refine pall_succ ?_ (by intro b d m k f; show _ = _; kernel_rfl))
theorem refu3 (s t : Bool) : Pall (fun n => RefuIs 3 s t n) 8 := by cases s <;> cases t <;> repeat (first | exact trivial | refine pall_succ ?_ (by intro b d m k f; show _ = _; kernel_rfl))
theorem refu4 (s t : Bool) : Pall (fun n => RefuIs 4 s t n) 8 := by cases s <;> cases t <;> repeat (first | exact trivial | refine pall_succ ?_ (by intro b d m k f; show _ = _; kernel_rfl))
theorem refu_run {L n : Nat} (h1 : 1 ≤ L) (hL : L ≤ 4) (s t : Bool) (hn : 1 ≤ n) (hn2 : n ≤ 8) : RefuIs L s t n := by
  have : L = 1 ∨ L = 2 ∨ L = 3 ∨ L = 4 := by omega
  rcases this with rfl | rfl | rfl | rfl
  · exact pall_use (refu1 s t) hn hn2
  · exact pall_use (refu2 s t) hn hn2
  · exact pall_use (refu3 s t) hn hn2
  · exact pall_use (refu4 s t) hn hn2
/-! ### what is shown -/
theorem all_md : Pall (fun b => reticuleref03_All (Md b) = some (List.replicate b zblk)) 64 := by repeat (first | exact trivial | refine pall_succ ?_ (by show _ = _; kernel_rfl))
theorem same_loop (X : List (List (BitVec 8))) (hX : X.length ≤ 64) : ∀ k n i, i + k = X.length → k < n → reticuleref02_Same_L0 n (X, X, (i : Int)) = some (.inl ())
  | 0, n + 1, i, hi, _ => by
    unfold reticuleref02_Same_L0
    show (bif decide ((i : Int) < (X.length : Int)) then _ else _) = _
    rw [decide_eq_false (by omega), cond_false]
  | k + 1, n + 1, i, hi, hn => by
    unfold reticuleref02_Same_L0
    show (bif decide ((i : Int) < (X.length : Int)) then _ else _) = _
    rw [decide_eq_true (by omega), cond_true]
    show (ix X (i : Int)).bind _ = _
    rw [ix_at X i (by omega), Option.bind_some]
    rw [Option.bind_some, decide_eq_true rfl]
    show reticuleref02_Same_L0 n (X, X, w64 ((i : Int) + 1)) = _
    rw [w64_succ i (by omega), same_loop X hX k n (i + 1) (by omega) (by omega)]
theorem same_ok (X : List (List (BitVec 8))) (hX : X.length ≤ 64) : reticuleref02_Same (X, X) = some true := by
  unfold reticuleref02_Same
  rw [decide_eq_true rfl]
  show jn (reticuleref02_Same_L0 Big (X, X, ((0 : Nat) : Int))) _ = _
  rw [same_loop X hX X.length Big 0 (by omega) (big_lt (by omega))]; rfl
theorem alike_loop (S : List (List (List (BitVec 8)))) (hS : S.length ≤ 4) (h : ∀ X ∈ S, X.length ≤ 64) : ∀ k n i, i + k = S.length → k < n → reticuletop_alike_L0 n (S, S, (i : Int)) = some (.inl ())
  | 0, n + 1, i, hi, _ => by
    unfold reticuletop_alike_L0
    show (bif decide ((i : Int) < (S.length : Int)) then _ else _) = _
    rw [decide_eq_false (by omega), cond_false]
  | k + 1, n + 1, i, hi, hn => by
    unfold reticuletop_alike_L0
    show (bif decide ((i : Int) < (S.length : Int)) then _ else _) = _
    rw [decide_eq_true (by omega), cond_true]
    show (ix S (i : Int)).bind _ = _
    rw [ix_at S i (by omega), Option.bind_some]
    rw [Option.bind_some, same_ok _ (h _ (List.getElem_mem ..))]
    show reticuletop_alike_L0 n (S, S, w64 ((i : Int) + 1)) = _
    rw [w64_succ i (by omega), alike_loop S hS h k n (i + 1) (by omega) (by omega)]
theorem alike_ok (S : List (List (List (BitVec 8)))) (hS : S.length ≤ 4) (h : ∀ X ∈ S, X.length ≤ 64) : reticuletop_alike (S, S) = some true := by
  unfold reticuletop_alike
  rw [decide_eq_true rfl]
  show jn (reticuletop_alike_L0 Big (S, S, ((0 : Nat) : Int))) _ = _
  rw [alike_loop S hS h S.length Big 0 (by omega) (big_lt (by omega))]; rfl
theorem shown_loop (g : D51) (X : List (List (BitVec 8))) (hX : ∀ u ∈ g.2.1, reticuleref03_All u.1.1 = some X) (hl : g.2.1.length ≤ 4) : ∀ k n i acc, i + k = g.2.1.length → k < n → acc.length = i →
    reticuletop_shown_L0 n (g, acc, (i : Int)) = some (.inl (acc ++ List.replicate k X))
  | 0, n + 1, i, acc, hi, _, ha => by
    unfold reticuletop_shown_L0
    show (bif decide ((i : Int) < (g.2.1.length : Int)) then _ else _) = _
    rw [decide_eq_false (by omega), cond_false, List.replicate_zero, List.append_nil]
  | k + 1, n + 1, i, acc, hi, hn, ha => by
    unfold reticuletop_shown_L0
    show (bif decide ((i : Int) < (g.2.1.length : Int)) then _ else _) = _
    rw [decide_eq_true (by omega), cond_true]
    show (ix g.2.1 (i : Int)).bind _ = _
    rw [ix_at g.2.1 i (by omega), Option.bind_some, hX _ (List.getElem_mem ..), Option.bind_some]
    show (chk (decide (acc.length + 1 ≤ lim))).bind _ = _
    rw [chk_dec (le_lim (by omega)), Option.bind_some]
    show reticuletop_shown_L0 n (g, acc ++ [X], w64 ((i : Int) + 1)) = _
    rw [w64_succ i (by omega), shown_loop g X hX hl k n (i + 1) _ (by omega) (by omega) (by simp [ha]), List.append_assoc]; rfl
theorem shown_ok (g : D51) (X : List (List (BitVec 8))) (hX : ∀ u ∈ g.2.1, reticuleref03_All u.1.1 = some X) (hl : g.2.1.length ≤ 4) : reticuletop_shown g = some (List.replicate g.2.1.length X) := by
  unfold reticuletop_shown
  show jn (reticuletop_shown_L0 Big (g, [], ((0 : Nat) : Int))) _ = _
  rw [shown_loop g X hX hl g.2.1.length Big 0 [] (by omega) (big_lt (by omega)) rfl]; rfl
end Go.Proofs.YthnpgnabfcaaiaaGreat
/- WholeRefused, the plain law. -/
namespace Go.Proofs.YthnpgnabfcaaiaaGreat
open Go Go.Re
set_option linter.unusedVariables false
set_option linter.unusedSimpArgs false
set_option maxRecDepth 100000
theorem us_len (L : Nat) (m : D97) (v : D102) : (us L m v).length = L := by unfold us; simp
theorem us_mem {L : Nat} {m : D97} {v u : D102} (h : u ∈ us L m v) : u = fr2 m ∨ u = v := by
  unfold us at h
  rcases List.mem_or_eq_of_mem_set h with h | h
  · exact .inl (List.eq_of_mem_replicate h)
  · exact .inr h
theorem ofR_ok : reticuleref04_Of (7, 39, 0) = some (7, 39, 0, ()) := by kernel_rfl
theorem sbR_ok : reticuleref04_Bytes (7, 39, 0, ()) = some SBR := by kernel_rfl
theorem sbR_chk : chk (decide (SBR.length ≤ lim)) = some () := by kernel_rfl
theorem tdiv64 {n : Nat} (h : n < 9000000000000000000) : w64 ((n : Int).tdiv 64) = ((n / 64 : Nat) : Int) := by
  have : (n : Int).tdiv 64 = ((n / 64 : Nat) : Int) := by rw [show (64 : Int) = ((64 : Nat) : Int) from rfl, ← Int.ofNat_tdiv]
  rw [this, w64_in (by omega) (by omega)]
theorem ofInt8_nat (k : Nat) : BitVec.ofInt 8 (k : Int) = BitVec.ofNat 8 k := by simp
/-- The guards: either the law says nothing, or there are blocks enough. -/
theorem guards {g : D51} {B : Int} {len : Nat} {T : Option Bool} (hl : len < 9000000000000000000) (hT : 1 ≤ len / 64 → len / 64 ≤ 8 → ((len / 64 : Nat) : Int) ≤ B → T = some true) :
    ((bif !(g, true).2 then some true else some (decide ((w64 ((len : Int).tdiv 64)) < 1)) : Option Bool).bind fun b3 =>
    (bif b3 then some true else some (decide (8 < (w64 ((len : Int).tdiv 64)))) : Option Bool).bind fun b4 =>
    (bif b4 then some true else some (decide (B < (w64 ((len : Int).tdiv 64)))) : Option Bool).bind fun b5 =>
    bif b5 then some true else T) = some true := by
  rw [tdiv64 hl]
  show ((some (decide (((len / 64 : Nat) : Int) < 1)) : Option Bool).bind _) = _
  rw [Option.bind_some]
  by_cases h1 : ((len / 64 : Nat) : Int) < 1
  · rw [decide_eq_true h1]; rfl
  rw [decide_eq_false h1, cond_false, Option.bind_some]
  by_cases h2 : 8 < ((len / 64 : Nat) : Int)
  · rw [decide_eq_true h2]; rfl
  rw [decide_eq_false h2, cond_false, Option.bind_some]
  by_cases h3 : B < ((len / 64 : Nat) : Int)
  · rw [decide_eq_true h3]; rfl
  rw [decide_eq_false h3, cond_false]
  exact hT (by omega) (by omega) (by omega)
theorem refused_main (x : D22 × BitVec 8 × List (BitVec 8)) (hx : x.2.2.length < 9000000000000000000) : reticuletop_WholeRefused x = some true := by
  obtain ⟨⟨c1, bi, d, s, t, ⟨⟩⟩, at_, data⟩ := x
  unfold reticuletop_WholeRefused
  rw [alive27_ok, Option.bind_some]
  show (reticuletop_played ((c1, bi, d, s, t, ()), n61, 0)).bind _ = _
  rcases may_cases (c1, bi, d, s, t, ()) with h | ⟨L, b, h⟩
  · rw [played_no h]; rfl
  have hc1 : c1 = (L : Int) := h.el
  have hb : bi = (b : Int) := h.eb
  subst hc1
  subst hb
  have H := good_of h
  have hl1 := h.l1
  have hl4 := h.l4
  have hb64 := h.b64
  rw [played0 h, Option.bind_some]
  refine guards (len := data.length) (B := (b : Int)) hx ?_
  intro n1 n8 nb'
  obtain ⟨n, hn⟩ : ∃ n, n = data.length / 64 := ⟨_, rfl⟩
  simp only [tdiv64 hx]
  rw [← hn] at n1 n8 nb' ⊢
  have e0 : w64 ((b : Int) - (n : Int)) = ((b - n : Nat) : Int) := by rw [w64_in (by omega) (by omega)]; omega
  have e64 : w64 ((64 : Int) * (n : Int)) = ((64 * n : Nat) : Int) := by rw [w64_in (by omega) (by omega)]; omega
  simp only [e0, e64, w64_succ (b - n) (by omega)]
  obtain ⟨k, hk⟩ : ∃ k, k = at_.toNat % (b - n + 1) := ⟨_, rfl⟩
  have ek : (bif (((b - n + 1 : Nat) : Int) == 0) then none else some (((at_.toNat : Nat) : Int).tmod ((b - n + 1 : Nat) : Int)) : Option Int) = some (k : Int) := by
    have : (((b - n + 1 : Nat) : Int) == 0) = false := by rw [beq_eq_false_iff_ne]; omega
    rw [this, cond_false, ← Int.ofNat_tmod, hk]
  rw [ek, Option.bind_some, enu_ok, Option.bind_some]
  show (reticuletop_all (gg (cfg L b d s t) (List.replicate L (fr (Md b))), enu)).bind _ = _
  rw [(all_sm H _ (kg_gg (by simp))).1, enu_run hl1 hl4, Option.bind_some]
  show (reticuletop_line_ready (st (cfg L b d s t) (List.replicate L (fr2 (Md b))) 0 0 [] 0, 0)).bind _ = _
  rw [(ready_sm H _ (kx_st (by simp))).1, ready_run hl1 hl4, Option.bind_some]
  rw [(step_sm H _ (kg_gg (us_len _ _ _))).1, sw_run hl1 hl4 s t d b h.b1 h.b64, Option.bind_some]
  show (reticuletop_ten (42#8, (k : Int), (n : Int))).bind _ = _
  unfold reticuletop_ten
  rw [Option.bind_some]
  have e3 : chk (decide (0 ≤ ((64 * n : Nat) : Int)) && decide (((64 * n : Nat) : Int) ≤ (data.length : Int))) = some () := by
    rw [decide_eq_true (by omega), decide_eq_true (by omega)]; rfl
  rw [e3, Option.bind_some, Int.toNat_natCast, by_take (show 64 * n ≤ data.length by omega)]
  have hr := refu_run hl1 hl4 s t n1 n8 (b : Int) d (Md b) (BitVec.ofInt 8 (k : Int)) (fun i => data.getD i 0#8)
  unfold refu at hr
  obtain ⟨r, h1, h2⟩ := Option.bind_eq_some_iff.1 hr
  obtain ⟨q, h3, h4⟩ := Option.bind_eq_some_iff.1 h2
  have c1 := command_sm H (st (cfg L b d s t) (us L (Md b) (prot (Md b))) 1 1 [] 10, (7#32, BitVec.ofInt 32 (64 * (n : Int)), false, 0, [42#8, 0#8, 0#8, 0#8, 0#8, BitVec.ofInt 8 (k : Int), 0#8, 0#8, BitVec.ofInt 8 (n : Int), 0#8], ()), by_ (64 * n) fun i => data.getD i 0#8) (kx_st (us_len _ _ _))
  have e5 : BitVec.ofInt 32 ((64 * n : Nat) : Int) = BitVec.ofInt 32 (64 * (n : Int)) := by rw [show ((64 * n : Nat) : Int) = 64 * (n : Int) by omega]
  rw [e5]
  show (reticuletop_line_command (st (cfg L b d s t) (us L (Md b) (prot (Md b))) 1 1 [] 10, (7#32, BitVec.ofInt 32 (64 * (n : Int)), false, 0, [42#8, 0#8, 0#8, 0#8, 0#8, BitVec.ofInt 8 (k : Int), 0#8, 0#8, BitVec.ofInt 8 (n : Int), 0#8], ()), by_ (64 * n) fun i => data.getD i 0#8)).bind _ = _
  rw [c1.1, h1, Option.bind_some]
  have c2 := command_sm H (r.1, (8#32, 18#32, true, 0, [3#8, 0#8, 0#8, 0#8, 18#8, 0#8], ()), nb) (ok_use c1.2 h1)
  rw [c2.1, h3, Option.bind_some]
  obtain ⟨r1, r2, r3, r4⟩ := r
  obtain ⟨⟨q1, q1'⟩, q2, q3, q4⟩ := q
  simp only [Option.some.injEq, Prod.mk.injEq] at h4
  obtain ⟨⟨rfl, rfl⟩, hu, rfl, rfl, rfl⟩ := h4
  simp only [Bool.not_true, cond_true, cond_false, Option.bind_some, sbR_chk, ofR_ok, sbR_ok, decide_true]
  have hX : reticuleref03_All (Md b) = some (List.replicate b zblk) := pall_use all_md h.b1 h.b64
  have s1 := shown_ok q1 (List.replicate b zblk) (by
    rw [hu]; intro u hm
    rcases us_mem hm with rfl | rfl <;> exact hX) (by rw [hu, us_len]; omega)
  have s2 := shown_ok (st (cfg L b d s t) (List.replicate L (fr2 (Md b))) 0 0 [] 0).1 (List.replicate b zblk) (by
    intro u hm
    rw [List.eq_of_mem_replicate hm]; exact hX) (by show (List.replicate L _).length ≤ 4; rw [List.length_replicate]; omega)
  rw [hu, us_len] at s1
  have s2' : reticuletop_shown (st (cfg L b d s t) (List.replicate L (fr2 (Md b))) 0 0 [] 0).1 = some (List.replicate L (List.replicate b zblk)) := by
    rw [s2]; show some (List.replicate (List.replicate L _).length _) = _; rw [List.length_replicate]
  rw [s1, s2', Option.bind_some, Option.bind_some, alike_ok _ (by simp; omega) (by
    intro X hm
    rw [List.eq_of_mem_replicate hm]; simp; omega)]
  have ev : (BitVec.ofInt 32 (64 * (n : Int)) == 0#32) = false := by
    have : n = 1 ∨ n = 2 ∨ n = 3 ∨ n = 4 ∨ n = 5 ∨ n = 6 ∨ n = 7 ∨ n = 8 := by omega
    rcases this with rfl | rfl | rfl | rfl | rfl | rfl | rfl | rfl <;> rfl
  have ev' : ¬ (0#32 = BitVec.ofInt 32 (64 * (n : Int))) := fun e => by rw [← e] at ev; simp at ev
  cases t
  · simp [ev']
  · simp
theorem WholeRefused_pure (x : D22 × BitVec 8 × List (BitVec 8)) {p q : Prop} (_ : p) (_ : q) (h : Ty.ok (.sl (.int .u8)) x.2.2) : reticuletop_WholeRefused x = some true :=
  refused_main x (by have := h.1; unfold big at this; omega)
end Go.Proofs.YthnpgnabfcaaiaaGreat
