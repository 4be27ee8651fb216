/- Reflection, part AC: joins. -/
import Derived.Test.YtgceolpeegfkkaaRfB
namespace Go.Re
set_option linter.unusedVariables false
set_option linter.unusedSimpArgs false
open Go.RowKit (Below)

theorem nodupB_spec : ∀ {l : List Nat}, nodupB l = true → l.Nodup
  | [], _ => List.nodup_nil
  | n :: r, h => by
    simp only [nodupB, Bool.and_eq_true, List.all_eq_true, Bool.not_eq_true'] at h
    refine List.nodup_cons.2 ⟨fun hm => ?_, nodupB_spec h.2⟩
    have := h.1 n hm
    simp at this

section
variable {P : Program} {E : Env} {N : Nat} {Z : Base} {own : Own} {β : Conc} {σ : S} {a : Act} {w : World}

/-- What goes on of an old site: its new name, and from which cell on. -/
def JI.keeps (j : JI) (σ : S) (a : Act) : List (Nat × Nat × Nat) :=
  match j with
  | .val _ _ => []
  | .row t e m => match σ.slots t with
    | .ref s _ => [(s, site t 0, match m with
      | .full => 0
      | _ => match a.tmps.getD t undef with
        | .slice (some ad) n _ => ad.off + n * e.size
        | _ => 0)]
    | _ => []
  | .box t _ => match σ.slots t with
    | .ptr s _ _ => [(s, site t 0, 0)]
    | _ => []
  | .prow t _ => [(site t 0, site t 0, 0)]
  | .pbox t _ => [(site t 0, site t 0, 0)]
  | .rpt _ _ => []
  | .pv _ _ => []
  | .gbx t _ _ => match σ.slots t with
    | .elp s _ _ _ => [(s, site t 1, 0)]
    | _ => []

def keepsAll : List JI → S → Act → List (Nat × Nat × Nat)
  | [], _, _ => []
  | j :: r, σ, a => j.keeps σ a ++ keepsAll r σ a

theorem keeps_keys (j : JI) (σ : S) (a : Act) : (j.keeps σ a).map (·.1) = j.kept σ := by
  cases j with
  | val t τ => rfl
  | row t e m => simp only [JI.keeps, JI.kept]; cases σ.slots t <;> rfl
  | box t τ => simp only [JI.keeps, JI.kept]; cases σ.slots t <;> rfl
  | prow t e => rfl
  | pbox t τ => rfl
  | rpt t τ => rfl
  | pv t k => rfl
  | gbx t τ l => simp only [JI.keeps, JI.kept]; cases σ.slots t <;> rfl
theorem keepsAll_keys : ∀ (J : List JI) (σ : S) (a : Act), (keepsAll J σ a).map (·.1) = keptAll J σ
  | [], _, _ => rfl
  | j :: r, σ, a => by simp [keepsAll, keptAll, keeps_keys, keepsAll_keys r]

def find3 : List (Nat × Nat × Nat) → Nat → Option (Nat × Nat)
  | [], _ => none
  | p :: r, s => if p.1 = s then some p.2 else find3 r s


theorem find3_mem : ∀ {l : List (Nat × Nat × Nat)}, (l.map (·.1)).Nodup → ∀ {p}, p ∈ l → find3 l p.1 = some p.2
  | [], _, _, h => by cases h
  | q :: r, hn, p, h => by
    simp only [List.map_cons, List.nodup_cons] at hn
    unfold find3
    rcases List.mem_cons.1 h with h | h
    · subst h; simp
    · rw [if_neg (fun e => hn.1 (by rw [e]; exact List.mem_map.2 ⟨p, h, rfl⟩))]
      exact find3_mem hn.2 h
theorem find3_none : ∀ {l : List (Nat × Nat × Nat)} {s : Nat}, s ∉ l.map (·.1) → find3 l s = none
  | [], _, _ => rfl
  | q :: r, s, h => by
    simp only [List.map_cons, List.mem_cons, not_or] at h
    unfold find3
    rw [if_neg (fun e => h.1 e.symm)]
    exact find3_none h.2

open Classical in
/-- The owners behind a join. -/
noncomputable def ownJ (Z : Base) (own : Own) (l : List (Nat × Nat × Nat)) : Own := fun b o =>
  if b < Z.w.heap.size ∧ ¬ Z.io b o then own b o
  else match own b o with
    | none => none
    | some s => match find3 l s with
      | none => none
      | some (s', lo) => if lo ≤ o then some s' else none

theorem ownJ_none (l : List (Nat × Nat × Nat)) {b o : Nat} (h : own b o = none) : ownJ Z own l b o = none := by
  unfold ownJ; split
  · exact h
  · rw [h]
theorem ownJ_wr (l : List (Nat × Nat × Nat)) {b o s : Nat} (h : own b o = some s) (hw : Z.wr b o) : ownJ Z own l b o = match find3 l s with
      | none => none
      | some (s', lo) => if lo ≤ o then some s' else none := by
  unfold ownJ
  rw [if_neg, h]
  rintro ⟨h1, h2⟩
  rcases hw with h3 | h3
  · omega
  · exact h2 h3

/-- A variable's address, as that of a row of one. -/
def asRow : Value → Value
  | .pointer (some ad) => .slice (some ad) 1 1
  | v => v
def betaJ (a : Act) : Conc := fun s => if s % 16 = 1 then asRow (a.tmps.getD (s / 16) undef) else a.tmps.getD (s / 16) undef
theorem betaJ_site (t : Nat) : betaJ a (site t 0) = a.tmps.getD t undef := by
  unfold betaJ site; rw [if_neg (by omega), show (16 * t + 0) / 16 = t by omega]
theorem betaJ_site1 (t : Nat) : betaJ a (site t 1) = asRow (a.tmps.getD t undef) := by
  unfold betaJ site; rw [if_pos (by omega), show (16 * t + 1) / 16 = t by omega]

theorem keepsJ (l : List (Nat × Nat × Nat)) : Keeps own (ownJ Z own l) w w := fun _ _ _ h h' => ⟨ownJ_none l h, h'⟩

theorem wr_new {Z : Base} {b o : Nat} (h : Z.wr b o) : Z.wr b o := h

theorem Nat.inside {i n sz j : Nat} (hi : i < n) (hj : j < sz) : i * sz + j < n * sz := by
  have := Nat.mul_le_mul_right sz hi
  rw [Nat.succ_mul] at this; omega

/-- From which cell on a row stays one's own. -/
def lowOf (m : Mode) (e : Ty) (v : Value) : Nat :=
  match m with
  | .full => 0
  | _ => match v with
    | .slice (some ad) n _ => ad.off + n * e.size
    | _ => 0

/-- A map goes on. -/
theorem mp_core (h : St N Z own β σ a w) {B : Nat} {l : List (Nat × Nat × Nat)} {s ver q lo : Nat} {e : Ty} {xs : List e.D} {u : Value} (hB : ∀ r, own r 0 = some s → Z.w.heap.size ≤ r → B ≤ r)
    (hm : σ.mem s = .own ver e xs .mp) (hf : find3 l s = some (q, lo)) (hu : u = β s) (h0 : lo = 0 := by rfl) : MapR B (ownJ Z own l) w q u e xs := by
  have hE := h.mems s
  rw [hm] at hE
  have hE : MapR _ _ _ _ _ _ _ := hE
  subst h0
  cases e with
  | pair K V =>
    obtain ⟨r, es, c, h1, h2, h3, h4, h5⟩ := hE
    refine ⟨r, es, c, hu.trans h1, hB r h3 h2, ?_, h4, h5.keeps (keepsJ l)⟩
    rw [ownJ_wr l h3 (.inl h2), hf]; simp
  | _ => exact hE.elim

/-- A row goes on. -/
theorem row_core (h : St N Z own β σ a w) {l : List (Nat × Nat × Nat)} {t s ver q : Nat} {e : Ty} {xs : List e.D} {m m' : Mode} {β' : Conc}
    (hs : σ.slots t = .ref s ver) (hm : σ.mem s = .own ver e xs m') (hle : m'.le m = true) (hf : find3 l s = some (q, lowOf m e (a.tmps.getD t undef))) (hβ : β' q = a.tmps.getD t undef) :
    RepE Z (ownJ Z own l) w β' q (.own 0 e xs m) := by
  have hsl := h.slots t
  rw [hs] at hsl
  have hv : a.tmps.getD t undef = β s := hsl.2 e xs m' hm
  have hE := h.mems s
  rw [hm] at hE
  cases hmp : m'.isMp with
  | true =>
    obtain rfl : m' = .mp := by cases m' <;> first | rfl | cases hmp
    obtain rfl : m = .mp := by cases m <;> first | rfl | cases hle
    have hl0 : lowOf .mp e (a.tmps.getD t undef) = 0 := by
      obtain ⟨r, hr⟩ := MapR.val (show MapR _ _ _ _ _ _ _ from hE)
      rw [hv, hr]; rfl
    exact mp_core h (fun _ _ h => h) hm hf (hβ.trans hv) hl0
  | false =>
  have hnm : m.isMp = false := by cases m <;> cases m' <;> first | rfl | (exfalso; revert hmp; simp [Mode.isMp]; done) | (exfalso; revert hle; simp [Mode.le]; done)
  obtain ⟨ad, cap, e1, e2, e3, e4, e5⟩ := RepE.row hmp hE
  refine RepE.ofRow hnm ⟨ad, cap, by rw [hβ, hv, e1], e2, e3, e4, e5.imp (fun h => ⟨h.1, fun hm => h.2 (by cases m' <;> cases m <;> first | rfl | (exfalso; revert hle; simp [Mode.le]; done) | exact absurd hm (fun h => by cases h))⟩) ?_⟩
  rintro ⟨b, o, e6, e7, e8⟩
  refine ⟨b, o, e6, ?_⟩
  rw [hv, e1, e6] at hf
  cases m' with
  | full =>
    have htail := e8.2
    have hcap : ∀ i j, i < xs.length → j < e.size → o + i * e.size + j < o + cap * e.size := by
      intro i j hi hj
      have h1 := Nat.inside (sz := e.size) hi hj
      have h2 := Nat.mul_le_mul_right e.size e2
      omega
    cases m with
    | full =>
      have hf : find3 l s = some (q, 0) := hf
      have hown : ∀ j, o ≤ j → j < o + cap * e.size → ownJ Z own l b j = some q := by
        intro j h1 h2
        obtain ⟨g1, g2, _⟩ := htail j h1 h2
        rw [ownJ_wr l g1 g2, hf]; simp
      refine ⟨fun i hi => ?_, e8.1, fun j h1 h2 => ?_⟩
      · obtain ⟨es, g1, g2, g3⟩ := e7 i hi
        refine ⟨es, g1, fun j v hj => ⟨?_, (g2 j v hj).2⟩, g3.keeps (keepsJ l)⟩
        have hj' : j < es.length := (List.getElem?_eq_some_iff.1 hj).1
        exact hown _ (by omega) (hcap i j hi (by omega))
      · obtain ⟨_, g2, g3⟩ := htail j h1 h2
        exact ⟨hown j h1 h2, g2, g3⟩
    | tail =>
      have hf : find3 l s = some (q, o + xs.length * e.size) := hf
      refine ⟨fun i hi => ?_, fun j h1 h2 => ?_⟩
      · obtain ⟨es, g1, g2, g3⟩ := e7 i hi
        refine ⟨es, g1, fun j v hj => ⟨?_, (g2 j v hj).2⟩, g3.keeps (keepsJ l)⟩
        have hj' : j < es.length := (List.getElem?_eq_some_iff.1 hj).1
        obtain ⟨k1, k2, _⟩ := htail (o + i * e.size + j) (by omega) (hcap i j hi (by omega))
        show ownJ Z own l b _ = none
        rw [ownJ_wr l k1 k2, hf]
        have := Nat.inside (sz := e.size) hi (show j < e.size by omega)
        simp only []
        rw [if_neg (by omega)]
      · obtain ⟨k1, k2, k3⟩ := htail j (by omega) h2
        refine ⟨?_, k2, k3⟩
        rw [ownJ_wr l k1 k2, hf]
        simp only []
        rw [if_pos h1]
    | view => cases hle
    | mp => cases hnm
    | gb l => exact absurd hle (by simp [Mode.le])
  | tail =>
    cases m with
    | full => cases hle
    | tail =>
      have hf : find3 l s = some (q, o + xs.length * e.size) := hf
      refine ⟨fun i hi => ?_, fun j h1 h2 => ?_⟩
      · obtain ⟨es, g1, g2, g3⟩ := e7 i hi
        exact ⟨es, g1, fun j v hj => ⟨ownJ_none l (g2 j v hj).1, (g2 j v hj).2⟩, g3.keeps (keepsJ l)⟩
      · obtain ⟨k1, k2, k3⟩ := e8 j h1 h2
        refine ⟨?_, k2, k3⟩
        rw [ownJ_wr l k1 k2, hf]
        simp only []
        rw [if_pos h1]
    | view => cases hle
    | mp => cases hnm
    | gb l => exact absurd hle (by simp [Mode.le])
  | view => cases m <;> cases hle
  | mp => cases hmp
  | gb l => exact absurd hle (by cases m <;> simp [Mode.le])

theorem row_join (h : St N Z own β σ a w) {l : List (Nat × Nat × Nat)} (hn : (l.map (·.1)).Nodup) {t s ver : Nat} {e : Ty} {xs : List e.D} {m m' : Mode}
    (hs : σ.slots t = .ref s ver) (hm : σ.mem s = .own ver e xs m') (hle : m'.le m = true) (hl : ∀ p ∈ (JI.row t e m).keeps σ a, p ∈ l) :
    RepE Z (ownJ Z own l) w (betaJ a) (site t 0) (.own 0 e xs m) := by
  simp only [JI.keeps, hs, List.mem_singleton, forall_eq] at hl
  exact row_core h hs hm hle (find3_mem hn hl) (betaJ_site t)

theorem nil_join {own : Own} {t : Nat} {e : Ty} {m : Mode} (hm : m.isMp = false) (hv : a.tmps.getD t undef = .slice none 0 0) : RepE Z own w (betaJ a) (site t 0) (.own 0 e [] m) :=
  RepE.ofRow hm ⟨none, 0, by rw [betaJ_site, hv]; rfl, Nat.le_refl _, by omega, Nat.zero_le _, .inl ⟨rfl, fun _ => rfl⟩⟩

theorem box_core (h : St N Z own β σ a w) {l : List (Nat × Nat × Nat)} {t s ver : Nat} {τ : Ty} {x : τ.D} (hf : find3 l s = some (site t 0, 0))
    (hs : σ.slots t = .ptr s ver []) (hm : σ.mem s = .box ver τ x) :
    RepE Z (ownJ Z own l) w (betaJ a) (site t 0) (.box 0 τ x) ∧ ∃ b o, a.tmps.getD t undef = .pointer (some ⟨b, o, none⟩) ∧ a.tmps.getD t undef = β s := by
  have hsl := h.slots t
  rw [hs] at hsl
  obtain ⟨b', o', g1, g2⟩ := hsl.2 τ x hm
  have g2 : a.tmps.getD t undef = .pointer (some ⟨b', o' + 0, none⟩) := by rw [g2, offP_nil]
  have hE := h.mems s
  rw [hm] at hE
  obtain ⟨hv, b, o, cs, e1, e2, e3⟩ := hE
  rw [g1] at e1; cases e1
  refine ⟨⟨hv, b', o', cs, by rw [betaJ_site, g2]; rfl, fun j v hj => ?_, e3.keeps (keepsJ l)⟩, b', o' + 0, g2, by rw [g2, g1]; rfl⟩
  obtain ⟨k1, k2, k3, k4⟩ := e2 j v hj
  refine ⟨?_, k2, k3, k4⟩
  rw [ownJ_wr l k1 k2, hf]; simp

theorem box_join (h : St N Z own β σ a w) {l : List (Nat × Nat × Nat)} (hn : (l.map (·.1)).Nodup) {t s ver : Nat} {τ : Ty} {x : τ.D}
    (hs : σ.slots t = .ptr s ver []) (hm : σ.mem s = .box ver τ x) (hl : ∀ p ∈ (JI.box t τ).keeps σ a, p ∈ l) :
    RepE Z (ownJ Z own l) w (betaJ a) (site t 0) (.box 0 τ x) ∧ ∃ b o, a.tmps.getD t undef = .pointer (some ⟨b, o, none⟩) := by
  simp only [JI.keeps, hs, List.mem_singleton, forall_eq] at hl
  obtain ⟨g1, b, o, g2, _⟩ := box_core h (find3_mem hn hl) hs hm
  exact ⟨g1, b, o, g2⟩

theorem TailR.join {l : List (Nat × Nat × Nat)} {s q b lo hi : Nat} (hf : find3 l s = some (q, 0)) (h : TailR Z own w s b lo hi) : TailR Z (ownJ Z own l) w q b lo hi := fun j h1 h2 => by
  obtain ⟨g1, g2, g3⟩ := h j h1 h2
  refine ⟨?_, g2, g3⟩
  rw [ownJ_wr l g1 g2, hf]; simp

/-- A variable in which rows grow goes on. -/
theorem gb_join (h : St N Z own β σ a w) {L : List (Nat × Nat × Nat)} (hn : (L.map (·.1)).Nodup) {t s ver : Nat} {τ : Ty} {x : τ.D} {l l' : List (Nat × Nat)}
    (hs : σ.slots t = .elp s ver 0 []) (hm : σ.mem s = .own ver τ [x] (.gb l')) (hle : subG l l' = true) (hl : ∀ p ∈ (JI.gbx t τ l).keeps σ a, p ∈ L) :
    RepE Z (ownJ Z own L) w (betaJ a) (site t 1) (.own 1 τ [x] (.gb l)) ∧ ∃ b o, a.tmps.getD t undef = .pointer (some ⟨b, o, none⟩) := by
  simp only [JI.keeps, hs, List.mem_singleton, forall_eq] at hl
  have hf := find3_mem hn hl
  have hsl := h.slots t
  rw [hs] at hsl
  obtain ⟨hi, b, off, nn, cc, h3, h4⟩ := hsl.2 τ [x] _ hm
  have h4 : a.tmps.getD t undef = .pointer (some ⟨b, off, none⟩) := by rw [h4, offP_nil, Nat.zero_mul]; rfl
  have hmm := h.mems s
  rw [hm] at hmm
  obtain ⟨ad, cap, h5, h6, h7, h8, h9⟩ := (RepE.rowV h3 hmm).2
  rw [h3] at h5; cases h5
  rcases h9 with ⟨h9, _⟩ | ⟨b', off', h9, h10, ⟨h11, h12⟩, ⟨reg, hreg⟩, hc1⟩
  · rw [h9] at h6; simp at h6
  cases h9
  have hsub : ∀ q ∈ l, q ∈ l' := fun q hq => by
    obtain ⟨q', hq', e1, e2⟩ := hasG_some (List.all_eq_true.1 hle q hq)
    have : q' = q := Prod.ext e1 e2
    rwa [this] at hq'
  refine ⟨⟨_, cc, by rw [betaJ_site1, h4, hc1]; rfl, h6, h7, h8, .inr ⟨b, off, rfl, fun i hi => ?_, ⟨h11, h12.join hf⟩, ⟨reg, fun q hq => ?_⟩, hc1⟩⟩, b, off, h4⟩
  · obtain ⟨es, q1, q2, q3⟩ := h10 i hi
    obtain rfl : i = 0 := by simpa using hi
    refine ⟨es, q1, fun j v hj => ⟨?_, (q2 j v hj).2⟩, q3.keeps (keepsJ L)⟩
    have hj' : j < es.length := (List.getElem?_eq_some_iff.1 hj).1
    have hcs : 1 * τ.size ≤ cc * τ.size := Nat.mul_le_mul_right _ h6
    exact (h12.join hf (off + 0 * τ.size + j) (by omega) (by omega)).1
  · obtain ⟨m0, m1, m2, m3, m4⟩ := hreg q (hsub q hq)
    exact ⟨m0, m1, m2.join hf, m3, fun q' hq' => m4 q' (hsub q' hq')⟩

/-- What is read goes on as what is read. -/
theorem val_join (h : St N Z own β σ a w) {l : List (Nat × Nat × Nat)} {t : Nat} {τ : Ty} {x : τ.D} (hx : rdA τ (σ.slots t) σ = some x)
    (hl : ∀ s ∈ (JI.val t τ).loose σ, s ∉ l.map (·.1)) : RepV (ownJ Z own l) w τ (a.tmps.getD t undef) x := by
  have hsl := h.slots t
  unfold rdA at hx
  split at hx
  · rename_i τ' y hy
    obtain ⟨e, hx⟩ := cast?_some hx
    subst e; subst hx
    rw [hy] at hsl
    exact RepV.keeps (keepsJ l) hsl
  · rename_i hy
    rw [hy] at hsl
    cases τ with
    | sl e =>
      cases hx
      have hsl : a.tmps.getD t undef = .slice none 0 0 := hsl
      rw [hsl]
      exact RepV.sl.2 ⟨none, 0, rfl, Nat.le_refl _, by omega, Nat.zero_le _, .inl rfl⟩
    | _ => cases hx
  · rename_i s ver hy
    split at hx
    · rename_i ver' e xs m hm
      cases hb : Nat.beq ver ver' && !m.noRd with
      | false => rw [hb] at hx; cases hx
      | true =>
        rw [hb] at hx
        simp only [Bool.and_eq_true, Bool.not_eq_true'] at hb
        have hrd := hb.2
        have hmp := Mode.noRd_mp hrd
        have hb := Nat.eq_of_beq_eq_true hb.1
        subst hb
        obtain ⟨eq, hx⟩ := cast?_some hx
        subst eq
        have hx : xs = x := hx
        subst hx
        rw [hy] at hsl
        have hv : a.tmps.getD t undef = β s := hsl.2 e xs m hm
        have hE := h.mems s
        rw [hm] at hE
        obtain ⟨ad, cap, e1, e2, e3, e4, e5⟩ := RepE.row hmp hE
        rw [hv, e1]
        refine RowR.frozen e2 e3 e4 (e5.imp (·.1) ?_)
        rintro ⟨b, o, e6, e7, e8⟩
        refine ⟨b, o, e6, fun i hi => ?_⟩
        obtain ⟨es, g1, g2, g3⟩ := e7 i hi
        refine ⟨es, g1, fun j v hj => ⟨?_, (g2 j v hj).2⟩, g3.keeps (keepsJ l)⟩
        cases m with
        | full =>
          have hj' : j < es.length := (List.getElem?_eq_some_iff.1 hj).1
          have h1 := Nat.inside (sz := e.size) hi (show j < e.size by omega)
          have h2 := Nat.mul_le_mul_right e.size e2
          obtain ⟨k1, k2, _⟩ := e8.2 (o + i * e.size + j) (by omega) (by omega)
          rw [ownJ_wr l k1 k2, find3_none]
          refine hl s ?_
          simp only [JI.loose, hy, hm, List.mem_singleton]
        | tail => exact ownJ_none l (g2 j v hj).1
        | view => exact ownJ_none l (g2 j v hj).1
        | mp => cases hmp
        | gb l => cases hrd
    · cases hx
  · cases hx

/-- Each slot, each piece of memory, of a state that is being written. -/
structure Wr (Z : Base) (own : Own) (w : World) (a : Act) (σ : S) : Prop where
  slots : ∀ t, (σ.slots t = .dead ∨ (∃ v, σ.slots t = v ∧ ∀ β mem, RepS own w β mem v (a.tmps.getD t undef))) ∨ (∃ τ x, σ.slots t = .val τ x ∧ RepV own w τ (a.tmps.getD t undef) x) ∨
    (∃ k, σ.slots t = .ref (site t 0) k ∧ ∃ e x m, σ.mem (site t 0) = .own k e x m) ∨
    (∃ k, σ.slots t = .ptr (site t 0) k [] ∧ (∃ τ x, σ.mem (site t 0) = .box k τ x) ∧ ∃ b o, a.tmps.getD t undef = .pointer (some ⟨b, o, none⟩)) ∨
    (σ.slots t = .elp (site t 1) 1 0 [] ∧ (∃ τ x l, σ.mem (site t 1) = .own 1 τ [x] (.gb l)) ∧ ∃ b o, a.tmps.getD t undef = .pointer (some ⟨b, o, none⟩))
  mems : ∀ s, RepE Z own w (betaJ a) s (σ.mem s)
  pins : ∀ s v, Z.pin s = some v → ver0 (σ.mem s) = true → betaJ a s = v

theorem site_ne {t t' : Nat} (h : t' ≠ t) : site t' 0 ≠ site t 0 := by unfold site; omega

theorem Wr.put {own : Own} (h : Wr Z own w a σ) {t : Nat} {τ : Ty} {x : τ.D} (hx : RepV own w τ (a.tmps.getD t undef) x) : Wr Z own w a (σ.put t (.val τ x)) where
  slots t' := by
    show (upd σ.slots t _ t' = _ ∨ _) ∨ _ ∨ _ ∨ _ ∨ _
    have e : (σ.put t (.val τ x)).slots t' = if t' = t then .val τ x else σ.slots t' := upd_eq _ _ _ _
    by_cases ht : t' = t
    · subst ht
      rw [if_pos rfl] at e
      exact .inr (.inl ⟨τ, x, e, hx⟩)
    · rw [if_neg ht] at e
      have := h.slots t'
      rw [← e] at this
      exact this
  mems s := h.mems s
  pins s v := h.pins s v

/-- A value that means no memory of one's own. -/
theorem Wr.putV {own : Own} (h : Wr Z own w a σ) {t : Nat} {v : V} (hx : ∀ β mem, RepS own w β mem v (a.tmps.getD t undef)) : Wr Z own w a (σ.put t v) where
  slots t' := by
    show (upd σ.slots t _ t' = _ ∨ _) ∨ _ ∨ _ ∨ _ ∨ _
    have e : (σ.put t v).slots t' = if t' = t then v else σ.slots t' := upd_eq _ _ _ _
    by_cases ht : t' = t
    · subst ht
      rw [if_pos rfl] at e
      exact .inl (.inr ⟨v, e, hx⟩)
    · rw [if_neg ht] at e
      have := h.slots t'
      rw [← e] at this
      exact this
  mems s := h.mems s
  pins s v := h.pins s v
theorem Wr.putNil {own : Own} (h : Wr Z own w a σ) {t : Nat} (hx : a.tmps.getD t undef = .slice none 0 0) : Wr Z own w a (σ.put t .nil) := h.putV fun _ _ => hx

theorem Wr.putMem {own : Own} (h : Wr Z own w a σ) {t : Nat} {v : V} {en : Entry} (hm : RepE Z own w (betaJ a) (site t 0) en)
    (hv : (∃ k, v = .ref (site t 0) k ∧ ∃ e x m, en = .own k e x m) ∨ (∃ k, v = .ptr (site t 0) k [] ∧ (∃ τ x, en = .box k τ x) ∧ ∃ b o, a.tmps.getD t undef = .pointer (some ⟨b, o, none⟩)))
    (hp : ∀ v, Z.pin (site t 0) = some v → ver0 en = true → betaJ a (site t 0) = v) :
    Wr Z own w a ((σ.put t v).set (site t 0) en) where
  slots t' := by
    have e : ((σ.put t v).set (site t 0) en).slots t' = if t' = t then v else σ.slots t' := upd_eq _ _ _ _
    have e' : ∀ s, ((σ.put t v).set (site t 0) en).mem s = if s = site t 0 then en else σ.mem s := fun s => upd_eq _ _ _ _
    by_cases ht : t' = t
    · subst ht
      rw [e, if_pos rfl, e', if_pos rfl]
      exact .inr (.inr (hv.imp id .inl))
    · rw [e, if_neg ht, e', if_neg (site_ne ht), e', if_neg (show site t' 1 ≠ site t 0 by unfold site; omega)]
      exact h.slots t'
  mems s := by
    show RepE Z own w (betaJ a) s (upd σ.mem (site t 0) en s)
    rw [upd_eq]
    split
    · rename_i e; subst e; exact hm
    · exact h.mems s
  pins s u hs h0 := by
    have e' : ((σ.put t v).set (site t 0) en).mem s = if s = site t 0 then en else σ.mem s := upd_eq _ _ _ _
    rw [e'] at h0
    split at h0
    · rename_i e; subst e; exact hp u hs h0
    · exact h.pins s u hs h0

theorem Wr.putGb {own : Own} (h : Wr Z own w a σ) {t : Nat} {τ : Ty} {x : τ.D} {l : List (Nat × Nat)} (hm : RepE Z own w (betaJ a) (site t 1) (.own 1 τ [x] (.gb l)))
    (hv : ∃ b o, a.tmps.getD t undef = .pointer (some ⟨b, o, none⟩)) : Wr Z own w a ((σ.put t (.elp (site t 1) 1 0 [])).set (site t 1) (.own 1 τ [x] (.gb l))) where
  slots t' := by
    have e : ((σ.put t (.elp (site t 1) 1 0 [])).set (site t 1) (.own 1 τ [x] (.gb l))).slots t' = if t' = t then .elp (site t 1) 1 0 [] else σ.slots t' := upd_eq _ _ _ _
    have e' : ∀ s, ((σ.put t (.elp (site t 1) 1 0 [])).set (site t 1) (.own 1 τ [x] (.gb l))).mem s = if s = site t 1 then .own 1 τ [x] (.gb l) else σ.mem s := fun s => upd_eq _ _ _ _
    by_cases ht : t' = t
    · subst ht
      rw [e, if_pos rfl]
      exact .inr (.inr (.inr (.inr ⟨rfl, ⟨τ, x, l, by rw [e', if_pos rfl]⟩, hv⟩)))
    · rw [e, if_neg ht, e', if_neg (show site t' 0 ≠ site t 1 by unfold site; omega), e', if_neg (show site t' 1 ≠ site t 1 by unfold site; omega)]
      exact h.slots t'
  mems s := by
    show RepE Z own w (betaJ a) s (upd σ.mem (site t 1) _ s)
    rw [upd_eq]
    split
    · rename_i e; subst e; exact hm
    · exact h.mems s
  pins s u hs h0 := by
    have e' : ((σ.put t (.elp (site t 1) 1 0 [])).set (site t 1) (.own 1 τ [x] (.gb l))).mem s = if s = site t 1 then .own 1 τ [x] (.gb l) else σ.mem s := upd_eq _ _ _ _
    rw [e'] at h0
    split at h0
    · cases h0
    · exact h.pins s u hs h0

theorem Wr.bare {own : Own} : Wr Z own w a S.bare := ⟨fun _ => .inl (.inl rfl), fun _ => trivial, fun _ _ _ h => by cases h⟩

theorem Wr.item (h : St N Z own β σ a w) {l : List (Nat × Nat × Nat)} (hn : (l.map (·.1)).Nodup) {j : JI} {x : j.ty.D} (hx : j.read σ = some x)
    (hl : ∀ p ∈ j.keeps σ a, p ∈ l) (hl' : ∀ s ∈ j.loose σ, s ∉ l.map (·.1)) {σ0 : S} (h0 : Wr Z (ownJ Z own l) w a σ0) : Wr Z (ownJ Z own l) w a (j.write x σ0) := by
  cases j with
  | val t τ => exact h0.put (val_join h hx hl')
  | row t e m =>
    have hx : rdRow e m (σ.slots t) σ = some x := hx
    unfold rdRow at hx
    split at hx
    · rename_i hs
      cases hmp : m.isMp with
      | true => rw [hmp] at hx; cases hx
      | false =>
      rw [hmp] at hx
      cases hx
      have hsl := h.slots t
      rw [hs] at hsl
      exact h0.putMem (en := .own 1 e [] m) (RepE.ver (nil_join hmp hsl)) (.inl ⟨1, rfl, _, _, _, rfl⟩) (fun _ _ h => by cases h)
    · rename_i s ver hs
      split at hx
      · rename_i ver' e' xs m' hm
        cases hb : Nat.beq ver ver' && m'.le m with
        | false => rw [hb] at hx; cases hx
        | true =>
          rw [hb] at hx
          simp only [Bool.and_eq_true] at hb
          have hb1 := Nat.eq_of_beq_eq_true hb.1
          subst hb1
          obtain ⟨eq, hx⟩ := cast?_some hx
          cases eq
          have hx : xs = x := hx
          subst hx
          exact h0.putMem (en := .own 1 _ xs m) (RepE.ver (row_join h hn hs hm hb.2 hl)) (.inl ⟨1, rfl, _, _, _, rfl⟩) (fun _ _ h => by cases h)
      · cases hx
    · cases hx
  | box t τ =>
    have hx : rdBox τ (σ.slots t) σ = some x := hx
    unfold rdBox at hx
    split at hx
    · rename_i s ver hs
      split at hx
      · rename_i ver' τ' y hm
        cases hb : Nat.beq ver ver' with
        | false => rw [hb] at hx; cases hx
        | true =>
          rw [hb] at hx
          have hb1 := Nat.eq_of_beq_eq_true hb
          subst hb1
          obtain ⟨eq, hx⟩ := cast?_some hx
          subst eq
          have hx : y = x := hx
          subst hx
          obtain ⟨g1, g2⟩ := box_join h hn hs hm hl
          exact h0.putMem (en := .box 1 τ' y) g1 (.inr ⟨1, rfl, ⟨_, _, rfl⟩, g2⟩) (fun _ _ h => by cases h)
      · cases hx
    · cases hx
  | prow t e =>
    have hx : rdPRow e t (σ.slots t) σ = some x := hx
    unfold rdPRow at hx
    split at hx
    · rename_i s hs
      cases hb : Nat.beq s (site t 0) with
      | false => rw [hb] at hx; cases hx
      | true =>
        rw [hb] at hx
        have hb := Nat.eq_of_beq_eq_true hb
        simp only [cond_true] at hx
        split at hx
        · rename_i e' xs hm
          obtain ⟨eq, hx⟩ := cast?_some hx
          cases eq
          have hx : xs = x := hx
          subst hx
          have hsl := h.slots t
          rw [hs] at hsl
          have hv : a.tmps.getD t undef = β s := hsl.2 _ xs .full hm
          simp only [JI.keeps, List.mem_singleton, forall_eq] at hl
          have hf : find3 l s = some (site t 0, 0) := by rw [hb]; exact find3_mem hn hl
          refine h0.putMem (en := .own 0 _ xs .full) (row_core (m := .full) h hs hm rfl hf (betaJ_site t)) (.inl ⟨0, rfl, _, _, _, rfl⟩) (fun v hp _ => ?_)
          rw [betaJ_site, hv]
          subst hb
          exact h.pins _ v hp (by rw [hm]; rfl)
        · cases hx
    · cases hx
  | pbox t τ =>
    have hx : rdPBox τ t (σ.slots t) σ = some x := hx
    unfold rdPBox at hx
    split at hx
    · rename_i s hs
      cases hb : Nat.beq s (site t 0) with
      | false => rw [hb] at hx; cases hx
      | true =>
        rw [hb] at hx
        have hb := Nat.eq_of_beq_eq_true hb
        simp only [cond_true] at hx
        split at hx
        · rename_i τ' y hm
          obtain ⟨eq, hx⟩ := cast?_some hx
          subst eq
          have hx : y = x := hx
          subst hx
          simp only [JI.keeps, List.mem_singleton, forall_eq] at hl
          have hf : find3 l s = some (site t 0, 0) := by rw [hb]; exact find3_mem hn hl
          obtain ⟨g1, g2⟩ := box_core h hf hs hm
          obtain ⟨b, o, g2, g3⟩ := g2
          refine h0.putMem (en := .box 0 τ' y) g1 (.inr ⟨0, rfl, ⟨_, _, rfl⟩, b, o, g2⟩) (fun v hp _ => ?_)
          rw [betaJ_site, g3]
          subst hb
          exact h.pins _ v hp (by rw [hm]; rfl)
        · cases hx
    · cases hx
  | gbx t τ l =>
    have hx : rdGbx τ l (σ.slots t) σ = some x := hx
    unfold rdGbx at hx
    split at hx
    · rename_i s ver hs
      split at hx
      · rename_i ver' τ' xs l' hm
        cases hb : Nat.beq ver ver' && subG l l' with
        | false => rw [hb] at hx; cases hx
        | true =>
          rw [hb] at hx
          simp only [Bool.and_eq_true] at hb
          have hb1 := Nat.eq_of_beq_eq_true hb.1
          subst hb1
          obtain ⟨y, hy, hx⟩ := Option.bind_eq_some_iff.1 hx
          obtain ⟨eq, hx⟩ := cast?_some hx
          subst eq
          have hx : y = x := hx
          subst hx
          have hxs := one?_some hy
          subst hxs
          obtain ⟨g1, g2⟩ := gb_join h hn hs hm hb.2 hl
          exact h0.putGb g1 g2
      · cases hx
    · cases hx
  | pv t k =>
    have hx : k.read (σ.slots t) = some x := hx
    have hsl := h.slots t
    rw [PK.read_some hx] at hsl
    refine h0.putV fun β' mem' => ?_
    exact RepS.go (keepsJ l) (fun s => Evo.same _ rfl) (PK.indep (β' := β') (mem' := mem') hsl)
  | rpt t τ =>
    have hx : rdRpt τ (σ.slots t) σ = some x := hx
    have hsl := h.slots t
    refine h0.putV fun β' mem' => ?_
    unfold rdRpt at hx
    split at hx
    · rename_i τ' y hs
      obtain ⟨eq, hx⟩ := cast?_some hx
      subst eq
      have hx : y = x := hx
      subst hx
      rw [hs] at hsl
      obtain ⟨hv, b, o, cs, e1, e2, e3⟩ := hsl
      exact ⟨hv, b, o, cs, e1, fun j u e => ⟨ownJ_none l (e2 j u e).1, (e2 j u e).2⟩, e3.keeps (keepsJ l)⟩
    · rename_i s ver i hs
      split at hx
      · rename_i ver' e xs hm
        cases hb : Nat.beq ver ver' && e.isVal with
        | false => rw [hb] at hx; cases hx
        | true =>
          rw [hb] at hx
          simp only [Bool.and_eq_true] at hb
          obtain ⟨hb, hval⟩ := hb
          have hb := Nat.eq_of_beq_eq_true hb
          subst hb
          obtain ⟨y, hy, hx⟩ := Option.bind_eq_some_iff.1 hx
          obtain ⟨eq, hx⟩ := cast?_some hx
          subst eq
          have hx : y = x := hx
          subst hx
          rw [hs] at hsl
          obtain ⟨hi, b, off, nn, cc, k1, k2⟩ := hsl.2 e xs .tail hm
          have hE := h.mems s
          rw [hm] at hE
          obtain ⟨ad, cap, k3, k4, k5, k6, k7⟩ := hE
          rw [k1] at k3; cases k3
          obtain ⟨hx1, hx2⟩ := List.getElem?_eq_some_iff.1 hy
          rcases k7 with ⟨k8, _⟩ | ⟨b', off', k8, k9, _⟩
          · omega
          cases k8
          obtain ⟨es, q1, q2, q3⟩ := k9 i hx1
          rw [hx2] at q3
          exact ⟨hval, b, off + i * e.size, es, by rw [k2, offP_nil, Nat.add_zero], fun j u hj => ⟨ownJ_none l (q2 j u hj).1, (q2 j u hj).2⟩, q3.keeps (keepsJ l)⟩
      · cases hx
    · cases hx

theorem Wr.items (h : St N Z own β σ a w) {l : List (Nat × Nat × Nat)} (hn : (l.map (·.1)).Nodup) : ∀ (J : List JI) (x : JD J), rdJs J σ = some x →
    (∀ p ∈ keepsAll J σ a, p ∈ l) → (∀ s ∈ looseAll J σ, s ∉ l.map (·.1)) → ∀ {σ0 : S}, Wr Z (ownJ Z own l) w a σ0 → Wr Z (ownJ Z own l) w a (wrJs J x σ0)
  | [], _, _, _, _, _, h0 => h0
  | [j], x, hx, hl, hl', _, h0 => Wr.item h hn hx (fun p hp => hl p (by simp [keepsAll, hp])) (fun s hs => hl' s (by simp [looseAll, hs])) h0
  | j :: q :: r, x, hx, hl, hl', σ0, h0 => by
    obtain ⟨x1, h1, h2⟩ := Option.bind_eq_some_iff.1 hx
    obtain ⟨x2, h3, h4⟩ := Option.bind_eq_some_iff.1 h2
    cases h4
    exact Wr.items h hn (q :: r) x2 h3 (fun p hp => hl p (List.mem_append_right _ hp)) (fun s hs => hl' s (List.mem_append_right _ hs))
      (Wr.item h hn h1 (fun p hp => hl p (List.mem_append_left _ hp)) (fun s hs => hl' s (List.mem_append_left _ hs)) h0)

theorem Wr.st {own' : Own} {σ' : S} (h : St N Z own β σ a w) (ho : ∀ b o, b < Z.w.heap.size → ¬ Z.io b o → own' b o = own b o) (hw : Wr Z own' w a σ') : St N Z own' (betaJ a) σ' a w where
  frame := h.frame
  old b o h1 h2 := (ho b o h1 h2).trans (h.old b o h1 h2)
  size := h.size
  defers := h.defers
  slots t := by
    rcases hw.slots t with (e | ⟨v, e, hn⟩) | ⟨τ, x, e, hx⟩ | ⟨k, e, en, x, m, e'⟩ | ⟨k, e, ⟨τ, x, e'⟩, b, o, e''⟩ | ⟨e, ⟨τ, x, l, e'⟩, b, o, e''⟩
    · rw [e]; trivial
    · rw [e]; exact hn _ _
    · rw [e]; exact hx
    · rw [e]
      refine ⟨by rw [e']; exact Nat.lt_succ_self k, fun τ' xs m' _ => ?_⟩
      rw [betaJ_site]
    · rw [e]
      refine ⟨by rw [e']; exact Nat.lt_succ_self k, fun τ' x' _ => ⟨b, o, ?_, ?_⟩⟩
      · rw [betaJ_site]; exact e''
      · rw [e'', offP_nil, Nat.add_zero]
    · rw [e]
      refine ⟨by rw [e']; exact Nat.lt_succ_self 1, fun τ' xs m hm => ?_⟩
      rw [e'] at hm; cases hm
      exact ⟨by simp, b, o, 1, 1, by rw [betaJ_site1, e'']; rfl, by rw [e'', offP_nil, Nat.zero_mul]; rfl⟩
  mems := hw.mems
  pins := hw.pins

/-- A join keeps what it says. -/
theorem readJ_st (h : St N Z own β σ a w) {J : List JI} {x : JD J} (hx : readJ J σ = some x) : ∃ own' β', St N Z own' β' (writeJ J x) a w := by
  unfold readJ at hx
  cases hc : nodupB (keptAll J σ) && disB (looseAll J σ) (keptAll J σ) with
  | false => rw [hc] at hx; cases hx
  | true =>
    rw [hc] at hx
    simp only [Bool.and_eq_true] at hc
    have hn : ((keepsAll J σ a).map (·.1)).Nodup := by rw [keepsAll_keys]; exact nodupB_spec hc.1
    refine ⟨ownJ Z own (keepsAll J σ a), betaJ a, Wr.st h ?_ (Wr.items h hn J x hx (fun _ h => h) (fun s hs => by rw [keepsAll_keys]; exact disB_iff.1 hc.2 s hs) Wr.bare)⟩
    intro b o h1 h2
    unfold ownJ
    rw [if_pos ⟨h1, h2⟩]

end
end Go.Re
