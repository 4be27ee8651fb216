/- Reflection, part AA: a region in any order. -/
import Derived.Test.YtgceolpeegfkkaaReZ
namespace Go.Re
set_option linter.unusedVariables false
set_option linter.unusedSimpArgs false

/-! ### who wrote last -/
open Classical in
noncomputable def latest {X : Type} (L W : Nat → Prop) (h : Nat → X) : Nat → X
  | 0 => h 0
  | i + 1 => if L i ∧ W i then h (i + 1) else latest L W h i

open Classical in
theorem latest_full {X : Type} {L W : Nat → Prop} {h : Nat → X} : ∀ (n : Nat), (∀ i, i < n → W i → L i) → (∀ i, i < n → ¬ W i → h (i + 1) = h i) → latest L W h n = h n
  | 0, _, _ => rfl
  | n + 1, h1, h2 => by
    unfold latest
    by_cases hw : W n
    · rw [if_pos ⟨h1 n (by omega) hw, hw⟩]
    · rw [if_neg (fun e => hw e.2), latest_full n (fun i hi => h1 i (by omega)) (fun i hi => h2 i (by omega)), h2 n (by omega) hw]

open Classical in
theorem latest_stop {X : Type} {L W : Nat → Prop} {h : Nat → X} {j : Nat} : ∀ (n : Nat), j ≤ n → (∀ i, j ≤ i → i < n → W i → ¬ L i) → latest L W h n = latest L W h j
  | 0, hj, _ => by have : j = 0 := by omega
                   subst this; rfl
  | n + 1, hj, h1 => by
    by_cases e : j = n + 1
    · subst e; rfl
    · show (if L n ∧ W n then h (n + 1) else latest L W h n) = _
      rw [if_neg (fun e' => h1 n (by omega) (by omega) e'.2 e'.1)]
      exact latest_stop n (by omega) fun i h2 h3 => h1 i h2 (by omega)

open Classical in
theorem latest_read {X : Type} {L W : Nat → Prop} {h : Nat → X} {j n : Nat} (hj : j ≤ n) (h1 : ∀ i, i < j → W i → L i) (h2 : ∀ i, j ≤ i → i < n → W i → ¬ L i)
    (h3 : ∀ i, i < n → ¬ W i → h (i + 1) = h i) : latest L W h n = h j := by
  rw [latest_stop n hj h2]
  exact latest_full j h1 fun i hi => h3 i (by omega)

open Classical in
theorem latest_write {X : Type} {L W : Nat → Prop} {h : Nat → X} {j n : Nat} (hj : j < n) (h1 : L j) (h2 : W j) (h3 : ∀ i, j < i → i < n → W i → ¬ L i) : latest L W h n = h (j + 1) := by
  rw [latest_stop (j := j + 1) n hj fun i hi => h3 i hi]
  unfold latest
  rw [if_pos ⟨h1, h2⟩]

open Classical in
theorem latest_congr {X : Type} {L L' W : Nat → Prop} {h : Nat → X} : ∀ (n : Nat), (∀ i, i < n → W i → (L i ↔ L' i)) → latest L W h n = latest L' W h n
  | 0, _ => rfl
  | n + 1, h1 => by
    unfold latest
    rw [latest_congr n fun i hi => h1 i (by omega)]
    by_cases hw : W n
    · by_cases hl : L n
      · rw [if_pos ⟨hl, hw⟩, if_pos ⟨(h1 n (by omega) hw).1 hl, hw⟩]
      · rw [if_neg (fun e => hl e.1), if_neg (fun e => hl ((h1 n (by omega) hw).2 e.1))]
    · rw [if_neg (fun e => hw e.2), if_neg (fun e => hw e.2)]

/-! ### who comes ahead of whom -/
inductive Reach (all : List Oper) : Nat → Nat → Prop
  | one {j i : Nat} {o : Oper} {e : Edge} (h : all[j]? = some o) (he : e ∈ o.after) (hb : Region.binds .any e = true) (hi : e.on = i) : Reach all j i
  | more {j i : Nat} {o : Oper} {e : Edge} (h : all[j]? = some o) (he : e ∈ o.after) (hb : Region.binds .any e = true) (hi : Reach all e.on i) : Reach all j i

theorem Reach.closed {all : List Oper} {L : Nat → Prop} (hc : ∀ j o, all[j]? = some o → L j → ∀ e ∈ o.after, Region.binds .any e = true → L e.on) {j i : Nat} (h : Reach all j i) : L j → L i := by
  induction h with
  | one h he hb hi => intro hl; subst hi; exact hc _ _ h hl _ he hb
  | more h he hb _ ih => intro hl; exact ih (hc _ _ h hl _ he hb)

theorem Reach.ready {all : List Oper} {L : Nat → Prop} (hc : ∀ j o, all[j]? = some o → L j → ∀ e ∈ o.after, Region.binds .any e = true → L e.on) {j i : Nat} {o : Oper} (ho : all[j]? = some o)
    (hr : ∀ e ∈ o.after, Region.binds .any e = true → L e.on) (h : Reach all j i) : L i := by
  cases h with
  | one h he hb hi => subst hi; rw [ho] at h; cases h; exact hr _ he hb
  | more h he hb hi => rw [ho] at h; cases h; exact hi.closed hc (hr _ he hb)

theorem ancs_fold {t : List Nat} {i : Nat} : ∀ (l : List Edge) (b : Nat),
    Nat.testBit (l.foldl (fun b e => bif Region.binds .any e then Nat.lor b (Nat.lor (Nat.shiftLeft 1 e.on) (t.getD e.on 0)) else b) b) i = true →
      Nat.testBit b i = true ∨ ∃ e ∈ l, Region.binds .any e = true ∧ (e.on = i ∨ Nat.testBit (t.getD e.on 0) i = true)
  | [], b, h => .inl h
  | e :: l, b, h => by
    simp only [List.foldl_cons] at h
    rcases ancs_fold l _ h with h | ⟨e', h1, h2⟩
    · cases hb : Region.binds .any e with
      | false => rw [hb] at h; exact .inl h
      | true =>
        rw [hb] at h
        have h : Nat.testBit (b ||| ((1 <<< e.on) ||| t.getD e.on 0)) i = true := h
        rw [Nat.testBit_or, Nat.testBit_or] at h
        simp only [Bool.or_eq_true] at h
        rcases h with h | h | h
        · exact .inl h
        · refine .inr ⟨e, by simp, hb, .inl ?_⟩
          rw [Nat.testBit_shiftLeft] at h
          simp only [Bool.and_eq_true, decide_eq_true_eq] at h
          have : i - e.on = 0 := by
            rcases Nat.eq_zero_or_pos (i - e.on) with h0 | h0
            · exact h0
            · exfalso; have := h.2; rw [show i - e.on = (i - e.on - 1) + 1 by omega, Nat.testBit_succ] at this; simp at this
          omega
        · exact .inr ⟨e, by simp, hb, .inr h⟩
    · exact .inr ⟨e', by simp [h1], h2⟩

theorem ancs_reach {all : List Oper} : ∀ (os pre : List Oper) (t : List Nat), all = pre ++ os → t.length = pre.length →
    (∀ j i, Nat.testBit (t.getD j 0) i = true → Reach all j i) → ∀ j i, Nat.testBit ((ancs os t).getD j 0) i = true → Reach all j i
  | [], _, _, _, _, h => h
  | o :: os, pre, t, e, hl, h => by
    refine ancs_reach os (pre ++ [o]) _ (by simp [e]) (by simp [hl]) ?_
    intro j i hb
    rw [List.getD_eq_getElem?_getD, List.getElem?_append] at hb
    split at hb
    · rename_i hj
      exact h j i (by rw [List.getD_eq_getElem?_getD]; exact hb)
    · rename_i hj
      rcases Nat.eq_zero_or_pos (j - t.length) with h0 | h0
      · rw [h0] at hb
        have hj : j = pre.length := by omega
        have ho : all[j]? = some o := by subst e; simp [hj]
        rcases ancs_fold _ _ hb with h1 | ⟨e', h1, h2, h3⟩
        · simp at h1
        · rcases h3 with h3 | h3
          · exact .one ho (by simpa using h1) h2 h3
          · exact .more ho (by simpa using h1) h2 (h _ _ h3)
      · have : ([o.after.toList.foldl (fun b e => bif Region.binds .any e then Nat.lor b (Nat.lor (Nat.shiftLeft 1 e.on) (t.getD e.on 0)) else b) 0] : List Nat)[j - t.length]? = none := by
          apply List.getElem?_eq_none; simp; omega
        rw [this] at hb
        simp at hb

theorem looseB_spec {all : List Oper} {o : Oper} {d : Dec} {i : Nat} : ∀ (os : List Oper) (ds : List Dec) (j : Nat), looseB all o d i j os ds = true → ∀ k o' d', os[k]? = some o' → ds[k]? = some d' →
    Nat.testBit ((ancs all []).getD (j + k) 0) i = true ∨ apartB all o o' d d' = true
  | [], _, _, _, _, _, _, h1, _ => by simp at h1
  | _ :: _, [], _, _, _, _, _, _, h2 => by simp at h2
  | o1 :: os, d1 :: ds, j, h, k, o', d', h1, h2 => by
    unfold looseB at h
    have key : (Nat.testBit ((ancs all []).getD j 0) i = true ∨ apartB all o o1 d d1 = true) ∧ looseB all o d i (j + 1) os ds = true := by
      cases ht : Nat.testBit ((ancs all []).getD j 0) i with
      | true => rw [ht] at h; exact ⟨.inl rfl, h⟩
      | false =>
        rw [ht] at h
        simp only [cond_false] at h
        cases ha : apartB all o o1 d d1 with
        | true => rw [ha] at h; exact ⟨.inr rfl, h⟩
        | false => rw [ha] at h; cases h
    cases k with
    | zero => cases h1; cases h2; exact key.1
    | succ k =>
      have := looseB_spec os ds (j + 1) key.2 k o' d' (by simpa using h1) (by simpa using h2)
      rw [show j + (k + 1) = j + 1 + k by omega]; exact this

theorem anyB_spec {all : List Oper} : ∀ (os : List Oper) (ds : List Dec) (i : Nat), anyB all i os ds = true → ∀ k l o d o' d', k < l → os[k]? = some o → ds[k]? = some d → os[l]? = some o' → ds[l]? = some d' →
    Nat.testBit ((ancs all []).getD (i + l) 0) (i + k) = true ∨ apartB all o o' d d' = true
  | [], _, _, _, _, _, _, _, _, _, _, h1, _, _, _ => by simp at h1
  | _ :: _, [], _, _, _, _, _, _, _, _, _, _, h2, _, _ => by simp at h2
  | o1 :: os, d1 :: ds, i, h, k, l, o, d, o', d', hkl, h1, h2, h3, h4 => by
    simp only [anyB, Bool.and_eq_true] at h
    cases l with
    | zero => omega
    | succ l =>
      cases k with
      | zero =>
        cases h1; cases h2
        have := looseB_spec os ds (i + 1) h.1 l o' d' (by simpa using h3) (by simpa using h4)
        rw [show i + (l + 1) = i + 1 + l by omega, Nat.add_zero]; exact this
      | succ k =>
        have := anyB_spec os ds (i + 1) h.2 k l o d o' d' (by omega) (by simpa using h1) (by simpa using h2) (by simpa using h3) (by simpa using h4)
        rw [show i + (l + 1) = i + 1 + l by omega, show i + (k + 1) = i + 1 + k by omega]; exact this

theorem backB_spec : ∀ (os : List Oper) (i : Nat), backB i os = true → ∀ k o, os[k]? = some o → ∀ e ∈ o.after, Region.binds .any e = true → e.on < i + k
  | [], _, _, _, _, h, _, _, _ => by simp at h
  | o1 :: os, i, hb, k, o, h, e, he, hbd => by
    simp only [backB, Bool.and_eq_true] at hb
    cases k with
    | zero =>
      cases h
      have := List.all_eq_true.1 hb.1 e (by simpa using he)
      rw [hbd] at this
      simpa [Nat.blt_eq] using this
    | succ k =>
      have := backB_spec os (i + 1) hb.2 k o (by simpa using h) e he hbd
      omega

/-- The states of a run. -/
theorem Run.states {E : Env} {all os : List Oper} {ds : List Dec} {σ σ' : S} (h : Run E all os ds σ σ') : ∃ f : Nat → S, f 0 = σ ∧ f os.length = σ' ∧ os.length = ds.length ∧
    ∀ i o d, os[i]? = some o → ds[i]? = some d → ∃ r, (gopM E all o).run (f i) = some r ∧ footOk ((gopM E all o).foot (f i)) (looksL all o) d = true ∧ f (i + 1) = r.2.putO o.dst r.1 := by
  induction h with
  | nil σ => exact ⟨fun _ => σ, rfl, rfl, rfl, fun i o d h => by simp at h⟩
  | @cons o os d ds σ σ' r hr hf _ ih =>
    obtain ⟨f, h1, h2, h3, h4⟩ := ih
    refine ⟨fun i => match i with | 0 => σ | i + 1 => f i, rfl, by simpa using h2, by simp [h3], ?_⟩
    intro i o' d' e1 e2
    cases i with
    | zero => cases e1; cases e2; exact ⟨r, hr, hf, h1⟩
    | succ i => exact h4 i o' d' (by simpa using e1) (by simpa using e2)

theorem S.ext' {σ τ : S} (h1 : ∀ t, σ.slots t = τ.slots t) (h2 : ∀ s, σ.mem s = τ.mem s) : σ = τ := by
  cases σ; cases τ
  congr
  · exact funext h1
  · exact funext h2

section
variable {P : Program} {E : Env} {N : Nat} {Z : Base} {all : List Oper} {ds : List Dec} {f : Nat → S}

/-- What of the operations' run is known. -/
structure Runs (E : Env) (N : Nat) (all : List Oper) (ds : List Dec) (f : Nat → S) : Prop where
  len : all.length = ds.length
  dst : ∀ (i : Nat) (o : Oper), all[i]? = some o → ∀ t, o.dst = some t → t < N
  op : ∀ (i : Nat) (o : Oper) (d : Dec), all[i]? = some o → ds[i]? = some d → ∃ r, (gopM E all o).run (f i) = some r ∧ footOk ((gopM E all o).foot (f i)) (looksL all o) d = true ∧ f (i + 1) = r.2.putO o.dst r.1
  back : ∀ (k : Nat) (o : Oper), all[k]? = some o → ∀ e ∈ o.after, Region.binds .any e = true → e.on < k
  apart : ∀ (k l : Nat) (o : Oper) (d : Dec) (o' : Oper) (d' : Dec), k < l → all[k]? = some o → ds[k]? = some d → all[l]? = some o' → ds[l]? = some d' → Reach all l k ∨ apartB all o o' d d' = true

def WrS (all : List Oper) (t : Nat) (i : Nat) : Prop := ∃ o, all[i]? = some o ∧ o.dst = some t
def WrM (ds : List Dec) (s : Nat) (i : Nat) : Prop := ∃ d, ds[i]? = some d ∧ s ∈ d.wm

theorem apartB_spec {all : List Oper} {o o' : Oper} {d d' : Dec} (h : apartB all o o' d d' = true) :
    (∀ t, o.dst = some t → t ∉ looksL all o' ∧ o'.dst ≠ some t) ∧ (∀ t, o'.dst = some t → t ∉ looksL all o) ∧
    (∀ s ∈ d.wm, s ∉ d'.rm ∧ s ∉ d'.wm) ∧ (∀ s ∈ d.rm, s ∉ d'.wm) := by
  simp only [apartB, Bool.and_eq_true] at h
  obtain ⟨h1, h2, h3, h4, h5⟩ := h
  refine ⟨?_, ?_, fun s hs => ⟨disB_iff.1 h3 s hs, disB_iff.1 h4 s hs⟩, disB_iff.1 h5⟩
  · intro t ht
    rw [ht] at h1
    simp only [Bool.and_eq_true, Bool.not_eq_true'] at h1
    refine ⟨memB_false.1 h1.1, fun e => ?_⟩
    rw [e] at h1
    simp at h1
  · intro t ht
    rw [ht] at h2
    simp only [Bool.not_eq_true'] at h2
    exact memB_false.1 h2

structure IvR (all : List Oper) (ds : List Dec) (f : Nat → S) (L : Nat → Prop) (σ : S) : Prop where
  closed : ∀ (j : Nat) (o : Oper), all[j]? = some o → L j → ∀ e ∈ o.after, Region.binds .any e = true → L e.on
  slots : ∀ t, σ.slots t = latest L (WrS all t) (fun i => (f i).slots t) all.length
  mem : ∀ s, σ.mem s = latest L (WrM ds s) (fun i => (f i).mem s) all.length

theorem Runs.keep (h : Runs E N all ds f) {i : Nat} (hi : i < all.length) : (∀ t, ¬ WrS all t i → (f (i + 1)).slots t = (f i).slots t) ∧ (∀ s, ¬ WrM ds s i → (f (i + 1)).mem s = (f i).mem s) := by
  have ho : all[i]? = some all[i] := List.getElem?_eq_getElem hi
  have hd : ds[i]? = some (ds[i]'(h.len ▸ hi)) := List.getElem?_eq_getElem _
  obtain ⟨r, h1, h2, h3⟩ := h.op i _ _ ho hd
  obtain ⟨h4, h5⟩ := gop_frame h1 h2
  refine ⟨fun t ht => ?_, fun s hs => ?_⟩
  · rw [h3, putO_slots, if_neg (fun e => ht ⟨_, ho, e⟩), h4]
  · rw [h3, putO_mem, h5 s (fun e => hs ⟨_, hd, e⟩)]

theorem IvR.full (h : Runs E N all ds f) {L : Nat → Prop} {σ : S} (hi : IvR all ds f L σ) (hL : ∀ i, i < all.length → L i) : σ = f all.length := by
  refine S.ext' (fun t => ?_) (fun s => ?_)
  · rw [hi.slots]; exact latest_full _ (fun i hi _ => hL i hi) (fun i hi hw => (h.keep hi).1 t hw)
  · rw [hi.mem]; exact latest_full _ (fun i hi _ => hL i hi) (fun i hi hw => (h.keep hi).2 s hw)

/-- One more operation. -/
theorem IvR.step (h : Runs E N all ds f) {L : Nat → Prop} {σ : S} (hi : IvR all ds f L σ) {i : Nat} {o : Oper} (ho : all[i]? = some o) (hn : ¬ L i)
    (hr : ∀ e ∈ o.after, Region.binds .any e = true → L e.on) :
    ∃ r, (gopM E all o).run σ = some r ∧ ∀ L' : Nat → Prop, (∀ k, L' k ↔ L k ∨ k = i) → IvR all ds f L' (r.2.putO o.dst r.1) := by
  have hlt : i < all.length := (List.getElem?_eq_some_iff.1 ho).1
  have hd : ds[i]? = some (ds[i]'(h.len ▸ hlt)) := List.getElem?_eq_getElem _
  generalize hdd : ds[i]'(h.len ▸ hlt) = d at hd
  obtain ⟨r, h1, h2, h3⟩ := h.op i o d ho hd
  have hf := footOk_iff.1 h2
  have fwd : ∀ k o' d', k < i → all[k]? = some o' → ds[k]? = some d' → ¬ L k → apartB all o' o d' d = true := fun k o' d' hk e1 e2 hl =>
    (h.apart k i o' d' o d hk e1 e2 ho hd).resolve_left fun hre => hl (hre.ready hi.closed ho hr)
  have bwd : ∀ k o' d', i < k → all[k]? = some o' → ds[k]? = some d' → L k → apartB all o o' d d' = true := fun k o' d' hk e1 e2 hl =>
    (h.apart i k o d o' d' hk ho hd e1 e2).resolve_left fun hre => hn (hre.closed hi.closed hl)
  have dk : ∀ k, k < all.length → ∃ d', ds[k]? = some d' := fun k hk => ⟨_, List.getElem?_eq_getElem (h.len ▸ hk)⟩
  have rs : ∀ t ∈ looksL all o, σ.slots t = (f i).slots t := by
    intro t ht
    rw [hi.slots]
    refine latest_read (Nat.le_of_lt hlt) ?_ ?_ (fun k hk hw => (h.keep hk).1 t hw)
    · rintro k hk ⟨o', e1, e2⟩
      by_cases hl : L k
      · exact hl
      · obtain ⟨d', e3⟩ := dk k (by omega)
        exact absurd ht ((apartB_spec (fwd k o' d' hk e1 e3 hl)).1 t e2).1
    · rintro k hk hk' ⟨o', e1, e2⟩ hl
      rcases Nat.eq_or_lt_of_le hk with e | hk
      · subst e; exact hn hl
      · obtain ⟨d', e3⟩ := dk k hk'
        exact (apartB_spec (bwd k o' d' hk e1 e3 hl)).2.1 t e2 ht
  have rm : ∀ s, s ∈ d.rm ∨ s ∈ d.wm → σ.mem s = (f i).mem s := by
    intro s hs
    rw [hi.mem]
    refine latest_read (Nat.le_of_lt hlt) ?_ ?_ (fun k hk hw => (h.keep hk).2 s hw)
    · rintro k hk ⟨d', e1, e2⟩
      by_cases hl : L k
      · exact hl
      · have e3 : all[k]? = some all[k] := List.getElem?_eq_getElem (by omega)
        have := (apartB_spec (fwd k _ d' hk e3 e1 hl)).2.2.1 s e2
        rcases hs with hs | hs
        · exact absurd hs this.1
        · exact absurd hs this.2
    · rintro k hk hk' ⟨d', e1, e2⟩ hl
      rcases Nat.eq_or_lt_of_le hk with e | hk
      · subst e; exact hn hl
      · have e3 : all[k]? = some all[k] := List.getElem?_eq_getElem hk'
        have ha := apartB_spec (bwd k _ d' hk e3 e1 hl)
        rcases hs with hs | hs
        · exact ha.2.2.2 s hs e2
        · exact (ha.2.2.1 s hs).2 e2
  obtain ⟨l1, l2⟩ := M.run_local (gopM E all o) (σ := f i) (τ := σ) (fun t ht => rs t (hf.1 t ht)) (fun s hs => rm s (.inl (hf.2.1 s hs)))
  obtain ⟨l3, l4, σ', l5, l6, l7, l8⟩ := l2 r.1 r.2 h1
  refine ⟨(r.1, σ'), l5, fun L' hL' => ⟨?_, fun t => ?_, fun s => ?_⟩⟩
  · intro j o' e1 e2 e he hb
    rcases (hL' j).1 e2 with e2 | e2
    · exact (hL' _).2 (.inl (hi.closed j o' e1 e2 e he hb))
    · subst e2; rw [ho] at e1; cases e1
      exact (hL' _).2 (.inl (hr e he hb))
  · by_cases hw : o.dst = some t
    · rw [putO_slots, if_pos hw]
      rw [latest_write (j := i) hlt ((hL' i).2 (.inr rfl)) ⟨o, ho, hw⟩]
      · rw [h3, putO_slots, if_pos hw]
      · rintro k hk hk' ⟨o', e1, e2⟩ hl
        rcases (hL' k).1 hl with hl | hl
        · obtain ⟨d', e3⟩ := dk k hk'
          exact ((apartB_spec (bwd k o' d' hk e1 e3 hl)).1 t hw).2 e2
        · omega
    · rw [putO_slots, if_neg hw]
      show σ'.slots t = _
      rw [l6, hi.slots]
      refine latest_congr _ fun k hk hwk => ?_
      constructor
      · exact fun hl => (hL' k).2 (.inl hl)
      · intro hl
        rcases (hL' k).1 hl with hl | hl
        · exact hl
        · subst hl
          obtain ⟨o', e1, e2⟩ := hwk
          rw [ho] at e1; cases e1
          exact absurd e2 hw
  · rw [putO_mem]
    show σ'.mem s = _
    by_cases hw : s ∈ d.wm
    · rw [latest_write (j := i) hlt ((hL' i).2 (.inr rfl)) ⟨d, hd, hw⟩]
      · show σ'.mem s = (f (i + 1)).mem s
        rw [h3, putO_mem]
        by_cases hs : s ∈ ((gopM E all o).foot (f i)).wm
        · exact l7 s hs
        · rw [l8 s hs, l4 s hs]; exact rm s (.inr hw)
      · rintro k hk hk' ⟨d', e1, e2⟩ hl
        rcases (hL' k).1 hl with hl | hl
        · have e3 : all[k]? = some all[k] := List.getElem?_eq_getElem hk'
          exact ((apartB_spec (bwd k _ d' hk e3 e1 hl)).2.2.1 s hw).2 e2
        · omega
    · rw [l8 s (fun e => hw (hf.2.2 s e)), hi.mem]
      refine latest_congr _ fun k hk hwk => ?_
      constructor
      · exact fun hl => (hL' k).2 (.inl hl)
      · intro hl
        rcases (hL' k).1 hl with hl | hl
        · exact hl
        · subst hl
          obtain ⟨d', e1, e2⟩ := hwk
          rw [hd] at e1; cases e1
          exact absurd e2 hw

theorem getD_lt {l : Array Bool} {i : Nat} (h : i < l.size) (x y : Bool) : l.getD i x = l.getD i y := by
  simp [Array.getD_eq_getD_getElem?, Array.getElem?_eq_getElem h]

/-- Whatever order is drawn. -/
theorem any_wp (hE : EnvOk P E) (hr : Runs E N all ds f) {Q : Exit → Act → World → Prop} (hQ : ∀ a' w' own β, St N Z own β (f all.length) a' w' → Q .normal a' w') :
    ∀ (fuel : Nat) (listed : Array Bool) (rem : List Nat) (σ : S) (a : Act) (w : World) (own : Own) (β : Conc), listed.size = all.length → rem.Nodup → rem.length = fuel →
      (∀ i, i ∈ rem ↔ i < all.length ∧ listed.getD i true = false) → IvR all ds f (fun i => listed.getD i false = true) σ → St N Z own β σ a w →
      wpAny P .any all.toArray Q fuel listed a w := by
  intro fuel
  have done : ∀ (listed : Array Bool) (σ : S) (a : Act) (w : World) (own : Own) (β : Conc), listed.size = all.length → IvR all ds f (fun i => listed.getD i false = true) σ → St N Z own β σ a w →
      Region.ready .any all.toArray listed = [] → Q .normal a w := by
    intro listed σ a w own β hs hi h hrd
    have : ∀ i, i < all.length → listed.getD i false = true := by
      intro i
      induction i using Nat.strongRecOn with
      | _ i ih =>
        intro hlt
        cases hg : listed.getD i false with
        | true => rfl
        | false =>
          exfalso
          have : i ∈ Region.ready .any all.toArray listed := by
            rw [mem_ready]
            refine ⟨by rw [getD_lt (hs ▸ hlt) true false]; exact hg, all[i], by simp [hlt], fun e he hb => ?_⟩
            have := hr.back i _ (List.getElem?_eq_getElem hlt) e he hb
            exact ih _ this (by omega)
          rw [hrd] at this; simp at this
    have e := hi.full hr this
    subst e
    exact hQ _ _ _ _ h
  induction fuel with
  | zero =>
    intro listed rem σ a w own β hs hnd hl hm hi h
    have hrd : Region.ready .any all.toArray listed = [] := by
      apply List.eq_nil_iff_forall_not_mem.2
      intro i hir
      obtain ⟨h1, o, h2, _⟩ := mem_ready.1 hir
      have hlt : i < all.length := by
        have := (Array.getElem?_eq_some_iff.1 h2).1; simpa using this
      have := (hm i).2 ⟨hlt, h1⟩
      rw [List.length_eq_zero_iff.1 hl] at this
      simp at this
    exact ⟨hrd, done listed σ a w own β hs hi h hrd⟩
  | succ fuel ih =>
    intro listed rem σ a w own β hs hnd hl hm hi h
    refine ⟨done listed σ a w own β hs hi h, fun i hir => ?_⟩
    obtain ⟨h1, o, h2, h3⟩ := mem_ready.1 hir
    have hlt : i < all.length := by
      have := (Array.getElem?_eq_some_iff.1 h2).1; simpa using this
    have ho : all[i]? = some o := by simpa using h2
    have hn : ¬ listed.getD i false = true := by
      rw [getD_lt (hs ▸ hlt) false true, h1]; simp
    obtain ⟨r, h4, h5⟩ := hi.step hr ho hn h3
    refine gop_did hE h ho (hr.dst i o ho) h4 ?_
    intro a' w' own' β' hst
    have hset : ∀ k x, (listed.setIfInBounds i true).getD k x = if k = i then true else listed.getD k x := by
      intro k x
      simp only [Array.getD_eq_getD_getElem?]
      split
      · rename_i e; subst e; rw [Array.getElem?_setIfInBounds_self_of_lt (by omega)]; rfl
      · rename_i e; rw [Array.getElem?_setIfInBounds_ne (fun e' => e e'.symm)]
    refine ih (listed.setIfInBounds i true) (rem.erase i) _ a' w' own' β' (by simpa using hs) (hnd.erase i) ?_ ?_ (h5 _ fun k => ?_) hst
    · rw [List.length_erase_of_mem ((hm i).2 ⟨hlt, h1⟩), hl]; rfl
    · intro k
      rw [hnd.mem_erase_iff, hm, hset]
      by_cases e : k = i
      · subst e; simp
      · simp [e]
    · rw [hset]
      by_cases e : k = i
      · subst e; simp
      · simp [e]

end
end Go.Re
