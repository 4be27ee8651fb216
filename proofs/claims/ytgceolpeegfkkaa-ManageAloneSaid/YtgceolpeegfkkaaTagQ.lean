/- Tables of tasks: what chapter 24 takes of chapter 23. -/
import Derived.Test.YtgceolpeegfkkaaTagP24
namespace Go.Proofs.Ytgceolpeegfkkaa
open Go Go.Re
set_option linter.unusedVariables false
set_option linter.unusedSimpArgs false
def sweepL (l : List Tk) (lun : Int) : List Tk := l.filter (fun t => !sP lun t)
theorem good_iff : ∀ l : List Tk, Good l ↔ ∀ i (h : i < l.length), mayB l[i].1 = true ∧ pIx (fP l[i].1) l = some i
  | [] => by simp [Good]
  | t :: r => by
    unfold Good
    rw [good_iff r]
    have self : pIx (fP t.1) (t :: r) = some 0 := by
      unfold pIx
      have : fP t.1 t = true := decide_eq_true rfl
      rw [this]; rfl
    constructor
    · rintro ⟨h1, h2, h3⟩ i hi
      cases i with
      | zero => exact ⟨h1, self⟩
      | succ i =>
        have hi' : i < r.length := by simpa using hi
        obtain ⟨g1, g2⟩ := h3 i hi'
        refine ⟨g1, ?_⟩
        show pIx (fP r[i].1) (t :: r) = some (i + 1)
        unfold pIx
        have hne : fP r[i].1 t = false := by
          have := pIx_none.1 h2 r[i] (List.getElem_mem hi')
          unfold fP at this ⊢
          rw [decide_eq_false_iff_not] at this ⊢
          exact fun e => this e.symm
        rw [hne, cond_false, g2]; rfl
    · intro h
      have h0 := h 0 (by simp)
      have hs : ∀ i (hi : i < r.length), fP r[i].1 t = false ∧ mayB r[i].1 = true ∧ pIx (fP r[i].1) r = some i := by
        intro i hi
        obtain ⟨g1, g2⟩ := h (i + 1) (by simpa using hi)
        have g1 : mayB r[i].1 = true := g1
        have g2 : pIx (fP r[i].1) (t :: r) = some (i + 1) := g2
        unfold pIx at g2
        cases hq : fP r[i].1 t with
        | true => rw [hq] at g2; cases g2
        | false =>
          rw [hq, cond_false] at g2
          obtain ⟨j, e1, e2⟩ := Option.map_eq_some_iff.1 g2
          have : j = i := by omega
          subst this
          exact ⟨rfl, g1, e1⟩
      refine ⟨h0.1, ?_, fun i hi => (hs i hi).2⟩
      rw [pIx_none]
      intro x hx
      obtain ⟨i, hi, rfl⟩ := List.getElem_of_mem hx
      have := (hs i hi).1
      unfold fP at this ⊢
      rw [decide_eq_false_iff_not] at this ⊢
      exact fun e => this e.symm
theorem good_nodup : ∀ l : List Tk, Good l ↔ (∀ t ∈ l, mayB t.1 = true) ∧ (l.map (·.1)).Nodup
  | [] => by simp [Good]
  | t :: r => by
    unfold Good
    rw [good_nodup r, pIx_none]
    simp only [List.mem_cons, forall_eq_or_imp, List.map_cons, List.nodup_cons, List.mem_map, not_exists, not_and]
    constructor
    · rintro ⟨h1, h2, h3, h4⟩
      exact ⟨⟨h1, h3⟩, fun x hx e => by have := h2 x hx; unfold fP at this; rw [decide_eq_false_iff_not] at this; exact this e, h4⟩
    · rintro ⟨⟨h1, h3⟩, h2, h4⟩
      exact ⟨h1, fun x hx => decide_eq_false (h2 x hx), h3, h4⟩
theorem ref_right_loop (l : List Tk) (hl : l.length ≤ 2147483640) : ∀ k i n, i + k = l.length → k < n →
    ∃ r, reticuleref23_Right_L0 n (l, (i : Int)) = some r ∧ ((r = Sum.inl () ∧ ∀ m (h : m < l.length), i ≤ m → mayB l[m].1 = true ∧ pIx (fP l[m].1) l = some m) ∨ (r = Sum.inr false ∧ ¬ ∀ m (h : m < l.length), i ≤ m → mayB l[m].1 = true ∧ pIx (fP l[m].1) l = some m)) := by
  intro k
  induction k with
  | zero =>
    intro i n hi hn
    obtain ⟨n, rfl⟩ := Nat.exists_eq_succ_of_ne_zero (show n ≠ 0 by omega)
    have h : ¬ ((i : Int) < (l.length : Int)) := by omega
    refine ⟨Sum.inl (), ?_, .inl ⟨rfl, fun m hm him => by omega⟩⟩
    simp only [reticuleref23_Right_L0, decide_eq_false h, cond_false]
  | succ k ih =>
    intro i n hi hn
    obtain ⟨n, rfl⟩ := Nat.exists_eq_succ_of_ne_zero (show n ≠ 0 by omega)
    have h : ((i : Int) < (l.length : Int)) := by omega
    have hi' : i < l.length := by omega
    simp only [reticuleref23_Right_L0, decide_eq_true h, cond_true, ix_at l i hi', Option.bind_some, ref_find_eq l l[i].1 (by omega), or_chain]
    by_cases hg : mayB l[i].1 = true ∧ pIx (fP l[i].1) l = some i
    · obtain ⟨g1, g2⟩ := hg
      have hm := g1
      unfold mayB at hm
      rw [decide_eq_true_eq] at hm
      have h1 : ¬ (l[i].1 < 1) := by omega
      have h2 : ¬ (65535 < l[i].1) := by omega
      have h3 : ixV (pIx (fP l[i].1) l) = (i : Int) := by rw [g2]; rfl
      simp only [decide_eq_false h1, decide_eq_false h2, decide_eq_true h3, Bool.not_true, Bool.or_false, cond_false, w64_succ i (by omega)]
      obtain ⟨r, e1, e2⟩ := ih (i + 1) n (by omega) (by omega)
      refine ⟨r, e1, e2.imp (fun ⟨q1, q2⟩ => ⟨q1, fun m hm him => ?_⟩) (fun ⟨q1, q2⟩ => ⟨q1, fun hall => q2 fun m hm him => hall m hm (by omega)⟩)⟩
      rcases Nat.lt_or_ge i m with h5 | h5
      · exact q2 m hm (by omega)
      · have : m = i := by omega
        subst this; exact ⟨g1, g2⟩
    · have hb : (decide (l[i].1 < 1) || decide (65535 < l[i].1) || !decide (ixV (pIx (fP l[i].1) l) = (i : Int))) = true := by
        rw [Bool.or_eq_true, Bool.or_eq_true, decide_eq_true_eq, decide_eq_true_eq, Bool.not_eq_true', decide_eq_false_iff_not]
        refine Classical.byContradiction fun hn => hg ?_
        have hn1 : ¬ (l[i].1 < 1) := fun e => hn (.inl (.inl e))
        have hn2 : ¬ (65535 < l[i].1) := fun e => hn (.inl (.inr e))
        have hn3 : ixV (pIx (fP l[i].1) l) = (i : Int) := Classical.byContradiction fun e => hn (.inr e)
        refine ⟨by unfold mayB; rw [decide_eq_true_eq]; omega, ?_⟩
        cases hx : pIx (fP l[i].1) l with
        | none => rw [hx] at hn3; have : (-1 : Int) = (i : Int) := hn3; omega
        | some j => rw [hx] at hn3; have : (j : Int) = (i : Int) := hn3; congr 1; omega
      refine ⟨Sum.inr false, by rw [hb]; rfl, .inr ⟨rfl, fun hall => hg (hall i hi' (Nat.le_refl _))⟩⟩
theorem ref_right_eq (l : List Tk) (hl : l.length ≤ 2147483640) : ∃ b, reticuleref23_Right l = some b ∧ (b = true ↔ l.length ≤ 8 ∧ Good l) := by
  by_cases h8 : (8 : Int) < (l.length : Int)
  · refine ⟨false, by simp only [reticuleref23_Right, decide_eq_true h8, cond_true], ?_⟩
    constructor
    · intro h; cases h
    · rintro ⟨h, _⟩; omega
  · obtain ⟨r, e1, e2⟩ := ref_right_loop l hl l.length 0 Big (by omega) (big_lt (by omega))
    rw [Int.natCast_zero] at e1
    rw [good_iff]
    rcases e2 with ⟨rfl, q⟩ | ⟨rfl, q⟩
    · refine ⟨true, by simp only [reticuleref23_Right, decide_eq_false h8, cond_false, e1, jn_inl], fun _ => ⟨by omega, fun i hi => q i hi (by omega)⟩, fun _ => rfl⟩
    · refine ⟨false, by simp only [reticuleref23_Right, decide_eq_false h8, cond_false, e1]; rfl, fun h => (by cases h), fun ⟨_, h⟩ => absurd (fun m hm _ => h m hm) q⟩
def Small (t : Tk) : Prop := t.2.2.2.2.1.length ≤ 10000 ∧ t.2.2.2.2.2.1.2.2.2.1.length ≤ 10000
theorem great_loop (l : List Tk) (hl : l.length ≤ 2147483648) : ∀ k i n, i + k = l.length → k < n →
    reticuleref23_Great_L0 n (l, (i : Int)) = some (Sum.inr true) ∨ (reticuleref23_Great_L0 n (l, (i : Int)) = some (Sum.inl ()) ∧ ∀ t ∈ l.drop i, Small t) := by
  intro k
  induction k with
  | zero =>
    intro i n hi hn
    obtain ⟨n, rfl⟩ := Nat.exists_eq_succ_of_ne_zero (show n ≠ 0 by omega)
    have h : ¬ ((i : Int) < (l.length : Int)) := by omega
    right
    refine ⟨?_, by rw [List.drop_of_length_le (by omega)]; intro t ht; cases ht⟩
    simp only [reticuleref23_Great_L0, decide_eq_false h, cond_false]
  | succ k ih =>
    intro i n hi hn
    obtain ⟨n, rfl⟩ := Nat.exists_eq_succ_of_ne_zero (show n ≠ 0 by omega)
    have h : ((i : Int) < (l.length : Int)) := by omega
    have hi' : i < l.length := by omega
    have hd : l.drop i = l[i] :: l.drop (i + 1) := List.drop_eq_getElem_cons hi'
    simp only [reticuleref23_Great_L0, decide_eq_true h, cond_true, ix_at l i hi', Option.bind_some, or_chain]
    cases hb : (decide ((10000 : Int) < (l[i].2.2.2.2.1.length : Int)) || decide ((10000 : Int) < (l[i].2.2.2.2.2.1.2.2.2.1.length : Int))) with
    | true => left; rfl
    | false =>
      simp only [Bool.or_eq_false_iff, decide_eq_false_iff_not] at hb
      simp only [cond_false, w64_succ i (by omega)]
      rcases ih (i + 1) n (by omega) (by omega) with h1 | ⟨h1, h2⟩
      · exact .inl h1
      · refine .inr ⟨h1, ?_⟩
        rw [hd]
        intro t ht
        rcases List.mem_cons.1 ht with rfl | ht
        · exact ⟨by omega, by omega⟩
        · exact h2 t ht
theorem great_eq (l : List Tk) : reticuleref23_Great l = some true ∨ (reticuleref23_Great l = some false ∧ l.length ≤ 20 ∧ ∀ t ∈ l, Small t) := by
  by_cases h : (20 : Int) < (l.length : Int)
  · left; simp only [reticuleref23_Great, decide_eq_true h, cond_true]
  · have L := great_loop l (by omega) l.length 0 Big (by omega) (big_lt (by omega))
    rw [Int.natCast_zero, List.drop_zero] at L
    simp only [reticuleref23_Great, decide_eq_false h, cond_false]
    rcases L with L | ⟨L, q⟩
    · left; rw [L]; rfl
    · right; rw [L]; exact ⟨rfl, by omega, q⟩
theorem copy_loop (l : List Tk) (hl : l.length ≤ 1000) (hs : ∀ t ∈ l, Small t) : ∀ k i n, i + k = l.length → k < n → reticuleref23_Copy_L0 n (l, l.take i, (i : Int)) = some (Sum.inl l) := by
  intro k
  induction k with
  | zero =>
    intro i n hi hn
    obtain ⟨n, rfl⟩ := Nat.exists_eq_succ_of_ne_zero (show n ≠ 0 by omega)
    have h : ¬ ((i : Int) < (l.length : Int)) := by omega
    simp only [reticuleref23_Copy_L0, decide_eq_false h, cond_false]
    rw [List.take_of_length_le (by omega)]
  | succ k ih =>
    intro i n hi hn
    obtain ⟨n, rfl⟩ := Nat.exists_eq_succ_of_ne_zero (show n ≠ 0 by omega)
    have h : ((i : Int) < (l.length : Int)) := by omega
    have hi' : i < l.length := by omega
    obtain ⟨s1, s2⟩ := hs l[i] (List.getElem_mem hi')
    have c1 : ([] : BY).length + l[i].2.2.2.2.1.length ≤ lim := le_lim (by simp; omega)
    have c2 : ([] : BY).length + l[i].2.2.2.2.2.1.2.2.2.1.length ≤ lim := le_lim (by simp; omega)
    have c3 : ∀ x : Tk, (l.take i).length + ([x] : List Tk).length ≤ lim := fun x => le_lim (by simp; omega)
    have e : l.take i ++ [l[i]] = l.take (i + 1) := by rw [List.take_add_one, List.getElem?_eq_getElem hi']; rfl
    have ih' := ih (i + 1) n (by omega) (by omega)
    rw [← e, ← w64_succ i (by omega)] at ih'
    simp only [reticuleref23_Copy_L0, decide_eq_true h, cond_true, ix_at l i hi', Option.bind_some, chk_dec c1, chk_dec c2, chk_dec (c3 _), List.nil_append]
    exact ih'
theorem copy_eq (l : List Tk) (hl : l.length ≤ 1000) (hs : ∀ t ∈ l, Small t) : reticuleref23_Copy l = some l := by
  have L := copy_loop l hl hs l.length 0 Big (by omega) (big_lt (by omega))
  rw [Int.natCast_zero, List.take_zero] at L
  simp only [reticuleref23_Copy, L, jn_inl]
theorem one_self (t : Tk) (h : Small t) : reticuleref23_One (t, t) = some true := by
  have c1 : t.2.2.2.2.1.length ≤ lim := le_lim (Nat.le_trans h.1 (by decide))
  have c2 : t.2.2.2.2.2.1.2.2.2.1.length ≤ lim := le_lim (Nat.le_trans h.2 (by decide))
  simp only [reticuleref23_One, reticuleref10_Same, decide_true, cond_true, Option.bind_some, chk_dec c1, chk_dec c2, Bool.and_self]
theorem same_loop (l : List Tk) (hl : l.length ≤ 2147483648) (hs : ∀ t ∈ l, Small t) : ∀ k i n, i + k = l.length → k < n → reticuleref23_Same_L0 n (l, l, (i : Int)) = some (Sum.inl ()) := by
  intro k
  induction k with
  | zero =>
    intro i n hi hn
    obtain ⟨n, rfl⟩ := Nat.exists_eq_succ_of_ne_zero (show n ≠ 0 by omega)
    have h : ¬ ((i : Int) < (l.length : Int)) := by omega
    simp only [reticuleref23_Same_L0, decide_eq_false h, cond_false]
  | succ k ih =>
    intro i n hi hn
    obtain ⟨n, rfl⟩ := Nat.exists_eq_succ_of_ne_zero (show n ≠ 0 by omega)
    have h : ((i : Int) < (l.length : Int)) := by omega
    have hi' : i < l.length := by omega
    rw [← ih (i + 1) n (by omega) (by omega), ← w64_succ i (by omega)]
    simp only [reticuleref23_Same_L0, decide_eq_true h, cond_true, ix_at l i hi', Option.bind_some, one_self l[i] (hs _ (List.getElem_mem hi')), Bool.not_true, cond_false]
theorem same_self (l : List Tk) (hl : l.length ≤ 2147483648) (hs : ∀ t ∈ l, Small t) : reticuleref23_Same (l, l) = some true := by
  have L := same_loop l hl hs l.length 0 Big (by omega) (big_lt (by omega))
  rw [Int.natCast_zero] at L
  simp only [reticuleref23_Same, decide_true, Bool.not_true, cond_false, L, jn_inl]
theorem ref_sweep_loop (l : List Tk) (c : Int) (hl : l.length ≤ 2147483640) : ∀ k i n, i + k = l.length → k < n → reticuleref23_Sweep_L0 n (l, c, sweepL (l.take i) c, (i : Int)) = some (Sum.inl (sweepL l c)) := by
  intro k
  induction k with
  | zero =>
    intro i n hi hn
    obtain ⟨n, rfl⟩ := Nat.exists_eq_succ_of_ne_zero (show n ≠ 0 by omega)
    have h : ¬ ((i : Int) < (l.length : Int)) := by omega
    simp only [reticuleref23_Sweep_L0, decide_eq_false h, cond_false]
    rw [List.take_of_length_le (by omega)]
  | succ k ih =>
    intro i n hi hn
    obtain ⟨n, rfl⟩ := Nat.exists_eq_succ_of_ne_zero (show n ≠ 0 by omega)
    have h : ((i : Int) < (l.length : Int)) := by omega
    have hi' : i < l.length := by omega
    have ih' := ih (i + 1) n (by omega) (by omega)
    have e : sweepL (l.take (i + 1)) c = sweepL (l.take i) c ++ sweepL [l[i]] c := by
      unfold sweepL
      rw [List.take_add_one, List.getElem?_eq_getElem hi', List.filter_append]; rfl
    have hle : (sweepL (l.take i) c).length ≤ i := by
      have := List.length_filter_le (fun t => !sP c t) (l.take i)
      rw [List.length_take] at this
      unfold sweepL; omega
    have hc : ∀ x : Tk, (sweepL (l.take i) c).length + ([x] : List Tk).length ≤ lim := fun x => le_lim (by simp; omega)
    rw [e, ← w64_succ i (by omega)] at ih'
    have hb : (bif !decide (c = (-1)) then some (!decide (l[i].2.1 = c)) else some false : Option Bool) = some (!sP c l[i]) := by
      unfold sP
      cases decide (c = (-1)) <;> simp
    simp only [reticuleref23_Sweep_L0, decide_eq_true h, cond_true, ix_at l i hi', Option.bind_some, hb]
    cases hq : sP c l[i] with
    | true =>
      have : sweepL [l[i]] c = [] := by unfold sweepL; simp [hq]
      rw [this, List.append_nil] at ih'
      simp only [Bool.not_true, cond_false, jn_inl]; exact ih'
    | false =>
      have : sweepL [l[i]] c = [l[i]] := by unfold sweepL; simp [hq]
      rw [this] at ih'
      simp only [Bool.not_false, cond_true, chk_dec (hc _), Option.bind_some, jn_inl]; exact ih'
theorem ref_sweep_eq (l : List Tk) (c : Int) (hl : l.length ≤ 2147483640) : reticuleref23_Sweep (l, c) = some (sweepL l c) := by
  have L := ref_sweep_loop l c hl l.length 0 Big (by omega) (big_lt (by omega))
  rw [Int.natCast_zero, List.take_zero] at L
  have L' : reticuleref23_Sweep_L0 Big (l, c, [], 0) = some (Sum.inl (sweepL l c)) := L
  simp only [reticuleref23_Sweep, L', jn_inl]
def tagL (l : List Tk) : List Int := l.map (·.1)
theorem tags_loop (l : List Tk) (hl : l.length ≤ 2147483640) : ∀ k i n, i + k = l.length → k < n →
    tags_Tags_L0 n (tagL (l.take i), l, (l.length : Int), (i : Int)) = some (Sum.inl (tagL l)) ∧ reticuleref23_Tags_L0 n (l, tagL (l.take i), (i : Int)) = some (Sum.inl (tagL l)) := by
  intro k
  induction k with
  | zero =>
    intro i n hi hn
    obtain ⟨n, rfl⟩ := Nat.exists_eq_succ_of_ne_zero (show n ≠ 0 by omega)
    have h : ¬ ((i : Int) < (l.length : Int)) := by omega
    simp only [tags_Tags_L0, reticuleref23_Tags_L0, decide_eq_false h, cond_false]
    rw [List.take_of_length_le (by omega)]
    exact ⟨rfl, rfl⟩
  | succ k ih =>
    intro i n hi hn
    obtain ⟨n, rfl⟩ := Nat.exists_eq_succ_of_ne_zero (show n ≠ 0 by omega)
    have h : ((i : Int) < (l.length : Int)) := by omega
    have hi' : i < l.length := by omega
    have ih' := ih (i + 1) n (by omega) (by omega)
    have e : tagL (l.take (i + 1)) = tagL (l.take i) ++ [l[i].1] := by
      unfold tagL
      rw [List.take_add_one, List.getElem?_eq_getElem hi', List.map_append]; rfl
    have hc : (tagL (l.take i)).length + ([l[i].1] : List Int).length ≤ lim := le_lim (by unfold tagL; simp; omega)
    rw [e, ← w64_succ i (by omega)] at ih'
    simp only [tags_Tags_L0, reticuleref23_Tags_L0, decide_eq_true h, cond_true, ix_at l i hi', Option.bind_some, chk_dec hc]
    exact ih'
theorem tags_eq (l : List Tk) (hl : l.length ≤ 2147483640) : tags_Tags l = some (tagL l) ∧ reticuleref23_Tags l = some (tagL l) := by
  have L := tags_loop l hl l.length 0 Big (by omega) (big_lt (by omega))
  rw [Int.natCast_zero, List.take_zero] at L
  have L1 : tags_Tags_L0 Big ([], l, (l.length : Int), 0) = some (Sum.inl (tagL l)) := L.1
  have L2 : reticuleref23_Tags_L0 Big (l, [], 0) = some (Sum.inl (tagL l)) := L.2
  simp only [tags_Tags, reticuleref23_Tags, L1, L2, jn_inl, and_self]
theorem tagL_len (l : List Tk) : (tagL l).length = l.length := by simp [tagL]
theorem has_loop (l : List Int) (c : Int) (hl : l.length ≤ 2147483648) : ∀ k i n, i + k = l.length → k < n →
    reticuleref01_Has_L0 n (l, c, (i : Int)) = some (if c ∈ l.drop i then Sum.inr true else Sum.inl ()) := by
  intro k
  induction k with
  | zero =>
    intro i n hi hn
    obtain ⟨n, rfl⟩ := Nat.exists_eq_succ_of_ne_zero (show n ≠ 0 by omega)
    have h : ¬ ((i : Int) < (l.length : Int)) := by omega
    simp only [reticuleref01_Has_L0, decide_eq_false h, cond_false]
    rw [List.drop_of_length_le (by omega)]; simp
  | succ k ih =>
    intro i n hi hn
    obtain ⟨n, rfl⟩ := Nat.exists_eq_succ_of_ne_zero (show n ≠ 0 by omega)
    have h : ((i : Int) < (l.length : Int)) := by omega
    have hi' : i < l.length := by omega
    have hd : l.drop i = l[i] :: l.drop (i + 1) := List.drop_eq_getElem_cons hi'
    simp only [reticuleref01_Has_L0, decide_eq_true h, cond_true, ix_at l i hi', Option.bind_some]
    rw [hd]
    by_cases hq : l[i] = c
    · rw [decide_eq_true hq, cond_true, if_pos (by rw [hq]; exact List.mem_cons_self ..)]
    · rw [decide_eq_false hq, cond_false, w64_succ i (by omega), ih (i + 1) n (by omega) (by omega)]
      congr 1
      simp only [List.mem_cons, show ¬ (c = l[i]) from fun e => hq e.symm, false_or]
theorem has_eq (l : List Int) (c : Int) (hl : l.length ≤ 2147483648) : reticuleref01_Has (l, c) = some (decide (c ∈ l)) := by
  have L := has_loop l c hl l.length 0 Big (by omega) (big_lt (by omega))
  rw [Int.natCast_zero, List.drop_zero] at L
  simp only [reticuleref01_Has, L]
  by_cases h : c ∈ l
  · rw [if_pos h, decide_eq_true h]; rfl
  · rw [if_neg h, decide_eq_false h]; rfl
end Go.Proofs.Ytgceolpeegfkkaa
