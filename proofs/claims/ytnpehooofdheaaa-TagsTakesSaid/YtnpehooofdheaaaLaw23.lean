/- The plain laws of chapter 23: each answer is true. -/
import Derived.Test.YtnpehooofdheaaaTagP
namespace Go.Proofs.Ytnpehooofdheaaa
open Go Go.Re
set_option linter.unusedVariables false
set_option linter.unusedSimpArgs false
theorem alive_ok : reticulelaw23_alive () = some true := rfl
/-! ### tables that may be -/
theorem good_iff : ∀ l : List Tk, Good l ↔ ∀ i (h : i < l.length), mayB l[i].1 = true ∧ pIx (fP l[i].1) l = some i
  | [] => by simp [Good]
  | t :: r => by
    unfold Good
    rw [good_iff r]
    have self : pIx (fP t.1) (t :: r) = some 0 := by
      unfold pIx
      have : fP t.1 t = true := decide_eq_true rfl
      rw [this]; rfl
    constructor
    · rintro ⟨h1, h2, h3⟩ i hi
      cases i with
      | zero => exact ⟨h1, self⟩
      | succ i =>
        have hi' : i < r.length := by simpa using hi
        obtain ⟨g1, g2⟩ := h3 i hi'
        refine ⟨g1, ?_⟩
        show pIx (fP r[i].1) (t :: r) = some (i + 1)
        unfold pIx
        have hne : fP r[i].1 t = false := by
          have := pIx_none.1 h2 r[i] (List.getElem_mem hi')
          unfold fP at this ⊢
          rw [decide_eq_false_iff_not] at this ⊢
          exact fun e => this e.symm
        rw [hne, cond_false, g2]; rfl
    · intro h
      have h0 := h 0 (by simp)
      have hs : ∀ i (hi : i < r.length), fP r[i].1 t = false ∧ mayB r[i].1 = true ∧ pIx (fP r[i].1) r = some i := by
        intro i hi
        obtain ⟨g1, g2⟩ := h (i + 1) (by simpa using hi)
        have g1 : mayB r[i].1 = true := g1
        have g2 : pIx (fP r[i].1) (t :: r) = some (i + 1) := g2
        unfold pIx at g2
        cases hq : fP r[i].1 t with
        | true => rw [hq] at g2; cases g2
        | false =>
          rw [hq, cond_false] at g2
          obtain ⟨j, e1, e2⟩ := Option.map_eq_some_iff.1 g2
          have : j = i := by omega
          subst this
          exact ⟨rfl, g1, e1⟩
      refine ⟨h0.1, ?_, fun i hi => (hs i hi).2⟩
      rw [pIx_none]
      intro x hx
      obtain ⟨i, hi, rfl⟩ := List.getElem_of_mem hx
      have := (hs i hi).1
      unfold fP at this ⊢
      rw [decide_eq_false_iff_not] at this ⊢
      exact fun e => this e.symm
theorem good_nodup : ∀ l : List Tk, Good l ↔ (∀ t ∈ l, mayB t.1 = true) ∧ (l.map (·.1)).Nodup
  | [] => by simp [Good]
  | t :: r => by
    unfold Good
    rw [good_nodup r, pIx_none]
    simp only [List.mem_cons, forall_eq_or_imp, List.map_cons, List.nodup_cons, List.mem_map, not_exists, not_and]
    constructor
    · rintro ⟨h1, h2, h3, h4⟩
      exact ⟨⟨h1, h3⟩, fun x hx e => by have := h2 x hx; unfold fP at this; rw [decide_eq_false_iff_not] at this; exact this e, h4⟩
    · rintro ⟨⟨h1, h3⟩, h2, h4⟩
      exact ⟨h1, fun x hx => decide_eq_false (h2 x hx), h3, h4⟩
theorem right_eq (l : List Tk) (hl : l.length ≤ 2147483640) : ∃ b, tags_Right l = some b ∧ (b = true ↔ l.length ≤ 8 ∧ Good l) := by
  simp only [tags_Right, places_eq l hl, Option.bind_some, and_chain]
  refine ⟨_, rfl, ?_⟩
  rw [Bool.and_eq_true, decide_eq_true_eq, decide_eq_true_eq, ← plc_good l 0]
  omega
theorem ref_right_loop (l : List Tk) (hl : l.length ≤ 2147483640) : ∀ k i n, i + k = l.length → k < n →
    ∃ r, reticuleref23_Right_L0 n (l, (i : Int)) = some r ∧ ((r = Sum.inl () ∧ ∀ m (h : m < l.length), i ≤ m → mayB l[m].1 = true ∧ pIx (fP l[m].1) l = some m) ∨ (r = Sum.inr false ∧ ¬ ∀ m (h : m < l.length), i ≤ m → mayB l[m].1 = true ∧ pIx (fP l[m].1) l = some m)) := by
  intro k
  induction k with
  | zero =>
    intro i n hi hn
    obtain ⟨n, rfl⟩ := Nat.exists_eq_succ_of_ne_zero (show n ≠ 0 by omega)
    have h : ¬ ((i : Int) < (l.length : Int)) := by omega
    refine ⟨Sum.inl (), ?_, .inl ⟨rfl, fun m hm him => by omega⟩⟩
    simp only [reticuleref23_Right_L0, decide_eq_false h, cond_false]
  | succ k ih =>
    intro i n hi hn
    obtain ⟨n, rfl⟩ := Nat.exists_eq_succ_of_ne_zero (show n ≠ 0 by omega)
    have h : ((i : Int) < (l.length : Int)) := by omega
    have hi' : i < l.length := by omega
    simp only [reticuleref23_Right_L0, decide_eq_true h, cond_true, ix_at l i hi', Option.bind_some, ref_find_eq l l[i].1 (by omega), or_chain]
    by_cases hg : mayB l[i].1 = true ∧ pIx (fP l[i].1) l = some i
    · obtain ⟨g1, g2⟩ := hg
      have hm := g1
      unfold mayB at hm
      rw [decide_eq_true_eq] at hm
      have h1 : ¬ (l[i].1 < 1) := by omega
      have h2 : ¬ (65535 < l[i].1) := by omega
      have h3 : ixV (pIx (fP l[i].1) l) = (i : Int) := by rw [g2]; rfl
      simp only [decide_eq_false h1, decide_eq_false h2, decide_eq_true h3, Bool.not_true, Bool.or_false, cond_false, w64_succ i (by omega)]
      obtain ⟨r, e1, e2⟩ := ih (i + 1) n (by omega) (by omega)
      refine ⟨r, e1, e2.imp (fun ⟨q1, q2⟩ => ⟨q1, fun m hm him => ?_⟩) (fun ⟨q1, q2⟩ => ⟨q1, fun hall => q2 fun m hm him => hall m hm (by omega)⟩)⟩
      rcases Nat.lt_or_ge i m with h5 | h5
      · exact q2 m hm (by omega)
      · have : m = i := by omega
        subst this; exact ⟨g1, g2⟩
    · have hb : (decide (l[i].1 < 1) || decide (65535 < l[i].1) || !decide (ixV (pIx (fP l[i].1) l) = (i : Int))) = true := by
        rw [Bool.or_eq_true, Bool.or_eq_true, decide_eq_true_eq, decide_eq_true_eq, Bool.not_eq_true', decide_eq_false_iff_not]
        refine Classical.byContradiction fun hn => hg ?_
        have hn1 : ¬ (l[i].1 < 1) := fun e => hn (.inl (.inl e))
        have hn2 : ¬ (65535 < l[i].1) := fun e => hn (.inl (.inr e))
        have hn3 : ixV (pIx (fP l[i].1) l) = (i : Int) := Classical.byContradiction fun e => hn (.inr e)
        refine ⟨by unfold mayB; rw [decide_eq_true_eq]; omega, ?_⟩
        cases hx : pIx (fP l[i].1) l with
        | none => rw [hx] at hn3; have : (-1 : Int) = (i : Int) := hn3; omega
        | some j => rw [hx] at hn3; have : (j : Int) = (i : Int) := hn3; congr 1; omega
      refine ⟨Sum.inr false, by rw [hb]; rfl, .inr ⟨rfl, fun hall => hg (hall i hi' (Nat.le_refl _))⟩⟩
theorem ref_right_eq (l : List Tk) (hl : l.length ≤ 2147483640) : ∃ b, reticuleref23_Right l = some b ∧ (b = true ↔ l.length ≤ 8 ∧ Good l) := by
  by_cases h8 : (8 : Int) < (l.length : Int)
  · refine ⟨false, by simp only [reticuleref23_Right, decide_eq_true h8, cond_true], ?_⟩
    constructor
    · intro h; cases h
    · rintro ⟨h, _⟩; omega
  · obtain ⟨r, e1, e2⟩ := ref_right_loop l hl l.length 0 Big (by omega) (big_lt (by omega))
    rw [Int.natCast_zero] at e1
    rw [good_iff]
    rcases e2 with ⟨rfl, q⟩ | ⟨rfl, q⟩
    · refine ⟨true, by simp only [reticuleref23_Right, decide_eq_false h8, cond_false, e1, jn_inl], fun _ => ⟨by omega, fun i hi => q i hi (by omega)⟩, fun _ => rfl⟩
    · refine ⟨false, by simp only [reticuleref23_Right, decide_eq_false h8, cond_false, e1]; rfl, fun h => (by cases h), fun ⟨_, h⟩ => absurd (fun m hm _ => h m hm) q⟩
theorem right_same (l : List Tk) (hl : l.length ≤ 2147483640) : ∃ b, tags_Right l = some b ∧ reticuleref23_Right l = some b ∧ (b = true ↔ l.length ≤ 8 ∧ Good l) := by
  obtain ⟨b, e1, e2⟩ := right_eq l hl
  obtain ⟨c, e3, e4⟩ := ref_right_eq l hl
  have : b = c := by
    rw [Bool.eq_iff_iff, e2, e4]
  subst this
  exact ⟨b, e1, e3, e2⟩
/-! ### tasks that are looked at -/
def Small (t : Tk) : Prop := t.2.2.2.2.1.length ≤ 10000 ∧ t.2.2.2.2.2.1.2.2.2.1.length ≤ 10000
theorem great_loop (l : List Tk) (hl : l.length ≤ 2147483648) : ∀ k i n, i + k = l.length → k < n →
    reticuleref23_Great_L0 n (l, (i : Int)) = some (Sum.inr true) ∨ (reticuleref23_Great_L0 n (l, (i : Int)) = some (Sum.inl ()) ∧ ∀ t ∈ l.drop i, Small t) := by
  intro k
  induction k with
  | zero =>
    intro i n hi hn
    obtain ⟨n, rfl⟩ := Nat.exists_eq_succ_of_ne_zero (show n ≠ 0 by omega)
    have h : ¬ ((i : Int) < (l.length : Int)) := by omega
    right
    refine ⟨?_, by rw [List.drop_of_length_le (by omega)]; intro t ht; cases ht⟩
    simp only [reticuleref23_Great_L0, decide_eq_false h, cond_false]
  | succ k ih =>
    intro i n hi hn
    obtain ⟨n, rfl⟩ := Nat.exists_eq_succ_of_ne_zero (show n ≠ 0 by omega)
    have h : ((i : Int) < (l.length : Int)) := by omega
    have hi' : i < l.length := by omega
    have hd : l.drop i = l[i] :: l.drop (i + 1) := List.drop_eq_getElem_cons hi'
    simp only [reticuleref23_Great_L0, decide_eq_true h, cond_true, ix_at l i hi', Option.bind_some, or_chain]
    cases hb : (decide ((10000 : Int) < (l[i].2.2.2.2.1.length : Int)) || decide ((10000 : Int) < (l[i].2.2.2.2.2.1.2.2.2.1.length : Int))) with
    | true => left; rfl
    | false =>
      simp only [Bool.or_eq_false_iff, decide_eq_false_iff_not] at hb
      simp only [cond_false, w64_succ i (by omega)]
      rcases ih (i + 1) n (by omega) (by omega) with h1 | ⟨h1, h2⟩
      · exact .inl h1
      · refine .inr ⟨h1, ?_⟩
        rw [hd]
        intro t ht
        rcases List.mem_cons.1 ht with rfl | ht
        · exact ⟨by omega, by omega⟩
        · exact h2 t ht
theorem great_eq (l : List Tk) : reticuleref23_Great l = some true ∨ (reticuleref23_Great l = some false ∧ l.length ≤ 20 ∧ ∀ t ∈ l, Small t) := by
  by_cases h : (20 : Int) < (l.length : Int)
  · left; simp only [reticuleref23_Great, decide_eq_true h, cond_true]
  · have L := great_loop l (by omega) l.length 0 Big (by omega) (big_lt (by omega))
    rw [Int.natCast_zero, List.drop_zero] at L
    simp only [reticuleref23_Great, decide_eq_false h, cond_false]
    rcases L with L | ⟨L, q⟩
    · left; rw [L]; rfl
    · right; rw [L]; exact ⟨rfl, by omega, q⟩
theorem copy_loop (l : List Tk) (hl : l.length ≤ 1000) (hs : ∀ t ∈ l, Small t) : ∀ k i n, i + k = l.length → k < n → reticuleref23_Copy_L0 n (l, l.take i, (i : Int)) = some (Sum.inl l) := by
  intro k
  induction k with
  | zero =>
    intro i n hi hn
    obtain ⟨n, rfl⟩ := Nat.exists_eq_succ_of_ne_zero (show n ≠ 0 by omega)
    have h : ¬ ((i : Int) < (l.length : Int)) := by omega
    simp only [reticuleref23_Copy_L0, decide_eq_false h, cond_false]
    rw [List.take_of_length_le (by omega)]
  | succ k ih =>
    intro i n hi hn
    obtain ⟨n, rfl⟩ := Nat.exists_eq_succ_of_ne_zero (show n ≠ 0 by omega)
    have h : ((i : Int) < (l.length : Int)) := by omega
    have hi' : i < l.length := by omega
    obtain ⟨s1, s2⟩ := hs l[i] (List.getElem_mem hi')
    have c1 : ([] : BY).length + l[i].2.2.2.2.1.length ≤ lim := le_lim (by simp; omega)
    have c2 : ([] : BY).length + l[i].2.2.2.2.2.1.2.2.2.1.length ≤ lim := le_lim (by simp; omega)
    have c3 : ∀ x : Tk, (l.take i).length + ([x] : List Tk).length ≤ lim := fun x => le_lim (by simp; omega)
    have e : l.take i ++ [l[i]] = l.take (i + 1) := by rw [List.take_add_one, List.getElem?_eq_getElem hi']; rfl
    have ih' := ih (i + 1) n (by omega) (by omega)
    rw [← e, ← w64_succ i (by omega)] at ih'
    simp only [reticuleref23_Copy_L0, decide_eq_true h, cond_true, ix_at l i hi', Option.bind_some, chk_dec c1, chk_dec c2, chk_dec (c3 _), List.nil_append]
    exact ih'
theorem copy_eq (l : List Tk) (hl : l.length ≤ 1000) (hs : ∀ t ∈ l, Small t) : reticuleref23_Copy l = some l := by
  have L := copy_loop l hl hs l.length 0 Big (by omega) (big_lt (by omega))
  rw [Int.natCast_zero, List.take_zero] at L
  simp only [reticuleref23_Copy, L, jn_inl]
theorem one_self (t : Tk) (h : Small t) : reticuleref23_One (t, t) = some true := by
  have c1 : t.2.2.2.2.1.length ≤ lim := le_lim (Nat.le_trans h.1 (by decide))
  have c2 : t.2.2.2.2.2.1.2.2.2.1.length ≤ lim := le_lim (Nat.le_trans h.2 (by decide))
  simp only [reticuleref23_One, reticuleref10_Same, decide_true, cond_true, Option.bind_some, chk_dec c1, chk_dec c2, Bool.and_self]
theorem same_loop (l : List Tk) (hl : l.length ≤ 2147483648) (hs : ∀ t ∈ l, Small t) : ∀ k i n, i + k = l.length → k < n → reticuleref23_Same_L0 n (l, l, (i : Int)) = some (Sum.inl ()) := by
  intro k
  induction k with
  | zero =>
    intro i n hi hn
    obtain ⟨n, rfl⟩ := Nat.exists_eq_succ_of_ne_zero (show n ≠ 0 by omega)
    have h : ¬ ((i : Int) < (l.length : Int)) := by omega
    simp only [reticuleref23_Same_L0, decide_eq_false h, cond_false]
  | succ k ih =>
    intro i n hi hn
    obtain ⟨n, rfl⟩ := Nat.exists_eq_succ_of_ne_zero (show n ≠ 0 by omega)
    have h : ((i : Int) < (l.length : Int)) := by omega
    have hi' : i < l.length := by omega
    rw [← ih (i + 1) n (by omega) (by omega), ← w64_succ i (by omega)]
    simp only [reticuleref23_Same_L0, decide_eq_true h, cond_true, ix_at l i hi', Option.bind_some, one_self l[i] (hs _ (List.getElem_mem hi')), Bool.not_true, cond_false]
theorem same_self (l : List Tk) (hl : l.length ≤ 2147483648) (hs : ∀ t ∈ l, Small t) : reticuleref23_Same (l, l) = some true := by
  have L := same_loop l hl hs l.length 0 Big (by omega) (big_lt (by omega))
  rw [Int.natCast_zero] at L
  simp only [reticuleref23_Same, decide_true, Bool.not_true, cond_false, L, jn_inl]
/-! ### one more -/
theorem grow_eq (n : Nat) (h : n ≤ 2147483648) : slices_Grow_api_Task ((), (n : Int)) = some [] := by
  have h0 : ¬ ((n : Int) < 0) := by omega
  have e1 : w64 ((0 : Int) - (([] : List Tk).length : Int)) = 0 := rfl
  have e2 : w64 ((n : Int) - 0) = (n : Int) := by rw [w64_in] <;> omega
  simp only [slices_Grow_api_Task, decide_eq_false h0, cond_false, e1, e2]
  by_cases h1 : (0 : Int) < (n : Int)
  · have c1 : ∀ z : Tk, (decide (0 ≤ (n : Int)) && decide ((n : Int) ≤ (lim : Int)) && decide ((List.replicate (n : Int).toNat z).length ≤ lim)) = true := by
      intro z
      simp only [Bool.and_eq_true, decide_eq_true_eq]
      refine ⟨⟨by omega, by rw [lim_int]; omega⟩, ?_⟩
      rw [List.length_replicate]; show (n : Int).toNat ≤ 2147483648; omega
    have c2 : ∀ z : Tk, (decide (0 ≤ (([] : List Tk).length : Int)) && decide ((([] : List Tk).length : Int) ≤ ((List.replicate (n : Int).toNat z).length : Int))) = true := by
      intro z; simp
    simp only [decide_eq_true h1, cond_true, chk_true (c1 _), chk_true (c2 _), chk_true (show (decide (0 ≤ (0 : Int)) && decide ((0 : Int) ≤ (0 : Int))) = true from rfl), Option.bind_some, jn_inl]
    simp
  · simp only [decide_eq_false h1, cond_false, jn_inl, Option.bind_some]
theorem concat_two (a b : List Tk) (h : a.length + b.length ≤ 2147483648) : slices_Concat_api_Task [a, b] = some (a ++ b) := by
  have l0 : ∀ n, slices_Concat_api_Task_L0 (n + 3) ([a, b], 0, [a, b], 2, 0) = some (Sum.inl ([a, b], ((a.length + b.length : Nat) : Int))) := by
    intro n
    have w1 : w64 (0 + (a.length : Int)) = (a.length : Int) := by rw [w64_in] <;> omega
    have w2 : w64 ((a.length : Int) + (b.length : Int)) = ((a.length + b.length : Nat) : Int) := by rw [w64_in] <;> omega
    have n1 : ¬ ((a.length : Int) < 0) := by omega
    have n2 : ¬ (((a.length + b.length : Nat) : Int) < 0) := by omega
    have i0 : ix [a, b] 0 = some a := rfl
    have i1 : ix [a, b] 1 = some b := rfl
    have s1 : w64 ((0 : Int) + 1) = 1 := rfl
    have s2 : w64 ((1 : Int) + 1) = 2 := rfl
    simp only [slices_Concat_api_Task_L0, show decide ((0 : Int) < 2) = true from rfl, show decide ((1 : Int) < 2) = true from rfl, show decide ((2 : Int) < 2) = false from rfl, cond_true, cond_false, i0, i1, Option.bind_some, w1, w2, decide_eq_false n1, decide_eq_false n2, s1, s2]
  have l1 : ∀ n, slices_Concat_api_Task_L1 (n + 3) ([], [a, b], 2, 0) = some (Sum.inl (a ++ b)) := by
    intro n
    have c1 : ([] : List Tk).length + a.length ≤ lim := le_lim (by simp; omega)
    have c2 : ([] ++ a : List Tk).length + b.length ≤ lim := le_lim (by simp; omega)
    have i0 : ix [a, b] 0 = some a := rfl
    have i1 : ix [a, b] 1 = some b := rfl
    have s1 : w64 ((0 : Int) + 1) = 1 := rfl
    have s2 : w64 ((1 : Int) + 1) = 2 := rfl
    simp only [slices_Concat_api_Task_L1, show decide ((0 : Int) < 2) = true from rfl, show decide ((1 : Int) < 2) = true from rfl, show decide ((2 : Int) < 2) = false from rfl, cond_true, cond_false, i0, i1, Option.bind_some, chk_dec c1, chk_dec c2, s1, s2]
    rfl
  unfold slices_Concat_api_Task
  have L0 : slices_Concat_api_Task_L0 Big ([a, b], 0, [a, b], (([a, b] : List (List Tk)).length : Int), 0) = some (Sum.inl ([a, b], ((a.length + b.length : Nat) : Int))) := l0 18446744073709551613
  rw [L0, jn_inl, grow_eq _ h, Option.bind_some]
  have L1 : slices_Concat_api_Task_L1 Big ([], [a, b], (([a, b] : List (List Tk)).length : Int), 0) = some (Sum.inl (a ++ b)) := l1 18446744073709551613
  rw [L1, jn_inl]
/-- what comes of a task that comes -/
def addR (l : List Tk) (t : Tk) (depth : Int) : List Tk × Int :=
  if mayB t.1 = true then
    match pIx (fP t.1) l with
    | some _ => (l, 8)
    | none => if depth ≤ (l.length : Int) ∨ 8 ≤ l.length then (l, 6) else (l ++ [t], 0)
  else (l, 1)
theorem add_eq (l : List Tk) (t : Tk) (depth : Int) (hl : l.length ≤ 1000) : tags_Add (l, t, depth) = some (addR l t depth) := by
  simp only [tags_Add, may_eq, Option.bind_some, find_eq l t.1 (by omega)]
  unfold addR
  cases hm : mayB t.1 with
  | false => simp
  | true =>
    rw [if_pos rfl]
    simp only [Bool.not_true, cond_false]
    cases hx : pIx (fP t.1) l with
    | some i =>
      have : (0 : Int) ≤ ixV (some i) := by show (0 : Int) ≤ (i : Int); omega
      simp only [decide_eq_true this, cond_true]
    | none =>
      have : ¬ ((0 : Int) ≤ ixV none) := by decide
      simp only [decide_eq_false this, cond_false]
      by_cases h8 : (8 : Int) < depth
      · simp only [decide_eq_true h8, cond_true]
        by_cases h : (8 : Int) ≤ (l.length : Int)
        · rw [decide_eq_true h, cond_true, if_pos (.inr (by omega))]
        · rw [decide_eq_false h, cond_false, if_neg (by omega), concat_two l [t] (by simp; omega)]; rfl
      · simp only [decide_eq_false h8, cond_false]
        by_cases h : depth ≤ (l.length : Int)
        · rw [decide_eq_true h, cond_true, if_pos (.inl h)]
        · rw [decide_eq_false h, cond_false, if_neg (by omega), concat_two l [t] (by simp; omega)]; rfl
theorem ref_add_eq (l : List Tk) (t : Tk) (depth : Int) (hl : l.length ≤ 1000) : reticuleref23_Add (l, t, depth) = some (addR l t depth) := by
  simp only [reticuleref23_Add, ref_find_eq l t.1 (by omega), or_chain, Option.bind_some]
  unfold addR
  have hb : (decide (t.1 < 1) || decide (65535 < t.1)) = !mayB t.1 := by
    unfold mayB
    rw [Bool.eq_iff_iff, Bool.or_eq_true, decide_eq_true_eq, decide_eq_true_eq, Bool.not_eq_true', decide_eq_false_iff_not]; omega
  rw [hb]
  cases hm : mayB t.1 with
  | false => simp
  | true =>
    rw [if_pos rfl]
    simp only [Bool.not_true, cond_false]
    cases hx : pIx (fP t.1) l with
    | some i =>
      have : (0 : Int) ≤ ixV (some i) := by show (0 : Int) ≤ (i : Int); omega
      simp only [decide_eq_true this, cond_true]
    | none =>
      have : ¬ ((0 : Int) ≤ ixV none) := by decide
      simp only [decide_eq_false this, cond_false]
      by_cases h : depth ≤ (l.length : Int) ∨ 8 ≤ l.length
      · have hq : (decide (depth ≤ (l.length : Int)) || decide ((8 : Int) ≤ (l.length : Int))) = true := by
          rw [Bool.or_eq_true, decide_eq_true_eq, decide_eq_true_eq]; omega
        rw [hq, cond_true, if_pos h]
      · have hq : (decide (depth ≤ (l.length : Int)) || decide ((8 : Int) ≤ (l.length : Int))) = false := by
          rw [Bool.or_eq_false_iff, decide_eq_false_iff_not, decide_eq_false_iff_not]; omega
        have c1 : ([] : List Tk).length + l.length ≤ lim := le_lim (by simp; omega)
        have c2 : ([] ++ l : List Tk).length + ([t] : List Tk).length ≤ lim := le_lim (by simp; omega)
        rw [hq, cond_false, if_neg h, chk_dec c1, Option.bind_some, chk_dec c2, Option.bind_some]
        rfl
theorem addR_small (l : List Tk) (t : Tk) (depth : Int) (hl : ∀ x ∈ l, Small x) (ht : Small t) : ∀ x ∈ (addR l t depth).1, Small x := by
  unfold addR
  split
  · split
    · exact hl
    · split
      · exact hl
      · intro x hx
        rcases List.mem_append.1 hx with hx | hx
        · exact hl x hx
        · rw [List.mem_singleton.1 hx]; exact ht
  · exact hl
theorem addR_len (l : List Tk) (t : Tk) (depth : Int) : (addR l t depth).1.length ≤ l.length + 1 := by
  unfold addR
  split
  · split
    · simp
    · split
      · simp
      · simp
  · simp
theorem TagsAdds_pure (x) : reticulelaw23_TagsAdds x = some true := by
  obtain ⟨l, t, d⟩ := x
  unfold reticulelaw23_TagsAdds
  rw [alive_ok, Option.bind_some, Bool.not_true, cond_false]
  rcases great_eq l with g | ⟨g, hl, hs⟩
  · rw [g, Option.bind_some, cond_true, Option.bind_some, cond_true]
  rw [g, Option.bind_some, cond_false]
  rcases great_eq [t] with g | ⟨g, _, hst⟩
  · rw [g, Option.bind_some, Option.bind_some, cond_true]
  have ht : Small t := hst t (List.mem_singleton.2 rfl)
  obtain ⟨b, r1, r2, _⟩ := right_same l (by omega)
  rw [g, Option.bind_some, Option.bind_some, cond_false, copy_eq l (by omega) hs, Option.bind_some, add_eq l t d (by omega), Option.bind_some, ref_add_eq l t d (by omega), Option.bind_some,
    same_self _ (by have := addR_len l t d; omega) (addR_small l t d hs ht), Option.bind_some, cond_true, decide_eq_true rfl, Option.bind_some, cond_true, same_self l (by omega) hs, Option.bind_some, Option.bind_some, cond_true,
    r1, Option.bind_some, r2, Option.bind_some, decide_eq_true rfl, Option.bind_some]
/-! ### without some -/
theorem ref_drop_loop (l : List Tk) (c : Int) (hl : l.length ≤ 2147483640) : ∀ k i n, i + k = l.length → k < n → reticuleref23_Drop_L0 n (l, c, dropL (l.take i) c, (i : Int)) = some (Sum.inl (dropL l c)) := by
  intro k
  induction k with
  | zero =>
    intro i n hi hn
    obtain ⟨n, rfl⟩ := Nat.exists_eq_succ_of_ne_zero (show n ≠ 0 by omega)
    have h : ¬ ((i : Int) < (l.length : Int)) := by omega
    simp only [reticuleref23_Drop_L0, decide_eq_false h, cond_false]
    rw [List.take_of_length_le (by omega)]
  | succ k ih =>
    intro i n hi hn
    obtain ⟨n, rfl⟩ := Nat.exists_eq_succ_of_ne_zero (show n ≠ 0 by omega)
    have h : ((i : Int) < (l.length : Int)) := by omega
    have hi' : i < l.length := by omega
    have ih' := ih (i + 1) n (by omega) (by omega)
    have e : dropL (l.take (i + 1)) c = dropL (l.take i) c ++ dropL [l[i]] c := by
      unfold dropL
      rw [List.take_add_one, List.getElem?_eq_getElem hi', List.filter_append]; rfl
    have hle : (dropL (l.take i) c).length ≤ i := by
      have := List.length_filter_le (fun t => !fP c t) (l.take i)
      rw [List.length_take] at this
      unfold dropL; omega
    have hc : ∀ x : Tk, (dropL (l.take i) c).length + ([x] : List Tk).length ≤ lim := fun x => le_lim (by simp; omega)
    have hf : fP c l[i] = decide (l[i].1 = c) := rfl
    rw [e, ← w64_succ i (by omega)] at ih'
    simp only [reticuleref23_Drop_L0, decide_eq_true h, cond_true, ix_at l i hi', Option.bind_some]
    cases hq : decide (l[i].1 = c) with
    | true =>
      have : dropL [l[i]] c = [] := by unfold dropL; simp [hf, hq]
      rw [this, List.append_nil] at ih'
      simp only [Bool.not_true, cond_false, jn_inl]; exact ih'
    | false =>
      have : dropL [l[i]] c = [l[i]] := by unfold dropL; simp [hf, hq]
      rw [this] at ih'
      simp only [Bool.not_false, cond_true, chk_dec (hc _), Option.bind_some, jn_inl]; exact ih'
theorem ref_drop_eq (l : List Tk) (c : Int) (hl : l.length ≤ 2147483640) : reticuleref23_Drop (l, c) = some (dropL l c) := by
  have L := ref_drop_loop l c hl l.length 0 Big (by omega) (big_lt (by omega))
  rw [Int.natCast_zero, List.take_zero] at L
  have L' : reticuleref23_Drop_L0 Big (l, c, [], 0) = some (Sum.inl (dropL l c)) := L
  simp only [reticuleref23_Drop, L', jn_inl]
theorem ref_sweep_loop (l : List Tk) (c : Int) (hl : l.length ≤ 2147483640) : ∀ k i n, i + k = l.length → k < n → reticuleref23_Sweep_L0 n (l, c, sweepL (l.take i) c, (i : Int)) = some (Sum.inl (sweepL l c)) := by
  intro k
  induction k with
  | zero =>
    intro i n hi hn
    obtain ⟨n, rfl⟩ := Nat.exists_eq_succ_of_ne_zero (show n ≠ 0 by omega)
    have h : ¬ ((i : Int) < (l.length : Int)) := by omega
    simp only [reticuleref23_Sweep_L0, decide_eq_false h, cond_false]
    rw [List.take_of_length_le (by omega)]
  | succ k ih =>
    intro i n hi hn
    obtain ⟨n, rfl⟩ := Nat.exists_eq_succ_of_ne_zero (show n ≠ 0 by omega)
    have h : ((i : Int) < (l.length : Int)) := by omega
    have hi' : i < l.length := by omega
    have ih' := ih (i + 1) n (by omega) (by omega)
    have e : sweepL (l.take (i + 1)) c = sweepL (l.take i) c ++ sweepL [l[i]] c := by
      unfold sweepL
      rw [List.take_add_one, List.getElem?_eq_getElem hi', List.filter_append]; rfl
    have hle : (sweepL (l.take i) c).length ≤ i := by
      have := List.length_filter_le (fun t => !sP c t) (l.take i)
      rw [List.length_take] at this
      unfold sweepL; omega
    have hc : ∀ x : Tk, (sweepL (l.take i) c).length + ([x] : List Tk).length ≤ lim := fun x => le_lim (by simp; omega)
    rw [e, ← w64_succ i (by omega)] at ih'
    have hb : (bif !decide (c = (-1)) then some (!decide (l[i].2.1 = c)) else some false : Option Bool) = some (!sP c l[i]) := by
      unfold sP
      cases decide (c = (-1)) <;> simp
    simp only [reticuleref23_Sweep_L0, decide_eq_true h, cond_true, ix_at l i hi', Option.bind_some, hb]
    cases hq : sP c l[i] with
    | true =>
      have : sweepL [l[i]] c = [] := by unfold sweepL; simp [hq]
      rw [this, List.append_nil] at ih'
      simp only [Bool.not_true, cond_false, jn_inl]; exact ih'
    | false =>
      have : sweepL [l[i]] c = [l[i]] := by unfold sweepL; simp [hq]
      rw [this] at ih'
      simp only [Bool.not_false, cond_true, chk_dec (hc _), Option.bind_some, jn_inl]; exact ih'
theorem ref_sweep_eq (l : List Tk) (c : Int) (hl : l.length ≤ 2147483640) : reticuleref23_Sweep (l, c) = some (sweepL l c) := by
  have L := ref_sweep_loop l c hl l.length 0 Big (by omega) (big_lt (by omega))
  rw [Int.natCast_zero, List.take_zero] at L
  have L' : reticuleref23_Sweep_L0 Big (l, c, [], 0) = some (Sum.inl (sweepL l c)) := L
  simp only [reticuleref23_Sweep, L', jn_inl]
def tagL (l : List Tk) : List Int := l.map (·.1)
theorem tags_loop (l : List Tk) (hl : l.length ≤ 2147483640) : ∀ k i n, i + k = l.length → k < n →
    tags_Tags_L0 n (tagL (l.take i), l, (l.length : Int), (i : Int)) = some (Sum.inl (tagL l)) ∧ reticuleref23_Tags_L0 n (l, tagL (l.take i), (i : Int)) = some (Sum.inl (tagL l)) := by
  intro k
  induction k with
  | zero =>
    intro i n hi hn
    obtain ⟨n, rfl⟩ := Nat.exists_eq_succ_of_ne_zero (show n ≠ 0 by omega)
    have h : ¬ ((i : Int) < (l.length : Int)) := by omega
    simp only [tags_Tags_L0, reticuleref23_Tags_L0, decide_eq_false h, cond_false]
    rw [List.take_of_length_le (by omega)]
    exact ⟨rfl, rfl⟩
  | succ k ih =>
    intro i n hi hn
    obtain ⟨n, rfl⟩ := Nat.exists_eq_succ_of_ne_zero (show n ≠ 0 by omega)
    have h : ((i : Int) < (l.length : Int)) := by omega
    have hi' : i < l.length := by omega
    have ih' := ih (i + 1) n (by omega) (by omega)
    have e : tagL (l.take (i + 1)) = tagL (l.take i) ++ [l[i].1] := by
      unfold tagL
      rw [List.take_add_one, List.getElem?_eq_getElem hi', List.map_append]; rfl
    have hc : (tagL (l.take i)).length + ([l[i].1] : List Int).length ≤ lim := le_lim (by unfold tagL; simp; omega)
    rw [e, ← w64_succ i (by omega)] at ih'
    simp only [tags_Tags_L0, reticuleref23_Tags_L0, decide_eq_true h, cond_true, ix_at l i hi', Option.bind_some, chk_dec hc]
    exact ih'
theorem tags_eq (l : List Tk) (hl : l.length ≤ 2147483640) : tags_Tags l = some (tagL l) ∧ reticuleref23_Tags l = some (tagL l) := by
  have L := tags_loop l hl l.length 0 Big (by omega) (big_lt (by omega))
  rw [Int.natCast_zero, List.take_zero] at L
  have L1 : tags_Tags_L0 Big ([], l, (l.length : Int), 0) = some (Sum.inl (tagL l)) := L.1
  have L2 : reticuleref23_Tags_L0 Big (l, [], 0) = some (Sum.inl (tagL l)) := L.2
  simp only [tags_Tags, reticuleref23_Tags, L1, L2, jn_inl, and_self]
theorem ints_loop (l : List Int) (hl : l.length ≤ 2147483648) : ∀ k i n, i + k = l.length → k < n → reticuleref01_Ints_L0 n (l, l, (i : Int)) = some (Sum.inl ()) := by
  intro k
  induction k with
  | zero =>
    intro i n hi hn
    obtain ⟨n, rfl⟩ := Nat.exists_eq_succ_of_ne_zero (show n ≠ 0 by omega)
    have h : ¬ ((i : Int) < (l.length : Int)) := by omega
    simp only [reticuleref01_Ints_L0, decide_eq_false h, cond_false]
  | succ k ih =>
    intro i n hi hn
    obtain ⟨n, rfl⟩ := Nat.exists_eq_succ_of_ne_zero (show n ≠ 0 by omega)
    have h : ((i : Int) < (l.length : Int)) := by omega
    have hi' : i < l.length := by omega
    rw [← ih (i + 1) n (by omega) (by omega), ← w64_succ i (by omega)]
    simp only [reticuleref01_Ints_L0, decide_eq_true h, cond_true, ix_at l i hi', Option.bind_some, decide_true, Bool.not_true, cond_false]
theorem ints_self (l : List Int) (hl : l.length ≤ 2147483648) : reticuleref01_Ints (l, l) = some true := by
  have L := ints_loop l hl l.length 0 Big (by omega) (big_lt (by omega))
  rw [Int.natCast_zero] at L
  simp only [reticuleref01_Ints, decide_true, Bool.not_true, cond_false, L, jn_inl]
theorem tagL_len (l : List Tk) : (tagL l).length = l.length := by simp [tagL]
theorem dropL_sub (l : List Tk) (c : Int) : (dropL l c).length ≤ l.length ∧ ∀ t ∈ dropL l c, t ∈ l := ⟨List.length_filter_le _ _, fun t ht => (List.mem_filter.1 ht).1⟩
theorem sweepL_sub (l : List Tk) (c : Int) : (sweepL l c).length ≤ l.length ∧ ∀ t ∈ sweepL l c, t ∈ l := ⟨List.length_filter_le _ _, fun t ht => (List.mem_filter.1 ht).1⟩
theorem TagsTakes_pure (x) : reticulelaw23_TagsTakes x = some true := by
  obtain ⟨l, tag, lun⟩ := x
  unfold reticulelaw23_TagsTakes
  rw [alive_ok, Option.bind_some, Bool.not_true, cond_false]
  rcases great_eq l with g | ⟨g, hl, hs⟩
  · rw [g, Option.bind_some, cond_true]
  obtain ⟨d1, d2⟩ := dropL_sub l tag
  obtain ⟨s1, s2⟩ := sweepL_sub l lun
  obtain ⟨t1, t2⟩ := tags_eq l (by omega)
  rw [g, Option.bind_some, cond_false, copy_eq l (by omega) hs, Option.bind_some, find_eq l tag (by omega), Option.bind_some, ref_find_eq l tag (by omega), Option.bind_some, decide_eq_true rfl, cond_true,
    drop_eq l tag (by omega), Option.bind_some, ref_drop_eq l tag (by omega), Option.bind_some, same_self _ (by omega) (fun t ht => hs t (d2 t ht)), Option.bind_some, Option.bind_some, cond_true,
    sweep_eq l lun (by omega), Option.bind_some, ref_sweep_eq l lun (by omega), Option.bind_some, same_self _ (by omega) (fun t ht => hs t (s2 t ht)), Option.bind_some, Option.bind_some, cond_true,
    t1, Option.bind_some, t2, Option.bind_some, ints_self _ (by rw [tagL_len]; omega), Option.bind_some, Option.bind_some, cond_true, same_self l (by omega) hs, Option.bind_some, Option.bind_some]
theorem TagsBack_pure (x) : reticulelaw23_TagsBack x = some true := by
  obtain ⟨l, t⟩ := x
  unfold reticulelaw23_TagsBack
  rw [alive_ok, Option.bind_some, Bool.not_true, cond_false]
  rcases great_eq l with g | ⟨g, hl, hs⟩
  · rw [g, Option.bind_some, cond_true, Option.bind_some, cond_true, Option.bind_some, cond_true]
  rw [g, Option.bind_some, cond_false]
  rcases great_eq [t] with g | ⟨g, _, hst⟩
  · rw [g, Option.bind_some, Option.bind_some, cond_true, Option.bind_some, cond_true]
  have ht : Small t := hst t (List.mem_singleton.2 rfl)
  obtain ⟨b, r1, r2, r3⟩ := right_same l (by omega)
  rw [g, Option.bind_some, Option.bind_some, cond_false, r2, Option.bind_some, Option.bind_some]
  cases b with
  | false => rfl
  | true =>
    rw [Bool.not_true, cond_false, add_eq l t 8 (by omega), Option.bind_some]
    unfold addR
    cases hm : mayB t.1 with
    | false =>
      rw [if_neg (by decide)]
      show (reticuleref23_Same (l, l)).bind _ = _
      rw [same_self l (by omega) hs, Option.bind_some]
    | true =>
      rw [if_pos rfl]
      cases hx : pIx (fP t.1) l with
      | some i =>
        show (reticuleref23_Same (l, l)).bind _ = _
        rw [same_self l (by omega) hs, Option.bind_some]
      | none =>
        show (bif !decide ((if (8 : Int) ≤ (l.length : Int) ∨ 8 ≤ l.length then (l, (6 : Int)) else (l ++ [t], 0)).2 = 0) then _ else _) = _
        by_cases h : (8 : Int) ≤ (l.length : Int) ∨ 8 ≤ l.length
        · rw [if_pos h]
          show (reticuleref23_Same (l, l)).bind _ = _
          rw [same_self l (by omega) hs, Option.bind_some]
        · rw [if_neg h]
          have hself : fP t.1 t = true := decide_eq_true rfl
          have hfind : pIx (fP t.1) (l ++ [t]) = some l.length := by
            have gen : ∀ m : List Tk, pIx (fP t.1) m = none → pIx (fP t.1) (m ++ [t]) = some m.length := by
              intro m
              induction m with
              | nil => intro _; show pIx (fP t.1) [t] = _; unfold pIx; rw [hself]; rfl
              | cons a m ih =>
                intro hn
                unfold pIx at hn
                show pIx (fP t.1) (a :: (m ++ [t])) = _
                unfold pIx
                cases hq : fP t.1 a with
                | true => rw [hq] at hn; cases hn
                | false =>
                  rw [hq, cond_false] at hn
                  rw [cond_false, ih (Option.map_eq_none_iff.1 hn)]; rfl
            exact gen l hx
          have hdrop : dropL (l ++ [t]) t.1 = l := by
            unfold dropL
            rw [List.filter_append]
            have e1 : l.filter (fun x => !fP t.1 x) = l := by
              rw [List.filter_eq_self]; intro x hxm; rw [pIx_none.1 hx x hxm]; rfl
            rw [e1]
            simp [hself]
          show (tags_Find (l ++ [t], t.1)).bind _ = _
          rw [find_eq _ _ (by simp; omega), Option.bind_some, hfind]
          show (bif decide ((l.length : Int) = (l.length : Int)) then (tags_Drop (l ++ [t], t.1)).bind _ else _ : Option Bool).bind _ = _
          rw [decide_eq_true rfl, cond_true, drop_eq _ _ (by simp; omega), Option.bind_some, hdrop, same_self l (by omega) hs, Option.bind_some, Option.bind_some]
end Go.Proofs.Ytnpehooofdheaaa
