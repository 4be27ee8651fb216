/- Chapter 24: the units. -/
import Derived.Test.YtgceolpeegfkkaaManA
namespace Go.Proofs.Ytgceolpeegfkkaa
open Go Go.Re
set_option linter.unusedVariables false
set_option linter.unusedSimpArgs false
/-! ### attentions of some units -/
def att (s : Sense) (u : Un) : Un := (u.1, u.2.1, addL u.2.2.1 s, u.2.2.2)
def attW (us : List Un) (p : Nat → Bool) (s : Sense) : List Un := us.mapIdx fun i u => if p i = true then att s u else u
theorem attW_len (us : List Un) (p : Nat → Bool) (s : Sense) : (attW us p s).length = us.length := by simp [attW]
theorem attW_get (us : List Un) (p : Nat → Bool) (s : Sense) (i : Nat) (h : i < us.length) : (attW us p s)[i]'(by rw [attW_len]; exact h) = if p i = true then att s us[i] else us[i] := by simp [attW]
theorem attW_ext {us : List Un} {p q : Nat → Bool} {s : Sense} (h : ∀ i, i < us.length → p i = q i) : attW us p s = attW us q s := by
  apply List.ext_getElem (by rw [attW_len, attW_len])
  intro i h1 h2
  rw [attW_len] at h1
  rw [attW_get us p s i h1, attW_get us q s i h1, h i h1]
theorem attW_none {us : List Un} {p : Nat → Bool} {s : Sense} (h : ∀ i, i < us.length → p i = false) : attW us p s = us := by
  apply List.ext_getElem (attW_len ..)
  intro i h1 h2
  rw [attW_get us p s i h2, h i h2]; rfl
theorem attW_set (us : List Un) (p : Nat → Bool) (s : Sense) (i : Nat) (hi : i < us.length) : (attW us p s).set i (att s us[i]) = attW us (fun j => p j || decide (j = i)) s := by
  apply List.ext_getElem (by rw [List.length_set, attW_len, attW_len])
  intro j h1 h2
  rw [attW_len] at h2
  rw [List.getElem_set, attW_get us (fun j => p j || decide (j = i)) s j h2]
  by_cases hj : i = j
  · subst hj; simp
  · rw [if_neg hj, attW_get us p s j h2]
    have : (p j || decide (j = i)) = p j := by simp [show ¬ j = i from fun e => hj e.symm]
    rw [this]
def whoU (lun : Int) (i : Nat) : Bool := decide ((i : Int) = lun) || decide (lun = -1)
def attU (us : List Un) (lun : Int) (s : Sense) : List Un := attW us (whoU lun) s
theorem uclone_eq (x : List Un) (h : x.length ≤ 2147483648) : slices_Clone_api_Unit x = some x := by
  unfold slices_Clone_api_Unit
  cases x with
  | nil => simp [both_self, chk, lim]
  | cons a r =>
    simp only [List.isEmpty_cons, cond_false]
    rw [chk_dec (le_lim (by simpa using h))]; rfl
theorem there_eq (us : List Un) (lun : Int) : unit_there (us, lun) = some (decide (0 ≤ lun) && decide (lun < (us.length : Int))) ∧ reticuleref12_There (us, lun) = some (decide (0 ≤ lun) && decide (lun < (us.length : Int))) := by
  simp only [unit_there, reticuleref12_There, and_chain, Option.bind_some, and_self]
/-- one unit of those of which some have it already -/
theorem change_eq (us : List Un) (p : Nat → Bool) (i : Nat) (s : Sense) (hu : us.length ≤ 1000) (hi : i < us.length) (hp : p i = false) (ha : us[i].2.2.1.length ≤ 100) :
    unit_change_c61 (attW us p s, (i : Int), s) = some (attW us (fun j => p j || decide (j = i)) s) := by
  have hl := attW_len us p s
  have e1 : (decide ((0 : Int) ≤ (i : Int)) && decide ((i : Int) < ((attW us p s).length : Int))) = true := by
    rw [hl, Bool.and_eq_true, decide_eq_true_eq, decide_eq_true_eq]; omega
  have hg : (attW us p s)[i]'(by rw [hl]; exact hi) = us[i] := by rw [attW_get us p s i hi, hp]; rfl
  have hin : inLen (i : Int) (attW us p s).length = true := by rw [hl]; exact inLen_nat hi
  unfold unit_change_c61
  rw [(there_eq _ _).1, e1, Option.bind_some, Bool.not_true, cond_false, uclone_eq _ (show (attW us p s).length ≤ 2147483648 by omega), Option.bind_some]
  show (chk (inLen (i : Int) (attW us p s).length)).bind _ = _
  rw [chk_true hin, Option.bind_some]
  show (unit_Attend_1 ((attW us p s).getD ((i : Int)).toNat _, s)).bind _ = _
  rw [Int.toNat_natCast, List.getD_eq_getElem?_getD, List.getElem?_eq_getElem (show i < (attW us p s).length by rw [hl]; exact hi), Option.getD_some, hg]
  have ha2 := (sn_add_eq us[i].2.2.1 s ha).1
  unfold unit_Attend_1
  rw [ha2, Option.bind_some, Option.bind_some]
  show some ((attW us p s).set ((i : Int)).toNat (att s us[i])) = _
  rw [Int.toNat_natCast, attW_set us p s i hi]
theorem change_out (us : List Un) (lun : Int) (s : Sense) (h : ¬ (0 ≤ lun ∧ lun < (us.length : Int))) : unit_change_c61 (us, lun, s) = some us := by
  have e1 : (decide ((0 : Int) ≤ lun) && decide (lun < (us.length : Int))) = false := by
    rw [← Bool.not_eq_true, Bool.and_eq_true, decide_eq_true_eq, decide_eq_true_eq]; exact h
  unfold unit_change_c61
  rw [(there_eq _ _).1, e1, Option.bind_some]; rfl
theorem attend_loop (us : List Un) (s : Sense) (hu : us.length ≤ 1000) (ha : ∀ u ∈ us, u.2.2.1.length ≤ 100) : ∀ k i n, i + k = us.length → k < n →
    unit_Attend_L0 n (attW us (fun j => decide (j < i)) s, s, (us.length : Int), (i : Int)) = some (Sum.inl (attW us (fun _ => true) s)) := by
  intro k
  induction k with
  | zero =>
    intro i n hi hn
    obtain ⟨n, rfl⟩ := Nat.exists_eq_succ_of_ne_zero (show n ≠ 0 by omega)
    have h : ¬ ((i : Int) < (us.length : Int)) := by omega
    simp only [unit_Attend_L0, decide_eq_false h, cond_false]
    rw [attW_ext (q := fun _ => true)]
    intro j hj
    exact decide_eq_true (by omega)
  | succ k ih =>
    intro i n hi hn
    obtain ⟨n, rfl⟩ := Nat.exists_eq_succ_of_ne_zero (show n ≠ 0 by omega)
    have h : ((i : Int) < (us.length : Int)) := by omega
    have hi' : i < us.length := by omega
    have ih' := ih (i + 1) n (by omega) (by omega)
    rw [← w64_succ i (by omega)] at ih'
    simp only [unit_Attend_L0, decide_eq_true h, cond_true]
    rw [change_eq us _ i s hu hi' (by simp) (ha _ (List.getElem_mem hi')), Option.bind_some]
    rw [attW_ext (q := fun j => decide (j < i + 1)) (fun j _ => by rw [Bool.eq_iff_iff, Bool.or_eq_true, decide_eq_true_eq, decide_eq_true_eq, decide_eq_true_eq]; omega)]
    exact ih'
theorem attend_eq (us : List Un) (lun : Int) (s : Sense) (hu : us.length ≤ 1000) (ha : ∀ u ∈ us, u.2.2.1.length ≤ 100) : unit_Attend (us, lun, s) = some (attU us lun s) := by
  unfold unit_Attend
  by_cases h : lun = -1
  · subst h
    have L := attend_loop us s hu ha us.length 0 Big (by omega) (big_lt (by omega))
    rw [Int.natCast_zero, attW_none (p := fun j => decide (j < 0)) (fun j _ => by simp)] at L
    show jn (unit_Attend_L0 Big (us, s, (us.length : Int), 0)) _ = _
    rw [L, jn_inl]
    unfold attU
    rw [attW_ext (p := whoU (-1)) (q := fun _ => true)]
    intro j _
    unfold whoU; simp
  · show (bif !decide (lun = -1) then _ else _) = _
    rw [decide_eq_false h, Bool.not_false, cond_true]
    by_cases hin : 0 ≤ lun ∧ lun < (us.length : Int)
    · obtain ⟨i, rfl⟩ : ∃ i : Nat, lun = (i : Int) := ⟨lun.toNat, by omega⟩
      have hi : i < us.length := by omega
      have := change_eq us (fun _ => false) i s hu hi rfl (ha _ (List.getElem_mem hi))
      rw [attW_none (p := fun _ => false) (fun _ _ => rfl)] at this
      rw [this, Option.bind_some]
      unfold attU
      refine congrArg some (attW_ext fun j _ => ?_)
      unfold whoU
      rw [decide_eq_false h, Bool.or_false, Bool.false_or, Bool.eq_iff_iff, decide_eq_true_eq, decide_eq_true_eq]; omega
    · rw [change_out us lun s hin, Option.bind_some]
      unfold attU
      rw [attW_none]
      intro j hj
      unfold whoU
      rw [decide_eq_false h, Bool.or_false]
      exact decide_eq_false (by omega)
/-! ### what is looked at -/
def UnS (u : Un) : Prop := u.1.1.1.length ≤ 70 ∧ u.1.1.2.1.length ≤ 70 ∧ u.2.2.1.length ≤ 20
theorem ugreat_loop (l : List Un) (hl : l.length ≤ 2147483648) : ∀ k i n, i + k = l.length → k < n →
    reticuleref12_Great_L0 n (l, (i : Int)) = some (Sum.inr true) ∨ (reticuleref12_Great_L0 n (l, (i : Int)) = some (Sum.inl ()) ∧ ∀ t ∈ l.drop i, UnS t) := by
  intro k
  induction k with
  | zero =>
    intro i n hi hn
    obtain ⟨n, rfl⟩ := Nat.exists_eq_succ_of_ne_zero (show n ≠ 0 by omega)
    have h : ¬ ((i : Int) < (l.length : Int)) := by omega
    right
    refine ⟨?_, by rw [List.drop_of_length_le (by omega)]; intro t ht; cases ht⟩
    simp only [reticuleref12_Great_L0, decide_eq_false h, cond_false]
  | succ k ih =>
    intro i n hi hn
    obtain ⟨n, rfl⟩ := Nat.exists_eq_succ_of_ne_zero (show n ≠ 0 by omega)
    have h : ((i : Int) < (l.length : Int)) := by omega
    have hi' : i < l.length := by omega
    have hd : l.drop i = l[i] :: l.drop (i + 1) := List.drop_eq_getElem_cons hi'
    simp only [reticuleref12_Great_L0, decide_eq_true h, cond_true, ix_at l i hi', Option.bind_some, or_chain]
    cases hb : (decide ((70 : Int) < (l[i].1.1.1.length : Int)) || decide ((70 : Int) < (l[i].1.1.2.1.length : Int)) || decide ((20 : Int) < (l[i].2.2.1.length : Int))) with
    | true => left; rfl
    | false =>
      simp only [Bool.or_eq_false_iff, decide_eq_false_iff_not] at hb
      simp only [cond_false, w64_succ i (by omega)]
      rcases ih (i + 1) n (by omega) (by omega) with h1 | ⟨h1, h2⟩
      · exact .inl h1
      · refine .inr ⟨h1, ?_⟩
        rw [hd]
        intro t ht
        rcases List.mem_cons.1 ht with rfl | ht
        · exact ⟨by omega, by omega, by omega⟩
        · exact h2 t ht
theorem ugreat_eq (l : List Un) : reticuleref12_Great l = some true ∨ (reticuleref12_Great l = some false ∧ l.length ≤ 6 ∧ ∀ t ∈ l, UnS t) := by
  by_cases h : (6 : Int) < (l.length : Int)
  · left; simp only [reticuleref12_Great, decide_eq_true h, cond_true]
  · have L := ugreat_loop l (by omega) l.length 0 Big (by omega) (big_lt (by omega))
    rw [Int.natCast_zero, List.drop_zero] at L
    simp only [reticuleref12_Great, decide_eq_false h, cond_false]
    rcases L with L | ⟨L, q⟩
    · left; rw [L]; rfl
    · right; rw [L]; exact ⟨rfl, by omega, q⟩
def InS (q : Inf) : Prop := q.2.2.1.length ≤ 200
theorem qgreat_loop (x : Uas) (hl : x.2.1.length ≤ 2147483648) : ∀ k i n, i + k = x.2.1.length → k < n →
    reticuleref24_Great_L0 n (x, (i : Int)) = some (Sum.inr true) ∨ (reticuleref24_Great_L0 n (x, (i : Int)) = some (Sum.inl ()) ∧ ∀ t ∈ x.2.1.drop i, InS t) := by
  intro k
  induction k with
  | zero =>
    intro i n hi hn
    obtain ⟨n, rfl⟩ := Nat.exists_eq_succ_of_ne_zero (show n ≠ 0 by omega)
    have h : ¬ ((i : Int) < (x.2.1.length : Int)) := by omega
    right
    refine ⟨?_, by rw [List.drop_of_length_le (by omega)]; intro t ht; cases ht⟩
    simp only [reticuleref24_Great_L0, decide_eq_false h, cond_false]
  | succ k ih =>
    intro i n hi hn
    obtain ⟨n, rfl⟩ := Nat.exists_eq_succ_of_ne_zero (show n ≠ 0 by omega)
    have h : ((i : Int) < (x.2.1.length : Int)) := by omega
    have hi' : i < x.2.1.length := by omega
    have hd : x.2.1.drop i = x.2.1[i] :: x.2.1.drop (i + 1) := List.drop_eq_getElem_cons hi'
    simp only [reticuleref24_Great_L0, decide_eq_true h, cond_true, ix_at x.2.1 i hi', Option.bind_some]
    cases hb : decide ((200 : Int) < (x.2.1[i].2.2.1.length : Int)) with
    | true => left; rfl
    | false =>
      simp only [decide_eq_false_iff_not] at hb
      simp only [cond_false, w64_succ i (by omega)]
      rcases ih (i + 1) n (by omega) (by omega) with h1 | ⟨h1, h2⟩
      · exact .inl h1
      · refine .inr ⟨h1, ?_⟩
        rw [hd]
        intro t ht
        rcases List.mem_cons.1 ht with rfl | ht
        · show _ ≤ 200; omega
        · exact h2 t ht
structure AllS (x : Uas) (us : List Un) : Prop where
  tl : x.1.length ≤ 20
  ts : ∀ t ∈ x.1, Small t
  ql : x.2.1.length ≤ 40
  qs : ∀ q ∈ x.2.1, InS q
  ul : us.length ≤ 6
  us : ∀ u ∈ us, UnS u
theorem great24 (x : Uas) (us : List Un) : reticuleref24_Great (x, us) = some true ∨ (reticuleref24_Great (x, us) = some false ∧ AllS x us) := by
  unfold reticuleref24_Great
  rcases great_eq x.1 with h | ⟨h, h1, h2⟩
  · left; rw [h]; rfl
  rw [h, Option.bind_some, cond_false]
  by_cases hq : (40 : Int) < (x.2.1.length : Int)
  · left
    show (some (decide ((40 : Int) < (x.2.1.length : Int)))).bind _ = _
    rw [decide_eq_true hq]; rfl
  show (some (decide ((40 : Int) < (x.2.1.length : Int)))).bind _ = _ ∨ (some (decide ((40 : Int) < (x.2.1.length : Int)))).bind _ = _ ∧ _
  rw [decide_eq_false hq, Option.bind_some, cond_false]
  rcases ugreat_eq us with g | ⟨g, g1, g2⟩
  · left
    show ((reticuleref12_Great us).bind _).bind _ = _
    rw [g]; rfl
  have L := qgreat_loop x (by omega) x.2.1.length 0 Big (by omega) (big_lt (by omega))
  rw [Int.natCast_zero, List.drop_zero] at L
  show ((reticuleref12_Great us).bind _).bind _ = _ ∨ ((reticuleref12_Great us).bind _).bind _ = _ ∧ _
  rw [g]
  show jn (reticuleref24_Great_L0 Big (x, 0)) _ = _ ∨ jn (reticuleref24_Great_L0 Big (x, 0)) _ = _ ∧ _
  rcases L with L | ⟨L, q⟩
  · left; rw [L]; rfl
  · right; rw [L]; exact ⟨rfl, h1, h2, by omega, q, g1, g2⟩
/-! ### what is one's own is the same -/
theorem ucopy1 (u : Un) (h : UnS u) : reticuleref10_Copy u = some u := by
  obtain ⟨⟨⟨b, lg, ⟨⟩⟩, f⟩, c, at_, la⟩ := u
  obtain ⟨h1, h2, h3⟩ := h
  have h1 : b.length ≤ 70 := h1
  have h2 : lg.length ≤ 70 := h2
  have h3 : at_.length ≤ 20 := h3
  have c1 : ([] : List BY).length + b.length ≤ lim := le_lim (by simp; omega)
  have c2 : ([] : List (Int × (BY × Unit))).length + lg.length ≤ lim := le_lim (by simp; omega)
  have c3 : ([] : List Sense).length + at_.length ≤ lim := le_lim (by simp; omega)
  simp only [reticuleref10_Copy, reticuleref05_Copy, reticuleref03_Copy, reticuleref02_Copy, chk_dec c1, chk_dec c2, chk_dec c3, Option.bind_some, List.nil_append]
theorem ucopy_loop (l : List Un) (hl : l.length ≤ 1000) (hs : ∀ t ∈ l, UnS t) : ∀ k i n, i + k = l.length → k < n → reticuleref12_Copy_L0 n (l, l.take i, (i : Int)) = some (Sum.inl l) := by
  intro k
  induction k with
  | zero =>
    intro i n hi hn
    obtain ⟨n, rfl⟩ := Nat.exists_eq_succ_of_ne_zero (show n ≠ 0 by omega)
    have h : ¬ ((i : Int) < (l.length : Int)) := by omega
    simp only [reticuleref12_Copy_L0, decide_eq_false h, cond_false]
    rw [List.take_of_length_le (by omega)]
  | succ k ih =>
    intro i n hi hn
    obtain ⟨n, rfl⟩ := Nat.exists_eq_succ_of_ne_zero (show n ≠ 0 by omega)
    have h : ((i : Int) < (l.length : Int)) := by omega
    have hi' : i < l.length := by omega
    have ih' := ih (i + 1) n (by omega) (by omega)
    have e : l.take (i + 1) = l.take i ++ [l[i]] := by rw [List.take_add_one, List.getElem?_eq_getElem hi']; rfl
    have hc : (l.take i).length + ([l[i]] : List Un).length ≤ lim := le_lim (by simp; omega)
    rw [e, ← w64_succ i (by omega)] at ih'
    simp only [reticuleref12_Copy_L0, decide_eq_true h, cond_true, ix_at l i hi', Option.bind_some, ucopy1 _ (hs _ (List.getElem_mem hi')), chk_dec hc]
    exact ih'
theorem ucopy_eq (l : List Un) (hl : l.length ≤ 1000) (hs : ∀ t ∈ l, UnS t) : reticuleref12_Copy l = some l := by
  have L := ucopy_loop l hl hs l.length 0 Big (by omega) (big_lt (by omega))
  rw [Int.natCast_zero, List.take_zero] at L
  simp only [reticuleref12_Copy, L, jn_inl]
theorem qcopy_loop (x z : Uas) (T : List Tk) (hl : x.2.1.length ≤ 1000) (hs : ∀ q ∈ x.2.1, InS q) : ∀ k i n, i + k = x.2.1.length → k < n →
    reticuleref24_Copy_L0 n (x, z, (T, x.2.1.take i, ()), (i : Int)) = some (Sum.inl (z, (T, x.2.1, ()))) := by
  intro k
  induction k with
  | zero =>
    intro i n hi hn
    obtain ⟨n, rfl⟩ := Nat.exists_eq_succ_of_ne_zero (show n ≠ 0 by omega)
    have h : ¬ ((i : Int) < (x.2.1.length : Int)) := by omega
    simp only [reticuleref24_Copy_L0, decide_eq_false h, cond_false]
    rw [List.take_of_length_le (by omega)]
  | succ k ih =>
    intro i n hi hn
    obtain ⟨n, rfl⟩ := Nat.exists_eq_succ_of_ne_zero (show n ≠ 0 by omega)
    have h : ((i : Int) < (x.2.1.length : Int)) := by omega
    have hi' : i < x.2.1.length := by omega
    have ih' := ih (i + 1) n (by omega) (by omega)
    have e : x.2.1.take (i + 1) = x.2.1.take i ++ [x.2.1[i]] := by rw [List.take_add_one, List.getElem?_eq_getElem hi']; rfl
    have hq : x.2.1[i].2.2.1.length ≤ 200 := hs _ (List.getElem_mem hi')
    have c1 : ([] : BY).length + x.2.1[i].2.2.1.length ≤ lim := le_lim (by simp; omega)
    have c2 : ∀ q : Inf, (x.2.1.take i).length + ([q] : List Inf).length ≤ lim := fun q => le_lim (by simp; omega)
    rw [e, ← w64_succ i (by omega)] at ih'
    simp only [reticuleref24_Copy_L0, decide_eq_true h, cond_true, ix_at x.2.1 i hi', Option.bind_some, chk_dec c1, chk_dec (c2 _), List.nil_append]
    exact ih'
theorem copy24 (x : Uas) (us : List Un) (h : AllS x us) : reticuleref24_Copy x = some x := by
  have hql := h.ql
  have L := qcopy_loop x ([], [], ()) x.1 (by have := h.ql; omega) h.qs x.2.1.length 0 Big (by omega) (big_lt (by omega))
  rw [Int.natCast_zero, List.take_zero] at L
  unfold reticuleref24_Copy
  rw [copy_eq x.1 (by have := h.tl; omega) h.ts, Option.bind_some]
  show jn (reticuleref24_Copy_L0 Big (x, ([], [], ()), (x.1, [], ()), 0)) _ = _
  rw [show reticuleref24_Copy_L0 Big (x, ([], [], ()), (x.1, [], ()), 0) = _ from L, jn_inl]
theorem bsame_loop (l : List BY) (hl : l.length ≤ 2147483648) : ∀ k i n, i + k = l.length → k < n → reticuleref02_Same_L0 n (l, l, (i : Int)) = some (Sum.inl ()) := by
  intro k
  induction k with
  | zero =>
    intro i n hi hn
    obtain ⟨n, rfl⟩ := Nat.exists_eq_succ_of_ne_zero (show n ≠ 0 by omega)
    have h : ¬ ((i : Int) < (l.length : Int)) := by omega
    simp only [reticuleref02_Same_L0, decide_eq_false h, cond_false]
  | succ k ih =>
    intro i n hi hn
    obtain ⟨n, rfl⟩ := Nat.exists_eq_succ_of_ne_zero (show n ≠ 0 by omega)
    have h : ((i : Int) < (l.length : Int)) := by omega
    have hi' : i < l.length := by omega
    simp only [reticuleref02_Same_L0, decide_eq_true h, cond_true, ix_at l i hi', Option.bind_some, decide_true, Bool.not_true, cond_false, w64_succ i (by omega)]
    exact ih (i + 1) n (by omega) (by omega)
theorem bsame (l : List BY) (hl : l.length ≤ 2147483648) : reticuleref02_Same (l, l) = some true := by
  have L := bsame_loop l hl l.length 0 Big (by omega) (big_lt (by omega))
  rw [Int.natCast_zero] at L
  simp only [reticuleref02_Same, decide_true, Bool.not_true, cond_false, L, jn_inl]
theorem msame_loop (m : Md) (hl : m.2.1.length ≤ 2147483648) : ∀ k i n, i + k = m.2.1.length → k < n → reticuleref03_Same_L0 n (m, m, (i : Int)) = some (Sum.inl ()) := by
  intro k
  induction k with
  | zero =>
    intro i n hi hn
    obtain ⟨n, rfl⟩ := Nat.exists_eq_succ_of_ne_zero (show n ≠ 0 by omega)
    have h : ¬ ((i : Int) < (m.2.1.length : Int)) := by omega
    simp only [reticuleref03_Same_L0, decide_eq_false h, cond_false]
  | succ k ih =>
    intro i n hi hn
    obtain ⟨n, rfl⟩ := Nat.exists_eq_succ_of_ne_zero (show n ≠ 0 by omega)
    have h : ((i : Int) < (m.2.1.length : Int)) := by omega
    have hi' : i < m.2.1.length := by omega
    simp only [reticuleref03_Same_L0, decide_eq_true h, cond_true, ix_at m.2.1 i hi', Option.bind_some, decide_true, Bool.and_true, Bool.not_true, cond_false, w64_succ i (by omega)]
    exact ih (i + 1) n (by omega) (by omega)
theorem msame (m : Md) (h1 : m.1.length ≤ 1000) (h2 : m.2.1.length ≤ 1000) : reticuleref03_Same (m, m) = some true := by
  have L := msame_loop m (by omega) m.2.1.length 0 Big (by omega) (big_lt (by omega))
  rw [Int.natCast_zero] at L
  simp only [reticuleref03_Same, bsame m.1 (by omega), Option.bind_some, decide_true, Bool.not_true, cond_false, L, jn_inl]
theorem usame1 (u : Un) (h1 : u.1.1.1.length ≤ 1000) (h2 : u.1.1.2.1.length ≤ 1000) (h3 : u.2.2.1.length ≤ 200) : reticuleref10_Unit (u, u) = some true := by
  simp only [reticuleref10_Unit, reticuleref05_Same, msame u.1.1 h1 h2, sn_same_self u.2.2.1 h3, Option.bind_some, decide_true, cond_true, Bool.and_true]
def UnT (u : Un) : Prop := u.1.1.1.length ≤ 1000 ∧ u.1.1.2.1.length ≤ 1000 ∧ u.2.2.1.length ≤ 200
theorem usame_loop (l : List Un) (hl : l.length ≤ 2147483648) (hs : ∀ u ∈ l, UnT u) : ∀ k i n, i + k = l.length → k < n → reticuleref12_Same_L0 n (l, l, (i : Int)) = some (Sum.inl ()) := by
  intro k
  induction k with
  | zero =>
    intro i n hi hn
    obtain ⟨n, rfl⟩ := Nat.exists_eq_succ_of_ne_zero (show n ≠ 0 by omega)
    have h : ¬ ((i : Int) < (l.length : Int)) := by omega
    simp only [reticuleref12_Same_L0, decide_eq_false h, cond_false]
  | succ k ih =>
    intro i n hi hn
    obtain ⟨n, rfl⟩ := Nat.exists_eq_succ_of_ne_zero (show n ≠ 0 by omega)
    have h : ((i : Int) < (l.length : Int)) := by omega
    have hi' : i < l.length := by omega
    obtain ⟨g1, g2, g3⟩ := hs _ (List.getElem_mem hi')
    simp only [reticuleref12_Same_L0, decide_eq_true h, cond_true, ix_at l i hi', Option.bind_some, usame1 l[i] g1 g2 g3, Bool.not_true, cond_false, w64_succ i (by omega)]
    exact ih (i + 1) n (by omega) (by omega)
theorem usame (l : List Un) (hl : l.length ≤ 2147483648) (hs : ∀ u ∈ l, UnT u) : reticuleref12_Same (l, l) = some true := by
  have L := usame_loop l hl hs l.length 0 Big (by omega) (big_lt (by omega))
  rw [Int.natCast_zero] at L
  simp only [reticuleref12_Same, decide_true, Bool.not_true, cond_false, L, jn_inl]
theorem unS_T {u : Un} (h : UnS u) : UnT u := by
  obtain ⟨h1, h2, h3⟩ := h
  exact ⟨by omega, by omega, by omega⟩
theorem att_T {u : Un} {s : Sense} (h : UnS u) : UnT (att s u) := by
  obtain ⟨h1, h2, h3⟩ := h
  exact ⟨Nat.le_trans h1 (by omega), Nat.le_trans h2 (by omega), addL_len _ _ (by omega)⟩
theorem attW_T {us : List Un} {p : Nat → Bool} {s : Sense} (h : ∀ u ∈ us, UnS u) : ∀ u ∈ attW us p s, UnT u := by
  intro u hu
  obtain ⟨i, hi, rfl⟩ := List.getElem_of_mem hu
  have hi' : i < us.length := by rw [attW_len] at hi; exact hi
  rw [attW_get us p s i hi']
  split
  · exact att_T (h _ (List.getElem_mem hi'))
  · exact unS_T (h _ (List.getElem_mem hi'))
theorem qsame1 (q : Inf) (h : InS q) : reticuleref22_Same (q, q) = some true := by
  have c : q.2.2.1.length ≤ lim := le_lim (by have : q.2.2.1.length ≤ 200 := h; omega)
  simp only [reticuleref22_Same, decide_true, cond_true, Option.bind_some, chk_dec c]
theorem qsame_loop (l : List Inf) (hl : l.length ≤ 2147483648) (hs : ∀ q ∈ l, InS q) : ∀ k i n, i + k = l.length → k < n → reticuleref24_Queues_L0 n (l, l, (i : Int)) = some (Sum.inl ()) := by
  intro k
  induction k with
  | zero =>
    intro i n hi hn
    obtain ⟨n, rfl⟩ := Nat.exists_eq_succ_of_ne_zero (show n ≠ 0 by omega)
    have h : ¬ ((i : Int) < (l.length : Int)) := by omega
    simp only [reticuleref24_Queues_L0, decide_eq_false h, cond_false]
  | succ k ih =>
    intro i n hi hn
    obtain ⟨n, rfl⟩ := Nat.exists_eq_succ_of_ne_zero (show n ≠ 0 by omega)
    have h : ((i : Int) < (l.length : Int)) := by omega
    have hi' : i < l.length := by omega
    simp only [reticuleref24_Queues_L0, decide_eq_true h, cond_true, ix_at l i hi', Option.bind_some, qsame1 l[i] (hs _ (List.getElem_mem hi')), Bool.not_true, cond_false, w64_succ i (by omega)]
    exact ih (i + 1) n (by omega) (by omega)
theorem same24 (x : Uas) (h1 : x.1.length ≤ 1000) (h2 : ∀ t ∈ x.1, Small t) (h3 : x.2.1.length ≤ 1000) (h4 : ∀ q ∈ x.2.1, InS q) : reticuleref24_Same (x, x) = some true := by
  have L := qsame_loop x.2.1 (by omega) h4 x.2.1.length 0 Big (by omega) (big_lt (by omega))
  rw [Int.natCast_zero] at L
  simp only [reticuleref24_Same, same_self x.1 (by omega) h2, Option.bind_some, cond_true, reticuleref24_Queues, decide_true, Bool.not_true, cond_false, L, jn_inl]
theorem same_drop (x : Uas) (us : List Un) (l : List Int) (h : AllS x us) : reticuleref24_Same (dropU l x, dropU l x) = some true := by
  have e1 := h.tl
  have e2 := h.ql
  have e3 : (dropT l x.1).length ≤ x.1.length := List.length_filter_le _ _
  have e4 : (dropQ l x.2.1).length ≤ x.2.1.length := List.length_filter_le _ _
  exact same24 _ (show (dropT l x.1).length ≤ 1000 by omega) (fun t ht => h.ts t (List.mem_filter.1 ht).1) (show (dropQ l x.2.1).length ≤ 1000 by omega) (fun q hq => h.qs q (List.mem_filter.1 hq).1)
end Go.Proofs.Ytgceolpeegfkkaa
