/- The plain laws of chapter 13: each answer is true. -/
import Derived.Test.YtdaelapmgecdpaaScrP
namespace Go.Proofs.Ytdaelapmgecdpaa
open Go Go.Re
set_option linter.unusedVariables false
set_option linter.unusedSimpArgs false
/-! ### an event's bytes are read as it -/
theorem lo_of (c : BitVec 8) : lo (c.toNat : Int) = c := by
  have h := c.isLt
  apply bv8; rw [lo_nat]; omega
theorem rd17_ev (e : Ev) (h : okE e) (r : BY) : rd17 (lo e.1) (lo e.2.1) (lo e.2.2.1) (hi e.2.2.2.1) (lo e.2.2.2.1) (flagB e.2.2.2.2.1 e.2.2.2.2.2.1) (lo e.2.2.2.2.2.2.1) (leN 8 e.2.2.2.2.2.2.2.1).reverse
    (hi (e.2.2.2.2.2.2.2.2.1.length : Int)) (lo (e.2.2.2.2.2.2.2.2.1.length : Int)) r =
    if r.length < e.2.2.2.2.2.2.2.2.1.length then .inr 2 else .inl ((e.1, e.2.1, e.2.2.1, e.2.2.2.1, e.2.2.2.2.1, e.2.2.2.2.2.1, e.2.2.2.2.2.2.1, e.2.2.2.2.2.2.2.1, r.take e.2.2.2.2.2.2.2.2.1.length, ()), 17 + e.2.2.2.2.2.2.2.2.1.length) := by
  obtain ⟨k, ad, ep, st, tg, ack, ln, n, d, u⟩ := e
  obtain ⟨h1, h2, h3, h4, h5, h6, h7⟩ := h
  simp only at h1 h2 h3 h4 h5 h6 h7 ⊢
  have e0 := lo_nat k
  have e1 := lo_nat ad
  have e2 := lo_nat ep
  have e3 := hi_nat st
  have e4 := lo_nat st
  have e6 := lo_nat ln
  have e7 := hi_nat (d.length : Int)
  have e8 := lo_nat (d.length : Int)
  have f : ((flagB tg ack).toNat : Int) = tg + (if ack = true then 2 else 0) := by
    have : tg = 0 ∨ tg = 1 := by omega
    rcases this with rfl | rfl <;> cases ack <;> rfl
  have f3 : (flagB tg ack).toNat ≤ 3 := by
    cases ack <;> simp at f <;> omega
  have fm : ((flagB tg ack).toNat : Int) % 2 = tg := by
    cases ack <;> simp at f <;> omega
  have fa : decide (2 ≤ (flagB tg ack).toNat) = ack := by
    cases ack <;> simp at f ⊢ <;> omega
  have hn : (hi (d.length : Int)).toNat * 256 + (lo (d.length : Int)).toNat = d.length := by omega
  unfold rd17
  rw [if_neg (by omega), hn, if_neg (by omega)]
  by_cases hr : r.length < d.length
  · rw [if_pos hr, if_pos hr]
  · rw [if_neg hr, if_neg hr, fm, fa, List.reverse_reverse, nv_eight,
      show ((lo k).toNat : Int) = k by omega, show ((lo ad).toNat : Int) = ad by omega, show ((lo ep).toNat : Int) = ep by omega, show ((lo ln).toNat : Int) = ln by omega,
      show ((hi st).toNat : Int) * 256 + ((lo st).toNat : Int) = st by omega]
theorem rdS_ev (e : Ev) (h : okE e) (r : BY) : rdS (evB e ++ r) = .inl (e, (evB e).length) := by
  have : evB e ++ r = lo e.1 :: lo e.2.1 :: lo e.2.2.1 :: hi e.2.2.2.1 :: lo e.2.2.2.1 :: flagB e.2.2.2.2.1 e.2.2.2.2.2.1 :: lo e.2.2.2.2.2.2.1 ::
    ((leN 8 e.2.2.2.2.2.2.2.1).reverse ++ (hi (e.2.2.2.2.2.2.2.2.1.length : Int) :: lo (e.2.2.2.2.2.2.2.2.1.length : Int) :: (e.2.2.2.2.2.2.2.2.1 ++ r))) := by
    simp [evB]
  rw [this, rdS_17 _ _ _ _ _ _ _ _ _ _ _ (by simp [leN_length]), rd17_ev e h, if_neg (by simp), evB_len]
  simp
/-- a beginning of an event's bytes is too short -/
theorem rdS_cut (e : Ev) (h : okE e) (k : Nat) (hk : k < (evB e).length) : rdS ((evB e).take k) = .inr 2 := by
  have hl := evB_len e
  by_cases h17 : k < 17
  · unfold rdS
    rw [if_pos (by rw [List.length_take]; omega)]
  · have : (evB e).take k = lo e.1 :: lo e.2.1 :: lo e.2.2.1 :: hi e.2.2.2.1 :: lo e.2.2.2.1 :: flagB e.2.2.2.2.1 e.2.2.2.2.2.1 :: lo e.2.2.2.2.2.2.1 ::
      ((leN 8 e.2.2.2.2.2.2.2.1).reverse ++ (hi (e.2.2.2.2.2.2.2.2.1.length : Int) :: lo (e.2.2.2.2.2.2.2.2.1.length : Int) :: (e.2.2.2.2.2.2.2.2.1.take (k - 17)))) := by
      obtain ⟨j, rfl⟩ : ∃ j, k = j + 17 := ⟨k - 17, by omega⟩
      have hA : (leN 8 e.2.2.2.2.2.2.2.1).reverse.length = 8 := by simp [leN_length]
      unfold evB
      generalize (leN 8 e.2.2.2.2.2.2.2.1).reverse = A at hA
      obtain ⟨a, b, c, d, e', f, g, i, rfl⟩ := eight A hA
      rfl
    rw [this, rdS_17 _ _ _ _ _ _ _ _ _ _ _ (by simp [leN_length]), rd17_ev e h, if_pos (by rw [List.length_take]; omega)]
/-- what is read has just those bytes -/
theorem rdS_back (s : BY) (e : Ev) (n : Nat) (h : rdS s = .inl (e, n)) : okE e ∧ n = (evB e).length ∧ s = evB e ++ s.drop n := by
  by_cases hs : s.length < 17
  · unfold rdS at h
    rw [if_pos hs] at h; cases h
  obtain ⟨h0, h1, h2, h3, h4, h5, h6, A, l0, l1, r, hA, rfl⟩ := split17 s (by omega)
  rw [rdS_17 _ _ _ _ _ _ _ _ _ _ _ hA] at h
  unfold rd17 at h
  split at h
  · cases h
  rename_i c1
  split at h
  · cases h
  rename_i c2
  split at h
  · cases h
  rename_i c3
  injection h with h
  injection h with h h'
  subst h; subst h'
  have i0 := h0.isLt
  have i1 := h1.isLt
  have i2 := h2.isLt
  have i3 := h3.isLt
  have i4 := h4.isLt
  have i5 := h5.isLt
  have i6 := h6.isLt
  have j0 := l0.isLt
  have j1 := l1.isLt
  have hl : (r.take (l0.toNat * 256 + l1.toNat)).length = l0.toNat * 256 + l1.toNat := by rw [List.length_take]; omega
  refine ⟨?_, ?_, ?_⟩
  · unfold okE; simp only [hl]; omega
  · rw [evB_len]; simp only [hl]
  · have g3 : hi ((h3.toNat : Int) * 256 + (h4.toNat : Int)) = h3 := by apply bv8; rw [hi_nat]; omega
    have g4 : lo ((h3.toNat : Int) * 256 + (h4.toNat : Int)) = h4 := by apply bv8; rw [lo_nat]; omega
    have g5 : flagB ((h5.toNat : Int) % 2) (decide (2 ≤ h5.toNat)) = h5 := by
      have : h5 = 0#8 ∨ h5 = 1#8 ∨ h5 = 2#8 ∨ h5 = 3#8 := by
        have : h5.toNat = 0 ∨ h5.toNat = 1 ∨ h5.toNat = 2 ∨ h5.toNat = 3 := by omega
        rcases this with h | h | h | h
        · exact Or.inl (BitVec.eq_of_toNat_eq h)
        · exact Or.inr (Or.inl (BitVec.eq_of_toNat_eq h))
        · exact Or.inr (Or.inr (Or.inl (BitVec.eq_of_toNat_eq h)))
        · exact Or.inr (Or.inr (Or.inr (BitVec.eq_of_toNat_eq h)))
      rcases this with rfl | rfl | rfl | rfl <;> rfl
    have g7 : hi ((l0.toNat * 256 + l1.toNat : Nat) : Int) = l0 := by apply bv8; rw [hi_nat]; omega
    have g8 : lo ((l0.toNat * 256 + l1.toNat : Nat) : Int) = l1 := by apply bv8; rw [lo_nat]; omega
    unfold evB
    simp only [hl, lo_of, g3, g4, g5, g7, g8, leN_nv A.reverse (by simp [hA]), List.reverse_reverse]
    have : List.drop (17 + (l0.toNat * 256 + l1.toNat)) (h0 :: h1 :: h2 :: h3 :: h4 :: h5 :: h6 :: (A ++ (l0 :: l1 :: r))) = r.drop (l0.toNat * 256 + l1.toNat) := by
      rw [← List.drop_drop]
      obtain ⟨a, b, c, d, e', f, g, i, rfl⟩ := eight A hA
      rfl
    rw [this]
    simp
/-! ### many events -/
def allB (l : List Ev) : BY := (l.map evB).flatten
theorem allB_cons (e : Ev) (l : List Ev) : allB (e :: l) = evB e ++ allB l := rfl
theorem allB_app (l m : List Ev) : allB (l ++ m) = allB l ++ allB m := by simp [allB]
def OkL (l : List Ev) : Prop := ∀ e ∈ l, okE e
theorem okL_dec (l : List Ev) : OkL l ∨ ¬ OkL l := Classical.em _
theorem evB_le (e : Ev) (h : okE e) : (evB e).length ≤ 1041 := by
  have h7 := h.2.2.2.2.2.2
  rw [evB_len]; omega
theorem allB_le : ∀ l : List Ev, OkL l → (allB l).length ≤ 1041 * l.length
  | [], _ => by simp [allB]
  | e :: l, h => by
    have h1 := evB_le e (h e (List.mem_cons_self ..))
    have h2 := allB_le l fun x hx => h x (List.mem_cons_of_mem _ hx)
    rw [allB_cons, List.length_append, List.length_cons]; omega
/-- all events' bytes, or none -/
noncomputable def allR (l : List Ev) : BY × Int := by
  classical exact if 2000 < l.length then ([], 4) else if OkL l then (allB l, 0) else ([], 1)
theorem all_loop (l : List Ev) (hl : l.length ≤ 2000) : ∀ k i n, i + k = l.length → k < n → OkL (l.take i) →
    (OkL l → script_All_L0 n (allB (l.take i), l, (l.length : Int), (i : Int)) = some (Sum.inl (allB l)) ∧ reticuleref13_All_L0 n (l, allB (l.take i), (i : Int)) = some (Sum.inl (allB l))) ∧
    (¬ OkL l → script_All_L0 n (allB (l.take i), l, (l.length : Int), (i : Int)) = some (Sum.inr ([], 1)) ∧ reticuleref13_All_L0 n (l, allB (l.take i), (i : Int)) = some (Sum.inr ([], 1))) := by
  intro k
  induction k with
  | zero =>
    intro i n hi hn ho
    obtain ⟨n, rfl⟩ := Nat.exists_eq_succ_of_ne_zero (show n ≠ 0 by omega)
    have h : ¬ ((i : Int) < (l.length : Int)) := by omega
    rw [List.take_of_length_le (by omega)] at ho ⊢
    refine ⟨fun _ => ⟨?_, ?_⟩, fun hno => absurd ho hno⟩
    · simp only [script_All_L0, decide_eq_false h, cond_false]
    · simp only [reticuleref13_All_L0, decide_eq_false h, cond_false]
  | succ k ih =>
    intro i n hi hn ho
    obtain ⟨n, rfl⟩ := Nat.exists_eq_succ_of_ne_zero (show n ≠ 0 by omega)
    have h : ((i : Int) < (l.length : Int)) := by omega
    have hi' : i < l.length := by omega
    have hb := allB_le _ ho
    have hb2 : (allB (l.take i)).length ≤ 2147480000 := by
      rw [List.length_take] at hb; omega
    by_cases he : okE l[i]
    · have ho' : OkL (l.take (i + 1)) := by
        intro e hm
        rw [List.take_add_one, List.getElem?_eq_getElem hi'] at hm
        rcases List.mem_append.mp hm with hm | hm
        · exact ho e hm
        · rw [List.mem_singleton.mp (show e ∈ [l[i]] from hm)]; exact he
      have e1 : allB (l.take (i + 1)) = allB (l.take i) ++ evB l[i] := by
        rw [List.take_add_one, List.getElem?_eq_getElem hi', allB_app]
        simp [allB]
      have := ih (i + 1) n (by omega) (by omega) ho'
      rw [← w64_succ i (by omega), e1] at this
      simp only [script_All_L0, reticuleref13_All_L0, decide_eq_true h, cond_true, ix_at l i hi', Option.bind_some, append_eq _ _ hb2, ref_append_eq _ _ hb2, if_pos he, decide_true, Bool.not_true, cond_false]
      exact this
    · refine ⟨fun ho' => absurd (ho' _ (List.getElem_mem hi')) he, fun _ => ?_⟩
      simp only [script_All_L0, reticuleref13_All_L0, decide_eq_true h, cond_true, ix_at l i hi', Option.bind_some, append_eq _ _ hb2, ref_append_eq _ _ hb2, if_neg he]
      exact ⟨rfl, rfl⟩
theorem all_eq (l : List Ev) : script_All l = some (allR l) ∧ reticuleref13_All l = some (allR l) := by
  unfold allR
  by_cases h : 2000 < l.length
  · have h' : (2000 : Int) < (l.length : Int) := by omega
    simp only [script_All, reticuleref13_All, decide_eq_true h', cond_true, if_pos h]
    exact ⟨trivial, trivial⟩
  · have h' : ¬ ((2000 : Int) < (l.length : Int)) := by omega
    have L := all_loop l (by omega) l.length 0 Big (by omega) (big_lt (by omega)) (by intro e he; simp at he)
    simp only [List.take_zero, show allB [] = [] from rfl, Int.natCast_zero] at L
    simp only [script_All, reticuleref13_All, decide_eq_false h', cond_false, if_neg h]
    by_cases ho : OkL l
    · rw [(L.1 ho).1, (L.1 ho).2, if_pos ho]; exact ⟨rfl, rfl⟩
    · rw [(L.2 ho).1, (L.2 ho).2, if_neg ho]; exact ⟨rfl, rfl⟩
theorem allR_ok (l : List Ev) (h : l.length ≤ 2000) (ho : OkL l) : allR l = (allB l, 0) := by
  unfold allR; rw [if_neg (by omega), if_pos ho]
theorem allR_no (l : List Ev) (h : l.length ≤ 2000) (ho : ¬ OkL l) : allR l = ([], 1) := by
  unfold allR; rw [if_neg (by omega), if_neg ho]
theorem allR_len (l : List Ev) (h : l.length ≤ 2000) : (allR l).1.length ≤ 1041 * l.length := by
  by_cases ho : OkL l
  · rw [allR_ok l h ho]; exact allB_le l ho
  · rw [allR_no l h ho]; simp
/-- how some bytes are read -/
def parse : Nat → BY → Nat → (List Ev) ⊕ Int
  | 0, _, _ => .inl []
  | k + 1, s, c => if s = [] then .inl [] else
    match rdS s with
    | .inr e => .inr e
    | .inl (ev, n) => if c = 2000 then .inr 4 else
      match parse k (s.drop n) (c + 1) with
      | .inl l => .inl (ev :: l)
      | .inr e => .inr e
theorem rdS_err (s : BY) (e : Int) (h : rdS s = .inr e) : e = 2 ∨ e = 3 ∨ e = 4 := by
  unfold rdS at h
  split at h
  · injection h with h; omega
  · unfold rd17 at h
    split at h
    · injection h with h; omega
    · split at h
      · injection h with h; omega
      · split at h
        · injection h with h; omega
        · cases h
theorem rdS_fit (s : BY) (e : Ev) (n : Nat) (h : rdS s = .inl (e, n)) : 17 ≤ n ∧ n ≤ s.length := by
  obtain ⟨h1, h2, h3⟩ := rdS_back s e n h
  have h4 := evB_len e
  have h5 : s.length = (evB e).length + (s.drop n).length := by rw [← List.length_append, ← h3]
  exact ⟨by omega, by omega⟩
theorem parse_back : ∀ k s c l, s.length ≤ k → c ≤ 2000 → parse k s c = .inl l → OkL l ∧ allB l = s ∧ l.length + c ≤ 2000 := by
  intro k
  induction k with
  | zero =>
    intro s c l hs hc h
    cases h
    have : s = [] := List.length_eq_zero_iff.mp (by omega)
    subst this
    exact ⟨fun e he => (by cases he), rfl, by simpa using hc⟩
  | succ k ih =>
    intro s c l hs hc h
    unfold parse at h
    split at h
    · rename_i hs0
      cases h
      exact ⟨fun e he => (by cases he), hs0.symm, by simpa using hc⟩
    · split at h
      · cases h
      · rename_i ev n hr
        split at h
        · cases h
        · rename_i h20
          split at h
          · rename_i l' hp
            injection h with h
            subst h
            obtain ⟨h1, h2⟩ := rdS_fit s ev n hr
            obtain ⟨b1, b2, b3⟩ := rdS_back s ev n hr
            obtain ⟨i1, i2, i3⟩ := ih _ _ _ (by rw [List.length_drop]; omega) (by omega) hp
            refine ⟨?_, ?_, ?_⟩
            · intro e he
              rcases List.mem_cons.mp he with rfl | he
              · exact b1
              · exact i1 e he
            · rw [allB_cons, i2]; exact b3.symm
            · rw [List.length_cons]; omega
          · cases h
theorem parse_all : ∀ (l : List Ev) k c, OkL l → (allB l).length ≤ k → l.length + c ≤ 2000 → parse k (allB l) c = .inl l := by
  intro l
  induction l with
  | nil =>
    intro k c _ _ _
    cases k with
    | zero => rfl
    | succ k => unfold parse; rw [if_pos (show allB [] = [] from rfl)]
  | cons e l ih =>
    intro k c ho hk hc
    have he := ho e (List.mem_cons_self ..)
    have hl := evB_len e
    rw [allB_cons, List.length_append] at hk
    obtain ⟨k, rfl⟩ := Nat.exists_eq_succ_of_ne_zero (show k ≠ 0 by omega)
    have hne : ¬ (evB e ++ allB l = []) := by
      intro h0
      have := congrArg List.length h0
      rw [List.length_append, List.length_nil] at this; omega
    rw [List.length_cons] at hc
    rw [allB_cons]
    unfold parse
    rw [if_neg hne, rdS_ev e he]
    simp only
    rw [if_neg (by omega), List.drop_left, ih k (c + 1) (fun x hx => ho x (List.mem_cons_of_mem _ hx)) (by omega) (by omega)]
theorem parse_cut : ∀ (l : List Ev) k c i, OkL l → i ≤ k → l.length + c ≤ 2000 → i < (allB l).length →
    (∃ j, j < l.length ∧ parse k ((allB l).take i) c = .inl (l.take j)) ∨ parse k ((allB l).take i) c = .inr 2 := by
  intro l
  induction l with
  | nil =>
    intro k c i _ _ _ hi
    simp [allB] at hi
  | cons e l ih =>
    intro k c i ho hk hc hi
    have he := ho e (List.mem_cons_self ..)
    have hl := evB_len e
    rw [allB_cons, List.length_append] at hi
    rw [List.length_cons] at hc
    rw [allB_cons]
    by_cases h0 : i = 0
    · subst h0
      refine Or.inl ⟨0, by simp, ?_⟩
      cases k with
      | zero => rfl
      | succ k =>
        unfold parse
        rw [if_pos (by simp)]; rfl
    · obtain ⟨k, rfl⟩ := Nat.exists_eq_succ_of_ne_zero (show k ≠ 0 by omega)
      have hne : ¬ ((evB e ++ allB l).take i = []) := by
        intro h0'
        have := congrArg List.length h0'
        rw [List.length_take, List.length_append, List.length_nil] at this; omega
      unfold parse
      rw [if_neg hne]
      by_cases hlt : i < (evB e).length
      · rw [List.take_append_of_le_length (by omega), rdS_cut e he i hlt]
        exact Or.inr rfl
      · have e1 : (evB e ++ allB l).take i = evB e ++ (allB l).take (i - (evB e).length) := by
          rw [List.take_append, List.take_of_length_le (by omega)]
        rw [e1, rdS_ev e he]
        simp only
        rw [if_neg (by omega), List.drop_left]
        rcases ih k (c + 1) (i - (evB e).length) (fun x hx => ho x (List.mem_cons_of_mem _ hx)) (by omega) (by omega) (by omega) with ⟨j, hj, hp⟩ | hp
        · rw [hp]
          exact Or.inl ⟨j + 1, by rw [List.length_cons]; omega, rfl⟩
        · rw [hp]; exact Or.inr rfl
def outL (acc : List Ev) : (List Ev) ⊕ Int → (List Ev) ⊕ ((List Ev) × Int)
  | .inl l => .inl (acc ++ l)
  | .inr e => .inr ([], e)
theorem list_loop (b : BY) (hb : b.length ≤ 2147480000) : ∀ k (s : BY) (a n : Nat) (acc : List Ev), s.length ≤ k → a ≤ b.length → b.drop a = s → k < n → acc.length ≤ 2000 →
    script_List_L0 n (b, acc, (a : Int)) = some (outL acc (parse k s acc.length)) ∧ reticuleref13_List_L0 n (b, acc, (a : Int)) = some (outL acc (parse k s acc.length)) := by
  intro k
  induction k with
  | zero =>
    intro s a n acc hs ha hd hn hacc
    obtain ⟨n, rfl⟩ := Nat.exists_eq_succ_of_ne_zero (show n ≠ 0 by omega)
    have hl : b.length - a = s.length := by rw [← hd, List.length_drop]
    have h : ¬ ((a : Int) < (b.length : Int)) := by omega
    simp only [script_List_L0, reticuleref13_List_L0, decide_eq_false h, cond_false, parse, outL, List.append_nil, and_self]
  | succ k ih =>
    intro s a n acc hs ha hd hn hacc
    obtain ⟨n, rfl⟩ := Nat.exists_eq_succ_of_ne_zero (show n ≠ 0 by omega)
    have hl : b.length - a = s.length := by rw [← hd, List.length_drop]
    by_cases h : (a : Int) < (b.length : Int)
    · have hne : ¬ (s = []) := by
        intro h0; rw [h0, List.length_nil] at hl; omega
      have hn1 : ¬ ((a : Int) < 0 ∨ (b.length : Int) < (a : Int)) := by omega
      simp only [script_List_L0, reticuleref13_List_L0, decide_eq_true h, cond_true, read_eq b _ hb, ref_read_eq b _ hb, if_neg hn1, Int.toNat_natCast, hd, Option.bind_some]
      unfold parse
      rw [if_neg hne]
      cases hr : rdS s with
      | inr e =>
        have he := rdS_err s e hr
        have h0 : ¬ (e = 0) := by omega
        rw [show resR (a : Int) (Sum.inr e) = (zeroE, 0, e) from rfl]
        simp only [decide_eq_false h0, Bool.not_false, cond_true, outL, and_self]
      | inl p =>
        obtain ⟨ev, m⟩ := p
        obtain ⟨f1, f2⟩ := rdS_fit s ev m hr
        simp only [resR, decide_true, Bool.not_true, cond_false]
        by_cases h20 : acc.length = 2000
        · have : (acc.length : Int) = 2000 := by omega
          simp only [decide_eq_true this, cond_true, if_pos h20, outL, and_self]
        · have h20' : ¬ ((acc.length : Int) = 2000) := by omega
          have hc : acc.length + ([ev] : List Ev).length ≤ lim := le_lim (by simp; omega)
          simp only [decide_eq_false h20', cond_false, if_neg h20, chk_dec hc, Option.bind_some]
          have := ih (s.drop m) (a + m) n (acc ++ [ev]) (by rw [List.length_drop]; omega) (by omega) (by rw [← hd, List.drop_drop]) (by omega) (by simp; omega)
          rw [Int.natCast_add] at this
          rw [this.1, this.2, List.length_append, List.length_singleton]
          cases parse k (s.drop m) (acc.length + 1) with
          | inl l => simp [outL]
          | inr e => simp [outL]
    · have h0 : s = [] := List.length_eq_zero_iff.mp (by omega)
      simp only [script_List_L0, reticuleref13_List_L0, decide_eq_false h, cond_false]
      unfold parse
      rw [if_pos h0]
      simp [outL]
def listR (b : BY) : (List Ev) × Int :=
  match parse b.length b 0 with
  | .inl l => (l, 0)
  | .inr e => ([], e)
theorem list_eq (b : BY) (hb : b.length ≤ 2147480000) : script_List b = some (listR b) ∧ reticuleref13_List b = some (listR b) := by
  have L := list_loop b hb b.length b 0 Big [] (Nat.le_refl _) (by omega) (by simp) (big_lt (by omega)) (by simp)
  simp only [Int.natCast_zero, List.length_nil] at L
  unfold script_List reticuleref13_List listR
  rw [L.1, L.2]
  cases parse b.length b 0 with
  | inl l => exact ⟨rfl, rfl⟩
  | inr e => exact ⟨rfl, rfl⟩
theorem listR_all (l : List Ev) (ho : OkL l) (hl : l.length ≤ 2000) : listR (allB l) = (l, 0) := by
  unfold listR
  rw [parse_all l _ 0 ho (Nat.le_refl _) (by omega)]
theorem parse_err : ∀ k s c e, parse k s c = .inr e → e ≠ 0 := by
  intro k
  induction k with
  | zero => intro s c e h; cases h
  | succ k ih =>
    intro s c e h
    unfold parse at h
    split at h
    · cases h
    · split at h
      · rename_i e' hr
        injection h with h
        have := rdS_err s e' hr
        omega
      · split at h
        · injection h with h; omega
        · split at h
          · cases h
          · rename_i e' hp
            injection h with h
            subst h
            exact ih _ _ _ hp
theorem listR_cases (b : BY) : (∃ l, OkL l ∧ allB l = b ∧ l.length ≤ 2000 ∧ listR b = (l, 0)) ∨ (∃ e, e ≠ 0 ∧ listR b = ([], e)) := by
  unfold listR
  cases h : parse b.length b 0 with
  | inl l =>
    obtain ⟨h1, h2, h3⟩ := parse_back _ _ _ _ (Nat.le_refl _) (by omega) h
    exact Or.inl ⟨l, h1, h2, by omega, rfl⟩
  | inr e => exact Or.inr ⟨e, parse_err _ _ _ _ h, rfl⟩
/-! ### the same events -/
theorem one_self (e : Ev) (h : e.2.2.2.2.2.2.2.2.1.length ≤ lim) : reticuleref13_One (e, e) = some true := by
  simp only [reticuleref13_One, decide_true, cond_true, Option.bind_some, chk_dec h]
theorem same_loop (l : List Ev) (hl : l.length ≤ 2147483648) (h : ∀ e ∈ l, e.2.2.2.2.2.2.2.2.1.length ≤ lim) : ∀ k i n, i + k = l.length → k < n →
    reticuleref13_Same_L0 n (l, l, (i : Int)) = some (Sum.inl ()) := by
  intro k
  induction k with
  | zero =>
    intro i n hi hn
    obtain ⟨n, rfl⟩ := Nat.exists_eq_succ_of_ne_zero (show n ≠ 0 by omega)
    have h1 : ¬ ((i : Int) < (l.length : Int)) := by omega
    simp only [reticuleref13_Same_L0, decide_eq_false h1, cond_false]
  | succ k ih =>
    intro i n hi hn
    obtain ⟨n, rfl⟩ := Nat.exists_eq_succ_of_ne_zero (show n ≠ 0 by omega)
    have h1 : ((i : Int) < (l.length : Int)) := by omega
    have hi' : i < l.length := by omega
    rw [← ih (i + 1) n (by omega) (by omega), ← w64_succ i (by omega)]
    simp only [reticuleref13_Same_L0, decide_eq_true h1, cond_true, ix_at l i hi', Option.bind_some, one_self l[i] (h _ (List.getElem_mem hi')), Bool.not_true, cond_false]
theorem same_self (l : List Ev) (hl : l.length ≤ 2147483648) (h : OkL l) : reticuleref13_Same (l, l) = some true := by
  have := same_loop l hl (fun e he => le_lim (by have := (h e he).2.2.2.2.2.2; omega)) l.length 0 Big (by omega) (big_lt (by omega))
  simp only [Int.natCast_zero] at this
  simp only [reticuleref13_Same, decide_true, Bool.not_true, cond_false, this, jn_inl]
theorem great_loop (l : List Ev) (hl : l.length ≤ 2147483648) : ∀ k i n, i + k = l.length → k < n →
    reticuleref13_Great_L0 n (l, (i : Int)) = some (Sum.inl ()) ∨ reticuleref13_Great_L0 n (l, (i : Int)) = some (Sum.inr true) := by
  intro k
  induction k with
  | zero =>
    intro i n hi hn
    obtain ⟨n, rfl⟩ := Nat.exists_eq_succ_of_ne_zero (show n ≠ 0 by omega)
    have h1 : ¬ ((i : Int) < (l.length : Int)) := by omega
    left
    simp only [reticuleref13_Great_L0, decide_eq_false h1, cond_false]
  | succ k ih =>
    intro i n hi hn
    obtain ⟨n, rfl⟩ := Nat.exists_eq_succ_of_ne_zero (show n ≠ 0 by omega)
    have h1 : ((i : Int) < (l.length : Int)) := by omega
    have hi' : i < l.length := by omega
    by_cases h2 : (1100 : Int) < ((l[i]).2.2.2.2.2.2.2.2.1.length : Int)
    · right
      simp only [reticuleref13_Great_L0, decide_eq_true h1, cond_true, ix_at l i hi', Option.bind_some, decide_eq_true h2]
    · have := ih (i + 1) n (by omega) (by omega)
      rw [← w64_succ i (by omega)] at this
      simp only [reticuleref13_Great_L0, decide_eq_true h1, cond_true, ix_at l i hi', Option.bind_some, decide_eq_false h2, cond_false]
      exact this
theorem great_eq (l : List Ev) (m : Nat) (hm : m ≤ 1000) : reticuleref13_Great (l, (m : Int)) = some true ∨ (reticuleref13_Great (l, (m : Int)) = some false ∧ l.length ≤ m) := by
  by_cases h : (m : Int) < (l.length : Int)
  · left; simp only [reticuleref13_Great, decide_eq_true h, cond_true]
  · have L := great_loop l (by omega) l.length 0 Big (by omega) (big_lt (by omega))
    rw [Int.natCast_zero] at L
    simp only [reticuleref13_Great, decide_eq_false h, cond_false]
    rcases L with L | L
    · right; rw [L]; exact ⟨rfl, by omega⟩
    · left; rw [L]; rfl
/-! ### the fixed fact -/
def exL : List Ev := [(1, 0, 0, 0, 0, false, 0, 0#64, [], ()), (3, 3, 2, 258, 1, true, 5, 7#64, [97#8, 98#8], ())]
theorem ex_ok : OkL exL := by
  intro e he
  rcases List.mem_cons.mp he with rfl | he
  · decide
  · rw [List.mem_singleton.mp he]; decide
theorem alive_ok : reticulelaw13_alive () = some true := by
  have hb : (allB exL).length = 36 := by decide
  have h1 := (all_eq exL).1
  rw [allR_ok exL (by decide) ex_ok] at h1
  have h2 := (list_eq (allB exL) (by omega)).1
  rw [listR_all exL ex_ok (by decide)] at h2
  have h3 := append_eq [] zeroE (by simp)
  rw [if_neg (by decide)] at h3
  have h4 := (list_eq [9#8] (by simp)).1
  rw [show listR [9#8] = ([], 2) from rfl] at h4
  have h5 := same_self exL (by decide) ex_ok
  have h6 := right_eq (3, 3, 2, 258, 1, true, 5, 7#64, [97#8, 98#8], ())
  rw [decide_eq_true (by decide)] at h6
  have h7 := right_eq (9, 0, 0, 0, 0, false, 0, 0#64, [], ())
  rw [decide_eq_false (by decide)] at h7
  have h8 : ix exL 1 = some (3, 3, 2, 258, 1, true, 5, 7#64, [97#8, 98#8], ()) := rfl
  unfold exL zeroE at *
  unfold reticulelaw13_alive
  rw [h1, h3, h4]
  simp only [Option.bind_some]
  rw [h2]
  simp only [Option.bind_some, h5, h8, h6, h7, hb]
  have h9 : allB [(1, 0, 0, 0, 0, false, 0, 0#64, [], ()), (3, 3, 2, 258, 1, true, 5, 7#64, [97#8, 98#8], ())] = [1#8, 0#8, 0#8, 0#8, 0#8, 0#8, 0#8, 0#8, 0#8, 0#8, 0#8, 0#8, 0#8, 0#8, 0#8, 0#8, 0#8, 3#8, 3#8, 2#8, 1#8, 2#8, 3#8, 5#8, 0#8, 0#8, 0#8, 0#8, 0#8, 0#8, 0#8, 7#8, 0#8, 2#8, 97#8, 98#8] := by decide
  rw [h9]
  rfl
theorem ScriptAppends_pure (x) : reticulelaw13_ScriptAppends x = some true := by
  obtain ⟨b, e⟩ := x
  simp only [reticulelaw13_ScriptAppends, alive_ok, Option.bind_some, Bool.not_true, cond_false, or_chain]
  generalize hq : (decide ((500 : Int) < (b.length : Int)) || decide ((1100 : Int) < (e.2.2.2.2.2.2.2.2.1.length : Int))) = q
  cases q with
  | true => rfl
  | false =>
    simp only [Bool.or_eq_false_iff, decide_eq_false_iff_not] at hq
    simp only [cond_false, append_eq b e (by omega), ref_append_eq b e (by omega), Option.bind_some, right_eq, ref_right]
    have hl : (if okE e then (b ++ evB e, (0 : Int)) else ([], 1)).1.length ≤ lim := by
      split
      · rename_i h
        have := evB_le e h
        exact le_lim (by rw [List.length_append]; omega)
      · exact le_lim (by simp)
    simp only [chk_dec hl, Option.bind_some, decide_true, cond_true]
theorem ScriptReads_pure (x) : reticulelaw13_ScriptReads x = some true := by
  obtain ⟨b, a⟩ := x
  simp only [reticulelaw13_ScriptReads, alive_ok, Option.bind_some, Bool.not_true, cond_false]
  by_cases h : (3000 : Int) < (b.length : Int)
  · simp only [decide_eq_true h, cond_true]
  · simp only [decide_eq_false h, cond_false, read_eq b a (by omega), ref_read_eq b a (by omega), (list_eq b (by omega)).1, (list_eq b (by omega)).2, Option.bind_some]
    generalize hr : (if a < 0 ∨ (b.length : Int) < a then (zeroE, (0 : Int), (1 : Int)) else resR a (rdS (b.drop a.toNat))) = r
    have hl : r.1.2.2.2.2.2.2.2.2.1.length ≤ lim := by
      rw [← hr]
      split
      · exact le_lim (by simp [zeroE])
      · cases hs : rdS (b.drop a.toNat) with
        | inl p =>
          obtain ⟨e, n⟩ := p
          have := (rdS_back _ _ _ hs).1.2.2.2.2.2.2
          exact le_lim (by simp only [resR]; omega)
        | inr e => exact le_lim (by simp [resR, zeroE])
    simp only [one_self r.1 hl, Option.bind_some, decide_true, cond_true]
    rcases listR_cases b with ⟨l, h1, h2, h3, h4⟩ | ⟨e, h1, h2⟩
    · rw [h4]; simp only [same_self l (by omega) h1, Option.bind_some, decide_true, cond_true]
    · rw [h2]; simp only [same_self [] (by simp) (fun e he => by cases he), Option.bind_some, decide_true, cond_true]
theorem ScriptBack_pure (x) : reticulelaw13_ScriptBack x = some true := by
  obtain ⟨l, b⟩ := x
  unfold reticulelaw13_ScriptBack
  rw [alive_ok, Option.bind_some, Bool.not_true, cond_false]
  rcases great_eq l 50 (by omega) with g | ⟨g, hl⟩
  · rw [show ((50 : Nat) : Int) = 50 from rfl] at g
    rw [g, Option.bind_some, cond_true, Option.bind_some, cond_true]
  rw [show ((50 : Nat) : Int) = 50 from rfl] at g
  rw [g, Option.bind_some, cond_false]
  by_cases hb : (3000 : Int) < (b.length : Int)
  · rw [decide_eq_true hb, Option.bind_some, cond_true]
  rw [decide_eq_false hb, Option.bind_some, cond_false, (all_eq l).1, Option.bind_some, (all_eq l).2, Option.bind_some]
  have hal := allR_len l (by omega)
  have hc : (allR l).1.length ≤ lim := le_lim (by omega)
  rw [chk_dec hc, Option.bind_some, Option.bind_some, decide_eq_true rfl, Bool.not_true, cond_false, decide_eq_true rfl, Bool.not_true, Option.bind_some, cond_false]
  have key : ∀ (K : BY → Option Bool), jn (A := BY) (R := Bool) (bif decide ((allR l).2 = 0) then
      (script_List (allR l).1).bind fun r7 =>
      (bif !decide (r7.2 = 0) then some true else
          (reticuleref13_Same (r7.1, l)).bind fun r8 => some (!r8) : Option Bool).bind fun b9 =>
      bif b9 then some (Sum.inr false) else some (Sum.inl b)
    else some (Sum.inl b)) K = K b := by
    intro K
    by_cases ho : OkL l
    · rw [allR_ok l (by omega) ho, (list_eq (allB l) (by have := allB_le l ho; omega)).1, listR_all l ho (by omega)]
      simp only [decide_true, cond_true, Option.bind_some, Bool.not_true, cond_false, same_self l (by omega) ho, jn_inl]
    · rw [allR_no l (by omega) ho]; rfl
  refine (key _).trans ?_
  rw [(list_eq b (by omega)).1, Option.bind_some]
  rcases listR_cases b with ⟨m, h1, h2, h3, h4⟩ | ⟨e, h1, h2⟩
  · rw [h4, (all_eq m).1, allR_ok m h3 h1, h2]
    have hc2 : b.length ≤ lim := le_lim (by omega)
    simp only [decide_true, Bool.not_true, cond_false, Option.bind_some, cond_true, chk_dec hc2]
  · rw [h2]
    simp only [decide_eq_false h1, Bool.not_false, cond_true]; rfl
theorem join_eq (a b : BY) (h : a.length + b.length ≤ 2147483648) : reticuleref01_Join (a, b) = some (a ++ b) := by
  simp only [reticuleref01_Join, List.nil_append]
  rw [chk_dec (le_lim (by simp; omega))]
  simp only [Option.bind_some]
  rw [chk_dec (le_lim (by omega))]
  simp only [Option.bind_some]
theorem ScriptCuts_pure (x) : reticulelaw13_ScriptCuts x = some true := by
  obtain ⟨l, at_⟩ := x
  unfold reticulelaw13_ScriptCuts
  rw [alive_ok, Option.bind_some, Bool.not_true, cond_false]
  rcases great_eq l 20 (by omega) with g | ⟨g, hl⟩
  · rw [show ((20 : Nat) : Int) = 20 from rfl] at g
    rw [g, Option.bind_some, cond_true]
  rw [show ((20 : Nat) : Int) = 20 from rfl] at g
  rw [g, Option.bind_some, cond_false, (all_eq l).1, Option.bind_some]
  by_cases ho : OkL l
  · rw [allR_ok l (by omega) ho]
    have hal := allB_le l ho
    by_cases h0 : (allB l).length = 0
    · have h0' : ((allB l).length : Int) = 0 := by omega
      simp only [decide_true, Bool.not_true, cond_false, decide_eq_true h0', Option.bind_some, cond_true]
    have h0' : ¬ (((allB l).length : Int) = 0) := by omega
    have h0b : (((allB l).length : Int) == 0) = false := by simpa using h0'
    obtain ⟨i, hi, hit⟩ : ∃ i : Nat, (at_.toNat : Int).tmod ((allB l).length : Int) = (i : Int) ∧ i < (allB l).length := by
      refine ⟨at_.toNat % (allB l).length, ?_, Nat.mod_lt _ (by omega)⟩
      rw [Int.tmod_eq_emod_of_nonneg (by omega)]; rfl
    have ci : (decide (0 ≤ (i : Int)) && decide ((i : Int) ≤ ((allB l).length : Int))) = true := by
      simp only [Bool.and_eq_true, decide_eq_true_eq]; omega
    have htl : ((allB l).take i).length = i := by rw [List.length_take]; omega
    simp only [decide_true, Bool.not_true, cond_false, decide_eq_false h0', Option.bind_some, h0b, hi, chk_true ci, Int.toNat_natCast, (list_eq ((allB l).take i) (by omega)).1]
    have hp := parse_cut l ((allB l).take i).length 0 i ho (by omega) (by omega) hit
    rcases hp with ⟨j, hj, hp⟩ | hp
    · have hR : listR ((allB l).take i) = (l.take j, 0) := by unfold listR; rw [hp]
      obtain ⟨b1, b2, b3⟩ := parse_back _ _ _ _ (Nat.le_refl _) (by omega) hp
      have hj2 : (l.take j).length = j := by rw [List.length_take]; omega
      have c1 : ((allB l).take i).length ≤ lim := le_lim (by omega)
      have c2 : (j : Int) < (l.length : Int) := by omega
      have c3 : (decide (0 ≤ (j : Int)) && decide ((j : Int) ≤ (l.length : Int))) = true := by
        simp only [Bool.and_eq_true, decide_eq_true_eq]; omega
      have jn : reticuleref01_Join ((allB l).take i, (allB l).drop i) = some (allB l) := by
        rw [join_eq _ _ (by rw [List.length_take, List.length_drop]; omega), List.take_append_drop]
      rw [hR, (all_eq (l.take j)).1, allR_ok (l.take j) (by omega) b1, b2]
      simp only [decide_true, Bool.not_true, cond_false, Option.bind_some, cond_true, chk_dec c1, chk_true ci, hj2, decide_eq_true c2, chk_true c3, Int.toNat_natCast, same_self (l.take j) (by omega) b1, jn]
    · have hR : listR ((allB l).take i) = ([], 2) := by unfold listR; rw [hp]
      rw [hR]; rfl
  · rw [allR_no l (by omega) ho]; rfl
theorem okL_app (l m : List Ev) : OkL (l ++ m) ↔ OkL l ∧ OkL m := by
  constructor
  · exact fun h => ⟨fun e he => h e (List.mem_append_left _ he), fun e he => h e (List.mem_append_right _ he)⟩
  · rintro ⟨h1, h2⟩ e he
    rcases List.mem_append.mp he with h | h
    · exact h1 e h
    · exact h2 e h
theorem ScriptJoins_pure (x) : reticulelaw13_ScriptJoins x = some true := by
  obtain ⟨l, m⟩ := x
  unfold reticulelaw13_ScriptJoins
  rw [alive_ok, Option.bind_some, Bool.not_true, cond_false]
  rcases great_eq l 50 (by omega) with g | ⟨g, hl⟩
  · rw [show ((50 : Nat) : Int) = 50 from rfl] at g
    rw [g, Option.bind_some, cond_true, Option.bind_some, cond_true]
  rw [show ((50 : Nat) : Int) = 50 from rfl] at g
  rw [g, Option.bind_some, cond_false]
  rcases great_eq m 50 (by omega) with g | ⟨g, hm⟩
  · rw [show ((50 : Nat) : Int) = 50 from rfl] at g
    rw [g, Option.bind_some, Option.bind_some, cond_true]
  rw [show ((50 : Nat) : Int) = 50 from rfl] at g
  rw [g, Option.bind_some, Option.bind_some, cond_false, (all_eq l).1, Option.bind_some, (all_eq m).1, Option.bind_some, chk_dec (le_lim (by simp; omega)), Option.bind_some, chk_dec (le_lim (by simp; omega)), Option.bind_some, List.nil_append, (all_eq (l ++ m)).1, Option.bind_some]
  have hlm : (l ++ m).length ≤ 2000 := by rw [List.length_append]; omega
  by_cases ho : OkL (l ++ m)
  · have ho' := (okL_app l m).mp ho
    have h1 := allB_le l ho'.1
    have h2 := allB_le m ho'.2
    have h3 := allB_le (l ++ m) ho
    have hj := join_eq (allB l) (allB m) (by omega)
    have hlist := (list_eq (allB (l ++ m)) (by omega)).1
    rw [listR_all (l ++ m) ho hlm] at hlist
    rw [allB_app] at hlist h3
    have c1 : (allB l ++ allB m).length ≤ lim := le_lim (by omega)
    rw [allR_ok l (by omega) ho'.1, allR_ok m (by omega) ho'.2, allR_ok (l ++ m) hlm ho, allB_app]
    simp only [decide_true, Bool.not_true, cond_false, Option.bind_some, hj, hlist, cond_true, chk_dec c1, same_self (l ++ m) (by omega) ho]
  · have hR := allR_no (l ++ m) hlm ho
    have : (bif !decide ((allR l).2 = 0) then some true else some (!decide ((allR m).2 = 0)) : Option Bool) = some true := by
      by_cases h1 : OkL l
      · have h2 : ¬ OkL m := fun h2 => ho ((okL_app l m).mpr ⟨h1, h2⟩)
        rw [allR_ok l (by omega) h1, allR_no m (by omega) h2]; rfl
      · rw [allR_no l (by omega) h1]; rfl
    rw [this, hR]; rfl
end Go.Proofs.Ytdaelapmgecdpaa
