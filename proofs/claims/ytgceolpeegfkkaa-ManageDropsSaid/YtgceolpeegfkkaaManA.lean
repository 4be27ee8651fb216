/- Chapter 24: dropping tasks, and what they're called. -/
import Derived.Test.YtgceolpeegfkkaaSenQ
namespace Go.Proofs.Ytgceolpeegfkkaa
open Go Go.Re
set_option linter.unusedVariables false
set_option linter.unusedSimpArgs false
theorem alive_ok : reticulelaw24_alive () = some true := rfl
abbrev Md := List BY × (List (Int × (BY × Unit)) × Unit)
abbrev Un := (Md × (Bool × (Bool × (Bool × Unit)))) × (Bool × (List Sense × (Sense × Unit)))
abbrev Inf := Int × (Int × (BY × Unit))
abbrev Uas := List Tk × (List Inf × Unit)
abbrev Mg := Int × (Int × (Int × (Int × Unit)))
/-! ### is it one of them? -/
theorem cont_loop (l : List Int) (c : Int) (hl : l.length ≤ 2147483648) : ∀ k i n, i + k = l.length → k < n →
    (c ∈ l.drop i → ∃ j : Nat, slices_Index_int_L0 n (l, c, (l.length : Int), (i : Int)) = some (Sum.inr (j : Int))) ∧ (¬ c ∈ l.drop i → slices_Index_int_L0 n (l, c, (l.length : Int), (i : Int)) = some (Sum.inl ())) := by
  intro k
  induction k with
  | zero =>
    intro i n hi hn
    obtain ⟨n, rfl⟩ := Nat.exists_eq_succ_of_ne_zero (show n ≠ 0 by omega)
    have h : ¬ ((i : Int) < (l.length : Int)) := by omega
    simp only [slices_Index_int_L0, decide_eq_false h, cond_false]
    rw [List.drop_of_length_le (by omega)]; simp
  | succ k ih =>
    intro i n hi hn
    obtain ⟨n, rfl⟩ := Nat.exists_eq_succ_of_ne_zero (show n ≠ 0 by omega)
    have h : ((i : Int) < (l.length : Int)) := by omega
    have hi' : i < l.length := by omega
    have hd : l.drop i = l[i] :: l.drop (i + 1) := List.drop_eq_getElem_cons hi'
    have ih' := ih (i + 1) n (by omega) (by omega)
    simp only [slices_Index_int_L0, decide_eq_true h, cond_true, ix_at l i hi', Option.bind_some]
    rw [hd]
    by_cases hq : c = l[i]
    · rw [decide_eq_true hq, cond_true]
      exact ⟨fun _ => ⟨i, rfl⟩, fun h => absurd (by rw [hq]; exact List.mem_cons_self ..) h⟩
    · rw [decide_eq_false hq, cond_false, w64_succ i (by omega)]
      simp only [List.mem_cons, hq, false_or]
      exact ih'
theorem cont_eq (l : List Int) (c : Int) (hl : l.length ≤ 2147483648) : slices_Contains_int (l, c) = some (decide (c ∈ l)) := by
  have L := cont_loop l c hl l.length 0 Big (by omega) (big_lt (by omega))
  rw [Int.natCast_zero, List.drop_zero] at L
  by_cases h : c ∈ l
  · obtain ⟨j, hj⟩ := L.1 h
    simp only [slices_Contains_int, slices_Index_int, hj, jn_inr, Option.bind_some, decide_eq_true h]
    rw [decide_eq_true (show (0 : Int) ≤ (j : Int) by omega)]
  · simp only [slices_Contains_int, slices_Index_int, L.2 h, jn_inl, Option.bind_some, decide_eq_false h]
    rfl
/-! ### what is left when tasks are dropped -/
def dropT (l : List Int) (ts : List Tk) : List Tk := ts.filter (fun t => !decide (t.1 ∈ l))
def keepQ (l : List Int) (q : Inf) : Bool := !(decide (q.1 = 6) || decide (q.1 = 7)) || !decide (q.2.1 ∈ l)
def dropQ (l : List Int) (qs : List Inf) : List Inf := qs.filter (keepQ l)
def dropU (l : List Int) (x : Uas) : Uas := (dropT l x.1, dropQ l x.2.1, ())
theorem take_filter {α : Type} (p : α → Bool) (l : List α) (i : Nat) (h : i < l.length) : (l.take (i + 1)).filter p = (l.take i).filter p ++ (if p l[i] = true then [l[i]] else []) := by
  rw [List.take_add_one, List.getElem?_eq_getElem h, List.filter_append]
  congr 1
  show List.filter p [l[i]] = _
  by_cases hp : p l[i] = true
  · rw [if_pos hp]; simp [hp]
  · rw [if_neg hp]; simp [hp]
theorem filter_room {α : Type} (p : α → Bool) (l : List α) (i : Nat) (h : i < l.length) (hl : l.length ≤ 2147483640) (x : α) : ((l.take i).filter p).length + ([x] : List α).length ≤ lim := by
  have := List.length_filter_le p (l.take i)
  rw [List.length_take] at this
  exact le_lim (by rw [List.length_singleton]; omega)
theorem mdrop0 (l : List Int) (z x : Uas) (ts : List Tk) (Q : List Inf × Unit) (hl : l.length ≤ 2147483648) (ht : ts.length ≤ 2147483640) : ∀ k i n, i + k = ts.length → k < n →
    manage_Drop_L0 n (l, z, x, (dropT l (ts.take i), Q), ts, (ts.length : Int), (i : Int)) = some (Sum.inl (l, z, x, (dropT l ts, Q))) := by
  intro k
  induction k with
  | zero =>
    intro i n hi hn
    obtain ⟨n, rfl⟩ := Nat.exists_eq_succ_of_ne_zero (show n ≠ 0 by omega)
    have h : ¬ ((i : Int) < (ts.length : Int)) := by omega
    simp only [manage_Drop_L0, decide_eq_false h, cond_false]
    rw [List.take_of_length_le (by omega)]
  | succ k ih =>
    intro i n hi hn
    obtain ⟨n, rfl⟩ := Nat.exists_eq_succ_of_ne_zero (show n ≠ 0 by omega)
    have h : ((i : Int) < (ts.length : Int)) := by omega
    have hi' : i < ts.length := by omega
    have ih' := ih (i + 1) n (by omega) (by omega)
    have e : dropT l (ts.take (i + 1)) = dropT l (ts.take i) ++ (if (!decide (ts[i].1 ∈ l)) = true then [ts[i]] else []) := take_filter _ ts i hi'
    have hc : (dropT l (ts.take i)).length + ([ts[i]] : List Tk).length ≤ lim := filter_room _ ts i hi' ht _
    rw [e, ← w64_succ i (by omega)] at ih'
    simp only [manage_Drop_L0, decide_eq_true h, cond_true, ix_at ts i hi', Option.bind_some, cont_eq l _ hl]
    cases hq : decide (ts[i].1 ∈ l) with
    | true =>
      rw [hq] at ih'
      simp only [Bool.not_true, cond_false, jn_inl]
      simpa using ih'
    | false =>
      rw [hq] at ih'
      simp only [Bool.not_false, cond_true, chk_dec hc, Option.bind_some, jn_inl]
      simpa using ih'
theorem mdrop1 (l : List Int) (z : Uas) (T : List Tk) (qs : List Inf) (hl : l.length ≤ 2147483648) (ht : qs.length ≤ 2147483640) : ∀ k i n, i + k = qs.length → k < n →
    manage_Drop_L1 n (l, z, (T, dropQ l (qs.take i), ()), qs, (qs.length : Int), (i : Int)) = some (Sum.inl (z, (T, dropQ l qs, ()))) := by
  intro k
  induction k with
  | zero =>
    intro i n hi hn
    obtain ⟨n, rfl⟩ := Nat.exists_eq_succ_of_ne_zero (show n ≠ 0 by omega)
    have h : ¬ ((i : Int) < (qs.length : Int)) := by omega
    simp only [manage_Drop_L1, decide_eq_false h, cond_false]
    rw [List.take_of_length_le (by omega)]
  | succ k ih =>
    intro i n hi hn
    obtain ⟨n, rfl⟩ := Nat.exists_eq_succ_of_ne_zero (show n ≠ 0 by omega)
    have h : ((i : Int) < (qs.length : Int)) := by omega
    have hi' : i < qs.length := by omega
    have ih' := ih (i + 1) n (by omega) (by omega)
    have e : dropQ l (qs.take (i + 1)) = dropQ l (qs.take i) ++ (if keepQ l qs[i] = true then [qs[i]] else []) := take_filter _ qs i hi'
    have hc : (dropQ l (qs.take i)).length + ([qs[i]] : List Inf).length ≤ lim := filter_room _ qs i hi' ht _
    rw [e, ← w64_succ i (by omega)] at ih'
    simp only [manage_Drop_L1, decide_eq_true h, cond_true, ix_at qs i hi', Option.bind_some, cont_eq l _ hl, or_chain]
    have hk : keepQ l qs[i] = (!(decide (qs[i].1 = 6) || decide (qs[i].1 = 7)) || !decide (qs[i].2.1 ∈ l)) := rfl
    rw [← hk]
    cases hq : keepQ l qs[i] with
    | true =>
      rw [hq] at ih'
      simp only [cond_true, chk_dec hc, Option.bind_some, jn_inl]
      simpa using ih'
    | false =>
      rw [hq] at ih'
      simp only [cond_false, jn_inl]
      simpa using ih'
theorem mdrop_eq (x : Uas) (l : List Int) (hl : l.length ≤ 2147483648) (h1 : x.1.length ≤ 2147483640) (h2 : x.2.1.length ≤ 2147483640) : manage_Drop (x, l) = some (dropU l x) := by
  have L0 := mdrop0 l ([], [], ()) x x.1 ([], ()) hl h1 x.1.length 0 Big (by omega) (big_lt (by omega))
  rw [Int.natCast_zero, List.take_zero] at L0
  have L1 := mdrop1 l ([], [], ()) (dropT l x.1) x.2.1 hl h2 x.2.1.length 0 Big (by omega) (big_lt (by omega))
  rw [Int.natCast_zero, List.take_zero] at L1
  have L0' : manage_Drop_L0 Big (l, x |> fun _ => (([], [], ()) : Uas), ([], [], ()), ([], [], ()), x.1, (x.1.length : Int), 0) = manage_Drop_L0 Big (l, ([], [], ()), ([], [], ()), ([], [], ()), x.1, (x.1.length : Int), 0) := rfl
  unfold manage_Drop
  rw [show manage_Drop_L0 Big ((x, l).2, (x, l).1, ([], [], ()), ([], [], ()), (x, l).1.1, ((x, l).1.1.length : Int), 0) = some (Sum.inl (l, x, ([], [], ()), (dropT l x.1, [], ()))) from by
    have := mdrop0 l x ([], [], ()) x.1 ([], ()) hl h1 x.1.length 0 Big (by omega) (big_lt (by omega))
    rwa [Int.natCast_zero, List.take_zero] at this]
  rw [jn_inl]
  show jn (manage_Drop_L1 Big (l, ([], [], ()), (dropT l x.1, [], ()), x.2.1, (x.2.1.length : Int), 0)) _ = _
  rw [show manage_Drop_L1 Big (l, ([], [], ()), (dropT l x.1, [], ()), x.2.1, (x.2.1.length : Int), 0) = some (Sum.inl (([], [], ()), (dropT l x.1, dropQ l x.2.1, ()))) from L1, jn_inl]
  rfl
theorem rdrop0 (l : List Int) (z x : Uas) (Q : List Inf × Unit) (hl : l.length ≤ 2147483648) (ht : x.1.length ≤ 2147483640) : ∀ k i n, i + k = x.1.length → k < n →
    reticuleref24_Drop_L0 n (l, x, z, (dropT l (x.1.take i), Q), (i : Int)) = some (Sum.inl (l, x, z, (dropT l x.1, Q))) := by
  intro k
  induction k with
  | zero =>
    intro i n hi hn
    obtain ⟨n, rfl⟩ := Nat.exists_eq_succ_of_ne_zero (show n ≠ 0 by omega)
    have h : ¬ ((i : Int) < (x.1.length : Int)) := by omega
    simp only [reticuleref24_Drop_L0, decide_eq_false h, cond_false]
    rw [List.take_of_length_le (by omega)]
  | succ k ih =>
    intro i n hi hn
    obtain ⟨n, rfl⟩ := Nat.exists_eq_succ_of_ne_zero (show n ≠ 0 by omega)
    have h : ((i : Int) < (x.1.length : Int)) := by omega
    have hi' : i < x.1.length := by omega
    have ih' := ih (i + 1) n (by omega) (by omega)
    have e : dropT l (x.1.take (i + 1)) = dropT l (x.1.take i) ++ (if (!decide (x.1[i].1 ∈ l)) = true then [x.1[i]] else []) := take_filter _ x.1 i hi'
    have hc : (dropT l (x.1.take i)).length + ([x.1[i]] : List Tk).length ≤ lim := filter_room _ x.1 i hi' ht _
    rw [e, ← w64_succ i (by omega)] at ih'
    simp only [reticuleref24_Drop_L0, decide_eq_true h, cond_true, ix_at x.1 i hi', Option.bind_some, has_eq l _ hl]
    cases hq : decide (x.1[i].1 ∈ l) with
    | true =>
      rw [hq] at ih'
      simp only [Bool.not_true, cond_false, jn_inl]
      simpa using ih'
    | false =>
      rw [hq] at ih'
      simp only [Bool.not_false, cond_true, chk_dec hc, Option.bind_some, jn_inl]
      simpa using ih'
theorem rdrop1 (l : List Int) (z x : Uas) (T : List Tk) (hl : l.length ≤ 2147483648) (ht : x.2.1.length ≤ 2147483640) : ∀ k i n, i + k = x.2.1.length → k < n →
    reticuleref24_Drop_L1 n (l, x, z, (T, dropQ l (x.2.1.take i), ()), (i : Int)) = some (Sum.inl (z, (T, dropQ l x.2.1, ()))) := by
  intro k
  induction k with
  | zero =>
    intro i n hi hn
    obtain ⟨n, rfl⟩ := Nat.exists_eq_succ_of_ne_zero (show n ≠ 0 by omega)
    have h : ¬ ((i : Int) < (x.2.1.length : Int)) := by omega
    simp only [reticuleref24_Drop_L1, decide_eq_false h, cond_false]
    rw [List.take_of_length_le (by omega)]
  | succ k ih =>
    intro i n hi hn
    obtain ⟨n, rfl⟩ := Nat.exists_eq_succ_of_ne_zero (show n ≠ 0 by omega)
    have h : ((i : Int) < (x.2.1.length : Int)) := by omega
    have hi' : i < x.2.1.length := by omega
    have ih' := ih (i + 1) n (by omega) (by omega)
    have e : dropQ l (x.2.1.take (i + 1)) = dropQ l (x.2.1.take i) ++ (if keepQ l x.2.1[i] = true then [x.2.1[i]] else []) := take_filter _ x.2.1 i hi'
    have hc : (dropQ l (x.2.1.take i)).length + ([x.2.1[i]] : List Inf).length ≤ lim := filter_room _ x.2.1 i hi' ht _
    rw [e, ← w64_succ i (by omega)] at ih'
    simp only [reticuleref24_Drop_L1, decide_eq_true h, cond_true, ix_at x.2.1 i hi', Option.bind_some, has_eq l _ hl, or_chain, and_chain]
    have hk : keepQ l x.2.1[i] = ((!decide (x.2.1[i].1 = 6) && !decide (x.2.1[i].1 = 7)) || !decide (x.2.1[i].2.1 ∈ l)) := by unfold keepQ; rw [Bool.not_or]
    rw [← hk]
    cases hq : keepQ l x.2.1[i] with
    | true =>
      rw [hq] at ih'
      simp only [cond_true, chk_dec hc, Option.bind_some, jn_inl]
      simpa using ih'
    | false =>
      rw [hq] at ih'
      simp only [cond_false, jn_inl]
      simpa using ih'
theorem rdrop_eq (x : Uas) (l : List Int) (hl : l.length ≤ 2147483648) (h1 : x.1.length ≤ 2147483640) (h2 : x.2.1.length ≤ 2147483640) : reticuleref24_Drop (x, l) = some (dropU l x) := by
  unfold reticuleref24_Drop
  rw [show reticuleref24_Drop_L0 Big ((x, l).2, (x, l).1, ([], [], ()), ([], [], ()), 0) = some (Sum.inl (l, x, ([], [], ()), (dropT l x.1, [], ()))) from by
    have := rdrop0 l ([], [], ()) x ([], ()) hl h1 x.1.length 0 Big (by omega) (big_lt (by omega))
    rwa [Int.natCast_zero, List.take_zero] at this]
  rw [jn_inl]
  show jn (reticuleref24_Drop_L1 Big (l, x, ([], [], ()), (dropT l x.1, [], ()), 0)) _ = _
  rw [show reticuleref24_Drop_L1 Big (l, x, ([], [], ()), (dropT l x.1, [], ()), 0) = some (Sum.inl (([], [], ()), (dropT l x.1, dropQ l x.2.1, ()))) from by
    have := rdrop1 l ([], [], ()) x (dropT l x.1) hl h2 x.2.1.length 0 Big (by omega) (big_lt (by omega))
    rwa [Int.natCast_zero, List.take_zero] at this, jn_inl]
  rfl
theorem drop_nil (x : Uas) : dropU [] x = x := by
  obtain ⟨t, q, u⟩ := x
  have h1 : dropT [] t = t := by unfold dropT; rw [List.filter_eq_self]; intro a _; simp
  have h2 : dropQ [] q = q := by unfold dropQ; rw [List.filter_eq_self]; intro a _; simp [keepQ]
  show (dropT [] t, dropQ [] q, ()) = _
  rw [h1, h2]
/-! ### the tags of a unit's tasks; the one that is meant -/
def ofL (lun : Int) (ts : List Tk) : List Int := (ts.filter (fun t => decide (t.2.1 = lun))).map (·.1)
theorem ofL_succ (lun : Int) (ts : List Tk) (i : Nat) (h : i < ts.length) : ofL lun (ts.take (i + 1)) = ofL lun (ts.take i) ++ (if decide (ts[i].2.1 = lun) = true then [ts[i].1] else []) := by
  unfold ofL
  rw [take_filter _ ts i h, List.map_append]
  congr 1
  split <;> rfl
theorem ofL_room (lun : Int) (ts : List Tk) (i : Nat) (h : i < ts.length) (hl : ts.length ≤ 2147483640) (x : Int) : (ofL lun (ts.take i)).length + ([x] : List Int).length ≤ lim := by
  unfold ofL
  rw [List.length_map]
  have := List.length_filter_le (fun t : Tk => decide (t.2.1 = lun)) (ts.take i)
  rw [List.length_take] at this
  exact le_lim (by rw [List.length_singleton]; omega)
theorem ofL_len (lun : Int) (ts : List Tk) : (ofL lun ts).length ≤ ts.length := by
  unfold ofL; rw [List.length_map]; exact List.length_filter_le _ _
theorem of_loop (ts : List Tk) (lun : Int) (ht : ts.length ≤ 2147483640) : ∀ k i n, i + k = ts.length → k < n →
    manage_of_L0 n (lun, ofL lun (ts.take i), ts, (ts.length : Int), (i : Int)) = some (Sum.inl (ofL lun ts)) ∧ reticuleref24_of_L0 n (ts, lun, ofL lun (ts.take i), (i : Int)) = some (Sum.inl (ofL lun ts)) := by
  intro k
  induction k with
  | zero =>
    intro i n hi hn
    obtain ⟨n, rfl⟩ := Nat.exists_eq_succ_of_ne_zero (show n ≠ 0 by omega)
    have h : ¬ ((i : Int) < (ts.length : Int)) := by omega
    simp only [manage_of_L0, reticuleref24_of_L0, decide_eq_false h, cond_false]
    rw [List.take_of_length_le (by omega)]
    exact ⟨rfl, rfl⟩
  | succ k ih =>
    intro i n hi hn
    obtain ⟨n, rfl⟩ := Nat.exists_eq_succ_of_ne_zero (show n ≠ 0 by omega)
    have h : ((i : Int) < (ts.length : Int)) := by omega
    have hi' : i < ts.length := by omega
    have ih' := ih (i + 1) n (by omega) (by omega)
    have hc := ofL_room lun ts i hi' ht ts[i].1
    rw [ofL_succ lun ts i hi', ← w64_succ i (by omega)] at ih'
    simp only [manage_of_L0, reticuleref24_of_L0, decide_eq_true h, cond_true, ix_at ts i hi', Option.bind_some]
    cases hq : decide (ts[i].2.1 = lun) with
    | true =>
      rw [hq] at ih'
      simp only [cond_true, chk_dec hc, Option.bind_some, jn_inl]
      simpa using ih'
    | false =>
      rw [hq] at ih'
      simp only [cond_false, jn_inl]
      simpa using ih'
theorem of_eq24 (ts : List Tk) (lun : Int) (ht : ts.length ≤ 2147483640) : manage_of (ts, lun) = some (ofL lun ts) ∧ reticuleref24_of (ts, lun) = some (ofL lun ts) := by
  have L := of_loop ts lun ht ts.length 0 Big (by omega) (big_lt (by omega))
  rw [Int.natCast_zero, List.take_zero] at L
  have L1 : manage_of_L0 Big (lun, [], ts, (ts.length : Int), 0) = some (Sum.inl (ofL lun ts)) := L.1
  have L2 : reticuleref24_of_L0 Big (ts, lun, [], 0) = some (Sum.inl (ofL lun ts)) := L.2
  simp only [manage_of, reticuleref24_of, L1, L2, jn_inl, and_self]
def meantB (ts : List Tk) (m : Mg) : Bool :=
  match pIx (fP m.2.2.1) ts with
  | some i => match ts[i]? with
    | some t => decide (t.2.1 = m.2.2.2.1)
    | none => false
  | none => false
theorem ixV_some {o : Option Nat} : decide ((0 : Int) ≤ ixV o) = o.isSome := by
  cases o with
  | none => rfl
  | some i => simp [ixV]
theorem meant_eq (x : Uas) (m : Mg) (ht : x.1.length ≤ 2147483640) : manage_meant (x, m) = some (if meantB x.1 m = true then [m.2.2.1] else []) ∧ reticuleref24_meant (x, m) = some (meantB x.1 m) := by
  have key : ((bif decide ((0 : Int) ≤ ixV (pIx (fP m.2.2.1) x.1)) then (ix x.1 (ixV (pIx (fP m.2.2.1) x.1))).bind fun t => some (decide (t.2.1 = m.2.2.2.1)) else some false) : Option Bool) = some (meantB x.1 m) := by
    rw [ixV_some]
    unfold meantB
    cases hp : pIx (fP m.2.2.1) x.1 with
    | none => rfl
    | some i =>
      have hi := pIx_lt hp
      show (ix x.1 (i : Int)).bind _ = _
      rw [ix_at x.1 i hi]
      simp only [List.getElem?_eq_getElem hi]; rfl
  constructor
  · simp only [manage_meant, find_eq x.1 _ ht, Option.bind_some, key]
    cases meantB x.1 m <;> rfl
  · simp only [reticuleref24_meant, ref_find_eq x.1 _ (show x.1.length ≤ 2147483648 by omega), Option.bind_some, key]
end Go.Proofs.Ytgceolpeegfkkaa
