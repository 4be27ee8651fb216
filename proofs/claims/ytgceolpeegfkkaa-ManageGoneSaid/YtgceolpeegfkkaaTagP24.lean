/- Plain laws of chapter 23: tables of tasks. -/
import Derived.Test.YtgceolpeegfkkaaRgA
import Derived.Test.YtgceolpeegfkkaaXF
import Derived.KernelRfl
namespace Go.Proofs.Ytgceolpeegfkkaa
open Go Go.Re
set_option linter.unusedVariables false
set_option linter.unusedSimpArgs false
abbrev BY := List (BitVec 8)
abbrev Cm := Int × (BitVec 64 × (Int × (Int × (Int × Unit))))
abbrev Sn := Int × (Int × (Int × Unit))
abbrev Jb := Cm × (Int × (Int × (BY × (Sn × Unit))))
abbrev Tk := Int × (Int × (BY × (Int × (BY × (Jb × (Sn × Unit))))))
theorem and_chain (a b : Bool) : (bif a then some b else some false : Option Bool) = some (a && b) := by cases a <;> rfl
theorem or_chain (a b : Bool) : (bif a then some true else some b : Option Bool) = some (a || b) := by cases a <;> rfl
/-! ### the first one of some -/
def pIx (p : Tk → Bool) : List Tk → Option Nat
  | [] => none
  | t :: r => bif p t then some 0 else (pIx p r).map (· + 1)
theorem pIx_none {p : Tk → Bool} : ∀ {l : List Tk}, pIx p l = none ↔ ∀ t ∈ l, p t = false
  | [] => by simp [pIx]
  | t :: r => by
    unfold pIx
    cases hp : p t with
    | true => simp [hp]
    | false =>
      simp only [cond_false, Option.map_eq_none_iff, pIx_none (l := r), List.mem_cons, forall_eq_or_imp, hp, true_and]
theorem pIx_lt {p : Tk → Bool} : ∀ {l : List Tk} {i : Nat}, pIx p l = some i → i < l.length
  | [], _, h => by cases h
  | t :: r, i, h => by
    unfold pIx at h
    cases hp : p t with
    | true => rw [hp] at h; cases h; simp
    | false =>
      rw [hp] at h
      obtain ⟨j, h1, rfl⟩ := Option.map_eq_some_iff.1 h
      have := pIx_lt h1
      simp only [List.length_cons]; omega
theorem pIx_take {p : Tk → Bool} : ∀ {l : List Tk} {i : Nat}, pIx p l = some i → (∀ t ∈ l.take i, p t = false) ∧ ∃ h : i < l.length, p l[i] = true
  | [], _, h => by cases h
  | t :: r, i, h => by
    unfold pIx at h
    cases hp : p t with
    | true => rw [hp] at h; cases h; exact ⟨by simp, by simp, hp⟩
    | false =>
      rw [hp] at h
      obtain ⟨j, h1, rfl⟩ := Option.map_eq_some_iff.1 h
      obtain ⟨h2, h3, h4⟩ := pIx_take h1
      refine ⟨?_, by simpa using h3, by simpa using h4⟩
      intro x hx
      simp only [List.take_succ_cons, List.mem_cons] at hx
      rcases hx with rfl | hx
      · exact hp
      · exact h2 x hx
def ixV : Option Nat → Int
  | some i => (i : Int)
  | none => -1
def fP (tag : Int) : Tk → Bool := fun t => decide (t.1 = tag)
def sP (lun : Int) : Tk → Bool := fun t => decide (lun = -1) || decide (t.2.1 = lun)
theorem tags_Find_1_p (c : Int) (t : Tk) : tags_Find_1 (t, c) = some (fP c t) := rfl
theorem slices_IndexFunc_api_Task_c58_loop (l : List Tk) (c : Int) (hl : l.length ≤ 2147483648) : ∀ k i n, i + k = l.length → k < n →
    slices_IndexFunc_api_Task_c58_L0 n (l, c, (l.length : Int), (i : Int)) = some (match pIx (fP c) (l.drop i) with | some j => Sum.inr ((i + j : Nat) : Int) | none => Sum.inl ()) := by
  intro k
  induction k with
  | zero =>
    intro i n hi hn
    obtain ⟨n, rfl⟩ := Nat.exists_eq_succ_of_ne_zero (show n ≠ 0 by omega)
    have h : ¬ ((i : Int) < (l.length : Int)) := by omega
    simp only [slices_IndexFunc_api_Task_c58_L0, decide_eq_false h, cond_false]
    rw [List.drop_of_length_le (by omega)]; rfl
  | succ k ih =>
    intro i n hi hn
    obtain ⟨n, rfl⟩ := Nat.exists_eq_succ_of_ne_zero (show n ≠ 0 by omega)
    have h : ((i : Int) < (l.length : Int)) := by omega
    have hi' : i < l.length := by omega
    have hd : l.drop i = l[i] :: l.drop (i + 1) := List.drop_eq_getElem_cons hi'
    have hp : tags_Find_1 (l[i], c) = some (fP c l[i]) := tags_Find_1_p c l[i]
    simp only [slices_IndexFunc_api_Task_c58_L0, decide_eq_true h, cond_true, ix_at l i hi', Option.bind_some, hp]
    rw [hd]
    unfold pIx
    cases hq : fP c l[i] with
    | true => simp
    | false =>
      simp only [cond_false, w64_succ i (by omega), ih (i + 1) n (by omega) (by omega)]
      cases pIx (fP c) (l.drop (i + 1)) with
      | none => rfl
      | some j => simp only [Option.map_some]; congr 3; omega
theorem slices_IndexFunc_api_Task_c58_law (l : List Tk) (c : Int) (hl : l.length ≤ 2147483648) : slices_IndexFunc_api_Task_c58 (l, c) = some (ixV (pIx (fP c) l)) := by
  have L := slices_IndexFunc_api_Task_c58_loop l c hl l.length 0 Big (by omega) (big_lt (by omega))
  rw [Int.natCast_zero, List.drop_zero] at L
  simp only [slices_IndexFunc_api_Task_c58, L]
  cases pIx (fP c) l with
  | none => rfl
  | some j => simp only [Nat.zero_add]; rfl
/-! ### where the tasks stand -/
def mayB (x : Int) : Bool := decide (1 ≤ x ∧ x ≤ 65535)
theorem may_eq (x : Int) : tags_may x = some (mayB x) := by
  simp only [tags_may, and_chain, Option.bind_some]
  congr 1
  rw [Bool.eq_iff_iff, Bool.and_eq_true, decide_eq_true_eq, decide_eq_true_eq]
  unfold mayB
  rw [decide_eq_true_eq]; omega
def keyOf (x : Int) : BY := [BitVec.ofInt 8 (x / 256), BitVec.ofInt 8 x]
theorem of_eq (x : Int) : tags_of x = some (keyOf x) := by
  simp only [tags_of]
  unfold shrI
  rw [show (((8#64).toNat : Int)).toNat = 8 from rfl, show ((2 : Int) ^ min 8 64) = 256 from rfl, Int.fdiv_eq_ediv_of_nonneg _ (by omega)]
  rfl
theorem keyOf_inj {x y : Int} (hx : mayB x = true) (hy : mayB y = true) : keyOf x = keyOf y ↔ x = y := by
  constructor
  · intro h
    unfold keyOf at h
    unfold mayB at hx hy
    rw [decide_eq_true_eq] at hx hy
    injection h with h1 h2
    injection h2 with h2
    have e1 := congrArg (fun b : BitVec 8 => (b.toNat : Int)) h1
    have e2 := congrArg (fun b : BitVec 8 => (b.toNat : Int)) h2
    simp only [ofInt8] at e1 e2
    omega
  · rintro rfl; rfl
theorem mpGet_put {V : Type} : ∀ (m : List (BY × V)) (k k' : BY) (v : V), mpGet (mpPut m k v) k' = if k' = k then some v else mpGet m k'
  | [], k, k', v => by
    by_cases h : k' = k
    · simp [mpPut, mpGet, h]
    · simp [mpPut, mpGet, h]
  | p :: r, k, k', v => by
    unfold mpPut
    by_cases h : k = p.1
    · rw [decide_eq_true h, cond_true]
      unfold mpGet
      by_cases h2 : k' = k
      · simp [h2]
      · simp [h2, h ▸ h2]
    · rw [decide_eq_false h, cond_false]
      unfold mpGet
      by_cases h2 : k' = p.1
      · simp only [decide_eq_true h2, cond_true]
        rw [if_neg (fun e : k' = k => h (e.symm.trans h2))]
      · simp only [decide_eq_false h2, cond_false]
        exact mpGet_put r k k' v
theorem mpPut_len {V : Type} : ∀ (m : List (BY × V)) (k : BY) (v : V), (mpPut m k v).length = m.length + (if mpGet m k = none then 1 else 0)
  | [], k, v => by simp [mpPut, mpGet]
  | p :: r, k, v => by
    unfold mpPut mpGet
    by_cases h : k = p.1
    · simp [h]
    · simp only [decide_eq_false h, cond_false, List.length_cons, mpPut_len r k v]; omega
def plc : Nat → List Tk → List (BY × Int)
  | _, [] => []
  | i, t :: r => bif mayB t.1 then mpPut (plc (i + 1) r) (keyOf t.1) (i : Int) else plc (i + 1) r
theorem plc_get : ∀ (l : List Tk) (i : Nat) (tag : Int), mayB tag = true → mpGet (plc i l) (keyOf tag) = (pIx (fP tag) l).map fun j => ((i + j : Nat) : Int)
  | [], _, _, _ => rfl
  | t :: r, i, tag, h => by
    unfold plc pIx
    have ih := plc_get r (i + 1) tag h
    have tail : ∀ o : Option Nat, o.map (fun j => ((i + 1 + j : Nat) : Int)) = (o.map (· + 1)).map fun j => ((i + j : Nat) : Int) := by
      intro o; cases o with
      | none => rfl
      | some j => simp only [Option.map_some]; congr 2; omega
    cases hm : mayB t.1 with
    | true =>
      rw [cond_true, mpGet_put]
      by_cases he : t.1 = tag
      · rw [if_pos (by rw [he])]
        have : fP tag t = true := decide_eq_true he
        rw [this]; rfl
      · rw [if_neg (fun e => he ((keyOf_inj h hm).1 e).symm), ih]
        have : fP tag t = false := decide_eq_false he
        rw [this, cond_false]; exact tail _
    | false =>
      rw [cond_false, ih]
      have : fP tag t = false := by
        refine decide_eq_false fun e => ?_
        rw [e, h] at hm; cases hm
      rw [this, cond_false]; exact tail _
theorem plc_le : ∀ (l : List Tk) (i : Nat), (plc i l).length ≤ l.length
  | [], _ => by simp [plc]
  | t :: r, i => by
    have := plc_le r (i + 1)
    unfold plc
    cases mayB t.1 with
    | true => rw [cond_true, mpPut_len, List.length_cons]; split <;> omega
    | false => rw [cond_false, List.length_cons]; omega
/-- each tag may be, and is there once -/
def Good : List Tk → Prop
  | [] => True
  | t :: r => mayB t.1 = true ∧ pIx (fP t.1) r = none ∧ Good r
theorem plc_good : ∀ (l : List Tk) (i : Nat), (plc i l).length = l.length ↔ Good l
  | [], _ => by simp [plc, Good]
  | t :: r, i => by
    have hle := plc_le r (i + 1)
    have ih := plc_good r (i + 1)
    unfold plc Good
    cases hm : mayB t.1 with
    | true =>
      rw [cond_true, mpPut_len, List.length_cons, plc_get r (i + 1) t.1 hm]
      cases hx : pIx (fP t.1) r with
      | none => simp [ih]
      | some j => simp; omega
    | false =>
      rw [cond_false, List.length_cons]
      simp; omega
theorem places_loop (l : List Tk) (hl : l.length ≤ 2147483640) : ∀ i n, i ≤ l.length → i < n → tags_places_L0 n (l, plc i (l.drop i), (i : Int) - 1) = some (Sum.inl (plc 0 l)) := by
  intro i
  induction i with
  | zero =>
    intro n hi hn
    obtain ⟨n, rfl⟩ := Nat.exists_eq_succ_of_ne_zero (show n ≠ 0 by omega)
    have h : ¬ ((0 : Int) ≤ ((0 : Nat) : Int) - 1) := by omega
    simp only [tags_places_L0, decide_eq_false h, cond_false, List.drop_zero]
  | succ i ih =>
    intro n hi hn
    obtain ⟨n, rfl⟩ := Nat.exists_eq_succ_of_ne_zero (show n ≠ 0 by omega)
    have e : ((i + 1 : Nat) : Int) - 1 = (i : Int) := by omega
    have h : ((0 : Int) ≤ (i : Int)) := by omega
    have hi' : i < l.length := by omega
    have hd : l.drop i = l[i] :: l.drop (i + 1) := List.drop_eq_getElem_cons hi'
    have hw : w64 ((i : Int) - 1) = (i : Int) - 1 := w64_in (by omega) (by omega)
    have ih' := ih n (by omega) (by omega)
    rw [hd] at ih'
    have hlen := plc_le (l.drop (i + 1)) (i + 1)
    have hc : (plc (i + 1) (l.drop (i + 1))).length + 1 ≤ lim := le_lim (by rw [List.length_drop] at hlen; omega)
    rw [e]
    simp only [tags_places_L0, decide_eq_true h, cond_true, ix_at l i hi', Option.bind_some, may_eq, of_eq, chk_dec hc]
    have hplc : plc i (l[i] :: l.drop (i + 1)) = bif mayB l[i].1 then mpPut (plc (i + 1) (l.drop (i + 1))) (keyOf l[i].1) (i : Int) else plc (i + 1) (l.drop (i + 1)) := rfl
    rw [hplc] at ih'
    cases hm : mayB l[i].1 with
    | true =>
      rw [hm, cond_true] at ih'
      simp only [cond_true, jn_inl, hw]; exact ih'
    | false =>
      rw [hm, cond_false] at ih'
      simp only [cond_false, jn_inl, hw]; exact ih'
theorem places_eq (l : List Tk) (hl : l.length ≤ 2147483640) : tags_places l = some (plc 0 l) := by
  have L := places_loop l hl l.length Big (Nat.le_refl _) (big_lt (by omega))
  rw [List.drop_length, show plc l.length [] = [] from rfl] at L
  have hw : w64 ((l.length : Int) - 1) = (l.length : Int) - 1 := w64_in (by omega) (by omega)
  simp only [tags_places, hw, L, jn_inl]
theorem find_eq (l : List Tk) (tag : Int) (hl : l.length ≤ 2147483640) : tags_Find (l, tag) = some (ixV (pIx (fP tag) l)) := by
  simp only [tags_Find, may_eq, Option.bind_some]
  cases hm : mayB tag with
  | false => simp only [Bool.not_false, cond_true, slices_IndexFunc_api_Task_c58_law l tag (by omega), Option.bind_some]
  | true =>
    simp only [Bool.not_true, cond_false, places_eq l hl, of_eq, Option.bind_some, plc_get l 0 tag hm]
    cases pIx (fP tag) l with
    | none => rfl
    | some j => simp only [Option.map_some, Option.isSome_some, cond_true, Option.getD_some, Nat.zero_add]; rfl
theorem ref_find_loop (l : List Tk) (c : Int) (hl : l.length ≤ 2147483648) : ∀ k i n, i + k = l.length → k < n →
    reticuleref23_Find_L0 n (l, c, (i : Int)) = some (match pIx (fP c) (l.drop i) with | some j => Sum.inr ((i + j : Nat) : Int) | none => Sum.inl ()) := by
  intro k
  induction k with
  | zero =>
    intro i n hi hn
    obtain ⟨n, rfl⟩ := Nat.exists_eq_succ_of_ne_zero (show n ≠ 0 by omega)
    have h : ¬ ((i : Int) < (l.length : Int)) := by omega
    simp only [reticuleref23_Find_L0, decide_eq_false h, cond_false]
    rw [List.drop_of_length_le (by omega)]; rfl
  | succ k ih =>
    intro i n hi hn
    obtain ⟨n, rfl⟩ := Nat.exists_eq_succ_of_ne_zero (show n ≠ 0 by omega)
    have h : ((i : Int) < (l.length : Int)) := by omega
    have hi' : i < l.length := by omega
    have hd : l.drop i = l[i] :: l.drop (i + 1) := List.drop_eq_getElem_cons hi'
    simp only [reticuleref23_Find_L0, decide_eq_true h, cond_true, ix_at l i hi', Option.bind_some]
    rw [hd]
    unfold pIx
    have hf : fP c l[i] = decide (l[i].1 = c) := rfl
    rw [hf]
    cases hq : decide (l[i].1 = c) with
    | true => simp
    | false =>
      simp only [cond_false, w64_succ i (by omega), ih (i + 1) n (by omega) (by omega)]
      cases pIx (fP c) (l.drop (i + 1)) with
      | none => rfl
      | some j => simp only [Option.map_some]; congr 3; omega
theorem ref_find_eq (l : List Tk) (c : Int) (hl : l.length ≤ 2147483648) : reticuleref23_Find (l, c) = some (ixV (pIx (fP c) l)) := by
  have L := ref_find_loop l c hl l.length 0 Big (by omega) (big_lt (by omega))
  rw [Int.natCast_zero, List.drop_zero] at L
  simp only [reticuleref23_Find, L]
  cases pIx (fP c) l with
  | none => rfl
  | some j => simp only [Nat.zero_add]; rfl
end Go.Proofs.Ytgceolpeegfkkaa
