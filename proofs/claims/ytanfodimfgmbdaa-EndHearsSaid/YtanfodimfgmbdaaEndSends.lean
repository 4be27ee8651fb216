/- The plain laws EndSends and EndHears: the answer is true. -/
import Derived.Test.YtanfodimfgmbdaaP4
namespace Go.Proofs.Ytanfodimfgmbdaa
open Go Go.Re
set_option linter.unusedVariables false
set_option linter.unusedSimpArgs false
theorem w64_small (n : Int) (h : -9223372036854775808 ≤ n) (h2 : n < 9223372036854775808) : w64 n = n := by
  exact w64_in h h2
theorem ix_nat {α : Type} (l : List α) (n : Nat) : ix l (n : Int) = l[n]? := by
  simp [ix]
/-- what a host has of the first k packets -/
def cuts (l : List (List (BitVec 8))) (k : Nat) : List (List (BitVec 8)) := (l.take k).map (·.take 64)
theorem cuts_len (l : List (List (BitVec 8))) (k : Nat) (h : k ≤ l.length) : (cuts l k).length = k := by simp [cuts, h]
theorem cuts_get (l : List (List (BitVec 8))) (k i : Nat) (h : k ≤ l.length) (hi : i < k) : (cuts l k)[i]? = some ((l[i]'(by omega)).take 64) := by
  simp [cuts, List.getElem?_take, hi, List.getElem?_eq_getElem (show i < l.length by omega)]
theorem cuts_succ (l : List (List (BitVec 8))) (k : Nat) (h : k < l.length) : cuts l k ++ [l[k].take 64] = cuts l (k + 1) := by
  unfold cuts
  conv => rhs; rw [List.take_add_one, List.getElem?_eq_getElem h]
  simp only [List.map_append, Option.toList, List.map_cons, List.map_nil]
theorem begins_loop (l : List (List (BitVec 8))) (k : Nat) (hk : k ≤ l.length) (hs : l.length ≤ 30) : ∀ m i n, i + m = k → m < n → reticulelaw16_begins_L0 n (cuts l k, l, (i : Int)) = some (Sum.inl ()) := by
  intro m
  induction m with
  | zero =>
    intro i n hi hn
    obtain ⟨n, rfl⟩ := Nat.exists_eq_succ_of_ne_zero (show n ≠ 0 by omega)
    have : ¬ ((i : Int) < ((cuts l k).length : Int)) := by rw [cuts_len l k hk]; omega
    simp only [reticulelaw16_begins_L0, decide_eq_false this, cond_false]
  | succ m ih =>
    intro i n hi hn
    obtain ⟨n, rfl⟩ := Nat.exists_eq_succ_of_ne_zero (show n ≠ 0 by omega)
    have h1 : ((i : Int) < ((cuts l k).length : Int)) := by rw [cuts_len l k hk]; omega
    have h2 : ((l[i]'(by omega)).take 64).length ≤ 2147483648 := by simp; omega
    have h3 : w64 ((i : Int) + 1) = ((i + 1 : Nat) : Int) := by rw [w64_small] <;> omega
    have h4 := ih (i + 1) n (by omega) (by omega)
    rw [← h4]
    simp only [reticulelaw16_begins_L0, decide_eq_true h1, cond_true, ix_nat, cuts_get l k i hk (by omega), List.getElem?_eq_getElem (show i < l.length by omega), Option.bind_some, cut_eq, chk, lim, h2, decide_true, cond_true, Bool.not_true, cond_false, Option.bind_some, h3]
theorem begins_ok (l : List (List (BitVec 8))) (k : Nat) (hk : k ≤ l.length) (hs : l.length ≤ 30) : reticulelaw16_begins (cuts l k, l) = some true := by
  have h : ¬ ((l.length : Int) < ((cuts l k).length : Int)) := by rw [cuts_len l k hk]; omega
  have h0 := begins_loop l k hk hs k 0 Big (by omega) (by show k < 18446744073709551616; omega)
  simp only [reticulelaw16_begins, decide_eq_false h, cond_false, jn]
  rw [show ((0 : Nat) : Int) = 0 from rfl] at h0
  rw [h0]
theorem great_loop (l : List (List (BitVec 8))) (hs : l.length ≤ 30) : ∀ m i n, i + m = l.length → m < n → reticulelaw16_great_L0 n (l, (i : Int)) = some (Sum.inl ()) ∨ reticulelaw16_great_L0 n (l, (i : Int)) = some (Sum.inr true) := by
  intro m
  induction m with
  | zero =>
    intro i n hi hn
    obtain ⟨n, rfl⟩ := Nat.exists_eq_succ_of_ne_zero (show n ≠ 0 by omega)
    have : ¬ ((i : Int) < (l.length : Int)) := by omega
    left
    simp only [reticulelaw16_great_L0, decide_eq_false this, cond_false]
  | succ m ih =>
    intro i n hi hn
    obtain ⟨n, rfl⟩ := Nat.exists_eq_succ_of_ne_zero (show n ≠ 0 by omega)
    have h1 : ((i : Int) < (l.length : Int)) := by omega
    have h3 : w64 ((i : Int) + 1) = ((i + 1 : Nat) : Int) := by rw [w64_small] <;> omega
    simp only [reticulelaw16_great_L0, decide_eq_true h1, cond_true, ix_nat, List.getElem?_eq_getElem (show i < l.length by omega), Option.bind_some, h3]
    by_cases hg : (200 : Int) < ((l[i]'(by omega)).length : Int)
    · right; simp [hg]
    · have := ih (i + 1) n (by omega) (by omega)
      simpa only [decide_eq_false hg, cond_false] using this
theorem great_ok (l : List (List (BitVec 8))) (tr) : reticulelaw16_great (l, tr) = some true ∨ (reticulelaw16_great (l, tr) = some false ∧ l.length ≤ 30 ∧ tr.length ≤ 100) := by
  simp only [reticulelaw16_great]
  by_cases h1 : (30 : Int) < (l.length : Int)
  · left; simp [h1]
  by_cases h2 : (100 : Int) < (tr.length : Int)
  · left; simp [h1, h2]
  have hs : l.length ≤ 30 := by omega
  have ht : tr.length ≤ 100 := by omega
  simp only [h1, h2, decide_false, cond_false, Option.bind_some, jn]
  have h0 := great_loop l hs l.length 0 Big (by omega) (by show l.length < 18446744073709551616; omega)
  rw [show ((0 : Nat) : Int) = 0 from rfl] at h0
  rcases h0 with h0 | h0
  · right; rw [h0]; exact ⟨rfl, hs, ht⟩
  · left; rw [h0]
abbrev End := Bool × (Int × (Bool × (Int × (List (BitVec 8) × Unit))))
theorem in_wait (t d a nx rm) (ht : t = 0 ∨ t = 1) (hl : d.length ≤ 64) : reticuleref16_In ((false, t, true, 0, d, ()), (0, 0, 0, 0, 0, a, 0, 0#64, [], ()), nx, rm) = some ((bif a then (false, w64 (1 - t), false, 0, [], ()) else (false, t, true, 0, d, ())), (4, t, d, ()), false) := by
  have h : (d.length : Int) ≤ 64 := by omega
  rcases ht with rfl | rfl <;> cases a <;> simp [reticuleref16_In, reticuleref16_Right, h, jn]
theorem in_take (t a nx) (ht : t = 0 ∨ t = 1) : reticuleref16_In ((false, t, false, 0, [], ()), (0, 0, 0, 0, 0, a, 0, 0#64, [], ()), nx, true) = some ((bif a then (false, w64 (1 - t), false, 0, [], ()) else (false, t, true, 0, nx.take 64, ())), (4, t, nx.take 64, ()), true) := by
  rcases ht with rfl | rfl <;> cases a <;> simp [reticuleref16_In, reticuleref16_Right, jn, cut_eq]
theorem in_none (t a nx) (ht : t = 0 ∨ t = 1) : reticuleref16_In ((false, t, false, 0, [], ()), (0, 0, 0, 0, 0, a, 0, 0#64, [], ()), nx, false) = some ((false, t, false, 0, [], ()), (2, 0, [], ()), false) := by
  rcases ht with rfl | rfl <;> cases a <;> simp [reticuleref16_In, reticuleref16_Right, jn, cut_eq]
theorem sends_step (l : List (List (BitVec 8))) (tr : List (Bool × (Bool × (Bool × Unit)))) (hs : l.length ≤ 30) (ht : tr.length ≤ 100) (i : Nat) (hi : i < tr.length) (e f : End) (r took) (had had' : List (List (BitVec 8))) (nx nx' m : Nat) (tg tg' : Int) (n : Nat)
    (h1 : ∀ b, (nx < l.length → l[nx]? = some b) → (¬ nx < l.length → b = []) → endpoint_In (e, (0, 0, 0, 0, 0, tr[i].1 && tr[i].2.1, 0, 0#64, [], ()), b, decide ((nx : Int) < (l.length : Int))) = some (f, r, took))
    (h2 : nx' = bif took then nx + 1 else nx) (h3 : nx' ≤ l.length) (h4 : r.1 = 4 ∨ r.1 = 2)
    (h5 : had' = bif (decide (r.1 = 4) && tr[i].1 && decide (r.2.1 = tg)) then had ++ [r.2.2.1] else had) (h6 : tg' = bif (decide (r.1 = 4) && tr[i].1 && decide (r.2.1 = tg)) then 1 - tg else tg)
    (h7 : had' = cuts l m) (h8 : m ≤ nx') (h9 : nx' ≤ m + 1) (htg : tg = 0 ∨ tg = 1) :
    reticulelaw16_EndSends_L0 (n + 1) (l, tr, e, had, (nx : Int), tg, (i : Int)) = reticulelaw16_EndSends_L0 n (l, tr, f, had', (nx' : Int), tg', ((i + 1 : Nat) : Int)) := by
  have hw1 : w64 ((i : Int) + 1) = ((i + 1 : Nat) : Int) := by rw [w64_small] <;> omega
  have hw2 : w64 ((nx : Int) + 1) = ((nx + 1 : Nat) : Int) := by
    have : nx ≤ l.length := by cases took <;> simp at h2 <;> omega
    rw [w64_small] <;> omega
  have hi' : (i : Int) < (tr.length : Int) := by omega
  conv => lhs; unfold reticulelaw16_EndSends_L0
  simp only [decide_eq_true hi', cond_true]
  have pre : ∀ (K : _ → Option (Unit ⊕ Bool)), (∀ b, (nx < l.length → l[nx]? = some b) → (¬ nx < l.length → b = []) → K (l, tr, e, had, (nx : Int), tg, (i : Int), b) = reticulelaw16_EndSends_L0 n (l, tr, f, had', (nx' : Int), tg', ((i + 1 : Nat) : Int))) →
      jn (A := ((List (List (BitVec 8))) × (List (Bool × (Bool × (Bool × Unit)))) × (Bool × (Int × (Bool × (Int × (List (BitVec 8) × Unit))))) × (List (List (BitVec 8))) × Int × Int × Int × (List (BitVec 8)))) (R := (Unit ⊕ Bool)) (bif decide ((nx : Int) < (l.length : Int)) then
          (ix l (nx : Int)).bind fun x3 => some (Sum.inl (l, tr, e, had, (nx : Int), tg, (i : Int), x3))
        else some (Sum.inl (l, tr, e, had, (nx : Int), tg, (i : Int), ([] : List (BitVec 8))))) K = reticulelaw16_EndSends_L0 n (l, tr, f, had', (nx' : Int), tg', ((i + 1 : Nat) : Int)) := by
    intro K hK
    by_cases hn : nx < l.length
    · have hn' : (nx : Int) < (l.length : Int) := by omega
      simp only [decide_eq_true hn', cond_true, ix_nat, List.getElem?_eq_getElem hn, Option.bind_some, jn]
      exact hK _ (fun _ => List.getElem?_eq_getElem hn) (fun h => absurd hn h)
    · have hn' : ¬ (nx : Int) < (l.length : Int) := by omega
      simp only [decide_eq_false hn', cond_false, jn]
      exact hK _ (fun h => absurd h hn) (fun _ => rfl)
  refine pre _ fun b hb1 hb2 => ?_
  have hin := h1 b hb1 hb2
  have gb : (bif tr[i].1 then some tr[i].2.1 else some false : Option Bool) = some (tr[i].1 && tr[i].2.1) := by cases tr[i].1 <;> rfl
  simp only [ix_nat, List.getElem?_eq_getElem hi, Option.bind_some, gb, hin, hw2]
  have step2 : ∀ (K : _ → Option (Unit ⊕ Bool)), jn (A := ((List (List (BitVec 8))) × (List (Bool × (Bool × (Bool × Unit)))) × (Bool × (Int × (Bool × (Int × (List (BitVec 8) × Unit))))) × (List (List (BitVec 8))) × Int × Int × Int × (Int × (Int × (List (BitVec 8) × Unit))))) (R := (Unit ⊕ Bool)) (bif took then
          some (Sum.inl (l, tr, f, had, ((nx + 1 : Nat) : Int), tg, (i : Int), r))
        else some (Sum.inl (l, tr, f, had, (nx : Int), tg, (i : Int), r))) K = K (l, tr, f, had, (nx' : Int), tg, (i : Int), r) := by
    intro K; cases took <;> simp [jn, h2]
  rw [step2]
  have hA : ¬ ((l.length : Int) < (nx' : Int)) := by omega
  have hB : (bif decide ((l.length : Int) < (nx' : Int)) then some true else (bif !decide (r.1 = 4) then some (!decide (r.1 = 2)) else some false : Option Bool).bind fun b10 => some b10 : Option Bool) = some false := by
    rcases h4 with h | h <;> simp [hA, h]
  simp only [hB, Option.bind_some, cond_false]
  have hm : had'.length = m := by rw [h7, cuts_len l m (by omega)]
  have hw : w64 ((1 : Int) - tg) = 1 - tg := by rcases htg with rfl | rfl <;> rfl
  have hlen : had.length + 1 ≤ 2147483648 := by
    have : had.length ≤ had'.length := by rw [h5]; cases (decide (r.1 = 4) && tr[i].1 && decide (r.2.1 = tg)) <;> simp
    omega
  have step3 : ∀ (K : _ → Option (Unit ⊕ Bool)), jn (A := ((List (List (BitVec 8))) × (List (Bool × (Bool × (Bool × Unit)))) × (Bool × (Int × (Bool × (Int × (List (BitVec 8) × Unit))))) × (List (List (BitVec 8))) × Int × Int × Int)) (R := (Unit ⊕ Bool)) ((bif decide (r.1 = 4) then (ix tr (i : Int)).bind fun x12 => some x12.1 else some false : Option Bool).bind fun b13 =>
          (bif b13 then some (decide (r.2.1 = tg)) else some false : Option Bool).bind fun b14 =>
          bif b14 then
            (chk (decide (had.length + ([r.2.2.1] : List (List (BitVec 8))).length ≤ lim))).bind fun _ =>
            some (Sum.inl (l, tr, f, had ++ ([r.2.2.1] : List (List (BitVec 8))), (nx' : Int), 1 - tg, (i : Int)))
          else
            some (Sum.inl (l, tr, f, had, (nx' : Int), tg, (i : Int)))) K = K (l, tr, f, had', (nx' : Int), tg', (i : Int)) := by
    intro K
    rw [h5, h6]
    simp only [ix_nat, List.getElem?_eq_getElem hi, Option.bind_some]
    cases decide (r.1 = 4) <;> cases tr[i].1 <;> cases decide (r.2.1 = tg) <;> simp [jn, chk, lim, hlen]
  simp only [hw]
  rw [step3, h7]
  have hC : ¬ ((nx' : Int) < ((cuts l m).length : Int)) := by rw [← h7, hm]; omega
  have hD : ¬ (((cuts l m).length : Int) < w64 ((nx' : Int) - 1)) := by rw [← h7, hm, w64_small] <;> omega
  simp only [begins_ok l m (by omega) hs, Option.bind_some, Bool.not_true, cond_false, decide_eq_false hC, decide_eq_false hD, hw1]
/-- what holds between an endpoint and a host that asks it -/
def Inv (l : List (List (BitVec 8))) (e : End) (had : List (List (BitVec 8))) (nx : Nat) (tg : Int) : Prop :=
  nx ≤ l.length ∧ ∃ t : Int, (t = 0 ∨ t = 1) ∧
    ((e = (false, t, false, 0, [], ()) ∧ had = cuts l nx ∧ tg = t) ∨
     ∃ p, ∃ h : p < l.length, nx = p + 1 ∧ e = (false, t, true, 0, l[p].take 64, ()) ∧ ((had = cuts l (p + 1) ∧ tg = 1 - t) ∨ (had = cuts l p ∧ tg = t)))
theorem sends_loop (l : List (List (BitVec 8))) (tr : List (Bool × (Bool × (Bool × Unit)))) (hs : l.length ≤ 30) (ht : tr.length ≤ 100) :
    ∀ k i n e had nx tg, i + k = tr.length → k < n → Inv l e had nx tg → reticulelaw16_EndSends_L0 n (l, tr, e, had, (nx : Int), tg, (i : Int)) = some (Sum.inl ()) := by
  intro k
  induction k with
  | zero =>
    intro i n e had nx tg hi hn _
    obtain ⟨n, rfl⟩ := Nat.exists_eq_succ_of_ne_zero (show n ≠ 0 by omega)
    have : ¬ ((i : Int) < (tr.length : Int)) := by omega
    simp only [reticulelaw16_EndSends_L0, decide_eq_false this, cond_false]
  | succ k ih =>
    intro i n e had nx tg hi hn hI
    obtain ⟨n, rfl⟩ := Nat.exists_eq_succ_of_ne_zero (show n ≠ 0 by omega)
    have hi' : i < tr.length := by omega
    obtain ⟨hnx, t, htt, hI | ⟨p, hp, rfl, rfl, hI⟩⟩ := hI
    · obtain ⟨rfl, rfl, rfl⟩ := hI
      have htw : w64 (1 - tg) = 1 - tg ∧ (1 - tg = 0 ∨ 1 - tg = 1) := by rcases htt with rfl | rfl <;> decide
      by_cases hlt : nx < l.length
      · have hlt' : (nx : Int) < (l.length : Int) := by omega
        have hin : ∀ b, (nx < l.length → l[nx]? = some b) → (¬ nx < l.length → b = []) → endpoint_In ((false, tg, false, 0, [], ()), (0, 0, 0, 0, 0, tr[i].1 && tr[i].2.1, 0, 0#64, [], ()), b, decide ((nx : Int) < (l.length : Int))) = some ((bif (tr[i].1 && tr[i].2.1) then (false, w64 (1 - tg), false, 0, [], ()) else (false, tg, true, 0, l[nx].take 64, ())), (4, tg, l[nx].take 64, ()), true) := by
          intro b hb _
          have := hb hlt
          rw [List.getElem?_eq_getElem hlt] at this
          injection this with this
          subst this
          rw [in_eq, decide_eq_true hlt', in_take _ _ _ htt]
        cases hg : tr[i].1 with
        | false =>
          rw [hg] at hin
          rw [sends_step l tr hs ht i hi' _ (false, tg, true, 0, l[nx].take 64, ()) (4, tg, l[nx].take 64, ()) true (cuts l nx) (cuts l nx) nx (nx + 1) nx tg tg n (by rw [hg]; exact hin) rfl (by omega) (Or.inl rfl) (by simp [hg]) (by simp [hg]) rfl (by omega) (by omega) htt]
          exact ih (i + 1) n _ _ _ _ (by omega) (by omega) ⟨by omega, tg, htt, Or.inr ⟨nx, hlt, rfl, rfl, Or.inr ⟨rfl, rfl⟩⟩⟩
        | true =>
          rw [hg] at hin
          cases hb : tr[i].2.1 with
          | false =>
            rw [hb] at hin
            rw [sends_step l tr hs ht i hi' _ (false, tg, true, 0, l[nx].take 64, ()) (4, tg, l[nx].take 64, ()) true (cuts l nx) (cuts l (nx + 1)) nx (nx + 1) (nx + 1) tg (1 - tg) n (by rw [hg, hb]; exact hin) rfl (by omega) (Or.inl rfl) (by simp only [hg, decide_true, Bool.and_self, cond_true]; exact (cuts_succ l nx hlt).symm) (by simp [hg]) rfl (by omega) (by omega) htt]
            exact ih (i + 1) n _ _ _ _ (by omega) (by omega) ⟨by omega, tg, htt, Or.inr ⟨nx, hlt, rfl, rfl, Or.inl ⟨rfl, rfl⟩⟩⟩
          | true =>
            rw [hb] at hin
            rw [sends_step l tr hs ht i hi' _ (false, w64 (1 - tg), false, 0, [], ()) (4, tg, l[nx].take 64, ()) true (cuts l nx) (cuts l (nx + 1)) nx (nx + 1) (nx + 1) tg (1 - tg) n (by rw [hg, hb]; exact hin) rfl (by omega) (Or.inl rfl) (by simp only [hg, decide_true, Bool.and_self, cond_true]; exact (cuts_succ l nx hlt).symm) (by simp [hg]) rfl (by omega) (by omega) htt]
            exact ih (i + 1) n _ _ _ _ (by omega) (by omega) ⟨by omega, 1 - tg, htw.2, Or.inl ⟨by rw [htw.1], rfl, rfl⟩⟩
      · have hlt' : ¬ (nx : Int) < (l.length : Int) := by omega
        have hin : ∀ b, (nx < l.length → l[nx]? = some b) → (¬ nx < l.length → b = []) → endpoint_In ((false, tg, false, 0, [], ()), (0, 0, 0, 0, 0, tr[i].1 && tr[i].2.1, 0, 0#64, [], ()), b, decide ((nx : Int) < (l.length : Int))) = some ((false, tg, false, 0, [], ()), (2, 0, [], ()), false) := by
          intro b _ hb
          rw [in_eq, decide_eq_false hlt', in_none _ _ _ htt]
        rw [sends_step l tr hs ht i hi' _ (false, tg, false, 0, [], ()) (2, 0, [], ()) false (cuts l nx) (cuts l nx) nx nx nx tg tg n hin rfl (by omega) (Or.inr rfl) (by simp) (by simp) rfl (by omega) (by omega) htt]
        exact ih (i + 1) n _ _ _ _ (by omega) (by omega) ⟨by omega, tg, htt, Or.inl ⟨rfl, rfl, rfl⟩⟩
    · have htw : w64 (1 - t) = 1 - t ∧ (1 - t = 0 ∨ 1 - t = 1) ∧ ¬ (t = 1 - t) := by rcases htt with rfl | rfl <;> decide
      have hin : ∀ b, (p + 1 < l.length → l[p + 1]? = some b) → (¬ p + 1 < l.length → b = []) → endpoint_In ((false, t, true, 0, l[p].take 64, ()), (0, 0, 0, 0, 0, tr[i].1 && tr[i].2.1, 0, 0#64, [], ()), b, decide (((p + 1 : Nat) : Int) < (l.length : Int))) = some ((bif (tr[i].1 && tr[i].2.1) then (false, w64 (1 - t), false, 0, [], ()) else (false, t, true, 0, l[p].take 64, ())), (4, t, l[p].take 64, ()), false) := by
        intro b _ _
        rw [in_eq, in_wait _ _ _ _ _ htt (by simp; omega)]
      rcases hI with ⟨rfl, rfl⟩ | ⟨rfl, rfl⟩
      · have he : (decide ((4 : Int) = 4) && tr[i].1 && decide (t = 1 - t)) = false := by simp only [htw.2.2, decide_false, Bool.and_false]
        rw [sends_step l tr hs ht i hi' _ _ (4, t, l[p].take 64, ()) false (cuts l (p + 1)) (cuts l (p + 1)) (p + 1) (p + 1) (p + 1) (1 - t) (1 - t) n hin rfl hnx (Or.inl rfl) (by simp only [htw.2.2, decide_false, Bool.and_false, cond_false]) (by simp only [htw.2.2, decide_false, Bool.and_false, cond_false]) rfl (by omega) (by omega) htw.2.1]
        cases tr[i].1 && tr[i].2.1
        · exact ih (i + 1) n _ _ _ _ (by omega) (by omega) ⟨hnx, t, htt, Or.inr ⟨p, hp, rfl, rfl, Or.inl ⟨rfl, rfl⟩⟩⟩
        · exact ih (i + 1) n _ _ _ _ (by omega) (by omega) ⟨hnx, 1 - t, htw.2.1, Or.inl ⟨by rw [htw.1]; rfl, rfl, rfl⟩⟩
      · cases hg : tr[i].1 with
        | false =>
          rw [hg] at hin
          rw [sends_step l tr hs ht i hi' _ (false, tg, true, 0, l[p].take 64, ()) (4, tg, l[p].take 64, ()) false (cuts l p) (cuts l p) (p + 1) (p + 1) p tg tg n (by rw [hg]; exact hin) rfl hnx (Or.inl rfl) (by simp [hg]) (by simp [hg]) rfl (by omega) (by omega) htt]
          exact ih (i + 1) n _ _ _ _ (by omega) (by omega) ⟨hnx, tg, htt, Or.inr ⟨p, hp, rfl, rfl, Or.inr ⟨rfl, rfl⟩⟩⟩
        | true =>
          rw [hg] at hin
          rw [sends_step l tr hs ht i hi' _ _ (4, tg, l[p].take 64, ()) false (cuts l p) (cuts l (p + 1)) (p + 1) (p + 1) (p + 1) tg (1 - tg) n (by rw [hg]; exact hin) rfl hnx (Or.inl rfl) (by simp only [hg, decide_true, Bool.and_self, cond_true]; exact (cuts_succ l p hp).symm) (by simp [hg]) rfl (by omega) (by omega) htt]
          cases tr[i].2.1
          · exact ih (i + 1) n _ _ _ _ (by omega) (by omega) ⟨hnx, tg, htt, Or.inr ⟨p, hp, rfl, rfl, Or.inl ⟨rfl, rfl⟩⟩⟩
          · exact ih (i + 1) n _ _ _ _ (by omega) (by omega) ⟨hnx, 1 - tg, htw.2.1, Or.inl ⟨by rw [htw.1]; rfl, rfl, rfl⟩⟩
theorem EndSends_pure (x) : reticulelaw16_EndSends x = some true := by
  obtain ⟨l, tr⟩ := x
  simp only [reticulelaw16_EndSends, alive_ok, Option.bind_some, Bool.not_true, cond_false]
  rcases great_ok l tr with h | ⟨h, hs, ht⟩
  · simp [h]
  · have := sends_loop l tr hs ht tr.length 0 Big (false, 0, false, 0, [], ()) [] 0 0 (by omega) (by show tr.length < 18446744073709551616; omega) ⟨by omega, 0, Or.inl rfl, Or.inl ⟨rfl, rfl, rfl⟩⟩
    rw [show ((0 : Nat) : Int) = 0 from rfl] at this
    simp only [h, Option.bind_some, cond_false, jn, this]
theorem out_host (t b tg rm) (ht : t = 0 ∨ t = 1) (hl : b.length ≤ 64) : reticuleref16_Out ((false, t, false, 0, [], ()), (0, 0, 0, 0, tg, false, 0, 0#64, b, ()), rm) = some (bif decide (tg = t) then (bif rm then ((false, 1 - t, false, 0, [], ()), (1, 0, [], ()), true) else ((false, t, false, 0, [], ()), (2, 0, [], ()), false)) else ((false, t, false, 0, [], ()), (1, 0, [], ()), false)) := by
  have h : ¬ (64 : Int) < (b.length : Int) := by omega
  have hw : w64 (1 - t) = 1 - t := by rcases ht with rfl | rfl <;> rfl
  have hr : reticuleref16_Right (false, t, false, 0, [], ()) = some true := by rcases ht with rfl | rfl <;> simp [reticuleref16_Right]
  simp only [reticuleref16_Out, hr, h, hw, Option.bind_some, Bool.not_true, cond_false, decide_false]
  cases decide (tg = t) <;> cases rm <;> rfl
/-- what holds between an endpoint and a host that sends to it -/
def InvH (l : List (List (BitVec 8))) (e : End) (had : List (List (BitVec 8))) (nx : Nat) : Prop :=
  nx ≤ l.length ∧ ((e = (false, (nx : Int) % 2, false, 0, [], ()) ∧ had = cuts l nx) ∨ (nx < l.length ∧ e = (false, 1 - (nx : Int) % 2, false, 0, [], ()) ∧ had = cuts l (nx + 1)))
theorem hears_step (l : List (List (BitVec 8))) (tr : List (Bool × (Bool × (Bool × Unit)))) (hs : l.length ≤ 30) (ht : tr.length ≤ 100) (i : Nat) (hi : i < tr.length) (hg : tr[i].1 = true) (e f : End) (r took) (had had' : List (List (BitVec 8))) (nx nx' m : Nat) (n : Nat) (hnx : nx < l.length)
    (h1 : endpoint_Out (e, (0, 0, 0, 0, (nx : Int) % 2, false, 0, 0#64, l[nx].take 64, ()), tr[i].2.2.1) = some (f, r, took))
    (h2 : nx' = bif decide (r.1 = 1) && tr[i].2.1 then nx + 1 else nx) (h4 : r.1 = 1 ∨ r.1 = 2)
    (h5 : had' = bif took then had ++ [l[nx].take 64] else had) (h7 : had' = cuts l m) (hm' : m ≤ l.length) (h8 : m ≤ nx' + 1) (h9 : nx' ≤ m) :
    reticulelaw16_EndHears_L0 (n + 1) (l, tr, e, had, (nx : Int), (i : Int)) = reticulelaw16_EndHears_L0 n (l, tr, f, had', (nx' : Int), ((i + 1 : Nat) : Int)) := by
  have hw1 : w64 ((i : Int) + 1) = ((i + 1 : Nat) : Int) := by rw [w64_small] <;> omega
  have hw2 : w64 ((nx : Int) + 1) = ((nx + 1 : Nat) : Int) := by rw [w64_small] <;> omega
  have hi' : (i : Int) < (tr.length : Int) := by omega
  have hnx' : (nx : Int) < (l.length : Int) := by omega
  have hmod : (nx : Int).tmod 2 = (nx : Int) % 2 := Int.tmod_eq_emod_of_nonneg (by omega)
  conv => lhs; unfold reticulelaw16_EndHears_L0
  simp only [decide_eq_true hi', decide_eq_true hnx', cond_true, Option.bind_some, ix_nat, List.getElem?_eq_getElem hi, List.getElem?_eq_getElem hnx, hg, Bool.not_true, cond_false, cut_eq, hmod, h1, hw2]
  have hm : had'.length = m := by rw [h7, cuts_len l m hm']
  have hlen : had.length + 1 ≤ 2147483648 := by
    have : had.length ≤ had'.length := by rw [h5]; cases took <;> simp
    omega
  have step2 : ∀ (K : _ → Option (_ ⊕ (Unit ⊕ Bool))), jn (A := ((List (List (BitVec 8))) × (List (Bool × (Bool × (Bool × Unit)))) × (Bool × (Int × (Bool × (Int × (List (BitVec 8) × Unit))))) × (List (List (BitVec 8))) × Int × Int × (Int × (Int × (List (BitVec 8) × Unit))))) (R := (((List (List (BitVec 8))) × (List (Bool × (Bool × (Bool × Unit)))) × (Bool × (Int × (Bool × (Int × (List (BitVec 8) × Unit))))) × (List (List (BitVec 8))) × Int × Int) ⊕ (Unit ⊕ Bool))) (bif took then
              (chk (decide (had.length + ([l[nx].take 64] : List (List (BitVec 8))).length ≤ lim))).bind fun _ =>
              some (Sum.inl (l, tr, f, had ++ ([l[nx].take 64] : List (List (BitVec 8))), (nx : Int), (i : Int), r))
            else
              some (Sum.inl (l, tr, f, had, (nx : Int), (i : Int), r))) K = K (l, tr, f, had', (nx : Int), (i : Int), r) := by
    intro K; cases took <;> simp [jn, h5, chk, lim, hlen]
  rw [step2]
  have step3 : ∀ (K : _ → Option (_ ⊕ (Unit ⊕ Bool))), jn (A := ((List (List (BitVec 8))) × (List (Bool × (Bool × (Bool × Unit)))) × (Bool × (Int × (Bool × (Int × (List (BitVec 8) × Unit))))) × (List (List (BitVec 8))) × Int × Int × (Int × (Int × (List (BitVec 8) × Unit))))) (R := (((List (List (BitVec 8))) × (List (Bool × (Bool × (Bool × Unit)))) × (Bool × (Int × (Bool × (Int × (List (BitVec 8) × Unit))))) × (List (List (BitVec 8))) × Int × Int) ⊕ (Unit ⊕ Bool))) ((bif decide (r.1 = 1) then
                some tr[i].2.1
              else
                some false : Option Bool).bind fun b11 =>
            bif b11 then
              some (Sum.inl (l, tr, f, had', ((nx + 1 : Nat) : Int), (i : Int), r))
            else
              some (Sum.inl (l, tr, f, had', (nx : Int), (i : Int), r))) K = K (l, tr, f, had', (nx' : Int), (i : Int), r) := by
    intro K; rw [h2]; cases decide (r.1 = 1) <;> cases tr[i].2.1 <;> rfl
  simp only [ix_nat, List.getElem?_eq_getElem hi, Option.bind_some, hw2]
  rw [step3]
  have hC : ¬ ((had'.length : Int) < (nx' : Int)) := by omega
  have hn : nx' ≤ 30 := by omega
  have hD : ¬ (w64 ((nx' : Int) + 1) < (had'.length : Int)) := by rw [w64_small] <;> omega
  have hB : ((bif !decide (r.1 = 1) then some (!decide (r.1 = 2)) else some false : Option Bool).bind fun b16 => some b16 : Option Bool) = some false := by
    rcases h4 with h | h <;> simp [h]
  have hbg : reticulelaw16_begins (had', l) = some true := by rw [h7]; exact begins_ok l m hm' hs
  simp only [hbg, Option.bind_some, Bool.not_true, cond_false, decide_eq_false hC, decide_eq_false hD, hB, jn, hw1]
theorem hears_loop (l : List (List (BitVec 8))) (tr : List (Bool × (Bool × (Bool × Unit)))) (hs : l.length ≤ 30) (ht : tr.length ≤ 100) :
    ∀ k i n e had nx, i + k = tr.length → k < n → InvH l e had nx → reticulelaw16_EndHears_L0 n (l, tr, e, had, (nx : Int), (i : Int)) = some (Sum.inl ()) := by
  intro k
  induction k with
  | zero =>
    intro i n e had nx hi hn _
    obtain ⟨n, rfl⟩ := Nat.exists_eq_succ_of_ne_zero (show n ≠ 0 by omega)
    have : ¬ ((i : Int) < (tr.length : Int)) := by omega
    simp only [reticulelaw16_EndHears_L0, decide_eq_false this, cond_false, Option.bind_some]
  | succ k ih =>
    intro i n e had nx hi hn hI
    obtain ⟨n, rfl⟩ := Nat.exists_eq_succ_of_ne_zero (show n ≠ 0 by omega)
    have hi' : i < tr.length := by omega
    have hi2 : (i : Int) < (tr.length : Int) := by omega
    by_cases hnx : nx < l.length
    rotate_left
    · have : ¬ ((nx : Int) < (l.length : Int)) := by omega
      simp only [reticulelaw16_EndHears_L0, decide_eq_true hi2, decide_eq_false this, cond_true, cond_false, Option.bind_some]
    have hnx2 : (nx : Int) < (l.length : Int) := by omega
    cases hg : tr[i].1 with
    | false =>
      have hw1 : w64 ((i : Int) + 1) = ((i + 1 : Nat) : Int) := by rw [w64_small] <;> omega
      have := ih (i + 1) n e had nx (by omega) (by omega) hI
      simpa only [reticulelaw16_EndHears_L0, decide_eq_true hi2, decide_eq_true hnx2, cond_true, Option.bind_some, ix_nat, List.getElem?_eq_getElem hi', hg, Bool.not_false, jn, hw1] using this
    | true =>
      have hb : (l[nx].take 64).length ≤ 64 := by simp; omega
      obtain ⟨_, ⟨rfl, rfl⟩ | ⟨_, rfl, rfl⟩⟩ := hI
      · have hh := out_host ((nx : Int) % 2) (l[nx].take 64) ((nx : Int) % 2) tr[i].2.2.1 (by omega) hb
        rw [← out_eq, decide_eq_true rfl, cond_true] at hh
        cases hr : tr[i].2.2.1 with
        | false =>
          rw [hr] at hh
          rw [hears_step l tr hs ht i hi' hg _ _ _ _ (cuts l nx) (cuts l nx) nx nx nx n hnx (by rw [hr]; exact hh) rfl (Or.inr rfl) rfl rfl (by omega) (by omega) (by omega)]
          exact ih (i + 1) n _ _ _ (by omega) (by omega) ⟨by omega, Or.inl ⟨rfl, rfl⟩⟩
        | true =>
          rw [hr] at hh
          cases hk : tr[i].2.1 with
          | false =>
            rw [hears_step l tr hs ht i hi' hg _ _ _ true (cuts l nx) (cuts l (nx + 1)) nx nx (nx + 1) n hnx (by rw [hr]; exact hh) (by rw [hk]; rfl) (Or.inl rfl) (cuts_succ l nx hnx).symm rfl (by omega) (by omega) (by omega)]
            exact ih (i + 1) n _ _ _ (by omega) (by omega) ⟨by omega, Or.inr ⟨hnx, rfl, rfl⟩⟩
          | true =>
            rw [hears_step l tr hs ht i hi' hg _ _ _ true (cuts l nx) (cuts l (nx + 1)) nx (nx + 1) (nx + 1) n hnx (by rw [hr]; exact hh) (by rw [hk]; rfl) (Or.inl rfl) (cuts_succ l nx hnx).symm rfl (by omega) (by omega) (by omega)]
            exact ih (i + 1) n _ _ _ (by omega) (by omega) ⟨by omega, Or.inl ⟨by rw [show (((nx + 1 : Nat) : Int) % 2) = 1 - (nx : Int) % 2 by omega], rfl⟩⟩
      · have hh := out_host (1 - (nx : Int) % 2) (l[nx].take 64) ((nx : Int) % 2) tr[i].2.2.1 (by omega) hb
        have hne : ¬ ((nx : Int) % 2 = 1 - (nx : Int) % 2) := by omega
        rw [← out_eq, decide_eq_false hne, cond_false] at hh
        cases hk : tr[i].2.1 with
        | false =>
          rw [hears_step l tr hs ht i hi' hg _ _ _ _ (cuts l (nx + 1)) (cuts l (nx + 1)) nx nx (nx + 1) n hnx hh (by rw [hk]; rfl) (Or.inl rfl) rfl rfl (by omega) (by omega) (by omega)]
          exact ih (i + 1) n _ _ _ (by omega) (by omega) ⟨by omega, Or.inr ⟨hnx, rfl, rfl⟩⟩
        | true =>
          rw [hears_step l tr hs ht i hi' hg _ _ _ _ (cuts l (nx + 1)) (cuts l (nx + 1)) nx (nx + 1) (nx + 1) n hnx hh (by rw [hk]; rfl) (Or.inl rfl) rfl rfl (by omega) (by omega) (by omega)]
          exact ih (i + 1) n _ _ _ (by omega) (by omega) ⟨by omega, Or.inl ⟨by rw [show (((nx + 1 : Nat) : Int) % 2) = 1 - (nx : Int) % 2 by omega], rfl⟩⟩
theorem EndHears_pure (x) : reticulelaw16_EndHears x = some true := by
  obtain ⟨l, tr⟩ := x
  simp only [reticulelaw16_EndHears, alive_ok, Option.bind_some, Bool.not_true, cond_false]
  rcases great_ok l tr with h | ⟨h, hs, ht⟩
  · simp [h]
  · have := hears_loop l tr hs ht tr.length 0 Big (false, 0, false, 0, [], ()) [] 0 (by omega) (by show tr.length < 18446744073709551616; omega) ⟨by omega, Or.inl ⟨rfl, rfl⟩⟩
    rw [show ((0 : Nat) : Int) = 0 from rfl] at this
    simp only [h, Option.bind_some, cond_false, jn, this]
end Go.Proofs.Ytanfodimfgmbdaa
