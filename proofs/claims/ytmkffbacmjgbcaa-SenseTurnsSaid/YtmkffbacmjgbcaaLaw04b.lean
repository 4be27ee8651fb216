/- The plain law of chapter 4's many acts: each answer is true. -/
import Derived.Test.YtmkffbacmjgbcaaLaw04
namespace Go.Proofs.Ytmkffbacmjgbcaa
open Go Go.Re
set_option linter.unusedVariables false
set_option linter.unusedSimpArgs false
def OF : List Sense := [(6, 41, 0, ()), (6, 41, 2, ()), (6, 41, 3, ()), (6, 41, 7, ()), (6, 40, 0, ())]
theorem addL_le (l : List Sense) (s : Sense) (hl : l.length ≤ 4) : (addL l s).length ≤ 4 := by
  unfold addL
  split
  · exact hl
  · split
    · simp
    · split
      · exact hl
      · simp; omega
theorem turn_step (acts : List (BitVec 8)) (l : List Sense) (hl : l.length ≤ 4) (i n : Nat) (hi : i < acts.length) (ha : acts.length ≤ 1000) :
    ∃ l' : List Sense, l'.length ≤ 4 ∧ reticulelaw04_SenseTurns_L0 (n + 1) (acts, OF, l, l, (i : Int)) = reticulelaw04_SenseTurns_L0 n (acts, OF, l', l', ((i + 1 : Nat) : Int)) := by
  have h : ((i : Int) < (acts.length : Int)) := by omega
  have hw := w64_succ i (by omega)
  obtain ⟨m, hm, hm6⟩ : ∃ m : Nat, (acts[i] % 6#8).toNat = m ∧ m < 6 := by
    refine ⟨(acts[i] % 6#8).toNat, rfl, ?_⟩
    rw [BitVec.toNat_umod]
    exact Nat.mod_lt _ (by decide)
  by_cases h5 : m = 5
  · subst h5
    have h55 : ((5 : Nat) : Int) = 5 := rfl
    cases l with
    | nil =>
      refine ⟨[], by simp, ?_⟩
      conv => lhs; unfold reticulelaw04_SenseTurns_L0
      simp only [decide_eq_true h, cond_true, ix_at acts i hi, Option.bind_some, hm, h55, decide_true]
      have f : sense_First [] = some ((0, 0, 0, ()), []) := rfl
      have g : sense_Good (0, 0, 0, ()) = some true := rfl
      simp only [f, g, Option.bind_some, List.length_nil, Int.natCast_zero, decide_true, cond_true, Bool.not_true, cond_false, show decide ((0 : Int) < 0) = false from rfl, jn_inl, hw]
    | cons a r =>
      refine ⟨r, by simp at hl; omega, ?_⟩
      have hne : ¬ (((a :: r).length : Int) = 0) := by simp only [List.length_cons]; omega
      have hpos : (0 : Int) < ((a :: r).length : Int) := by simp only [List.length_cons]; omega
      have c : (decide (0 ≤ (1 : Int)) && decide ((1 : Int) ≤ ((a :: r).length : Int))) = true := by
        simp only [Bool.and_eq_true, decide_eq_true_eq]; omega
      have i0 := ix_at (a :: r) 0 (by simp)
      rw [Int.natCast_zero] at i0
      have i0' : ix (a :: r) 0 = some a := i0
      have f : sense_First (a :: r) = some (a, r) := by
        simp only [sense_First, decide_eq_false hne, cond_false, i0', chk_true c, Option.bind_some]; rfl
      have c2 : ([] : List Sense).length + ((a :: r).drop (1 : Int).toNat).length ≤ lim := by
        simp at hl
        show 0 + r.length ≤ 2147483648; omega
      have hd : (a :: r).drop (1 : Int).toNat = r := rfl
      rw [hd] at c2
      conv => lhs; unfold reticulelaw04_SenseTurns_L0
      simp only [decide_eq_true h, cond_true, ix_at acts i hi, Option.bind_some, hm, h55, decide_true, f, decide_eq_false hne, cond_false, decide_eq_true hpos, i0', sense_dec, Bool.not_true, chk_true c, hd, chk_dec c2, List.nil_append, jn_inl, hw]
  · have hm5 : m < 5 := by omega
    have hmi : ¬ ((m : Int) = 5) := by omega
    have hin : inLen (m : Int) 5 = true := inLen_nat hm5
    obtain ⟨s, hs⟩ : ∃ s, OF[m]? = some s := ⟨_, List.getElem?_eq_getElem (show m < OF.length from hm5)⟩
    refine ⟨addL l s, addL_le l s hl, ?_⟩
    have hadd := (add_eq l s (by omega)).1
    have hlen4 : ¬ ((4 : Int) < ((addL l s).length : Int)) := by have := addL_le l s hl; omega
    have hsame := same_self (addL l s) (by have := addL_le l s hl; omega)
    conv => lhs; unfold reticulelaw04_SenseTurns_L0
    simp only [decide_eq_true h, cond_true, ix_at acts i hi, Option.bind_some, hm, decide_eq_false hmi, cond_false, chk_true hin, Int.toNat_natCast, hs, hadd, has_eq l s (by omega)]
    have p0 : OF[(0 : Int).toNat]? = some powerOn := rfl
    have in0 : inLen 0 5 = true := rfl
    have fin : ∀ o : List Sense, o = addL l s → (reticuleref04_Same (addL l s, o)).bind (fun r32 =>
          (bif !r32 then some true else some (decide (4 < ((addL l s).length : Int))) : Option Bool).bind fun b33 =>
          bif b33 then some (Sum.inr (Sum.inr false)) else
            some (Sum.inl (acts, OF, addL l s, o, (i : Int)))) = (some (Sum.inl (acts, OF, addL l s, addL l s, (i : Int))) : Option (_ ⊕ ((List Sense × List Sense) ⊕ Bool))) := by
      intro o ho
      subst ho
      simp only [hsame, Option.bind_some, Bool.not_true, cond_false, decide_eq_false hlen4]
    by_cases hz : m = 0
    · subst hz
      have hsp : s = powerOn := by
        have : OF[0]? = some powerOn := rfl
        rw [this] at hs; injection hs with hs; exact hs.symm
      subst hsp
      simp only [Int.natCast_zero, decide_true, cond_true, chk_true in0, p0, Option.bind_some, has_eq l powerOn (by omega)]
      by_cases hmem : powerOn ∈ l
      · have e : addL l powerOn = l := by unfold addL; rw [if_pos hmem]
        have fin' := fin l e.symm
        rw [e] at fin' ⊢
        simp only [decide_eq_true hmem, Bool.not_true, cond_false, Option.bind_some, jn_inl, fin', hw]
      · have e : addL l powerOn = [powerOn] := by unfold addL; rw [if_neg hmem, if_pos rfl]
        have fin' := fin [powerOn] e.symm
        rw [e] at fin' ⊢
        simp only [decide_eq_false hmem, Bool.not_false, cond_true, Option.bind_some, jn_inl, fin', hw]
    · have hz' : ¬ ((m : Int) = 0) := by omega
      have hsp : s ≠ powerOn := by
        have : m = 1 ∨ m = 2 ∨ m = 3 ∨ m = 4 := by omega
        rcases this with rfl | rfl | rfl | rfl <;> (injection hs with hs; subst hs; decide)
      simp only [decide_eq_false hz', cond_false, Option.bind_some]
      by_cases hmem : s ∈ l
      · have e : addL l s = l := by unfold addL; rw [if_pos hmem]
        have fin' := fin l e.symm
        rw [e] at fin' ⊢
        simp only [decide_eq_true hmem, Bool.not_true, cond_false, Option.bind_some, jn_inl, fin', hw]
      · by_cases h4 : 4 ≤ l.length
        · have h4' : ¬ ((l.length : Int) < 4) := by omega
          have e : addL l s = l := by unfold addL; rw [if_neg hmem, if_neg hsp, if_pos h4]
          have fin' := fin l e.symm
          rw [e] at fin' ⊢
          simp only [decide_eq_false hmem, Bool.not_false, cond_true, decide_eq_false h4', cond_false, Option.bind_some, jn_inl, fin', hw]
        · have h4' : ((l.length : Int) < 4) := by omega
          have c2 : l.length + ([s] : List Sense).length ≤ lim := by show _ + 1 ≤ 2147483648; omega
          have e : addL l s = l ++ [s] := by unfold addL; rw [if_neg hmem, if_neg hsp, if_neg h4]
          have fin' := fin (l ++ [s]) e.symm
          rw [e] at fin' ⊢
          simp only [decide_eq_false hmem, Bool.not_false, cond_true, decide_eq_true h4', Option.bind_some, chk_dec c2, jn_inl, fin', hw]
theorem turn_loop (acts : List (BitVec 8)) (ha : acts.length ≤ 1000) : ∀ k i n (l : List Sense), i + k = acts.length → k < n → l.length ≤ 4 →
    ∃ l' : List Sense, l'.length ≤ 4 ∧ reticulelaw04_SenseTurns_L0 n (acts, OF, l, l, (i : Int)) = some (Sum.inl (l', l')) := by
  intro k
  induction k with
  | zero =>
    intro i n l hi hn hl
    obtain ⟨n, rfl⟩ := Nat.exists_eq_succ_of_ne_zero (show n ≠ 0 by omega)
    have h : ¬ ((i : Int) < (acts.length : Int)) := by omega
    refine ⟨l, hl, ?_⟩
    unfold reticulelaw04_SenseTurns_L0
    rw [decide_eq_false h, cond_false]
  | succ k ih =>
    intro i n l hi hn hl
    obtain ⟨n, rfl⟩ := Nat.exists_eq_succ_of_ne_zero (show n ≠ 0 by omega)
    obtain ⟨l1, h1, e1⟩ := turn_step acts l hl i n (by omega) ha
    obtain ⟨l2, h2, e2⟩ := ih (i + 1) n l1 (by omega) (by omega) h1
    exact ⟨l2, h2, e1.trans e2⟩
theorem SenseTurns_pure (x) : reticulelaw04_SenseTurns x = some true := by
  unfold reticulelaw04_SenseTurns
  rw [alive_ok, Option.bind_some, Bool.not_true, cond_false]
  by_cases h : (100 : Int) < (x.length : Int)
  · rw [decide_eq_true h, cond_true]
  rw [decide_eq_false h, cond_false]
  obtain ⟨l, hl, e⟩ := turn_loop x (by omega) x.length 0 Big [] (by omega) (big_lt (by omega)) (by simp)
  rw [Int.natCast_zero] at e
  have e' : reticulelaw04_SenseTurns_L0 Big (x, OF, [], [], 0) = some (Sum.inl (l, l)) := e
  show jn (reticulelaw04_SenseTurns_L0 Big (x, OF, [], [], 0)) _ = _
  rw [e', jn_inl]
  show (reticuleref04_Same (l, l)).bind _ = _
  rw [same_self l (by omega), Option.bind_some]
end Go.Proofs.Ytmkffbacmjgbcaa
