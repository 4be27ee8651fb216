/- The plain laws EndAsks, EndTakes and EndClears: the answer is true. -/
import Derived.Test.YtanfodimfgmbdaaP4
namespace Go.Proofs.Ytanfodimfgmbdaa
open Go Go.Re
set_option linter.unusedVariables false
set_option linter.unusedSimpArgs false
theorem EndAsks_pure (x) : reticulelaw16_EndAsks x = some true := by
  obtain ⟨e, v, nx⟩ := x
  simp only [reticulelaw16_EndAsks, alive_ok, Option.bind_some, Bool.not_true, cond_false]
  by_cases h1 : (100 : Int) < e.2.2.2.2.1.length
  · simp [h1]
  by_cases h2 : (100 : Int) < v.2.2.2.2.2.2.2.2.1.length
  · simp [h2]
  by_cases h3 : (200 : Int) < nx.length
  · simp [h1, h2, h3]
  have a1 : e.2.2.2.2.1.length ≤ 100 := by omega
  have a3 : nx.length ≤ 2147483648 := by omega
  have step : ∀ n i, (i = 0 ∨ i = 1) → reticulelaw16_EndAsks_L0 (n + 1) (nx, e, v, e, i) = reticulelaw16_EndAsks_L0 n (nx, e, v, e, i + 1) := by
    intro n i hi
    obtain ⟨r, hr, l1, l2⟩ := in_some (e, v, nx, decide (i = 0)) a1
    conv => lhs; unfold reticulelaw16_EndAsks_L0
    have hw : w64 (i + 1) = i + 1 := by rcases hi with rfl | rfl <;> rfl
    have hl : i < 2 := by omega
    simp only [in_eq, hr, same_self r.1 (by omega), replies_self r.2.1 l2, Option.bind_some, hw, decide_eq_true hl, cond_true, Bool.not_true, cond_false, decide_true]
  have e2 : reticulelaw16_EndAsks_L0 Big (nx, e, v, e, 0) = some (Sum.inl (e, e)) := by
    refine (step 18446744073709551615 0 (Or.inl rfl)).trans ((step 18446744073709551614 1 (Or.inr rfl)).trans ?_)
    unfold reticulelaw16_EndAsks_L0
    simp
  simp only [h1, h2, h3, decide_false, cond_false, Option.bind_some, copy_eq e a1, e2, jn, same_self e (by omega)]
theorem EndTakes_pure (x) : reticulelaw16_EndTakes x = some true := by
  obtain ⟨e, v⟩ := x
  simp only [reticulelaw16_EndTakes, alive_ok, Option.bind_some, Bool.not_true, cond_false]
  by_cases h1 : (100 : Int) < e.2.2.2.2.1.length
  · simp [h1]
  by_cases h2 : (200 : Int) < v.2.2.2.2.2.2.2.2.1.length
  · simp [h2]
  have a1 : e.2.2.2.2.1.length ≤ 100 := by omega
  have step : ∀ n i, (i = 0 ∨ i = 1) → reticulelaw16_EndTakes_L0 (n + 1) (e, v, e, i) = reticulelaw16_EndTakes_L0 n (e, v, e, i + 1) := by
    intro n i hi
    obtain ⟨r, hr, l1, l2⟩ := out_some (e, v, decide (i = 0))
    conv => lhs; unfold reticulelaw16_EndTakes_L0
    have hw : w64 (i + 1) = i + 1 := by rcases hi with rfl | rfl <;> rfl
    have hl : i < 2 := by omega
    have l3 : r.1.2.2.2.2.1.length ≤ 2147483648 := by rw [l1]; show e.2.2.2.2.1.length ≤ _; omega
    simp only [out_eq (e, v, decide (i = 0)), hr, same_self r.1 l3, replies_self r.2.1 (by rw [l2]; simp), Option.bind_some, hw, decide_eq_true hl, cond_true, Bool.not_true, cond_false, decide_true]
  have e2 : reticulelaw16_EndTakes_L0 Big (e, v, e, 0) = some (Sum.inl (e, e)) := by
    refine (step 18446744073709551615 0 (Or.inl rfl)).trans ((step 18446744073709551614 1 (Or.inr rfl)).trans ?_)
    unfold reticulelaw16_EndTakes_L0
    simp
  simp only [h1, h2, decide_false, cond_false, Option.bind_some, copy_eq e a1, e2, jn, same_self e (by omega)]
theorem EndClears_pure (x) : reticulelaw16_EndClears x = some true := by
  obtain ⟨e, nx, a⟩ := x
  simp only [reticulelaw16_EndClears, alive_ok, Option.bind_some, Bool.not_true, cond_false]
  by_cases h1 : (100 : Int) < e.2.2.2.2.1.length
  · simp [h1]
  by_cases h2 : (200 : Int) < nx.length
  · simp [h2]
  have a2 : nx.length ≤ 2147483648 := by omega
  have a3 : (nx.take 64).length ≤ 64 := by simp; omega
  have a4 : (nx.take 64).length ≤ 2147483648 := by omega
  have a5 : ¬ (64 : Int) < (nx.take 64).length := by omega
  have a7 : ¬ (64 : Int) < ((min 64 nx.length : Nat) : Int) := by omega
  have a6 : min 64 nx.length ≤ 2147483648 := by omega
  simp only [h1, h2, decide_false, cond_false, Option.bind_some, endpoint_Stall, endpoint_Clear, in_eq, out_eq, cut_eq, endpoint_Halt, endpoint_Flush]
  cases a <;> simp [reticuleref16_In, reticuleref16_Out, reticuleref16_Right, cut_eq, jn, a2, a4, a5, a6, a7, chk, lim]
end Go.Proofs.Ytanfodimfgmbdaa
