/- Plain laws of chapter 16: equality, cleared, halted, stalled and flushed are the reference's. -/
import Derived.Test.YtanfodimfgmbdaaP2
namespace Go.Proofs.Ytanfodimfgmbdaa
open Go Go.Re
set_option linter.unusedVariables false
set_option linter.unusedSimpArgs false
theorem same_eq (x) (h1 : x.1.2.2.2.2.1.length ≤ 2147483648) (h2 : x.2.2.2.2.2.1.length ≤ 2147483648) : endpoint_Same x = reticuleref16_Same x := by
  obtain ⟨⟨h, t, w, s, d, u⟩, h', t', w', s', d', u'⟩ := x
  simp only at h1 h2
  simp [endpoint_Same, reticuleref16_Same, bytes_Equal, chk, lim, h1, h2]
theorem same_self (x) (h1 : x.2.2.2.2.1.length ≤ 2147483648) : reticuleref16_Same (x, x) = some true := by
  obtain ⟨h, t, w, s, d, u⟩ := x
  simp only at h1
  simp [reticuleref16_Same, chk, lim, h1]
theorem endpoint_eqs (x) : endpoint_Clear x = some (false, 0, false, 0, [], ()) ∧ endpoint_Halt x = reticuleref16_Halt x ∧ endpoint_Stall x = reticuleref16_Stall x ∧ endpoint_Flush x = reticuleref16_Flush x := by
  obtain ⟨h, t, w, s, d, u⟩ := x
  simp [endpoint_Clear, endpoint_Halt, reticuleref16_Halt, endpoint_Stall, endpoint_Flush, reticuleref16_Flush, reticuleref16_Stall]
theorem right_some (x) : ∃ b, reticuleref16_Right x = some b := by
  obtain ⟨h, t, w, s, d, u⟩ := x
  simp only [reticuleref16_Right]
  generalize decide (t = 0) = a
  generalize decide (t = 1) = b
  generalize decide ((d.length : Int) ≤ 64) = c
  generalize decide ((d.length : Int) = 0) = e
  generalize decide (s = 0) = f
  cases a <;> cases b <;> cases c <;> cases e <;> cases f <;> cases w <;> simp
theorem same_some (x) (h1 : x.1.2.2.2.2.1.length ≤ 2147483648) (h2 : x.2.2.2.2.2.1.length ≤ 2147483648) : ∃ b, reticuleref16_Same x = some b := by
  obtain ⟨⟨h, t, w, s, d, u⟩, h', t', w', s', d', u'⟩ := x
  simp only at h1 h2
  simp only [reticuleref16_Same, chk, lim, h1, h2, decide_true, cond_true, Option.bind_some]
  generalize decide (d = d') = q
  cases decide (h = h') <;> cases decide (t = t') <;> cases decide (w = w') <;> cases decide (s = s') <;> simp
theorem EndTurns_pure (x) : reticulelaw16_EndTurns x = some true := by
  obtain ⟨x, y⟩ := x
  simp only [reticulelaw16_EndTurns, alive_ok, Option.bind_some, Bool.not_true, cond_false]
  by_cases h1 : (100 : Int) < x.2.2.2.2.1.length
  · simp [h1]
  · by_cases h2 : (100 : Int) < y.2.2.2.2.1.length
    · simp [h2]
    · have h3 : x.2.2.2.2.1.length ≤ 2147483648 := by omega
      have h4 : y.2.2.2.2.1.length ≤ 2147483648 := by omega
      obtain ⟨e1, e2, e3, e4⟩ := endpoint_eqs x
      obtain ⟨b1, r1⟩ := right_some x
      obtain ⟨b2, r2⟩ := same_some (x, y) h3 h4
      have z : ([] : List (BitVec 8)).length ≤ 2147483648 := by simp
      simp only [h1, h2, e1, e2, e3, e4, right_eq, r1, same_eq (x, y) h3 h4, r2, same_eq (x, x) h3 h3, same_self x h3, Option.bind_some, decide_false, cond_false, decide_true, cond_true]
      simp [reticuleref16_Halt, reticuleref16_Stall, reticuleref16_Flush, same_self, h3]
end Go.Proofs.Ytanfodimfgmbdaa
