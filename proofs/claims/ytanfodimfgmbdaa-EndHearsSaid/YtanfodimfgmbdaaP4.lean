/- Plain laws of chapter 16: what is answered is what the reference says. -/
import Derived.Test.YtanfodimfgmbdaaP3
namespace Go.Proofs.Ytanfodimfgmbdaa
open Go Go.Re
set_option linter.unusedVariables false
set_option linter.unusedSimpArgs false
theorem right_tog {x} (h : reticuleref16_Right x = some true) : (x.2.1 = 0 ∨ x.2.1 = 1) ∧ (x.2.2.2.2.1.length : Int) ≤ 64 := by
  obtain ⟨h', t, w, s, d, u⟩ := x
  simp only [reticuleref16_Right] at h
  by_cases h0 : t = 0 <;> by_cases h1 : t = 1 <;> by_cases h2 : (d.length : Int) ≤ 64 <;> simp [h0, h1, h2] at h ⊢
theorem xor_tog {t : Int} (h : t = 0 ∨ t = 1) : BitVec.toInt (BitVec.ofInt 64 t ^^^ BitVec.ofInt 64 1) = w64 (1 - t) := by
  rcases h with rfl | rfl <;> rfl
theorem out_eq (x) : endpoint_Out x = reticuleref16_Out x := by
  obtain ⟨⟨h, t, w, s, d, u⟩, ⟨e1, e2, e3, e4, e5, e6, e7, e8, e9, e10⟩, rm⟩ := x
  simp only [endpoint_Out, reticuleref16_Out, right_eq, endpoint_told]
  obtain ⟨b, hb⟩ := right_some (h, t, w, s, d, u)
  rw [hb]
  cases b with
  | false => simp
  | true =>
    have := right_tog hb
    simp only at this
    simp only [xor_tog this.1]
    simp
theorem clone_le (x : List (BitVec 8)) (h : x.length ≤ 2147483648) : bytes_Clone x = some x := by
  simp [bytes_Clone_fun, chk, lim, h]
theorem cut_eq (x : List (BitVec 8)) : reticuleref16_Cut x = some (x.take 64) := by
  simp only [reticuleref16_Cut]
  by_cases h : (64 : Int) < x.length
  · have : (64 : Int) ≤ x.length := by omega
    simp [h, this, chk]
  · simp [h]
    rw [List.take_of_length_le (by omega)]
theorem send_eq (h t w s d u b) (ht : t = 0 ∨ t = 1) (hl : d.length ≤ 2147483648) : endpoint_send ((h, t, w, s, d, u), b) = some (bif b then (h, w64 (1 - t), false, 0, [], u) else (h, t, w, s, d, u), 4, t, d, ()) := by
  simp only [endpoint_send, endpoint_Flush, jn, clone_le d hl, Option.bind_some, xor_tog ht]
  cases b <;> simp
theorem in_eq (x) : endpoint_In x = reticuleref16_In x := by
  obtain ⟨⟨h, t, w, s, d, u⟩, ⟨e1, e2, e3, e4, e5, e6, e7, e8, e9, e10⟩, nx, rm⟩ := x
  simp only [endpoint_In, reticuleref16_In, right_eq, endpoint_told, jn]
  obtain ⟨b, hb⟩ := right_some (h, t, w, s, d, u)
  rw [hb]
  cases b with
  | false => simp
  | true =>
    obtain ⟨ht, hl⟩ := right_tog hb
    simp only at hl ht
    cases w with
    | true =>
      simp only [cond_true, Option.bind_some, Bool.not_true, cond_false]
      by_cases hs : s = e4
      · cases e6 <;> simp [hs, send_eq _ _ _ _ _ _ _ ht (show d.length ≤ 2147483648 by omega)]
      · simp [hs]
    | false =>
      cases h with
      | true => simp
      | false =>
        cases rm with
        | false => simp
        | true =>
          by_cases hn : (64 : Int) < nx.length
          · have h3 : (64 : Int) ≤ nx.length := by omega
            have h4 : (nx.take 64).length ≤ 2147483648 := by simp; omega
            cases e6 <;> simp only [hn, h3, cut_eq, clone_le _ h4, chk, send_eq _ _ _ _ _ _ _ ht h4, decide_true, cond_true, Option.bind_some, show (64 : Int).toNat = 64 from rfl] <;> simp
          · have h2 : nx.length ≤ 2147483648 := by omega
            have h4 : nx.take 64 = nx := List.take_of_length_le (by omega)
            cases e6 <;> simp [hn, cut_eq, clone_le _ h2, chk, h4, send_eq _ _ _ _ _ _ _ ht h2]
theorem out_some (x) : ∃ r, reticuleref16_Out x = some r ∧ r.1.2.2.2.2.1 = x.1.2.2.2.2.1 ∧ r.2.1.2.2.1 = [] := by
  obtain ⟨⟨h, t, w, s, d, u⟩, ⟨e1, e2, e3, e4, e5, e6, e7, e8, e9, e10⟩, rm⟩ := x
  simp only [reticuleref16_Out]
  obtain ⟨b, hb⟩ := right_some (h, t, w, s, d, u)
  rw [hb]
  by_cases hl : (64 : Int) < e9.length <;> by_cases ht : e5 = t <;> cases b <;> cases h <;> cases rm <;> simp [hl, ht]
theorem in_some (x) (h1 : x.1.2.2.2.2.1.length ≤ 100) : ∃ r, reticuleref16_In x = some r ∧ r.1.2.2.2.2.1.length ≤ 100 ∧ r.2.1.2.2.1.length ≤ 100 := by
  obtain ⟨⟨h, t, w, s, d, u⟩, ⟨e1, e2, e3, e4, e5, e6, e7, e8, e9, e10⟩, nx, rm⟩ := x
  simp only at h1
  simp only [reticuleref16_In, cut_eq, jn]
  obtain ⟨b, hb⟩ := right_some (h, t, w, s, d, u)
  rw [hb]
  by_cases hs : s = e4 <;> cases b <;> cases w <;> cases h <;> cases rm <;> cases e6 <;> simp [hs] <;> omega
theorem replies_self (x) (h : x.2.2.1.length ≤ 100) : reticuleref16_Replies (x, x) = some true := by
  obtain ⟨a, b, d, u⟩ := x
  simp only at h
  have : d.length ≤ 2147483648 := by omega
  simp [reticuleref16_Replies, chk, lim, this]
theorem copy_eq (x) (h : x.2.2.2.2.1.length ≤ 100) : reticuleref16_Copy x = some x := by
  obtain ⟨h', t, w, s, d, u⟩ := x
  simp only at h
  have : d.length ≤ 2147483648 := by omega
  simp [reticuleref16_Copy, chk, lim, this]
end Go.Proofs.Ytanfodimfgmbdaa
