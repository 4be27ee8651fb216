/- The plain laws of chapter 7: each answer is true. -/
import Derived.Test.YtjaaojlggjlgeaaNumM
import Derived.Test.YtjaaojlggjlgeaaRefM
import Derived.Test.YtjaaojlggjlgeaaCutI
import Derived.KernelRfl
namespace Go.Proofs.Ytjaaojlggjlgeaa
open Go Go.Re
set_option linter.unusedVariables false
set_option linter.unusedSimpArgs false
theorem alive_ok : reticulelaw07_alive () = some true := by kernel_rfl
theorem bits_nat (x : BitVec 64) (f n : Nat) (hf : f + n ≤ 64) (hn : 1 ≤ n) : ((x &&& maskBV f n) >>> f).toNat = x.toNat / 2 ^ f % 2 ^ n := by
  have h2 : x.toNat / 2 ^ f % 2 ^ n < 2 ^ 64 := Nat.lt_of_le_of_lt (Nat.mod_le _ _) (Nat.lt_of_le_of_lt (Nat.div_le_self _ _) x.isLt)
  have : (x &&& maskBV f n) >>> f = BitVec.ofNat 64 (x.toNat / 2 ^ f % 2 ^ n) := by
    apply BitVec.eq_of_getLsbD_eq
    intro k hk
    rw [bits_bit x f n k hf hn, BitVec.getLsbD_ofNat, Nat.testBit_mod_two_pow, Nat.testBit_div_two_pow]
    simp [hk, BitVec.getLsbD, Nat.add_comm]
  rw [this, BitVec.toNat_ofNat]; exact Nat.mod_eq_of_lt h2
/-- the lowest three bits -/
def mOf (lun : Int) : Nat := (lun % 8).toNat
theorem mOf_lt (lun : Int) : mOf lun < 8 := by unfold mOf; omega
theorem bits3 (lun : Int) : ((BitVec.ofInt 64 lun &&& maskBV 0 3) >>> 0) = BitVec.ofNat 64 (mOf lun) := by
  apply BitVec.eq_of_toNat_eq
  rw [bits_nat _ 0 3 (by omega) (by omega), BitVec.toNat_ofInt, BitVec.toNat_ofNat]
  unfold mOf
  show (lun % 18446744073709551616).toNat / 1 % 8 = (lun % 8).toNat % 18446744073709551616
  omega
def serL (m : Nat) : List (BitVec 8) := [82#8, 84#8, 48#8, 48#8, 48#8, 48#8, 48#8, BitVec.ofNat 8 (48 + m)]
theorem m8 {m : Nat} (h : m < 8) : m = 0 ∨ m = 1 ∨ m = 2 ∨ m = 3 ∨ m = 4 ∨ m = 5 ∨ m = 6 ∨ m = 7 := by omega
theorem serial_eq (lun : Int) : inquiry_Serial lun = some (serL (mOf lun)) := by
  have h := mOf_lt lun
  have hb : bitsIn 0 3 := by unfold bitsIn; omega
  unfold inquiry_Serial
  simp only [num_bits, if_pos hb, Option.bind_some, show (0 : Int).toNat = 0 from rfl, show (3 : Int).toNat = 3 from rfl, bits3]
  generalize mOf lun = m at h ⊢
  rcases m8 h with rfl | rfl | rfl | rfl | rfl | rfl | rfl | rfl <;> (show _ = _; kernel_rfl)
theorem ref_serial (lun : Int) : reticuleref07_Serial lun = some (serL (mOf lun)) := by
  have h := mOf_lt lun
  have hb : bitsIn 0 3 := by unfold bitsIn; omega
  unfold reticuleref07_Serial
  simp only [ref_bits, if_pos hb, Option.bind_some, show (0 : Int).toNat = 0 from rfl, show (3 : Int).toNat = 3 from rfl, bits3]
  generalize mOf lun = m at h ⊢
  rcases m8 h with rfl | rfl | rfl | rfl | rfl | rfl | rfl | rfl <;> (show _ = _; kernel_rfl)
abbrev Sense := Int × (Int × (Int × Unit))
def kindB (there : Bool) : BitVec 8 := bif there then 0#8 else 127#8
/-- a page, and why there is none -/
def pageL (page : Int) (m : Nat) (there : Bool) : List (BitVec 8) × Sense :=
  if page = 0 then ([kindB there, 0#8, 0#8, 4#8, 0#8, 128#8, 131#8, 176#8], 0, 0, 0, ())
  else if page = 128 then ([kindB there, 128#8, 0#8, 8#8] ++ serL m, 0, 0, 0, ())
  else if page = 131 then ([kindB there, 131#8, 0#8, 20#8, 2#8, 1#8, 0#8, 16#8, 82#8, 69#8, 84#8, 73#8, 67#8, 85#8, 76#8, 69#8] ++ serL m, 0, 0, 0, ())
  else if page = 176 then ([kindB there, 176#8, 0#8, 60#8, 0#8, 0#8, 0#8, 0#8, 0#8, 0#8, 0#8, 64#8] ++ List.replicate 52 (0#8), 0, 0, 0, ())
  else ([], 5, 36, 0, ())
theorem page_eq (page lun : Int) (there : Bool) : inquiry_Page (page, lun, there) = some (pageL page (mOf lun) there) := by
  have h := mOf_lt lun
  unfold inquiry_Page
  simp only [serial_eq]
  generalize mOf lun = m at h ⊢
  by_cases h0 : page = 0
  · subst h0; cases there <;> rcases m8 h with rfl | rfl | rfl | rfl | rfl | rfl | rfl | rfl <;> (show _ = _; kernel_rfl)
  by_cases h1 : page = 128
  · subst h1; cases there <;> rcases m8 h with rfl | rfl | rfl | rfl | rfl | rfl | rfl | rfl <;> (show _ = _; kernel_rfl)
  by_cases h2 : page = 131
  · subst h2; cases there <;> rcases m8 h with rfl | rfl | rfl | rfl | rfl | rfl | rfl | rfl <;> (show _ = _; kernel_rfl)
  by_cases h3 : page = 176
  · subst h3; cases there <;> rcases m8 h with rfl | rfl | rfl | rfl | rfl | rfl | rfl | rfl <;> (show _ = _; kernel_rfl)
  simp only [decide_eq_false h0, decide_eq_false h1, decide_eq_false h2, decide_eq_false h3, cond_false, sense_Field, sense_asked, Option.bind_some, jn_inr]
  unfold pageL
  rw [if_neg h0, if_neg h1, if_neg h2, if_neg h3]
theorem ref_page (page lun : Int) (there : Bool) : reticuleref07_Page (page, lun, there) = some (pageL page (mOf lun) there) := by
  have h := mOf_lt lun
  unfold reticuleref07_Page
  simp only [ref_serial]
  generalize mOf lun = m at h ⊢
  by_cases h0 : page = 0
  · subst h0; cases there <;> rcases m8 h with rfl | rfl | rfl | rfl | rfl | rfl | rfl | rfl <;> (show _ = _; kernel_rfl)
  by_cases h1 : page = 128
  · subst h1; cases there <;> rcases m8 h with rfl | rfl | rfl | rfl | rfl | rfl | rfl | rfl <;> (show _ = _; kernel_rfl)
  by_cases h2 : page = 131
  · subst h2; cases there <;> rcases m8 h with rfl | rfl | rfl | rfl | rfl | rfl | rfl | rfl <;> (show _ = _; kernel_rfl)
  by_cases h3 : page = 176
  · subst h3; cases there <;> rcases m8 h with rfl | rfl | rfl | rfl | rfl | rfl | rfl | rfl <;> (show _ = _; kernel_rfl)
  simp only [decide_eq_false h0, decide_eq_false h1, decide_eq_false h2, decide_eq_false h3, cond_false, reticuleref04_Of, Option.bind_some]
  unfold pageL
  rw [if_neg h0, if_neg h1, if_neg h2, if_neg h3]
  cases there <;> rfl
def stdL (there : Bool) : List (BitVec 8) := [kindB there, 128#8, 6#8, 2#8, 31#8, 0#8, 0#8, 2#8, 82#8, 69#8, 84#8, 73#8, 67#8, 85#8, 76#8, 69#8, 71#8, 65#8, 68#8, 71#8, 69#8, 84#8, 32#8, 68#8, 73#8, 83#8, 75#8, 32#8, 32#8, 32#8, 32#8, 32#8, 48#8, 48#8, 48#8, 49#8]
theorem std_eq (there : Bool) : inquiry_Standard there = some (stdL there) ∧ reticuleref07_Standard there = some (stdL there) := by
  cases there <;> exact ⟨by kernel_rfl, by kernel_rfl⟩
theorem page_len (page : Int) (m : Nat) (there : Bool) : (pageL page m there).1.length ≤ 100 := by
  unfold pageL
  split
  · show 8 ≤ 100; omega
  · split
    · show 12 ≤ 100; omega
    · split
      · show 24 ≤ 100; omega
      · split
        · show 64 ≤ 100; omega
        · show 0 ≤ 100; omega
theorem std_len (there : Bool) : (stdL there).length = 36 := rfl
theorem cut_len (x : List (BitVec 8)) (n : Int) : (cutN x n).length ≤ x.length := by unfold cutN; rw [List.length_take]; omega
theorem sense_self (s : Sense) : ((decide (s.1 = s.1)) && ((decide (s.2.1 = s.2.1)) && ((decide (s.2.2.1 = s.2.2.1)) && true))) = true := by simp
theorem and_bif (a b : Bool) : (bif a then some b else some false : Option Bool) = some (a && b) := by cases a <;> rfl
theorem answer_eq (c : Int × (BitVec 64 × (Int × (Int × (Int × Unit))))) (lun luns : Int) : ∃ r, inquiry_Answer (c, lun, luns) = some r ∧ reticuleref07_Answer (c, lun, luns) = some r ∧ r.1.length ≤ 100 := by
  obtain ⟨op, lba, n, page, bits, u⟩ := c
  simp only [inquiry_Answer, reticuleref07_Answer, and_bif, Option.bind_some]
  generalize (decide (0 ≤ lun) && decide (lun < luns)) = there
  obtain ⟨s1, s2⟩ := std_eq there
  by_cases ho : op = 18
  · by_cases hb : bits = 1
    · refine ⟨(cutN (pageL page (mOf lun) there).1 n, (pageL page (mOf lun) there).2), ?_, ?_, ?_⟩
      · simp only [s1, ho, hb, decide_true, Bool.not_true, cond_false, cond_true, page_eq, Option.bind_some, jn_inl, inq_cut]
      · have hl := page_len page (mOf lun) there
        simp only [ho, hb, decide_true, Bool.not_true, cond_false, ref_page, Option.bind_some, ref_cut _ n (Nat.le_trans hl (by omega))]
      · exact Nat.le_trans (cut_len _ _) (page_len _ _ _)
    · refine ⟨(cutN (stdL there) n, 0, 0, 0, ()), ?_, ?_, ?_⟩
      · simp only [s1, ho, hb, decide_true, decide_false, Bool.not_true, cond_false, cond_true, Option.bind_some, jn_inl, inq_cut]
      · simp only [s2, ho, hb, decide_true, decide_false, Bool.not_true, Bool.not_false, cond_true, cond_false, Option.bind_some, ref_cut _ n (show (stdL there).length ≤ 2147483648 by rw [std_len]; omega)]
      · exact Nat.le_trans (cut_len _ _) (by rw [std_len]; omega)
  · refine ⟨([], 5, 36, 0, ()), ?_, ?_, by simp⟩
    · simp only [s1, ho, decide_false, Bool.not_false, cond_true, sense_Field, sense_asked, Option.bind_some, jn_inr]
    · simp only [ho, decide_false, Bool.not_false, cond_true, reticuleref04_Of, Option.bind_some]
theorem InquiryAnswers_pure (x) : reticulelaw07_InquiryAnswers x = some true := by
  obtain ⟨c, lun, luns⟩ := x
  obtain ⟨r, h1, h2, h3⟩ := answer_eq c lun luns
  have hl : r.1.length ≤ lim := by show _ ≤ 2147483648; omega
  simp only [reticulelaw07_InquiryAnswers, alive_ok, Option.bind_some, Bool.not_true, cond_false, h1, h2, chk_dec hl, decide_true, cond_true, Bool.and_self, serial_eq, ref_serial]
theorem cut_cut (b : List (BitVec 8)) (n k : Int) : cutN (cutN b n) k = cutN b (bif decide (k < n) then k else n) := by
  unfold cutN
  rw [List.take_take]
  congr 1
  by_cases h : k < n
  · simp only [decide_eq_true h, cond_true]; omega
  · simp only [decide_eq_false h, cond_false]; omega
theorem InquiryCuts_pure (x) : reticulelaw07_InquiryCuts x = some true := by
  obtain ⟨b, n, k⟩ := x
  simp only [reticulelaw07_InquiryCuts, alive_ok, Option.bind_some, Bool.not_true, cond_false]
  by_cases h : (500 : Int) < b.length
  · simp [h]
  have hb : b.length ≤ 2147483648 := by omega
  have c1 : ∀ m, (cutN b m).length ≤ lim := fun m => by have := cut_len b m; show _ ≤ 2147483648; omega
  have c2 : (cutN (cutN b n) k).length ≤ lim := by rw [cut_cut]; exact c1 _
  simp only [h, decide_false, cond_false, inq_cut, ref_cut b n hb, Option.bind_some, chk_dec (c1 _), decide_true, cond_true, chk_dec c2, cut_cut]
theorem and7 (x : Int) : BitVec.toInt (BitVec.ofInt 64 x &&& BitVec.ofInt 64 7) = (mOf x : Int) := by
  have h : (BitVec.ofInt 64 x &&& BitVec.ofInt 64 7).toNat = mOf x := by
    unfold mOf
    rw [BitVec.toNat_and, show (BitVec.ofInt 64 7).toNat = 2 ^ 3 - 1 from rfl, Nat.and_two_pow_sub_one_eq_mod, BitVec.toNat_ofInt]
    omega
  have := mOf_lt x
  rw [BitVec.toInt_eq_toNat_cond, h]
  split <;> omega
theorem InquirySerials_pure (x) : reticulelaw07_InquirySerials x = some true := by
  obtain ⟨a, b⟩ := x
  simp only [reticulelaw07_InquirySerials, alive_ok, Option.bind_some, Bool.not_true, cond_false, page_eq, serial_eq, and7]
  have ha := mOf_lt a
  have hb := mOf_lt b
  generalize mOf a = m at ha ⊢
  generalize mOf b = k at hb ⊢
  have e : (decide (serL m = serL k)) = (decide ((m : Int) = (k : Int))) := by
    rw [Bool.eq_iff_iff, decide_eq_true_eq, decide_eq_true_eq]
    constructor
    · intro h
      have := congrArg (fun l => (l.getD 7 0#8).toNat) h
      simp only [serL, List.getD_eq_getElem?_getD, List.getElem?_cons_succ, List.getElem?_cons_zero, Option.getD_some, BitVec.toNat_ofNat] at this
      omega
    · intro h; rw [show m = k by omega]
  simp only [e]
  clear e hb
  rcases m8 ha with rfl | rfl | rfl | rfl | rfl | rfl | rfl | rfl <;> (simp only [decide_true, cond_true]; show _ = _; kernel_rfl)
theorem pages_loop (lun : Int) (there : Bool) (b : List (BitVec 8)) (n : BitVec 64) (ok : Bool) : reticulelaw07_InquiryPages_L0 Big (lun, there, b, n, ok, [kindB there, 0#8, 0#8, 4#8, 0#8, 128#8, 131#8, 176#8], 4) = some (Sum.inl (b, n, ok)) := by
  have step : ∀ (f : Nat) (i : Nat) (c : BitVec 8) (p : Int), i < 8 → ([kindB there, 0#8, 0#8, 4#8, 0#8, 128#8, 131#8, 176#8] : List (BitVec 8))[i]? = some c → (c.toNat : Int) = p → (p = 0 ∨ p = 128 ∨ p = 131 ∨ p = 176) →
      reticulelaw07_InquiryPages_L0 (f + 1) (lun, there, b, n, ok, [kindB there, 0#8, 0#8, 4#8, 0#8, 128#8, 131#8, 176#8], (i : Int)) = reticulelaw07_InquiryPages_L0 f (lun, there, b, n, ok, [kindB there, 0#8, 0#8, 4#8, 0#8, 128#8, 131#8, 176#8], ((i + 1 : Nat) : Int)) := by
    intro f i c p hi hc hp hq
    have h1 : (i : Int) < (([kindB there, 0#8, 0#8, 4#8, 0#8, 128#8, 131#8, 176#8] : List (BitVec 8)).length : Int) := by show (i : Int) < 8; omega
    have h2 : inLen (i : Int) ([kindB there, 0#8, 0#8, 4#8, 0#8, 128#8, 131#8, 176#8] : List (BitVec 8)).length = true := inLen_nat hi
    have h3 : (pageL p (mOf lun) there).2 = (0, 0, 0, ()) := by rcases hq with rfl | rfl | rfl | rfl <;> rfl
    conv => lhs; unfold reticulelaw07_InquiryPages_L0
    simp only [decide_eq_true h1, cond_true, chk_true h2, Option.bind_some, Int.toNat_natCast, hc, page_eq, hp, h3, decide_true, Bool.and_self, Bool.not_true, cond_false, w64_succ i (by omega)]
  have s4 := step 18446744073709551615 4 0#8 0 (by omega) rfl rfl (by omega)
  have s5 := step 18446744073709551614 5 128#8 128 (by omega) rfl rfl (by omega)
  have s6 := step 18446744073709551613 6 131#8 131 (by omega) rfl rfl (by omega)
  have s7 := step 18446744073709551612 7 176#8 176 (by omega) rfl rfl (by omega)
  have s8 : reticulelaw07_InquiryPages_L0 18446744073709551612 (lun, there, b, n, ok, [kindB there, 0#8, 0#8, 4#8, 0#8, 128#8, 131#8, 176#8], ((8 : Nat) : Int)) = some (Sum.inl (b, n, ok)) := by
    rw [show (18446744073709551612 : Nat) = 18446744073709551611 + 1 from rfl]
    unfold reticulelaw07_InquiryPages_L0; rfl
  exact s4.trans (s5.trans (s6.trans (s7.trans s8)))
theorem InquiryPages_pure (x) : reticulelaw07_InquiryPages x = some true := by
  obtain ⟨page, lun, there⟩ := x
  obtain ⟨s1, s2⟩ := std_eq there
  have hl : (pageL page (mOf lun) there).1.length ≤ lim := by have := page_len page (mOf lun) there; show _ ≤ 2147483648; omega
  have hs : (stdL there).length ≤ lim := by rw [std_len]; show _ ≤ 2147483648; omega
  have p0 : pageL 0 (mOf lun) there = ([kindB there, 0#8, 0#8, 4#8, 0#8, 128#8, 131#8, 176#8], 0, 0, 0, ()) := rfl
  have h := mOf_lt lun
  simp only [reticulelaw07_InquiryPages, alive_ok, Option.bind_some, Bool.not_true, cond_false, page_eq, ref_page, chk_dec hl, decide_true, sense_self, s1, s2, chk_dec hs, p0, pages_loop, jn_inl, Bool.and_self]
  clear s1 s2 hl hs p0
  generalize mOf lun = m at h ⊢
  by_cases h0 : page = 0
  · subst h0; cases there <;> rcases m8 h with rfl | rfl | rfl | rfl | rfl | rfl | rfl | rfl <;> (show _ = _; kernel_rfl)
  by_cases h1 : page = 128
  · subst h1; cases there <;> rcases m8 h with rfl | rfl | rfl | rfl | rfl | rfl | rfl | rfl <;> (show _ = _; kernel_rfl)
  by_cases h2 : page = 131
  · subst h2; cases there <;> rcases m8 h with rfl | rfl | rfl | rfl | rfl | rfl | rfl | rfl <;> (show _ = _; kernel_rfl)
  by_cases h3 : page = 176
  · subst h3; cases there <;> rcases m8 h with rfl | rfl | rfl | rfl | rfl | rfl | rfl | rfl <;> (show _ = _; kernel_rfl)
  have hp : pageL page m there = ([], 5, 36, 0, ()) := by unfold pageL; rw [if_neg h0, if_neg h1, if_neg h2, if_neg h3]
  rw [hp]
  rfl
end Go.Proofs.Ytjaaojlggjlgeaa
