/- Plain laws of chapter 19: what bytes are as wrappers. -/
import Derived.Test.YtkceolaolmfeaaaLaw19a
namespace Go.Proofs.Ytkceolaolmfeaaa
open Go Go.Re
set_option linter.unusedVariables false
set_option linter.unusedSimpArgs false
def zeroCbw : Cbw := (0#32, 0#32, false, 0, [], ())
/-- 31 bytes, with what they mean -/
structure L31 (L : List (BitVec 8)) (p q t : List (BitVec 8)) (f u n : BitVec 8) (r : List (BitVec 8)) : Prop where
  eq : L = p ++ q ++ t ++ [f, u, n] ++ r
  p4 : p.length = 4
  q4 : q.length = 4
  t4 : t.length = 4
  r16 : r.length = 16
theorem split31 (L : List (BitVec 8)) (h : L.length = 31) : ∃ p q t f u n r, L31 L p q t f u n r := by
  refine ⟨L.take 4, (L.drop 4).take 4, (L.drop 8).take 4, L[12], L[13], L[14], L.drop 15, ?_, by simp; omega, by simp; omega, by simp; omega, by simp; omega⟩
  apply List.ext_getElem?
  intro i
  rcases Nat.lt_or_ge i 31 with hi | hi
  · by_cases h1 : i < 4
    · rw [List.getElem?_append_left (by simp; omega), List.getElem?_append_left (by simp; omega), List.getElem?_append_left (by simp; omega), List.getElem?_append_left (by simp; omega), List.getElem?_take, if_pos h1]
    · by_cases h2 : i < 8
      · rw [List.getElem?_append_left (by simp; omega), List.getElem?_append_left (by simp; omega), List.getElem?_append_left (by simp; omega), List.getElem?_append_right (by simp; omega), List.getElem?_take, if_pos (by simp; omega), List.getElem?_drop]
        congr 1; simp; omega
      · by_cases h3 : i < 12
        · rw [List.getElem?_append_left (by simp; omega), List.getElem?_append_left (by simp; omega), List.getElem?_append_right (by simp; omega), List.getElem?_take, if_pos (by simp; omega), List.getElem?_drop]
          congr 1; simp; omega
        · by_cases h4 : i < 15
          · rw [List.getElem?_append_left (by simp; omega), List.getElem?_append_right (by simp; omega)]
            have e : (L.take 4 ++ (L.drop 4).take 4 ++ (L.drop 8).take 4).length = 12 := by simp; omega
            rw [e]
            rcases (show i = 12 ∨ i = 13 ∨ i = 14 by omega) with rfl | rfl | rfl <;> simp [List.getElem?_eq_getElem, h]
          · rw [List.getElem?_append_right (by simp; omega), List.getElem?_drop]
            congr 1; simp; omega
  · rw [List.getElem?_eq_none (by omega), List.getElem?_eq_none (by simp; omega)]
theorem L31.len {L p q t f u n r} (h : L31 L p q t f u n r) : L.length = 31 := by
  rw [h.eq]; simp [h.p4, h.q4, h.t4, h.r16]
theorem L31.take4 {L p q t f u n r} (h : L31 L p q t f u n r) : L.take 4 = p ∧ (L.drop 4).take 4 = q ∧ (L.drop 8).take 4 = t ∧ L.drop 15 = r ∧ L.take 15 = p ++ q ++ t ++ [f, u, n] := by
  obtain ⟨e, p4, q4, t4, r16⟩ := h
  subst e
  match p, q, t, p4, q4, t4 with
  | [a0, a1, a2, a3], [b0, b1, b2, b3], [c0, c1, c2, c3], _, _, _ => exact ⟨rfl, rfl, rfl, rfl, rfl⟩
theorem L31.at {L p q t f u n r} (h : L31 L p q t f u n r) : ix L 12 = some f ∧ ix L 13 = some u ∧ ix L 14 = some n := by
  obtain ⟨e, p4, q4, t4, r16⟩ := h
  subst e
  match p, q, t, p4, q4, t4 with
  | [a0, a1, a2, a3], [b0, b1, b2, b3], [c0, c1, c2, c3], _, _, _ => exact ⟨rfl, rfl, rfl⟩
/-- what is asked of the bytes -/
def okB (p : List (BitVec 8)) (f u n : BitVec 8) (luns : Int) : Prop := p = sig ∧ (f = 0#8 ∨ f = 128#8) ∧ u.toNat < 16 ∧ (u.toNat : Int) < luns ∧ 1 ≤ n.toNat ∧ n.toNat ≤ 16
instance (p : List (BitVec 8)) (f u n : BitVec 8) (luns : Int) : Decidable (okB p f u n luns) := inferInstanceAs (Decidable (_ ∧ _))
def readB (p q t : List (BitVec 8)) (f u n : BitVec 8) (r : List (BitVec 8)) (luns : Int) : Cbw × Bool :=
  if okB p f u n luns then ((word q, word t, decide (f = 128#8), (u.toNat : Int), r.take n.toNat, ()), true) else (zeroCbw, false)
theorem sig_nat {p : List (BitVec 8)} (h : p.length = 4) : (BitVec.ofNat 64 (nv p) = 1128420181#64) ↔ p = sig := by
  have h1 := nv4_lt h
  constructor
  · intro e
    have := congrArg BitVec.toNat e
    rw [BitVec.toNat_ofNat, Nat.mod_eq_of_lt (by omega)] at this
    exact nv_inj (by rw [h]; rfl) (this.trans (by rfl))
  · rintro rfl; rfl
theorem sig2_nat {p : List (BitVec 8)} (h : p.length = 4) : (BitVec.ofNat 64 (nv p) = 1396855637#64) ↔ p = sig2 := by
  have h1 := nv4_lt h
  constructor
  · intro e
    have := congrArg BitVec.toNat e
    rw [BitVec.toNat_ofNat, Nat.mod_eq_of_lt (by omega)] at this
    exact nv_inj (by rw [h]; rfl) (this.trans (by rfl))
  · rintro rfl; rfl
theorem little4 (L : List (BitVec 8)) (a : Nat) (hL : L.length ≤ 200) (ha : a + 4 ≤ L.length) : number_Little (L, (a : Int), 4) = some (BitVec.ofNat 64 (nv ((L.drop a).take 4)), true) ∧
    reticuleref01_Little (L, (a : Int), 4) = some (BitVec.ofNat 64 (nv ((L.drop a).take 4)), true) := by
  rw [num_little L _ _ (by omega), ref_little L _ _ (by omega), if_pos (by omega)]; exact ⟨rfl, rfl⟩
theorem begins_eq (L : List (BitVec 8)) (size : Nat) (w : BitVec 64) (hL : L.length ≤ 200) (hs : 4 ≤ size) :
    cbw_begins (L, (size : Int), w) = some (decide (L.length = size ∧ BitVec.ofNat 64 (nv (L.take 4)) = w)) := by
  simp only [cbw_begins]
  by_cases h : L.length = size
  · have h4 := (little4 L 0 hL (by omega)).1
    rw [Int.natCast_zero, List.drop_zero] at h4
    have h' : (L.length : Int) = (size : Int) := by omega
    simp only [h4, Option.bind_some, h', decide_true, cond_true]
    simp [h]
  · have h' : ¬ ((L.length : Int) = (size : Int)) := by omega
    rw [num_little L 0 4 (by omega)]
    split
    · simp [h, h']
    · simp [h]
theorem valid_eq (L : List (BitVec 8)) (hL : L.length ≤ 200) : cbw_Valid L = some (decide (L.length = 31 ∧ L.take 4 = sig)) ∧ reticuleref19_Valid L = some (decide (L.length = 31 ∧ L.take 4 = sig)) := by
  have hb := begins_eq L 31 1128420181#64 hL (by omega)
  simp only [show ((31 : Nat) : Int) = 31 from rfl] at hb
  constructor
  · simp only [cbw_Valid, hb, Option.bind_some]
    congr 1
    rw [Bool.eq_iff_iff, decide_eq_true_eq, decide_eq_true_eq]
    constructor
    · rintro ⟨h1, h2⟩; exact ⟨h1, (sig_nat (by simp; omega)).1 h2⟩
    · rintro ⟨h1, h2⟩; exact ⟨h1, (sig_nat (by simp; omega)).2 h2⟩
  · simp only [reticuleref19_Valid]
    by_cases h : L.length = 31
    · have h' : (L.length : Int) = 31 := by omega
      have c : (L.take (4 : Int).toNat).length ≤ lim := by rw [List.length_take]; show _ ≤ 2147483648; omega
      have c2 : (decide (0 ≤ (4 : Int)) && decide ((4 : Int) ≤ (L.length : Int))) = true := by rw [h']; rfl
      simp only [h', decide_true, cond_true]
      rw [h'] at c2
      simp only [chk_true c2, chk_dec c, Option.bind_some]
      simp [h, sig]
    · have h' : ¬ ((L.length : Int) = 31) := by omega
      simp [h, h']
theorem word_eq (L : List (BitVec 8)) (a : Nat) (hL : L.length ≤ 200) (ha : a + 4 ≤ L.length) : cbw_word (L, (a : Int)) = some (word ((L.drop a).take 4)) ∧ reticuleref19_four (L, (a : Int)) = some (word ((L.drop a).take 4)) := by
  obtain ⟨h1, h2⟩ := little4 L a hL ha
  simp only [cbw_word, reticuleref19_four, h1, h2, Option.bind_some]; exact ⟨rfl, rfl⟩
theorem flag_and : ∀ x : BitVec 8, (x &&& ~~~(128#8) = 0#8) ↔ (x = 0#8 ∨ x = 128#8) := by decide
theorem slc15 {L : List (BitVec 8)} {r : List (BitVec 8)} (h : L.drop 15 = r) (n : Nat) : slc L (15 : Int) ((15 + n : Nat) : Int) = r.take n := by
  unfold slc
  rw [← h, Int.toNat_natCast, show (15 : Int).toNat = 15 from rfl, List.drop_take, show 15 + n - 15 = n by omega]
theorem read31 {L p q t f u n r} (h : L31 L p q t f u n r) (luns : Int) : cbw_Read (L, luns) = some (readB p q t f u n r luns) ∧ reticuleref19_Read (L, luns) = some (readB p q t f u n r luns) := by
  obtain ⟨x12, x13, x14⟩ := h.at
  obtain ⟨t1, t2, t3, t4, _⟩ := h.take4
  have hlen := h.len
  obtain ⟨v1, v2⟩ := valid_eq L (by omega)
  obtain ⟨w1, w2⟩ := word_eq L 4 (by omega) (by omega)
  obtain ⟨w3, w4'⟩ := word_eq L 8 (by omega) (by omega)
  simp only [show ((4 : Nat) : Int) = 4 from rfl, show ((8 : Nat) : Int) = 8 from rfl, t2, t3] at w1 w2 w3 w4'
  rw [t1] at v1 v2
  have hn := n.isLt
  have hu := u.isLt
  have ew : w64 ((15 : Int) + (n.toNat : Int)) = ((15 + n.toNat : Nat) : Int) := by rw [w64_in] <;> omega
  have es := shr4 (u.toNat : Int) (by omega)
  by_cases hp : p = sig
  rotate_left
  · have hd : decide (L.length = 31 ∧ p = sig) = false := decide_eq_false (fun h => hp h.2)
    have hno : ¬ okB p f u n luns := fun h => hp h.1
    constructor
    · simp only [cbw_Read, v1, hd, Option.bind_some, Bool.not_false, cond_true, readB, if_neg hno]; rfl
    · simp only [reticuleref19_Read, v2, hd, Option.bind_some, Bool.not_false, cond_true, readB, if_neg hno]; rfl
  have hd : decide (L.length = 31 ∧ p = sig) = true := decide_eq_true ⟨hlen, hp⟩
  have hfa := flag_and f
  by_cases hf : f = 0#8 ∨ f = 128#8
  · have hf1 := hfa.2 hf
    have f1 : (bif !decide (f = 0#8) then some (!decide (f = 128#8)) else some false : Option Bool) = some false := by
      rcases hf with rfl | rfl <;> rfl
    by_cases h1 : u.toNat < 16
    · have h1' : (u.toNat : Int) / 16 = 0 := by omega
      have h1'' : ¬ (15#8 < u) := by rw [BitVec.lt_def]; show ¬ 15 < u.toNat; omega
      by_cases h2 : (u.toNat : Int) < luns
      · have h2' : ¬ (luns ≤ (u.toNat : Int)) := by omega
        by_cases h3 : 1 ≤ n.toNat
        · have h3' : ¬ ((n.toNat : Int) < 1) := by omega
          have h3'' : ¬ (n < 1#8) := by rw [BitVec.lt_def]; show ¬ n.toNat < 1; omega
          by_cases h4 : n.toNat ≤ 16
          · have h4' : ¬ (16 < (n.toNat : Int)) := by omega
            have h4'' : ¬ (16#8 < n) := by rw [BitVec.lt_def]; show ¬ 16 < n.toNat; omega
            have hok : okB p f u n luns := ⟨hp, hf, h1, h2, h3, h4⟩
            have c1 : (decide (0 ≤ (15 : Int)) && decide ((15 : Int) ≤ ((15 + n.toNat : Nat) : Int)) && decide (((15 + n.toNat : Nat) : Int) ≤ (L.length : Int))) = true := by
              simp only [Bool.and_eq_true, decide_eq_true_eq]; omega
            have c2 : (r.take n.toNat).length ≤ 2147483648 := by rw [List.length_take]; omega
            have c3 : ([] : List (BitVec 8)).length + (r.take n.toNat).length ≤ lim := by show 0 + _ ≤ 2147483648; omega
            constructor
            · simp only [cbw_Read, v1, hd, Option.bind_some, Bool.not_true, cond_false, x12, x13, x14, hf1, es, h1', h2', h3', h4', decide_true, decide_false, w1, w3, ew, chk_true c1, slc15 t4, clone_le _ c2, readB, if_pos hok]
            · simp only [reticuleref19_Read, v2, hd, Option.bind_some, Bool.not_true, cond_false, x12, x13, x14, f1, h1'', h2', h3'', h4'', decide_true, decide_false, w2, w4', ew, chk_true c1, slc15 t4, chk_dec c3, List.nil_append, readB, if_pos hok]
          · have hno : ¬ okB p f u n luns := fun h => h4 h.2.2.2.2.2
            have h4' : 16 < (n.toNat : Int) := by omega
            have h4'' : 16#8 < n := by rw [BitVec.lt_def]; show 16 < n.toNat; omega
            constructor
            · simp only [cbw_Read, v1, hd, Option.bind_some, Bool.not_true, cond_false, cond_true, x12, x13, x14, hf1, es, h1', h2', h3', h4', decide_true, decide_false, readB, if_neg hno]; rfl
            · simp only [reticuleref19_Read, v2, hd, Option.bind_some, Bool.not_true, cond_false, cond_true, x12, x13, x14, f1, h1'', h2', h3'', h4'', decide_true, decide_false, readB, if_neg hno]; rfl
        · have hno : ¬ okB p f u n luns := fun h => h3 h.2.2.2.2.1
          have h3' : (n.toNat : Int) < 1 := by omega
          have h3'' : n < 1#8 := by rw [BitVec.lt_def]; show n.toNat < 1; omega
          constructor
          · simp only [cbw_Read, v1, hd, Option.bind_some, Bool.not_true, cond_false, cond_true, x12, x13, x14, hf1, es, h1', h2', h3', decide_true, decide_false, readB, if_neg hno]; rfl
          · simp only [reticuleref19_Read, v2, hd, Option.bind_some, Bool.not_true, cond_false, cond_true, x12, x13, x14, f1, h1'', h2', h3'', decide_true, decide_false, readB, if_neg hno]; rfl
      · have hno : ¬ okB p f u n luns := fun h => h2 h.2.2.2.1
        have h2' : luns ≤ (u.toNat : Int) := by omega
        constructor
        · simp only [cbw_Read, v1, hd, Option.bind_some, Bool.not_true, cond_false, cond_true, x12, x13, x14, hf1, es, h1', h2', decide_true, decide_false, readB, if_neg hno]; rfl
        · simp only [reticuleref19_Read, v2, hd, Option.bind_some, Bool.not_true, cond_false, cond_true, x12, x13, x14, f1, h1'', h2', decide_true, decide_false, readB, if_neg hno]; rfl
    · have hno : ¬ okB p f u n luns := fun h => h1 h.2.2.1
      have h1' : ¬ ((u.toNat : Int) / 16 = 0) := by omega
      have h1'' : 15#8 < u := by rw [BitVec.lt_def]; show 15 < u.toNat; omega
      constructor
      · simp only [cbw_Read, v1, hd, Option.bind_some, Bool.not_true, Bool.not_false, cond_false, cond_true, x12, x13, x14, hf1, es, h1', decide_true, decide_false, readB, if_neg hno]; rfl
      · simp only [reticuleref19_Read, v2, hd, Option.bind_some, Bool.not_true, cond_false, cond_true, x12, x13, x14, f1, h1'', decide_true, decide_false, readB, if_neg hno]; rfl
  · have hno : ¬ okB p f u n luns := fun h => hf h.2.1
    have hf1 : ¬ (f &&& ~~~(128#8) = 0#8) := fun h => hf (hfa.1 h)
    have f1 : (bif !decide (f = 0#8) then some (!decide (f = 128#8)) else some false : Option Bool) = some true := by
      have a1 : ¬ f = 0#8 := fun h => hf (.inl h)
      have a2 : ¬ f = 128#8 := fun h => hf (.inr h)
      simp [a1, a2]
    constructor
    · simp only [cbw_Read, v1, hd, Option.bind_some, Bool.not_true, Bool.not_false, cond_false, cond_true, x12, x13, x14, hf1, decide_true, decide_false, readB, if_neg hno]; rfl
    · simp only [reticuleref19_Read, v2, hd, Option.bind_some, Bool.not_true, cond_false, cond_true, x12, x13, x14, f1, decide_true, decide_false, readB, if_neg hno]; rfl
theorem read_bad (L : List (BitVec 8)) (luns : Int) (hL : L.length ≤ 200) (h : L.length ≠ 31) : cbw_Read (L, luns) = some (zeroCbw, false) ∧ reticuleref19_Read (L, luns) = some (zeroCbw, false) := by
  obtain ⟨v1, v2⟩ := valid_eq L hL
  have hd : decide (L.length = 31 ∧ L.take 4 = sig) = false := decide_eq_false (fun h' => h h'.1)
  rw [hd] at v1 v2
  constructor
  · simp only [cbw_Read, v1, Option.bind_some, Bool.not_false, cond_true]; rfl
  · simp only [reticuleref19_Read, v2, Option.bind_some, Bool.not_false, cond_true]; rfl
end Go.Proofs.Ytkceolaolmfeaaa
