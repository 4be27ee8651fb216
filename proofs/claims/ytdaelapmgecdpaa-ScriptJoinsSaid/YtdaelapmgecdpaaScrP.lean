/- Plain laws of chapter 13: an event's bytes, and how they are read. -/
import Derived.Test.YtdaelapmgecdpaaNumR
import Derived.Test.YtdaelapmgecdpaaNumG
import Derived.Test.YtdaelapmgecdpaaNumE
import Derived.Test.YtdaelapmgecdpaaRefBB
import Derived.Test.YtdaelapmgecdpaaRefCB
import Derived.KernelRfl
namespace Go.Proofs.Ytdaelapmgecdpaa
open Go Go.Re
set_option linter.unusedVariables false
set_option linter.unusedSimpArgs false
abbrev Ev := Int × (Int × (Int × (Int × (Int × (Bool × (Int × (BitVec 64 × (List (BitVec 8) × Unit))))))))
abbrev BY := List (BitVec 8)
def lo (v : Int) : BitVec 8 := BitVec.ofInt 8 v
def hi (v : Int) : BitVec 8 := BitVec.ofInt 8 (v / 256)
theorem lo_nat (v : Int) : ((lo v).toNat : Int) = v % 256 := ofInt8 v
theorem hi_nat (v : Int) : ((hi v).toNat : Int) = v / 256 % 256 := ofInt8 _
theorem bv8 {a b : BitVec 8} (h : (a.toNat : Int) = (b.toNat : Int)) : a = b := BitVec.eq_of_toNat_eq (by omega)
theorem two_bytes (v : Int) (h : 0 ≤ v ∧ v < 65536) : leN 2 (BitVec.ofInt 64 v) = [lo v, hi v] := by
  have e : leN 2 (BitVec.ofInt 64 v) = [(BitVec.ofInt 64 v >>> (8 * 0)).setWidth 8, (BitVec.ofInt 64 v >>> (8 * 1)).setWidth 8] := rfl
  have n : (BitVec.ofInt 64 v).toNat = v.toNat := by rw [BitVec.toNat_ofInt]; omega
  have e1 : (BitVec.ofInt 64 v >>> (8 * 0)).setWidth 8 = lo v := by
    apply bv8
    rw [lo_nat, BitVec.toNat_setWidth, BitVec.toNat_ushiftRight, Nat.shiftRight_eq_div_pow, n]
    show ((v.toNat / 1 % 256 : Nat) : Int) = _
    omega
  have e2 : (BitVec.ofInt 64 v >>> (8 * 1)).setWidth 8 = hi v := by
    apply bv8
    rw [hi_nat, BitVec.toNat_setWidth, BitVec.toNat_ushiftRight, Nat.shiftRight_eq_div_pow, n]
    show ((v.toNat / 256 % 256 : Nat) : Int) = _
    omega
  rw [e, e1, e2]
theorem nv_inj : ∀ a b : BY, a.length = b.length → nv a = nv b → a = b
  | [], [], _, _ => rfl
  | [], _ :: _, h, _ => by cases h
  | _ :: _, [], h, _ => by cases h
  | x :: a, y :: b, h, e => by
    have hx := x.isLt
    have hy := y.isLt
    simp only [nv] at e
    have e1 : x.toNat = y.toNat := by omega
    have e2 : nv a = nv b := by omega
    rw [BitVec.eq_of_toNat_eq e1, nv_inj a b (by simpa using h) e2]
theorem leN_nv (A : BY) (h : A.length = 8) : leN 8 (BitVec.ofNat 64 (nv A)) = A := by
  apply nv_inj
  · rw [leN_length, h]
  · have h1 := nv_lt64 (l := A) (by omega)
    rw [nv_leN, BitVec.toNat_ofNat]
    show nv A % 18446744073709551616 % 18446744073709551616 = nv A
    omega
theorem nv_eight (x : BitVec 64) : BitVec.ofNat 64 (nv (leN 8 x)) = x := by
  have h := x.isLt
  apply BitVec.eq_of_toNat_eq
  rw [nv_leN, BitVec.toNat_ofNat]
  show x.toNat % 18446744073709551616 % 18446744073709551616 = x.toNat
  omega
/-- what an event may be -/
def okE (x : Ev) : Prop := (1 ≤ x.1 ∧ x.1 ≤ 8) ∧ (0 ≤ x.2.1 ∧ x.2.1 ≤ 127) ∧ (0 ≤ x.2.2.1 ∧ x.2.2.1 ≤ 15) ∧ (0 ≤ x.2.2.2.1 ∧ x.2.2.2.1 ≤ 65535) ∧ (0 ≤ x.2.2.2.2.1 ∧ x.2.2.2.2.1 ≤ 1) ∧ (0 ≤ x.2.2.2.2.2.2.1 ∧ x.2.2.2.2.2.2.1 ≤ 255) ∧ (x.2.2.2.2.2.2.2.2.1.length : Int) ≤ 1024
instance (x : Ev) : Decidable (okE x) := inferInstanceAs (Decidable (_ ∧ _))
theorem and_chain (a b : Bool) : (bif a then some b else some false : Option Bool) = some (a && b) := by cases a <;> rfl
theorem or_chain (a b : Bool) : (bif a then some true else some b : Option Bool) = some (a || b) := by cases a <;> rfl
theorem right_eq (x : Ev) : script_Right x = some (decide (okE x)) := by
  obtain ⟨a, b, c, d, e, f, g, h, i, u⟩ := x
  simp only [script_Right, script_within, and_chain, Option.bind_some]
  congr 1
  rw [Bool.eq_iff_iff]
  simp only [Bool.and_eq_true, decide_eq_true_eq]
  unfold okE
  simp only [and_assoc]
theorem ref_right (x : Ev) : reticuleref13_Right x = some (decide (okE x)) := by
  obtain ⟨a, b, c, d, e, f, g, h, i, u⟩ := x
  simp only [reticuleref13_Right, and_chain, or_chain, Option.bind_some]
  by_cases hx : okE (a, b, c, d, e, f, g, h, i, u)
  · have hx' := hx
    obtain ⟨h1, h2, h3, h4, h5, h6, h7⟩ := hx
    simp only at h1 h2 h3 h4 h5 h6 h7
    have n : (decide (a < 1) || decide (8 < a) || decide (b < 0) || decide (127 < b) || decide (c < 0) || decide (15 < c) || decide (d < 0) || decide (65535 < d)) = false := by
      simp only [Bool.or_eq_false_iff, decide_eq_false_iff_not]; omega
    have m : (((decide (e = 0) || decide (e = 1)) && decide (0 ≤ g)) && decide (g ≤ 255) && decide ((i.length : Int) ≤ 1024)) = true := by
      simp only [Bool.and_eq_true, Bool.or_eq_true, decide_eq_true_eq]; omega
    rw [n, cond_false, m, decide_eq_true hx']
  · rw [decide_eq_false hx]
    generalize hq : (decide (a < 1) || decide (8 < a) || decide (b < 0) || decide (127 < b) || decide (c < 0) || decide (15 < c) || decide (d < 0) || decide (65535 < d)) = q
    cases q with
    | true => rfl
    | false =>
      simp only [Bool.or_eq_false_iff, decide_eq_false_iff_not] at hq
      rw [cond_false]
      congr 1
      refine Bool.eq_false_iff.mpr fun m => hx ?_
      simp only [Bool.and_eq_true, Bool.or_eq_true, decide_eq_true_eq] at m
      unfold okE
      simp only
      omega
def flagB (t : Int) (a : Bool) : BitVec 8 := BitVec.ofInt 8 t + (bif a then 2#8 else 0#8)
/-- an event's bytes -/
def evB (e : Ev) : BY :=
  lo e.1 :: lo e.2.1 :: lo e.2.2.1 :: hi e.2.2.2.1 :: lo e.2.2.2.1 :: flagB e.2.2.2.2.1 e.2.2.2.2.2.1 :: lo e.2.2.2.2.2.2.1 ::
    ((leN 8 e.2.2.2.2.2.2.2.1).reverse ++ (hi (e.2.2.2.2.2.2.2.2.1.length : Int) :: lo (e.2.2.2.2.2.2.2.2.1.length : Int) :: e.2.2.2.2.2.2.2.2.1))
theorem evB_len (e : Ev) : (evB e).length = 17 + e.2.2.2.2.2.2.2.2.1.length := by
  simp [evB, leN_length]; omega
theorem append_eq (b : BY) (e : Ev) (hb : b.length ≤ 2147480000) : script_Append (b, e) = some (if okE e then (b ++ evB e, 0) else ([], 1)) := by
  simp only [script_Append, right_eq, Option.bind_some]
  by_cases h : okE e
  · obtain ⟨k, ad, ep, st, tg, ack, ln, n, d, u⟩ := e
    have h' := h
    obtain ⟨h1, h2, h3, h4, h5, h6, h7⟩ := h
    simp only at h1 h2 h3 h4 h5 h6 h7
    simp only [decide_eq_true h', Bool.not_true, cond_false, if_pos h']
    have j : ∀ (K : _ → Option (BY × Int)), jn (A := (BY) × Ev × (BitVec 8)) (R := (BY × Int)) (bif ack then
        some (Sum.inl (b, (k, ad, ep, st, tg, ack, ln, n, d, u), (BitVec.ofInt 8 tg) ||| (2#8)))
      else some (Sum.inl (b, (k, ad, ep, st, tg, ack, ln, n, d, u), BitVec.ofInt 8 tg))) K = K (b, (k, ad, ep, st, tg, ack, ln, n, d, u), flagB tg ack) := by
      intro K
      have : tg = 0 ∨ tg = 1 := by omega
      rcases this with rfl | rfl <;> cases ack <;> rfl
    rw [j]
    simp only [putBig_eq, if_pos (show (1 : Int) ≤ 2 ∧ (2 : Int) ≤ 8 by omega), if_pos (show (1 : Int) ≤ 8 ∧ (8 : Int) ≤ 8 by omega), show (2 : Int).toNat = 2 from rfl, show (8 : Int).toNat = 8 from rfl,
      two_bytes st (by omega), two_bytes (d.length : Int) (by omega), Option.bind_some]
    rw [concat_eq _ (by simp [leN_length]; omega) (by simp)]
    simp [evB, lo]
  · simp [h]
theorem flag_add (t : Int) (a : Bool) : (bif a then BitVec.ofInt 8 t + 2#8 else BitVec.ofInt 8 t) = flagB t a := by
  cases a <;> simp [flagB]
theorem ref_append_eq (b : BY) (e : Ev) (hb : b.length ≤ 2147480000) : reticuleref13_Append (b, e) = some (if okE e then (b ++ evB e, 0) else ([], 1)) := by
  simp only [reticuleref13_Append, ref_right, Option.bind_some]
  by_cases h : okE e
  · obtain ⟨k, ad, ep, st, tg, ack, ln, n, d, u⟩ := e
    have h' := h
    obtain ⟨h1, h2, h3, h4, h5, h6, h7⟩ := h
    simp only at h1 h2 h3 h4 h5 h6 h7
    simp only [decide_eq_true h', Bool.not_true, cond_false, if_pos h']
    have j : ∀ (K : _ → Option (BY × Int)), jn (A := (BY) × Ev × (BitVec 8)) (R := (BY × Int)) (bif ack then
        some (Sum.inl (b, (k, ad, ep, st, tg, ack, ln, n, d, u), (BitVec.ofInt 8 tg) + (2#8)))
      else some (Sum.inl (b, (k, ad, ep, st, tg, ack, ln, n, d, u), BitVec.ofInt 8 tg))) K = K (b, (k, ad, ep, st, tg, ack, ln, n, d, u), flagB tg ack) := by
      intro K
      have : tg = 0 ∨ tg = 1 := by omega
      rcases this with rfl | rfl <;> cases ack <;> rfl
    rw [j]
    have m : ∀ y : Int, (0 ≤ y ∧ y < 65536) → BitVec.ofInt 8 (y.tmod 256) = lo y := by
      intro y hy; apply bv8; rw [lo_nat, ofInt8, Int.tmod_eq_emod_of_nonneg hy.1]; omega
    have dv : ∀ y : Int, (0 ≤ y ∧ y < 65536) → BitVec.ofInt 8 (w64 (y.tdiv 256)) = hi y := by
      intro y hy; apply bv8; rw [hi_nat, ofInt8, Int.tdiv_eq_ediv_of_nonneg hy.1, w64_in (by omega) (by omega)]
    simp only [ref_putBig, if_pos (show (1 : Int) ≤ 8 ∧ (8 : Int) ≤ 8 by omega), show (8 : Int).toNat = 8 from rfl, m st (by omega), dv st (by omega), m (d.length : Int) (by omega), dv (d.length : Int) (by omega), Option.bind_some]
    rw [chk_dec (le_lim (by simp; omega))]
    simp only [Option.bind_some]
    rw [chk_dec (le_lim (by simp; omega))]
    simp only [Option.bind_some]
    rw [chk_dec (le_lim (by simp [leN_length]; omega))]
    simp only [Option.bind_some]
    rw [chk_dec (le_lim (by simp [leN_length]; omega))]
    simp only [Option.bind_some]
    rw [chk_dec (le_lim (by simp [leN_length]; omega))]
    simp [evB, lo]
  · simp [h]
/-- the first bytes of a row, as a number -/
theorem next_eq (p r : BY) (w : Int) (hw : w = (p.length : Int)) (h1 : 1 ≤ p.length) (h8 : p.length ≤ 8) (hb : (p ++ r).length ≤ 140737488355328) :
    script_cursor_next ((p ++ r, ()), w) = some (BitVec.ofNat 64 (nv p.reverse), r, ()) := by
  subst hw
  have hl : ((p ++ r).length : Int) = (p.length : Int) + (r.length : Int) := by rw [List.length_append]; omega
  have c : (decide (0 ≤ (p.length : Int)) && decide ((p.length : Int) ≤ ((p ++ r).length : Int))) = true := by
    simp only [Bool.and_eq_true, decide_eq_true_eq]; omega
  simp only [script_cursor_next, num_big _ _ _ hb, if_pos (show 1 ≤ (p.length : Int) ∧ (p.length : Int) ≤ 8 ∧ (0 : Int) ≤ 0 ∧ (0 : Int) ≤ ((p ++ r).length : Int) - (p.length : Int) by omega), Option.bind_some, chk_true c, Int.toNat_natCast]
  simp
def zeroE : Ev := (0, 0, 0, 0, 0, false, 0, 0#64, [], ())
/-- what seventeen bytes, and those behind them, are -/
def rd17 (h0 h1 h2 h3 h4 h5 h6 : BitVec 8) (A : BY) (l0 l1 : BitVec 8) (r : BY) : (Ev × Nat) ⊕ Int :=
  if (h0.toNat < 1 ∨ 8 < h0.toNat) ∨ 127 < h1.toNat ∨ 15 < h2.toNat ∨ 3 < h5.toNat then .inr 3
  else if 1024 < l0.toNat * 256 + l1.toNat then .inr 4
  else if r.length < l0.toNat * 256 + l1.toNat then .inr 2
  else .inl (((h0.toNat : Int), (h1.toNat : Int), (h2.toNat : Int), (h3.toNat : Int) * 256 + (h4.toNat : Int), (h5.toNat : Int) % 2, decide (2 ≤ h5.toNat), (h6.toNat : Int),
    BitVec.ofNat 64 (nv A.reverse), r.take (l0.toNat * 256 + l1.toNat), ()), 17 + (l0.toNat * 256 + l1.toNat))
/-- what some bytes are -/
def rdS (s : BY) : (Ev × Nat) ⊕ Int :=
  if s.length < 17 then .inr 2 else
    rd17 (s.getD 0 0#8) (s.getD 1 0#8) (s.getD 2 0#8) (s.getD 3 0#8) (s.getD 4 0#8) (s.getD 5 0#8) (s.getD 6 0#8) ((s.drop 7).take 8) (s.getD 15 0#8) (s.getD 16 0#8) (s.drop 17)
def resR (at_ : Int) : (Ev × Nat) ⊕ Int → Ev × Int × Int
  | .inl (e, n) => (e, at_ + n, 0)
  | .inr e => (zeroE, 0, e)
theorem cons_of (s : BY) (n : Nat) (h : n + 1 ≤ s.length) : ∃ a r, s = a :: r ∧ n ≤ r.length := by
  cases s with
  | nil => simp at h
  | cons a r => exact ⟨a, r, rfl, by simpa using h⟩
theorem split17 (s : BY) (h : 17 ≤ s.length) : ∃ h0 h1 h2 h3 h4 h5 h6 A l0 l1 r, A.length = 8 ∧ s = h0 :: h1 :: h2 :: h3 :: h4 :: h5 :: h6 :: (A ++ (l0 :: l1 :: r)) := by
  obtain ⟨h0, s, rfl, k0⟩ := cons_of s 16 h
  obtain ⟨h1, s, rfl, k1⟩ := cons_of s 15 k0
  obtain ⟨h2, s, rfl, k2⟩ := cons_of s 14 k1
  obtain ⟨h3, s, rfl, k3⟩ := cons_of s 13 k2
  obtain ⟨h4, s, rfl, k4⟩ := cons_of s 12 k3
  obtain ⟨h5, s, rfl, k5⟩ := cons_of s 11 k4
  obtain ⟨h6, s, rfl, k6⟩ := cons_of s 10 k5
  have hd : 2 ≤ (s.drop 8).length := by rw [List.length_drop]; omega
  obtain ⟨l0, t, e1, hd1⟩ := cons_of (s.drop 8) 1 hd
  obtain ⟨l1, r, rfl, hd2⟩ := cons_of t 0 hd1
  exact ⟨h0, h1, h2, h3, h4, h5, h6, s.take 8, l0, l1, r, by rw [List.length_take]; omega, by rw [← e1, List.take_append_drop]⟩
theorem eight (x : BY) (h : x.length = 8) : ∃ a b c d e f g i, x = [a, b, c, d, e, f, g, i] := by
  match x, h with
  | [a, b, c, d, e, f, g, i], _ => exact ⟨a, b, c, d, e, f, g, i, rfl⟩
theorem rdS_17 (h0 h1 h2 h3 h4 h5 h6 : BitVec 8) (A : BY) (l0 l1 : BitVec 8) (r : BY) (hA : A.length = 8) :
    rdS (h0 :: h1 :: h2 :: h3 :: h4 :: h5 :: h6 :: (A ++ (l0 :: l1 :: r))) = rd17 h0 h1 h2 h3 h4 h5 h6 A l0 l1 r := by
  obtain ⟨a, b, c, d, e, f, g, i, rfl⟩ := eight A hA
  unfold rdS
  rw [if_neg (by simp)]
  rfl
theorem w64_nat (n : Nat) (h : n < 9223372036854775808) : w64 ((BitVec.ofNat 64 n).toNat : Int) = (n : Int) := by
  rw [BitVec.toNat_ofNat, w64_in] <;> omega
theorem clone_eq (x : BY) (h : x.length ≤ 2147483648) : slices_Clone_byte x = some x := by
  unfold slices_Clone_byte
  cases x with
  | nil => simp [both_self, chk, lim]
  | cons a r =>
    simp only [List.isEmpty_cons, cond_false]
    rw [chk_dec (le_lim (by simpa using h))]; rfl
theorem one_nv (c : BitVec 8) : nv [c].reverse = c.toNat := by simp [nv]
theorem two_nv (c d : BitVec 8) : nv [c, d].reverse = c.toNat * 256 + d.toNat := by simp [nv]; omega
theorem and1 (c : BitVec 8) : ((BitVec.ofNat 64 c.toNat &&& 1#64).toNat) = c.toNat % 2 := by
  have h := c.isLt
  rw [BitVec.toNat_and, BitVec.toNat_ofNat, show (1#64).toNat = 2 ^ 1 - 1 from rfl, Nat.and_two_pow_sub_one_eq_mod]; omega
theorem and2 (c : BitVec 8) (h3 : c.toNat ≤ 3) : (!decide ((BitVec.ofNat 64 c.toNat &&& 2#64) = 0#64)) = decide (2 ≤ c.toNat) := by
  have : c.toNat = 0 ∨ c.toNat = 1 ∨ c.toNat = 2 ∨ c.toNat = 3 := by omega
  rcases this with h | h | h | h <;> rw [h] <;> rfl
theorem lt3 (c : BitVec 8) : decide ((3#64) < BitVec.ofNat 64 c.toNat) = decide (3 < c.toNat) := by
  have h := c.isLt
  congr 1
  rw [BitVec.lt_def, BitVec.toNat_ofNat]
  show (3 < c.toNat % 18446744073709551616) = _
  rw [Nat.mod_eq_of_lt (by omega)]
theorem read_eq (b : BY) (at_ : Int) (hb : b.length ≤ 2147480000) :
    script_Read (b, at_) = some (if at_ < 0 ∨ (b.length : Int) < at_ then (zeroE, 0, 1) else resR at_ (rdS (b.drop at_.toNat))) := by
  unfold script_Read
  simp only [or_chain, Option.bind_some]
  by_cases h1 : at_ < 0 ∨ (b.length : Int) < at_
  · rw [if_pos h1, show (decide (at_ < 0) || decide ((b.length : Int) < at_)) = true by simp only [Bool.or_eq_true, decide_eq_true_eq]; exact h1]
    rfl
  rw [if_neg h1, show (decide (at_ < 0) || decide ((b.length : Int) < at_)) = false by simp only [Bool.or_eq_false_iff, decide_eq_false_iff_not]; omega, cond_false, w64_in (n := (b.length : Int) - at_) (by omega) (by omega)]
  have hs : (b.drop at_.toNat).length = b.length - at_.toNat := List.length_drop
  by_cases h2 : (b.length : Int) - at_ < 17
  · rw [decide_eq_true h2, cond_true]
    have : (b.drop at_.toNat).length < 17 := by omega
    unfold rdS
    rw [if_pos this]
    rfl
  rw [decide_eq_false h2, cond_false, chk_true (by simp only [Bool.and_eq_true, decide_eq_true_eq]; omega), Option.bind_some]
  obtain ⟨h0, h1', h2', h3, h4, h5, h6, A, l0, l1, r, hA, e⟩ := split17 (b.drop at_.toNat) (by omega)
  have hlen : r.length + 17 = b.length - at_.toNat := by rw [← hs, e]; simp [hA]; omega
  rw [e, rdS_17 _ _ _ _ _ _ _ _ _ _ _ hA]
  rw [show (h0 :: h1' :: h2' :: h3 :: h4 :: h5 :: h6 :: (A ++ l0 :: l1 :: r)) = [h0] ++ ([h1'] ++ ([h2'] ++ ([h3, h4] ++ ([h5] ++ ([h6] ++ (A ++ ([l0, l1] ++ r))))))) from rfl]
  rw [next_eq [h0] _ 1 rfl (by simp) (by simp) (by simp [hA]; omega), Option.bind_some]
  rw [next_eq [h1'] _ 1 rfl (by simp) (by simp) (by simp [hA]; omega), Option.bind_some]
  rw [next_eq [h2'] _ 1 rfl (by simp) (by simp) (by simp [hA]; omega), Option.bind_some]
  rw [next_eq [h3, h4] _ 2 rfl (by simp) (by simp) (by simp [hA]; omega), Option.bind_some]
  rw [next_eq [h5] _ 1 rfl (by simp) (by simp) (by simp [hA]; omega), Option.bind_some]
  rw [next_eq [h6] _ 1 rfl (by simp) (by simp) (by simp [hA]; omega), Option.bind_some]
  rw [next_eq A _ 8 (by omega) (by omega) (by omega) (by simp [hA]; omega), Option.bind_some]
  rw [next_eq [l0, l1] _ 2 rfl (by simp) (by simp) (by simp; omega), Option.bind_some]
  have i0 := h0.isLt
  have i1 := h1'.isLt
  have i2 := h2'.isLt
  have i3 := h3.isLt
  have i4 := h4.isLt
  have i5 := h5.isLt
  have i6 := h6.isLt
  have j0 := l0.isLt
  have j1 := l1.isLt
  simp only [one_nv, two_nv, w64_nat _ (show h0.toNat < 9223372036854775808 by omega), w64_nat _ (show h1'.toNat < 9223372036854775808 by omega), w64_nat _ (show h2'.toNat < 9223372036854775808 by omega),
    w64_nat _ (show h3.toNat * 256 + h4.toNat < 9223372036854775808 by omega), w64_nat _ (show h6.toNat < 9223372036854775808 by omega), w64_nat _ (show l0.toNat * 256 + l1.toNat < 9223372036854775808 by omega), and1,
    w64_in (n := ((h5.toNat % 2 : Nat) : Int)) (by omega) (by omega), right_eq, Option.bind_some, lt3, or_chain]
  unfold rd17
  by_cases c1 : (h0.toNat < 1 ∨ 8 < h0.toNat) ∨ 127 < h1'.toNat ∨ 15 < h2'.toNat ∨ 3 < h5.toNat
  · rw [if_pos c1]
    have : (!decide (okE ((h0.toNat : Int), (h1'.toNat : Int), (h2'.toNat : Int), ((h3.toNat * 256 + h4.toNat : Nat) : Int), ((h5.toNat % 2 : Nat) : Int), !decide (BitVec.ofNat 64 h5.toNat &&& 2#64 = 0#64), (h6.toNat : Int), BitVec.ofNat 64 (nv A.reverse), [], ())) || decide (3 < h5.toNat)) = true := by
      by_cases c5 : 3 < h5.toNat
      · simp [c5]
      · have : ¬ okE ((h0.toNat : Int), (h1'.toNat : Int), (h2'.toNat : Int), ((h3.toNat * 256 + h4.toNat : Nat) : Int), ((h5.toNat % 2 : Nat) : Int), !decide (BitVec.ofNat 64 h5.toNat &&& 2#64 = 0#64), (h6.toNat : Int), BitVec.ofNat 64 (nv A.reverse), [], ()) := by
          unfold okE; simp only; omega
        rw [decide_eq_false this]; rfl
    rw [this]
    rfl
  · rw [if_neg c1]
    have hok : okE ((h0.toNat : Int), (h1'.toNat : Int), (h2'.toNat : Int), ((h3.toNat * 256 + h4.toNat : Nat) : Int), ((h5.toNat % 2 : Nat) : Int), !decide (BitVec.ofNat 64 h5.toNat &&& 2#64 = 0#64), (h6.toNat : Int), BitVec.ofNat 64 (nv A.reverse), [], ()) := by
      unfold okE; simp only [List.length_nil]; omega
    have n3 : ¬ (3 < h5.toNat) := by omega
    rw [decide_eq_true hok, decide_eq_false n3]
    simp only [Bool.not_true, Bool.or_false, cond_false]
    by_cases c2 : 1024 < l0.toNat * 256 + l1.toNat
    · have : (1024 : Int) < ((l0.toNat * 256 + l1.toNat : Nat) : Int) := by omega
      rw [decide_eq_true this, if_pos c2]; rfl
    · have c2' : ¬ ((1024 : Int) < ((l0.toNat * 256 + l1.toNat : Nat) : Int)) := by omega
      rw [decide_eq_false c2', if_neg c2, cond_false]
      by_cases c3 : r.length < l0.toNat * 256 + l1.toNat
      · have : (r.length : Int) < ((l0.toNat * 256 + l1.toNat : Nat) : Int) := by omega
        rw [decide_eq_true this, if_pos c3]; rfl
      · have c3' : ¬ ((r.length : Int) < ((l0.toNat * 256 + l1.toNat : Nat) : Int)) := by omega
        rw [decide_eq_false c3', if_neg c3, cond_false, chk_true (by simp only [Bool.and_eq_true, decide_eq_true_eq]; omega), Option.bind_some, Int.toNat_natCast,
          clone_eq _ (by rw [List.length_take]; omega), Option.bind_some, and2 h5 (by omega)]
        rw [w64_in (n := at_ + 17) (by omega) (by omega), w64_in (by omega) (by omega)]
        simp only [resR]
        congr 2
        congr 1
        omega
theorem ref_read_eq (b : BY) (at_ : Int) (hb : b.length ≤ 2147480000) :
    reticuleref13_Read (b, at_) = some (if at_ < 0 ∨ (b.length : Int) < at_ then (zeroE, 0, 1) else resR at_ (rdS (b.drop at_.toNat))) := by
  unfold reticuleref13_Read
  simp only [or_chain, Option.bind_some]
  by_cases h1 : at_ < 0 ∨ (b.length : Int) < at_
  · rw [if_pos h1, show (decide (at_ < 0) || decide ((b.length : Int) < at_)) = true by simp only [Bool.or_eq_true, decide_eq_true_eq]; exact h1]
    rfl
  rw [if_neg h1, show (decide (at_ < 0) || decide ((b.length : Int) < at_)) = false by simp only [Bool.or_eq_false_iff, decide_eq_false_iff_not]; omega, cond_false, w64_in (n := (b.length : Int) - at_) (by omega) (by omega)]
  have hs : (b.drop at_.toNat).length = b.length - at_.toNat := List.length_drop
  by_cases h2 : (b.length : Int) - at_ < 17
  · rw [decide_eq_true h2, cond_true]
    have : (b.drop at_.toNat).length < 17 := by omega
    unfold rdS
    rw [if_pos this]
    rfl
  have w17 : w64 (at_ + 17) = at_ + 17 := w64_in (by omega) (by omega)
  simp only [w17]
  rw [decide_eq_false h2, cond_false, chk_true (by simp only [Bool.and_eq_true, decide_eq_true_eq]; omega), Option.bind_some]
  obtain ⟨h0, h1', h2', h3, h4, h5, h6, A, l0, l1, r, hA, e⟩ := split17 (b.drop at_.toNat) (by omega)
  have hlen : r.length + 17 = b.length - at_.toNat := by rw [← hs, e]; simp [hA]; omega
  rw [e, rdS_17 _ _ _ _ _ _ _ _ _ _ _ hA]
  have hh : slc b at_ (at_ + 17) = h0 :: h1' :: h2' :: h3 :: h4 :: h5 :: h6 :: (A ++ [l0, l1]) := by
    rw [slc, show (at_ + 17).toNat = at_.toNat + 17 by omega, List.drop_take, show at_.toNat + 17 - at_.toNat = 17 by omega, e]
    obtain ⟨a, b, c, d, e, f, g, i, rfl⟩ := eight A hA
    rfl
  rw [hh]
  have hr : b.drop (at_.toNat + 17) = r := by
    rw [← List.drop_drop, e]
    obtain ⟨a, b, c, d, e, f, g, i, rfl⟩ := eight A hA
    rfl
  have i0 := h0.isLt
  have i1 := h1'.isLt
  have i2 := h2'.isLt
  have i3 := h3.isLt
  have i4 := h4.isLt
  have i5 := h5.isLt
  have i6 := h6.isLt
  have j0 := l0.isLt
  have j1 := l1.isLt
  have x0 : ix (h0 :: h1' :: h2' :: h3 :: h4 :: h5 :: h6 :: (A ++ [l0, l1])) 0 = some h0 := rfl
  have x1 : ix (h0 :: h1' :: h2' :: h3 :: h4 :: h5 :: h6 :: (A ++ [l0, l1])) 1 = some h1' := rfl
  have x2 : ix (h0 :: h1' :: h2' :: h3 :: h4 :: h5 :: h6 :: (A ++ [l0, l1])) 2 = some h2' := rfl
  have x3 : ix (h0 :: h1' :: h2' :: h3 :: h4 :: h5 :: h6 :: (A ++ [l0, l1])) 3 = some h3 := rfl
  have x4 : ix (h0 :: h1' :: h2' :: h3 :: h4 :: h5 :: h6 :: (A ++ [l0, l1])) 4 = some h4 := rfl
  have x5 : ix (h0 :: h1' :: h2' :: h3 :: h4 :: h5 :: h6 :: (A ++ [l0, l1])) 5 = some h5 := rfl
  have x6 : ix (h0 :: h1' :: h2' :: h3 :: h4 :: h5 :: h6 :: (A ++ [l0, l1])) 6 = some h6 := rfl
  have x15 : ix (h0 :: h1' :: h2' :: h3 :: h4 :: h5 :: h6 :: (A ++ [l0, l1])) 15 = some l0 := by
    obtain ⟨a, b, c, d, e, f, g, i, rfl⟩ := eight A hA
    rfl
  have x16 : ix (h0 :: h1' :: h2' :: h3 :: h4 :: h5 :: h6 :: (A ++ [l0, l1])) 16 = some l1 := by
    obtain ⟨a, b, c, d, e, f, g, i, rfl⟩ := eight A hA
    rfl
  have hbig : reticuleref01_Big (h0 :: h1' :: h2' :: h3 :: h4 :: h5 :: h6 :: (A ++ [l0, l1]), 7, 8) = some (BitVec.ofNat 64 (nv A.reverse), true) := by
    rw [ref_big _ _ _ (by simp [hA])]
    rw [if_pos (by simp [hA])]
    obtain ⟨a, b, c, d, e, f, g, i, rfl⟩ := eight A hA
    rfl
  simp only [x0, x1, x2, x3, x4, x5, x6, x15, x16, hbig, Option.bind_some, or_chain]
  have bl : ∀ (p : BitVec 8) (n : Nat), n < 256 → decide (BitVec.ofNat 8 n < p) = decide (n < p.toNat) := by
    intro p n hn
    congr 1
    rw [BitVec.lt_def, BitVec.toNat_ofNat]
    show (n % 256 < p.toNat) = _
    rw [Nat.mod_eq_of_lt hn]
  have b0 : decide (h0 < 1#8) = decide (h0.toNat < 1) := by congr 1
  have b2 : decide (2#8 ≤ h5) = decide (2 ≤ h5.toNat) := by congr 1
  have b5 : ((h5 % 2#8).toNat : Int) = (h5.toNat : Int) % 2 := by rw [BitVec.toNat_umod]; rfl
  rw [b0, bl h0 8 (by omega), bl h1' 127 (by omega), bl h2' 15 (by omega), bl h5 3 (by omega), b2, b5]
  have w1 : w64 ((l0.toNat : Int) * 256) = (l0.toNat : Int) * 256 := w64_in (by omega) (by omega)
  have w2 : w64 ((l0.toNat : Int) * 256 + (l1.toNat : Int)) = ((l0.toNat * 256 + l1.toNat : Nat) : Int) := by rw [w64_in] <;> omega
  have w3 : w64 ((h3.toNat : Int) * 256) = (h3.toNat : Int) * 256 := w64_in (by omega) (by omega)
  have w4 : w64 ((h3.toNat : Int) * 256 + (h4.toNat : Int)) = (h3.toNat : Int) * 256 + (h4.toNat : Int) := w64_in (by omega) (by omega)
  have w5 : w64 (w64 ((b.length : Int) - at_) - 17) = (r.length : Int) := by
    rw [w64_in (n := (b.length : Int) - at_) (by omega) (by omega), w64_in] <;> omega
  have w5' : w64 ((b.length : Int) - at_ - 17) = (r.length : Int) := by
    rw [w64_in] <;> omega
  have w6 : w64 (at_ + 17 + ((l0.toNat * 256 + l1.toNat : Nat) : Int)) = at_ + 17 + ((l0.toNat * 256 + l1.toNat : Nat) : Int) := w64_in (by omega) (by omega)
  simp only [w1, w2, w3, w4, w5, w5', w6]
  unfold rd17
  by_cases c1 : (h0.toNat < 1 ∨ 8 < h0.toNat) ∨ 127 < h1'.toNat ∨ 15 < h2'.toNat ∨ 3 < h5.toNat
  · rw [if_pos c1, show (decide (h0.toNat < 1) || decide (8 < h0.toNat) || decide (127 < h1'.toNat) || decide (15 < h2'.toNat) || decide (3 < h5.toNat)) = true by
      simp only [Bool.or_eq_true, decide_eq_true_eq]; omega]
    rfl
  · rw [if_neg c1, show (decide (h0.toNat < 1) || decide (8 < h0.toNat) || decide (127 < h1'.toNat) || decide (15 < h2'.toNat) || decide (3 < h5.toNat)) = false by
      simp only [Bool.or_eq_false_iff, decide_eq_false_iff_not]; omega, cond_false]
    by_cases c2 : 1024 < l0.toNat * 256 + l1.toNat
    · have : (1024 : Int) < ((l0.toNat * 256 + l1.toNat : Nat) : Int) := by omega
      rw [decide_eq_true this, if_pos c2]; rfl
    · have c2' : ¬ ((1024 : Int) < ((l0.toNat * 256 + l1.toNat : Nat) : Int)) := by omega
      rw [decide_eq_false c2', if_neg c2, cond_false]
      by_cases c3 : r.length < l0.toNat * 256 + l1.toNat
      · have : (r.length : Int) < ((l0.toNat * 256 + l1.toNat : Nat) : Int) := by omega
        rw [decide_eq_true this, if_pos c3]; rfl
      · have c3' : ¬ ((r.length : Int) < ((l0.toNat * 256 + l1.toNat : Nat) : Int)) := by omega
        have sl : slc b (at_ + 17) (at_ + 17 + ((l0.toNat * 256 + l1.toNat : Nat) : Int)) = r.take (l0.toNat * 256 + l1.toNat) := by
          rw [slc, show (at_ + 17 + ((l0.toNat * 256 + l1.toNat : Nat) : Int)).toNat = (at_.toNat + 17) + (l0.toNat * 256 + l1.toNat) by omega, List.drop_take, show (at_ + 17).toNat = at_.toNat + 17 by omega, hr,
            show at_.toNat + 17 + (l0.toNat * 256 + l1.toNat) - (at_.toNat + 17) = l0.toNat * 256 + l1.toNat by omega]
        rw [decide_eq_false c3', if_neg c3, cond_false, chk_true (by simp only [Bool.and_eq_true, decide_eq_true_eq]; omega), Option.bind_some, sl, chk_dec (le_lim (by simp; omega)), Option.bind_some]
        simp only [resR, List.nil_append]
        congr 3
        omega
end Go.Proofs.Ytdaelapmgecdpaa
