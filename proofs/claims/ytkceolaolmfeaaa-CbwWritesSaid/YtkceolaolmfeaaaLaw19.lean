/- The plain laws of chapter 19: each answer is true. -/
import Derived.Test.YtkceolaolmfeaaaLaw19b
namespace Go.Proofs.Ytkceolaolmfeaaa
open Go Go.Re
set_option linter.unusedVariables false
set_option linter.unusedSimpArgs false
theorem alive_ok : reticulelaw19_alive () = some true := by kernel_rfl
theorem same_eq (x y : Cbw) (hx : x.2.2.2.2.1.length ≤ 2147483648) (hy : y.2.2.2.2.1.length ≤ 2147483648) :
    cbw_Same (x, y) = some (decide (x = y)) ∧ reticuleref19_Same (x, y) = some (decide (x = y)) := by
  obtain ⟨t, l, f, u, c, z⟩ := x
  obtain ⟨t', l', f', u', c', z'⟩ := y
  simp only at hx hy
  have c1 : c.length ≤ lim := hx
  have c2 : c'.length ≤ lim := hy
  have key : decide ((t, l, f, u, c, z) = ((t', l', f', u', c', z') : Cbw)) = (decide (t = t') && decide (l = l') && decide (f = f') && decide (u = u') && decide (c = c')) := by
    rw [Bool.eq_iff_iff]
    simp only [Bool.and_eq_true, decide_eq_true_eq, Prod.mk.injEq]
    constructor
    · rintro ⟨h1, h2, h3, h4, h5, _⟩; exact ⟨⟨⟨⟨h1, h2⟩, h3⟩, h4⟩, h5⟩
    · rintro ⟨⟨⟨⟨h1, h2⟩, h3⟩, h4⟩, h5⟩; exact ⟨h1, h2, h3, h4, h5, trivial⟩
  rw [key]
  simp only [cbw_Same, reticuleref19_Same, bytes_Equal, chk_dec c1, chk_dec c2, Option.bind_some]
  generalize decide (t = t') = b1
  generalize decide (l = l') = b2
  generalize decide (f = f') = b3
  generalize decide (u = u') = b4
  generalize decide (c = c') = b5
  cases b1 <;> cases b2 <;> cases b3 <;> cases b4 <;> cases b5 <;> exact ⟨rfl, rfl⟩
theorem readB_len (p q t f u n r luns) : (readB p q t f u n r luns).1.2.2.2.2.1.length ≤ 2147483648 := by
  unfold readB
  split
  · rename_i h
    have := h.2.2.2.2.2
    show (r.take n.toNat).length ≤ _
    rw [List.length_take]; omega
  · show ([] : List (BitVec 8)).length ≤ _; simp
theorem CbwReads_pure (x) : reticulelaw19_CbwReads x = some true := by
  obtain ⟨L, luns⟩ := x
  simp only [reticulelaw19_CbwReads, alive_ok, Option.bind_some, Bool.not_true, cond_false]
  by_cases h : (200 : Int) < L.length
  · simp [h]
  have hL : L.length ≤ 200 := by omega
  obtain ⟨v1, v2⟩ := valid_eq L hL
  by_cases h31 : L.length = 31
  · obtain ⟨p, q, t, f, u, n, r, hs⟩ := split31 L h31
    obtain ⟨r1, r2⟩ := read31 hs luns
    have hl := readB_len p q t f u n r luns
    simp only [h, decide_false, cond_false, r1, r2, Option.bind_some, (same_eq _ _ hl hl).2, decide_true, cond_true, v1, v2]
  · obtain ⟨r1, r2⟩ := read_bad L luns hL h31
    have hl : zeroCbw.2.2.2.2.1.length ≤ 2147483648 := by show ([] : List (BitVec 8)).length ≤ _; simp
    simp only [h, decide_false, cond_false, r1, r2, Option.bind_some, (same_eq zeroCbw zeroCbw hl hl).2, decide_true, cond_true, v1, v2]
theorem CbwWrites_pure (x) : reticulelaw19_CbwWrites x = some true := by
  obtain ⟨c, d⟩ := x
  simp only [reticulelaw19_CbwWrites, alive_ok, Option.bind_some, Bool.not_true, cond_false]
  by_cases h1 : (100 : Int) < c.2.2.2.2.1.length
  · simp [h1]
  by_cases h2 : (100 : Int) < d.2.2.2.2.1.length
  · simp [h1, h2]
  have hc : c.2.2.2.2.1.length ≤ 2147483648 := by omega
  have hd : d.2.2.2.2.1.length ≤ 2147483648 := by omega
  have hl : (if okC c then (bytesC c, true) else (([] : List (BitVec 8)), false)).1.length ≤ lim := by
    split
    · rename_i h; rw [bytesC_len c h]; show 31 ≤ 2147483648; omega
    · simp
  simp only [h1, h2, decide_false, cond_false, bytes_eq, ref_bytes, Option.bind_some, chk_dec hl, decide_true, cond_true, (same_eq c d hc hd).1, (same_eq c d hc hd).2, (same_eq c c hc hc).1]
def statusB (c : Csw) : List (BitVec 8) := sig2 ++ w4 c.1 ++ w4 c.2.1 ++ [BitVec.ofInt 8 c.2.2.1]
theorem status_eq (c : Csw) : cbw_Status c = some (statusB c) := by
  obtain ⟨t, r, s, u⟩ := c
  simp only [cbw_Status, put_eq, sig2_w4, Option.bind_some]
  rw [concat_eq _ (by simp [sig2, w4_len]) (by simp)]
  simp [statusB]
theorem and255 (x : Int) : BitVec.toInt (BitVec.ofInt 64 x &&& BitVec.ofInt 64 255) = x % 256 := by
  have h : (BitVec.ofInt 64 x &&& BitVec.ofInt 64 255).toNat = (x % 256).toNat := by
    rw [BitVec.toNat_and, show (BitVec.ofInt 64 255).toNat = 2 ^ 8 - 1 from rfl, Nat.and_two_pow_sub_one_eq_mod, BitVec.toNat_ofInt]
    omega
  rw [BitVec.toInt_eq_toNat_cond, h]
  split <;> omega
theorem ref_status (c : Csw) : reticuleref19_Status c = some (statusB c) := by
  obtain ⟨t, r, s, u⟩ := c
  have l4 : ∀ x : BitVec 64, (leN 4 x).length = 4 := fun x => leN_length 4 x
  have c0 : 0 < ([85#8, 83#8, 66#8, 83#8] : List (BitVec 8)).length := by simp
  have c1 : ([85#8, 83#8, 66#8, 83#8] : List (BitVec 8)).length + (leN 4 (t.setWidth 64)).length ≤ lim := by rw [l4]; show 4 + 4 ≤ 2147483648; omega
  have c2 : (([85#8, 83#8, 66#8, 83#8] : List (BitVec 8)) ++ leN 4 (t.setWidth 64)).length + (leN 4 (r.setWidth 64)).length ≤ lim := by rw [List.length_append, l4, l4]; show 4 + 4 + 4 ≤ 2147483648; omega
  have c3 : ∀ f : BitVec 8, ((([85#8, 83#8, 66#8, 83#8] : List (BitVec 8)) ++ leN 4 (t.setWidth 64)) ++ leN 4 (r.setWidth 64)).length + ([f] : List (BitVec 8)).length ≤ lim := by
    intro f; rw [List.length_append, List.length_append, l4, l4]; show 4 + 4 + 4 + 1 ≤ 2147483648; omega
  have e : BitVec.ofInt 8 (s % 256) = BitVec.ofInt 8 s := by
    apply BitVec.eq_of_toNat_eq
    have h1 := ofInt8 (s % 256)
    have h2 := ofInt8 s
    omega
  simp only [reticuleref19_Status, ref_putLittle, if_pos (show (1 : Int) ≤ 4 ∧ (4 : Int) ≤ 8 by omega), show (4 : Int).toNat = 4 from rfl, Option.bind_some, chk_dec c0, chk_dec c1, chk_dec c2, chk_dec (c3 _), and255, e]
  rfl
def readS (L : List (BitVec 8)) : Csw × Bool :=
  if L.length = 13 ∧ L.take 4 = sig2 ∧ (L.getD 12 0#8).toNat ≤ 2 then ((word ((L.drop 4).take 4), word ((L.drop 8).take 4), ((L.getD 12 0#8).toNat : Int), ()), true) else ((0#32, 0#32, 0, ()), false)
theorem reads_eq (L : List (BitVec 8)) (hL : L.length ≤ 200) : cbw_ReadStatus L = some (readS L) ∧ reticuleref19_ReadStatus L = some (readS L) := by
  have hb := begins_eq L 13 1396855637#64 hL (by omega)
  simp only [show ((13 : Nat) : Int) = 13 from rfl] at hb
  by_cases h : L.length = 13
  · have h' : (L.length : Int) = 13 := by omega
    have hx : ix L 12 = some (L.getD 12 0#8) := by
      have := ix_at L 12 (by omega)
      rw [show ((12 : Nat) : Int) = 12 from rfl] at this
      rw [this]; simp [List.getElem?_eq_getElem, h]
    obtain ⟨w1, w2⟩ := word_eq L 4 hL (by omega)
    obtain ⟨w3, w4'⟩ := word_eq L 8 hL (by omega)
    simp only [show ((4 : Nat) : Int) = 4 from rfl, show ((8 : Nat) : Int) = 8 from rfl] at w1 w2 w3 w4'
    have c : (L.take (4 : Int).toNat).length ≤ lim := by rw [List.length_take]; show _ ≤ 2147483648; omega
    have c2 : (decide (0 ≤ (4 : Int)) && decide ((4 : Int) ≤ 13)) = true := rfl
    have c4 : (L.take 4).length ≤ lim := c
    have cs : sig2.length ≤ lim := by show 4 ≤ 2147483648; omega
    have t4 : (L.take 4).length = 4 := by rw [List.length_take]; omega
    have hs : decide (L.length = 13 ∧ BitVec.ofNat 64 (nv (L.take 4)) = 1396855637#64) = decide (L.take 4 = sig2) := by
      rw [Bool.eq_iff_iff, decide_eq_true_eq, decide_eq_true_eq, sig2_nat t4]
      exact ⟨fun h => h.2, fun h' => ⟨h, h'⟩⟩
    rw [hs] at hb
    generalize L.getD 12 0#8 = s at hx
    by_cases hp : L.take 4 = sig2
    · by_cases h2 : s.toNat ≤ 2
      · have h2' : ¬ (2#8 < s) := by rw [BitVec.lt_def]; show ¬ 2 < s.toNat; omega
        have hr : readS L = ((word ((L.drop 4).take 4), word ((L.drop 8).take 4), (s.toNat : Int), ()), true) := by
          have e : L.getD 12 0#8 = s := by
            have := ix_at L 12 (by omega)
            rw [show ((12 : Nat) : Int) = 12 from rfl, hx] at this
            have := Option.some.inj this
            rw [this]; simp [List.getElem?_eq_getElem, h]
          unfold readS; rw [e, if_pos ⟨h, hp, h2⟩]
        rw [hr]
        constructor
        · simp only [cbw_ReadStatus, hb, hp, decide_true, Bool.not_true, cond_false, Option.bind_some, hx, h2', decide_false, w1, w3]
        · simp only [reticuleref19_ReadStatus, h', decide_true, Bool.not_true, cond_false, chk_true c2, show (4 : Int).toNat = 4 from rfl, chk_dec c4, chk_dec cs, Option.bind_some, hp, show ([85#8, 83#8, 66#8, 83#8] : List (BitVec 8)) = sig2 from rfl, hx, h2', decide_false, w2, w4']
      · have h2' : 2#8 < s := by rw [BitVec.lt_def]; show 2 < s.toNat; omega
        have hr : readS L = ((0#32, 0#32, 0, ()), false) := by
          have e : L.getD 12 0#8 = s := by
            have := ix_at L 12 (by omega)
            rw [show ((12 : Nat) : Int) = 12 from rfl, hx] at this
            have := Option.some.inj this
            rw [this]; simp [List.getElem?_eq_getElem, h]
          unfold readS; rw [e, if_neg (fun h => h2 h.2.2)]
        rw [hr]
        constructor
        · simp only [cbw_ReadStatus, hb, hp, decide_true, Bool.not_true, cond_false, cond_true, Option.bind_some, hx, h2']
        · simp only [reticuleref19_ReadStatus, h', decide_true, Bool.not_true, cond_false, cond_true, chk_true c2, show (4 : Int).toNat = 4 from rfl, chk_dec c4, chk_dec cs, Option.bind_some, hp, show ([85#8, 83#8, 66#8, 83#8] : List (BitVec 8)) = sig2 from rfl, hx, h2']
    · have hr : readS L = ((0#32, 0#32, 0, ()), false) := by unfold readS; rw [if_neg (fun h => hp h.2.1)]
      rw [hr]
      constructor
      · simp only [cbw_ReadStatus, hb, hp, decide_false, Bool.not_false, cond_true, Option.bind_some]
      · simp only [reticuleref19_ReadStatus, h', decide_true, decide_false, Bool.not_true, Bool.not_false, cond_false, cond_true, chk_true c2, show (4 : Int).toNat = 4 from rfl, chk_dec c4, chk_dec cs, Option.bind_some, hp, show ([85#8, 83#8, 66#8, 83#8] : List (BitVec 8)) = sig2 from rfl]
  · have h' : ¬ ((L.length : Int) = 13) := by omega
    have hr : readS L = ((0#32, 0#32, 0, ()), false) := by unfold readS; rw [if_neg (fun hh => h hh.1)]
    have hs : decide (L.length = 13 ∧ BitVec.ofNat 64 (nv (L.take 4)) = 1396855637#64) = false := decide_eq_false (fun hh => h hh.1)
    rw [hs] at hb
    rw [hr]
    constructor
    · simp only [cbw_ReadStatus, hb, Bool.not_false, cond_true, Option.bind_some]
    · simp only [reticuleref19_ReadStatus, h', decide_false, Bool.not_false, cond_true, Option.bind_some]
theorem statusB_len (c : Csw) : (statusB c).length = 13 := by simp [statusB, sig2, w4_len]
theorem CbwStatus_pure (x) : reticulelaw19_CbwStatus x = some true := by
  obtain ⟨c, L⟩ := x
  simp only [reticulelaw19_CbwStatus, alive_ok, Option.bind_some, Bool.not_true, cond_false]
  by_cases h : (200 : Int) < L.length
  · simp [h]
  obtain ⟨r1, r2⟩ := reads_eq L (by omega)
  have hl : (statusB c).length ≤ lim := by rw [statusB_len]; show 13 ≤ 2147483648; omega
  simp only [h, decide_false, cond_false, r1, r2, status_eq, ref_status, Option.bind_some, chk_dec hl, decide_true, cond_true, Bool.and_self]
theorem statusB_read (c : Csw) : readS (statusB c) = if (BitVec.ofInt 8 c.2.2.1).toNat ≤ 2 then ((c.1, c.2.1, ((BitVec.ofInt 8 c.2.2.1).toNat : Int), ()), true) else ((0#32, 0#32, 0, ()), false) := by
  have ht : (statusB c).take 4 = sig2 ∧ ((statusB c).drop 4).take 4 = w4 c.1 ∧ ((statusB c).drop 8).take 4 = w4 c.2.1 ∧ (statusB c).getD 12 0#8 = BitVec.ofInt 8 c.2.2.1 := by
    unfold statusB
    have h1 := w4_len c.1
    have h2 := w4_len c.2.1
    generalize w4 c.1 = a at h1 ⊢
    generalize w4 c.2.1 = b at h2 ⊢
    match a, b, h1, h2 with
    | [a0, a1, a2, a3], [b0, b1, b2, b3], _, _ => exact ⟨rfl, rfl, rfl, rfl⟩
  obtain ⟨e1, e2, e3, e4⟩ := ht
  unfold readS
  rw [statusB_len, e1, e2, e3, e4, word_w4, word_w4]
  by_cases h : (BitVec.ofInt 8 c.2.2.1).toNat ≤ 2
  · rw [if_pos ⟨rfl, rfl, h⟩, if_pos h]
  · rw [if_neg (fun hh => h hh.2.2), if_neg h]
theorem bytesC_split (c : Cbw) (h : okC c) : L31 (bytesC c) sig (w4 c.1) (w4 c.2.1) (flagB c.2.2.1) (BitVec.ofInt 8 c.2.2.2.1) (BitVec.ofInt 8 (c.2.2.2.2.1.length : Int)) (c.2.2.2.2.1 ++ List.replicate (16 - c.2.2.2.2.1.length) (0#8)) where
  eq := by simp [bytesC, head]
  p4 := rfl
  q4 := w4_len _
  t4 := w4_len _
  r16 := by have := h.2; rw [List.length_append, List.length_replicate]; omega
theorem flag_dec (b : Bool) : decide (flagB b = 128#8) = b := by cases b <;> rfl
/-- what a wrapper's first bytes say, whatever is behind the command -/
theorem read_like (c : Cbw) (h : okC c) (r : List (BitVec 8)) (hr : r.take c.2.2.2.2.1.length = c.2.2.2.2.1) (luns : Int) :
    readB sig (w4 c.1) (w4 c.2.1) (flagB c.2.2.1) (BitVec.ofInt 8 c.2.2.2.1) (BitVec.ofInt 8 (c.2.2.2.2.1.length : Int)) r luns = if c.2.2.2.1 < luns then (c, true) else (zeroCbw, false) := by
  obtain ⟨tg, ln, fl, lun, cdb, u⟩ := c
  obtain ⟨⟨h1, h2⟩, h3, h4⟩ := h
  simp only at h1 h2 h3 h4 hr
  have e1 : ((BitVec.ofInt 8 lun).toNat : Int) = lun := by rw [ofInt8]; omega
  have e2 : (BitVec.ofInt 8 (cdb.length : Int)).toNat = cdb.length := by have := ofInt8 (cdb.length : Int); omega
  unfold readB
  by_cases hl : lun < luns
  · have hok : okB sig (flagB fl) (BitVec.ofInt 8 lun) (BitVec.ofInt 8 (cdb.length : Int)) luns := ⟨rfl, by cases fl <;> simp [flagB], by omega, by rw [e1]; exact hl, by omega, by omega⟩
    simp only [if_pos hok, if_pos hl, word_w4, flag_dec, e1, e2, hr]
  · have hno : ¬ okB sig (flagB fl) (BitVec.ofInt 8 lun) (BitVec.ofInt 8 (cdb.length : Int)) luns := fun hh => hl (by have := hh.2.2.2.1; rw [e1] at this; exact this)
    simp only [if_neg hno, if_neg hl]
theorem CbwBack_pure (x) : reticulelaw19_CbwBack x = some true := by
  obtain ⟨c, s, luns⟩ := x
  simp only [reticulelaw19_CbwBack, alive_ok, Option.bind_some, Bool.not_true, cond_false, bytes_eq]
  by_cases h : (100 : Int) < c.2.2.2.2.1.length
  · simp [h]
  have hc : c.2.2.2.2.1.length ≤ 2147483648 := by omega
  have key : ∀ (K : Csw → Option Bool), (jn (A := Csw) (R := Bool) (bif (if okC c then (bytesC c, true) else (([] : List (BitVec 8)), false)).2 then
          (cbw_Read ((if okC c then (bytesC c, true) else (([] : List (BitVec 8)), false)).1, luns)).bind fun r3 =>
          (bif !(decide (r3.2 = (decide (c.2.2.2.1 < luns)))) then
              some true
            else
              (bif r3.2 then
                  (reticuleref19_Same (c, r3.1)).bind fun r4 =>
                  some (!r4)
                else
                  some false : Option Bool).bind fun b5 =>
              some b5 : Option Bool).bind fun b6 =>
          bif b6 then
            some (Sum.inr false)
          else
            some (Sum.inl s)
        else
          some (Sum.inl s)) K) = K s := by
    intro K
    by_cases ho : okC c
    · have hsp := bytesC_split c ho
      have hrd := (read31 hsp luns).1
      rw [read_like c ho _ (by simp) luns] at hrd
      simp only [if_pos ho, cond_true, hrd, Option.bind_some]
      by_cases hl : c.2.2.2.1 < luns
      · simp only [if_pos hl, decide_eq_true hl, decide_true, Bool.not_true, cond_false, cond_true, (same_eq c c hc hc).2, Option.bind_some, jn_inl]
      · simp only [if_neg hl, decide_eq_false hl, decide_true, Bool.not_true, cond_false, Option.bind_some, jn_inl]
    · simp only [if_neg ho, cond_false, jn_inl]
  simp only [h, decide_false, cond_false]
  rw [key]
  obtain ⟨r1, _⟩ := reads_eq (statusB s) (by rw [statusB_len]; omega)
  rw [statusB_read] at r1
  obtain ⟨tg, rs, st, u⟩ := s
  have e8 := ofInt8 st
  simp only [status_eq, r1, Option.bind_some]
  by_cases h0 : 0 ≤ st
  · by_cases h2 : st ≤ 2
    · have hle : (BitVec.ofInt 8 st).toNat ≤ 2 := by omega
      have he : ((BitVec.ofInt 8 st).toNat : Int) = st := by omega
      simp only [h0, h2, decide_true, cond_true, Option.bind_some, if_pos hle, he, Bool.and_self]
    · simp only [h0, h2, decide_true, decide_false, cond_true, cond_false, Option.bind_some, and255]
      by_cases hle : (BitVec.ofInt 8 st).toNat ≤ 2
      · simp only [if_pos hle, e8, decide_true, cond_true, cond_false, Bool.not_true, Option.bind_some]
      · simp only [if_neg hle, Bool.not_false, cond_true, Option.bind_some]
  · simp only [h0, decide_false, cond_false, Option.bind_some, and255]
    by_cases hle : (BitVec.ofInt 8 st).toNat ≤ 2
    · simp only [if_pos hle, e8, decide_true, cond_true, cond_false, Bool.not_true, Option.bind_some]
    · simp only [if_neg hle, Bool.not_false, cond_true, Option.bind_some]
theorem xor_ne (a b : BitVec 8) (h : b ≠ 0#8) : a ^^^ b ≠ a := by
  intro e
  apply h
  have h2 : a ^^^ (a ^^^ b) = a ^^^ a := by rw [e]
  rw [← BitVec.xor_assoc, BitVec.xor_self, BitVec.zero_xor] at h2
  exact h2
theorem take15 {α : Type} {A B : List α} (h : A.length = 15) (n : Nat) : (A ++ B).take (15 + n) = A ++ B.take n := by
  rw [List.take_append, h, show 15 + n - 15 = n by omega, List.take_of_length_le (by omega)]
theorem CbwTurned_pure (x) : reticulelaw19_CbwTurned x = some true := by
  obtain ⟨c, k8, bb⟩ := x
  simp only [reticulelaw19_CbwTurned, alive_ok, Option.bind_some, Bool.not_true, cond_false, bytes_eq]
  by_cases h : (100 : Int) < c.2.2.2.2.1.length
  · simp [h]
  by_cases hb : bb = 0#8
  · simp [h, hb]
  by_cases ho : okC c
  rotate_left
  · simp [h, hb, ho]
  have hlen := bytesC_len c ho
  have hcl := ho.2
  have hc : c.2.2.2.2.1.length ≤ 2147483648 := by omega
  obtain ⟨k, hk, hk31⟩ : ∃ k : Nat, (k8.toNat : Int).tmod 31 = (k : Int) ∧ k < 31 := ⟨k8.toNat % 31, by rw [Int.tmod_eq_emod_of_nonneg (by omega)]; omega, Nat.mod_lt _ (by decide)⟩
  have c1 : (([] : List (BitVec 8)).length + (bytesC c).length ≤ lim) := by rw [hlen]; show 0 + 31 ≤ 2147483648; omega
  have c2 : (([] ++ bytesC c : List (BitVec 8)).length + ([] : List (BitVec 8)).length ≤ lim) := by rw [List.nil_append, hlen]; show 31 + 0 ≤ 2147483648; omega
  have hj : reticuleref01_Join (bytesC c, []) = some (bytesC c) := by
    simp only [reticuleref01_Join, chk_dec c1, chk_dec c2, Option.bind_some]; simp
  have hin : inLen (k : Int) (bytesC c).length = true := inLen_nat (by omega)
  have hl31 : ((bytesC c).length : Int) = 31 := by omega
  have hget : (bytesC c)[k]? = some ((bytesC c)[k]'(by omega)) := List.getElem?_eq_getElem (by omega)
  have ew : w64 ((15 : Int) + (c.2.2.2.2.1.length : Int)) = ((15 + c.2.2.2.2.1.length : Nat) : Int) := by rw [w64_in] <;> omega
  generalize hv : (bytesC c)[k]'(by omega) ^^^ bb = v
  have hne : v ≠ (bytesC c)[k]'(by omega) := by rw [← hv]; exact xor_ne _ _ hb
  have hL' : ((bytesC c).set k v).length = 31 := by rw [List.length_set]; exact hlen
  have hsp := bytesC_split c ho
  obtain ⟨_, _, _, _, ht15⟩ := hsp.take4
  obtain ⟨p, q, t, f, u, n, r, hs⟩ := split31 _ hL'
  obtain ⟨a1, a2, a3, a4, a5⟩ := hs.take4
  have hrd := (read31 hs 16).1
  simp only [h, hb, decide_false, cond_false, if_pos ho, hl31, decide_true, Bool.not_true, hj, hk, chk_true hin, Int.toNat_natCast, hget, Option.bind_some, hv, hrd, ew]
  have b4 : (bytesC c).drop 15 = c.2.2.2.2.1 ++ List.replicate (16 - c.2.2.2.2.1.length) (0#8) := hsp.take4.2.2.2.1
  by_cases hge : ((15 + c.2.2.2.2.1.length : Nat) : Int) ≤ (k : Int)
  · -- behind the command
    have e15 : ((bytesC c).set k v).take 15 = (bytesC c).take 15 := by rw [List.take_set_of_le (by omega)]
    rw [a5, ht15] at e15
    have hap : ∀ {p q t p' q' t' : List (BitVec 8)} {x y : List (BitVec 8)}, p.length = 4 → q.length = 4 → t.length = 4 → p'.length = 4 → q'.length = 4 → t'.length = 4 → p ++ q ++ t ++ x = p' ++ q' ++ t' ++ y → p = p' ∧ q = q' ∧ t = t' ∧ x = y := by
      intro p q t p' q' t' x y h1 h2 h3 h4 h5 h6 he
      obtain ⟨g1, g2⟩ := List.append_inj he (by simp [h1, h2, h3, h4, h5, h6])
      obtain ⟨g3, g4⟩ := List.append_inj g1 (by simp [h1, h2, h4, h5])
      obtain ⟨g5, g6⟩ := List.append_inj g3 (by rw [h1, h4])
      exact ⟨g5, g6, g4, g2⟩
    obtain ⟨rfl, rfl, rfl, e3⟩ := hap hs.p4 hs.q4 hs.t4 rfl (w4_len _) (w4_len _) e15
    injection e3 with e4 e5
    injection e5 with e5 e6
    injection e6 with e6 e7
    subst e4; subst e5; subst e6
    have hrt : r.take c.2.2.2.2.1.length = c.2.2.2.2.1 := by
      rw [← a4, List.drop_set, if_neg (by omega), List.take_set_of_le (by omega), b4]; simp
    rw [read_like c ho r hrt 16, if_pos ho.1.2]
    simp only [decide_eq_true hge, cond_true, (same_eq c c hc hc).2, Option.bind_some, decide_true]
  · simp only [decide_eq_false hge, cond_false]
    by_cases hok : okB p f u n 16
    · have hd : readB p q t f u n r 16 = ((word q, word t, decide (f = 128#8), (u.toNat : Int), r.take n.toNat, ()), true) := by unfold readB; rw [if_pos hok]
      have hn16 := hok.2.2.2.2.2
      have hrl : (r.take n.toNat).length = n.toNat := by rw [List.length_take, hs.r16]; omega
      have hcd : ¬ c = (word q, word t, decide (f = 128#8), (u.toNat : Int), r.take n.toNat, ()) := by
        intro e
        have hn : n.toNat = c.2.2.2.2.1.length := by rw [e]; exact hrl.symm
        have eqL : ((bytesC c).set k v).take (15 + c.2.2.2.2.1.length) = (bytesC c).take (15 + c.2.2.2.2.1.length) := by
          rw [hs.eq, hsp.eq]
          have h1 : (p ++ q ++ t ++ [f, u, n]).length = 15 := by simp [hs.p4, hs.q4, hs.t4]
          have h2 : (sig ++ w4 c.1 ++ w4 c.2.1 ++ [flagB c.2.2.1, BitVec.ofInt 8 c.2.2.2.1, BitVec.ofInt 8 (c.2.2.2.2.1.length : Int)]).length = 15 := by simp [sig, w4_len]
          rw [take15 h1, take15 h2]
          congr 1
          · have x1 : p = sig := hok.1
            have x2 : w4 c.1 = q := by rw [show c.1 = word q from congrArg (·.1) e]; exact w4_word hs.q4
            have x3 : w4 c.2.1 = t := by rw [show c.2.1 = word t from congrArg (·.2.1) e]; exact w4_word hs.t4
            have x4 : flagB c.2.2.1 = f := by
              rw [show c.2.2.1 = decide (f = 128#8) from congrArg (·.2.2.1) e]
              rcases hok.2.1 with rfl | rfl <;> rfl
            have x5 : BitVec.ofInt 8 c.2.2.2.1 = u := by
              rw [show c.2.2.2.1 = (u.toNat : Int) from congrArg (·.2.2.2.1) e]
              apply BitVec.eq_of_toNat_eq
              have := ofInt8 (u.toNat : Int)
              have := u.isLt
              omega
            have x6 : BitVec.ofInt 8 (c.2.2.2.2.1.length : Int) = n := by
              apply BitVec.eq_of_toNat_eq
              have := ofInt8 (c.2.2.2.2.1.length : Int)
              omega
            rw [x1, x2, x3, x4, x5, x6]
          · rw [← hn]
            have : c.2.2.2.2.1 = r.take n.toNat := congrArg (·.2.2.2.2.1) e
            rw [hn] at this ⊢
            rw [← this]; simp
        have := congrArg (fun l => l[k]?) eqL
        simp only [List.getElem?_take] at this
        rw [if_pos (by omega), if_pos (by omega), List.getElem?_set_self (by omega), hget] at this
        exact hne (Option.some.inj this)
      have hl2 : (r.take n.toNat).length ≤ 2147483648 := by omega
      simp only [hd, Bool.not_true, cond_false, (same_eq c (word q, word t, decide (f = 128#8), (u.toNat : Int), r.take n.toNat, ()) hc hl2).2, decide_eq_false hcd, Option.bind_some, Bool.not_false]
    · have hd : readB p q t f u n r 16 = (zeroCbw, false) := by unfold readB; rw [if_neg hok]
      simp only [hd, Bool.not_false, cond_true, Option.bind_some]
end Go.Proofs.Ytkceolaolmfeaaa
