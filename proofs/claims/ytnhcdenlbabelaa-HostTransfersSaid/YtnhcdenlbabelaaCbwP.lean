/- Plain laws of chapter 19: the bytes of a command wrapper. -/
import Derived.Test.YtnhcdenlbabelaaNumL
import Derived.Test.YtnhcdenlbabelaaNumG
import Derived.Test.YtnhcdenlbabelaaRefCL
import Derived.KernelRfl
namespace Go.Proofs.Ytnhcdenlbabelaa
open Go Go.Re
set_option linter.unusedVariables false
set_option linter.unusedSimpArgs false
namespace Cb
abbrev Cbw := BitVec 32 × (BitVec 32 × (Bool × (Int × (List (BitVec 8) × Unit))))
def sig : List (BitVec 8) := [85#8, 83#8, 66#8, 67#8]
def w4 (x : BitVec 32) : List (BitVec 8) := leN 4 (x.setWidth 64)
def word (p : List (BitVec 8)) : BitVec 32 := (BitVec.ofNat 64 (nv p)).setWidth 32
def flagB (b : Bool) : BitVec 8 := bif b then 128#8 else 0#8
def head (c : Cbw) : List (BitVec 8) := sig ++ w4 c.1 ++ w4 c.2.1 ++ [flagB c.2.2.1, BitVec.ofInt 8 c.2.2.2.1, BitVec.ofInt 8 (c.2.2.2.2.1.length : Int)]
def bytesC (c : Cbw) : List (BitVec 8) := head c ++ c.2.2.2.2.1 ++ List.replicate (16 - c.2.2.2.2.1.length) (0#8)
def okC (c : Cbw) : Prop := (0 ≤ c.2.2.2.1 ∧ c.2.2.2.1 < 16) ∧ (1 ≤ c.2.2.2.2.1.length ∧ c.2.2.2.2.1.length ≤ 16)
instance (c : Cbw) : Decidable (okC c) := inferInstanceAs (Decidable (_ ∧ _))
theorem w4_len (x : BitVec 32) : (w4 x).length = 4 := leN_length _ _
theorem head_len (c : Cbw) : (head c).length = 15 := by simp [head, sig, w4_len]
theorem bytesC_len (c : Cbw) (h : okC c) : (bytesC c).length = 31 := by
  have := h.2
  simp only [bytesC, List.length_append, head_len, List.length_replicate]; omega
theorem shr4 (x : Int) (h : 0 ≤ x) : shrI x (((4#64).toNat : Int)).toNat = x / 16 := by
  rw [show (((4#64).toNat : Int)).toNat = 4 from rfl]
  unfold shrI
  rw [Int.fdiv_eq_ediv_of_nonneg _ (by decide)]
  rfl
theorem put_eq (x : BitVec 32) : cbw_put x = some (w4 x) := by
  simp only [cbw_put, putLittle_eq, if_pos (show (1 : Int) ≤ 4 ∧ (4 : Int) ≤ 8 by omega), Option.bind_some]; rfl
theorem sig_w4 : w4 1128420181#32 = sig := by decide
theorem bad_cond (c : Cbw) (h : ¬ okC c) : ((((bif decide (c.2.2.2.1 < 0) then some true else some (!decide ((shrI c.2.2.2.1 (((4#64).toNat : Int)).toNat) = 0)) : Option Bool).bind fun b1 =>
    (bif b1 then some true else some (decide ((c.2.2.2.2.1.length : Int) < 1)) : Option Bool).bind fun b2 =>
    (bif b2 then some true else some (decide (16 < (c.2.2.2.2.1.length : Int))) : Option Bool)))) = some true := by
  by_cases h1 : c.2.2.2.1 < 0
  · simp [h1]
  · rw [shr4 _ (by omega)]
    by_cases h2 : c.2.2.2.1 / 16 = 0
    · by_cases h3 : (c.2.2.2.2.1.length : Int) < 1
      · simp only [h1, h2, h3, decide_true, decide_false, Bool.not_true, cond_true, cond_false, Option.bind_some]
      · have h4 : 16 < (c.2.2.2.2.1.length : Int) := by
          refine Classical.byContradiction fun h4 => h ⟨⟨by omega, by omega⟩, by omega, by omega⟩
        simp only [h1, h2, h3, h4, decide_true, decide_false, Bool.not_true, cond_true, cond_false, Option.bind_some]
    · simp only [h1, h2, decide_true, decide_false, Bool.not_false, cond_true, cond_false, Option.bind_some]
theorem bytes_eq (c : Cbw) : cbw_Bytes c = some (if okC c then (bytesC c, true) else ([], false)) := by
  by_cases h : okC c
  · obtain ⟨tg, ln, fl, lun, cdb, u⟩ := c
    have h' := h
    obtain ⟨⟨h1, h2⟩, h3, h4⟩ := h
    simp only at h1 h2 h3 h4
    have n1 : ¬ lun < 0 := by omega
    have n2 : lun / 16 = 0 := by omega
    have n3 : ¬ ((cdb.length : Int) < 1) := by omega
    have n4 : ¬ (16 < (cdb.length : Int)) := by omega
    have e1 : w64 ((16 : Int) - (cdb.length : Int)) = ((16 - cdb.length : Nat) : Int) := by rw [w64_in] <;> omega
    have c1 : (decide (0 ≤ ((16 - cdb.length : Nat) : Int)) && decide (((16 - cdb.length : Nat) : Int) ≤ ((16 - cdb.length : Nat) : Int)) && decide (((16 - cdb.length : Nat) : Int) ≤ (lim : Int))) = true := by
      have : ((16 - cdb.length : Nat) : Int) ≤ (lim : Int) := by rw [lim_int]; omega
      simp only [Bool.and_eq_true, decide_eq_true_eq]; exact ⟨⟨by omega, by omega⟩, this⟩
    simp only [cbw_Bytes, n1, shr4 lun h1, n2, n3, n4, decide_false, decide_true, Bool.not_true, cond_false, Option.bind_some]
    have j : ∀ (K : _ → Option ((List (BitVec 8)) × Bool)), jn (A := Cbw × (List (BitVec 8))) (R := ((List (BitVec 8)) × Bool)) (bif fl then
        (chk (inLen 0 3)).bind fun _ =>
        ((([0#8, BitVec.ofInt 8 lun, BitVec.ofInt 8 (cdb.length : Int)] : List (BitVec 8))[(0 : Int).toNat]?).bind fun z4 =>
          some (([0#8, BitVec.ofInt 8 lun, BitVec.ofInt 8 (cdb.length : Int)] : List (BitVec 8)).set (0 : Int).toNat (128#8))).bind fun x5 =>
        some (Sum.inl ((tg, ln, fl, lun, cdb, u), x5))
      else
        some (Sum.inl ((tg, ln, fl, lun, cdb, u), ([0#8, BitVec.ofInt 8 lun, BitVec.ofInt 8 (cdb.length : Int)] : List (BitVec 8))))) K =
        K ((tg, ln, fl, lun, cdb, u), [flagB fl, BitVec.ofInt 8 lun, BitVec.ofInt 8 (cdb.length : Int)]) := by
      intro K; cases fl <;> rfl
    rw [j]
    simp only [put_eq, sig_w4, Option.bind_some, chk_true rfl, e1, chk_true c1, Int.toNat_natCast]
    rw [concat_eq _ (by simp [sig, w4_len]; omega) (by simp)]
    simp only [Option.bind_some, if_pos h']
    simp [bytesC, head]
  · have hb := bad_cond c h
    rw [if_neg h]
    obtain ⟨tg, ln, fl, lun, cdb, u⟩ := c
    simp only [cbw_Bytes]
    simp only at hb
    generalize hX : (bif decide (lun < 0) then some true else some (!decide ((shrI lun (((4#64).toNat : Int)).toNat) = 0)) : Option Bool) = X at hb
    cases X with
    | none => simp at hb
    | some b1 =>
      simp only [Option.bind_some] at hb ⊢
      generalize (bif b1 then some true else some (decide ((cdb.length : Int) < 1)) : Option Bool) = Y at hb ⊢
      cases Y with
      | none => simp at hb
      | some b2 =>
        simp only [Option.bind_some] at hb ⊢
        rw [hb]; rfl
theorem pad_loop : ∀ k n (acc : List (BitVec 8)) (i : Nat), acc.length + k = 31 → i + k ≤ 16 → k < n → reticuleref19_Bytes_L0 n (acc, (i : Int)) = some (Sum.inl (acc ++ List.replicate k (0#8))) := by
  intro k
  induction k with
  | zero =>
    intro n acc i ha hi hn
    obtain ⟨n, rfl⟩ := Nat.exists_eq_succ_of_ne_zero (show n ≠ 0 by omega)
    have h : ¬ ((acc.length : Int) < 31) := by omega
    have hb : (bif decide ((i : Int) < 16) then some (decide ((acc.length : Int) < 31)) else some false : Option Bool) = some false := by
      rw [decide_eq_false h]; cases decide ((i : Int) < 16) <;> rfl
    simp only [reticuleref19_Bytes_L0, hb, Option.bind_some, cond_false]; simp
  | succ k ih =>
    intro n acc i ha hi hn
    obtain ⟨n, rfl⟩ := Nat.exists_eq_succ_of_ne_zero (show n ≠ 0 by omega)
    have h : ((acc.length : Int) < 31) := by omega
    have h2 : ((i : Int) < 16) := by omega
    have c : acc.length + ([0#8] : List (BitVec 8)).length ≤ lim := by show acc.length + 1 ≤ 2147483648; omega
    have := ih n (acc ++ [0#8]) (i + 1) (by simp; omega) (by omega) (by omega)
    rw [List.append_assoc, show [0#8] ++ List.replicate k (0#8) = List.replicate (k + 1) (0#8) from rfl] at this
    rw [← this, ← w64_succ i (by omega)]
    simp only [reticuleref19_Bytes_L0, decide_eq_true h, decide_eq_true h2, cond_true, Option.bind_some, chk_dec c]
theorem ref_bytes (c : Cbw) : reticuleref19_Bytes c = some (if okC c then (bytesC c, true) else ([], false)) := by
  obtain ⟨tg, ln, fl, lun, cdb, u⟩ := c
  simp only [reticuleref19_Bytes, ref_putLittle, if_pos (show (1 : Int) ≤ 4 ∧ (4 : Int) ≤ 8 by omega), show (4 : Int).toNat = 4 from rfl]
  by_cases h : okC (tg, ln, fl, lun, cdb, u)
  · have h' := h
    obtain ⟨⟨h1, h2⟩, h3, h4⟩ := h
    simp only at h1 h2 h3 h4
    have n1 : ¬ lun < 0 := by omega
    have n2 : ¬ (15 < lun) := by omega
    have n3 : ¬ ((cdb.length : Int) < 1) := by omega
    have n4 : ¬ (16 < (cdb.length : Int)) := by omega
    have l4 : ∀ x : BitVec 64, (leN 4 x).length = 4 := fun x => leN_length 4 x
    have c0 : 0 < ([85#8, 83#8, 66#8, 67#8] : List (BitVec 8)).length := by simp
    have c1 : ([85#8, 83#8, 66#8, 67#8] : List (BitVec 8)).length + (leN 4 (tg.setWidth 64)).length ≤ lim := by rw [l4]; show 4 + 4 ≤ 2147483648; omega
    have c2 : (([85#8, 83#8, 66#8, 67#8] : List (BitVec 8)) ++ leN 4 (tg.setWidth 64)).length + (leN 4 (ln.setWidth 64)).length ≤ lim := by rw [List.length_append, l4, l4]; show 4 + 4 + 4 ≤ 2147483648; omega
    have c3 : ∀ f : BitVec 8, ((([85#8, 83#8, 66#8, 67#8] : List (BitVec 8)) ++ leN 4 (tg.setWidth 64)) ++ leN 4 (ln.setWidth 64)).length + ([f, BitVec.ofInt 8 lun, BitVec.ofInt 8 (cdb.length : Int)] : List (BitVec 8)).length ≤ lim := by
      intro f; rw [List.length_append, List.length_append, l4, l4]; show 4 + 4 + 4 + 3 ≤ 2147483648; omega
    have c4 : ∀ f : BitVec 8, (((([85#8, 83#8, 66#8, 67#8] : List (BitVec 8)) ++ leN 4 (tg.setWidth 64)) ++ leN 4 (ln.setWidth 64)) ++ ([f, BitVec.ofInt 8 lun, BitVec.ofInt 8 (cdb.length : Int)] : List (BitVec 8))).length + cdb.length ≤ lim := by
      intro f; rw [List.length_append, List.length_append, List.length_append, l4, l4]; show 4 + 4 + 4 + 3 + cdb.length ≤ 2147483648; omega
    simp only [n1, n2, n3, n4, decide_false, cond_false, Option.bind_some, chk_dec c0, chk_dec c1, chk_dec c2]
    have j : ∀ (K : _ → Option ((List (BitVec 8)) × Bool)) (Y : List (BitVec 8)), jn (A := Cbw × (List (BitVec 8)) × (BitVec 8)) (R := ((List (BitVec 8)) × Bool)) (bif fl then
        some (Sum.inl ((tg, ln, fl, lun, cdb, u), Y, 128#8))
      else
        some (Sum.inl ((tg, ln, fl, lun, cdb, u), Y, 0#8))) K = K ((tg, ln, fl, lun, cdb, u), Y, flagB fl) := by
      intro K Y; cases fl <;> rfl
    rw [j]
    have lp := pad_loop (16 - cdb.length) Big (bytesC (tg, ln, fl, lun, cdb, u) |>.take (15 + cdb.length)) 0 (by rw [List.length_take, bytesC_len _ h']; omega) (by omega) (big_lt (by omega))
    have et : (bytesC (tg, ln, fl, lun, cdb, u)).take (15 + cdb.length) = ((([85#8, 83#8, 66#8, 67#8] : List (BitVec 8)) ++ leN 4 (tg.setWidth 64)) ++ leN 4 (ln.setWidth 64)) ++ ([flagB fl, BitVec.ofInt 8 lun, BitVec.ofInt 8 (cdb.length : Int)] : List (BitVec 8)) ++ cdb := by
      have : (head (tg, ln, fl, lun, cdb, u) ++ cdb).length = 15 + cdb.length := by rw [List.length_append, head_len]
      unfold bytesC
      rw [List.take_append_of_le_length (by rw [this]; exact Nat.le_refl _), List.take_of_length_le (by rw [this]; exact Nat.le_refl _)]
      rfl
    rw [et, Int.natCast_zero] at lp
    simp only [chk_dec (c3 _), chk_dec (c4 _), Option.bind_some, lp, jn_inl, if_pos h']
    rfl
  · rw [if_neg h]
    by_cases h1 : lun < 0
    · simp [h1]
    · by_cases h2 : 15 < lun
      · simp [h1, h2]
      · by_cases h3 : (cdb.length : Int) < 1
        · simp only [h1, h2, h3, decide_true, decide_false, cond_true, cond_false, Option.bind_some]
        · have h4 : 16 < (cdb.length : Int) := by
            refine Classical.byContradiction fun h4 => h ⟨⟨show 0 ≤ lun by omega, show lun < 16 by omega⟩, show 1 ≤ cdb.length by omega, show cdb.length ≤ 16 by omega⟩
          simp only [h1, h2, h3, h4, decide_true, decide_false, cond_true, cond_false, Option.bind_some]
/-! ### words -/
end Cb
end Go.Proofs.Ytnhcdenlbabelaa
