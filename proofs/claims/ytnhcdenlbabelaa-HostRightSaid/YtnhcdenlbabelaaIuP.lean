/- Plain laws of chapter 22: the bytes of commands and managements. -/
import Derived.Test.YtnhcdenlbabelaaNumR
import Derived.Test.YtnhcdenlbabelaaNumG
namespace Go.Proofs.Ytnhcdenlbabelaa
open Go Go.Re
set_option linter.unusedVariables false
set_option linter.unusedSimpArgs false
def lo (v : Int) : BitVec 8 := BitVec.ofInt 8 v
def hi (v : Int) : BitVec 8 := BitVec.ofInt 8 (v / 256)
theorem lo_nat (v : Int) : ((lo v).toNat : Int) = v % 256 := ofInt8 v
theorem hi_nat (v : Int) : ((hi v).toNat : Int) = v / 256 % 256 := ofInt8 _
theorem bv8 {a b : BitVec 8} (h : (a.toNat : Int) = (b.toNat : Int)) : a = b := BitVec.eq_of_toNat_eq (by omega)
theorem two_rev (v : Int) : (leN 2 ((BitVec.ofInt 16 v).setWidth 64)).reverse = [hi v, lo v] := by
  have n : (((BitVec.ofInt 16 v).setWidth 64).toNat : Int) = v % 65536 := by
    rw [BitVec.toNat_setWidth, Nat.mod_eq_of_lt (by have := (BitVec.ofInt 16 v).isLt; omega)]; exact ofInt16 v
  generalize (BitVec.ofInt 16 v).setWidth 64 = X at n
  have e : leN 2 X = [(X >>> (8 * 0)).setWidth 8, (X >>> (8 * 1)).setWidth 8] := rfl
  have e1 : (X >>> (8 * 0)).setWidth 8 = lo v := by
    apply bv8
    rw [lo_nat, BitVec.toNat_setWidth, BitVec.toNat_ushiftRight, Nat.shiftRight_eq_div_pow]
    show ((X.toNat / 1 % 256 : Nat) : Int) = _
    omega
  have e2 : (X >>> (8 * 1)).setWidth 8 = hi v := by
    apply bv8
    rw [hi_nat, BitVec.toNat_setWidth, BitVec.toNat_ushiftRight, Nat.shiftRight_eq_div_pow]
    show ((X.toNat / 256 % 256 : Nat) : Int) = _
    omega
  rw [e, e1, e2]; rfl
theorem put_eq (v : Int) : iu_put v = some [hi v, lo v] := by
  simp only [iu_put, putBig_eq, if_pos (show (1 : Int) ≤ 2 ∧ (2 : Int) ≤ 8 by omega), show (2 : Int).toNat = 2 from rfl, two_rev, Option.bind_some]
theorem head_eq (k v : Int) : iu_head (k, v) = some [lo k, 0#8, hi v, lo v] := by
  simp only [iu_head, put_eq, Option.bind_some]
  rw [concat_eq _ (by simp) (by simp)]
  rfl
theorem low8 (v : Int) : BitVec.ofInt 8 (BitVec.toInt (BitVec.ofInt 64 v &&& BitVec.ofInt 64 255)) = lo v := by
  have h : (BitVec.ofInt 64 v &&& BitVec.ofInt 64 255).toNat = (BitVec.ofInt 64 v).toNat % 256 := by
    rw [BitVec.toNat_and, show (BitVec.ofInt 64 255).toNat = 2 ^ 8 - 1 from rfl, Nat.and_two_pow_sub_one_eq_mod]
  have h2 : ((BitVec.ofInt 64 v).toNat : Int) = v % 18446744073709551616 := ofInt64 v
  apply bv8
  rw [ofInt8, lo_nat, BitVec.toInt_eq_toNat_of_lt (by rw [h]; omega), h]
  omega
theorem hi8 (v : Int) : shrI v (((8#64).toNat : Int)).toNat = v / 256 := by
  unfold shrI
  rw [show (((8#64).toNat : Int)).toNat = 8 from rfl, show ((2 : Int) ^ min 8 64) = 256 from rfl, Int.fdiv_eq_ediv_of_nonneg _ (by omega)]
theorem ref_two_eq (v : Int) : reticuleref22_two v = some [hi v, lo v] := by
  simp only [reticuleref22_two, low8, hi8]; rfl
theorem ref_head_eq (k : BitVec 8) (v : Int) : reticuleref22_head (k, v) = some [k, 0#8, hi v, lo v] := by
  simp only [reticuleref22_head, ref_two_eq, Option.bind_some]; rfl
def placeB (b : BitVec 8) : List (BitVec 8) := [0#8, b, 0#8, 0#8, 0#8, 0#8, 0#8, 0#8]
theorem place_eq (v : Int) : iu_place v = some (placeB (lo v)) := rfl
theorem ref_lun_eq (v : Int) : reticuleref22_lun v = some (placeB (lo v)) := by
  simp only [reticuleref22_lun, low8]; rfl
abbrev Cm := Int × (BitVec 64 × (Int × (Int × (Int × Unit))))
abbrev Sn := Int × (Int × (Int × Unit))
abbrev Jb := Cm × (Int × (Int × (List (BitVec 8) × (Sn × Unit))))
abbrev Tk := Int × (Int × (List (BitVec 8) × (Int × (List (BitVec 8) × (Jb × (Sn × Unit))))))
abbrev Mg := Int × (Int × (Int × (Int × Unit)))
/-- a command's bytes -/
def cmdB (t : Tk) : List (BitVec 8) := [1#8, 0#8, hi t.1, lo t.1, 0#8, 0#8, 0#8, 0#8] ++ (placeB (lo t.2.1) ++ t.2.2.1)
theorem putCommand_eq (t : Tk) (h : t.2.2.1.length ≤ 100) : iu_PutCommand t = some (cmdB t) := by
  simp only [iu_PutCommand, head_eq, place_eq, Option.bind_some, show chk (decide ((0 : Int) ≤ 4) && decide ((4 : Int) ≤ 4) && decide ((4 : Int) ≤ (lim : Int))) = some () from rfl, show chk true = some () from rfl]
  rw [concat_eq _ (by simp [placeB]; omega) (by simp)]
  simp only [Option.bind_some, List.flatten_cons, List.flatten_nil, List.append_nil]
  rfl
theorem ref_put_loop (t : Tk) (r : List (BitVec 8)) (h : t.2.2.1.length = 16) (hr : r.length ≤ 100) : ∀ k i n, i + k = 16 → k < n →
    reticuleref22_PutCommand_L0 n (t, r ++ t.2.2.1.take i, (i : Int)) = some (Sum.inl (r ++ t.2.2.1)) := by
  intro k
  induction k with
  | zero =>
    intro i n hi hn
    obtain ⟨n, rfl⟩ := Nat.exists_eq_succ_of_ne_zero (show n ≠ 0 by omega)
    have h1 : ¬ ((i : Int) < 16) := by omega
    simp only [reticuleref22_PutCommand_L0, decide_eq_false h1, cond_false]
    rw [List.take_of_length_le (by omega)]
  | succ k ih =>
    intro i n hi hn
    obtain ⟨n, rfl⟩ := Nat.exists_eq_succ_of_ne_zero (show n ≠ 0 by omega)
    have h1 : ((i : Int) < 16) := by omega
    have h2 : i < t.2.2.1.length := by omega
    have c : (r ++ t.2.2.1.take i).length + ([t.2.2.1[i]] : List (BitVec 8)).length ≤ lim := by
      apply le_lim; simp; omega
    simp only [reticuleref22_PutCommand_L0, decide_eq_true h1, cond_true, chk_true (inLen_nat (show i < 16 by omega)), Option.bind_some, Int.toNat_natCast, List.getElem?_eq_getElem h2, chk_dec c, w64_succ i (by omega)]
    rw [← ih (i + 1) n (by omega) (by omega), List.append_assoc, List.take_add_one, List.getElem?_eq_getElem h2]
    rfl
theorem ref_putCommand_eq (t : Tk) (h : t.2.2.1.length = 16) : reticuleref22_PutCommand t = some (cmdB t) := by
  have hl := ref_put_loop t ([1#8, 0#8, hi t.1, lo t.1, 0#8, 0#8, 0#8, 0#8] ++ placeB (lo t.2.1)) h (by simp [placeB]) 16 0 Big (by omega) (big_lt (by omega))
  rw [List.take_zero, List.append_nil, Int.natCast_zero] at hl
  simp only [reticuleref22_PutCommand, ref_head_eq, ref_lun_eq, Option.bind_some, List.cons_append, List.nil_append]
  rw [show chk (decide (([1#8, 0#8, hi t.1, lo t.1] : List (BitVec 8)).length + ([0#8, 0#8, 0#8, 0#8] : List (BitVec 8)).length ≤ lim)) = some () from rfl,
    show chk (decide (([1#8, 0#8, hi t.1, lo t.1, 0#8, 0#8, 0#8, 0#8] : List (BitVec 8)).length + (placeB (lo t.2.1)).length ≤ lim)) = some () from rfl]
  simp only [Option.bind_some]
  simp only [List.cons_append, List.nil_append] at hl
  rw [hl]
  rfl
/-- a management's bytes -/
def manB (m : Mg) : List (BitVec 8) := [5#8, 0#8, hi m.1, lo m.1, lo m.2.1, 0#8, hi m.2.2.1, lo m.2.2.1] ++ placeB (lo m.2.2.2.1)
theorem putManage_eq (m : Mg) : iu_PutManage m = some (manB m) := by
  simp only [iu_PutManage, head_eq, place_eq, put_eq, Option.bind_some]
  rw [concat_eq _ (by simp [placeB]) (by simp)]
  rfl
theorem ref_putManage_eq (m : Mg) : reticuleref22_PutManage m = some (manB m) := by
  simp only [reticuleref22_PutManage, ref_head_eq, ref_lun_eq, ref_two_eq, low8, Option.bind_some]
  rfl
end Go.Proofs.Ytnhcdenlbabelaa
