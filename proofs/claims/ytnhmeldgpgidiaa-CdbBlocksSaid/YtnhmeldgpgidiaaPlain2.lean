/- Plain laws. -/
import Derived.Test.YtnhmeldgpgidiaaPlain1
/- Plain laws of chapter 6: how the document lays a command's bytes: commands that go by blocks. -/
namespace Go.Proofs.Ytnhmeldgpgidiaa
open Go Go.Re
set_option linter.unusedVariables false
set_option linter.unusedSimpArgs false
namespace Cdb
theorem six_mod (a : BitVec 64) (h : a.toNat < 2097152) (op : Int) (hl : (b0 op).length = 6) : (putS (1, 3, 0, 0, ()) a (b0 op)).set 1 ((putS (1, 3, 0, 0, ()) a (b0 op)).getD 1 0#8 % 32#8) = putS (1, 3, 0, 0, ()) a (b0 op) := by
  have ho := okSp_whole (N := 6) (a := 1) (w := 3) (by decide) (by decide) (by decide) (by decide)
  have hw : (0 : Int) < ((1, 3, 0, 0, ()) : Span).2.1 := by decide
  have l := put_len ho hw a (b0 op) hl
  have l : (putS (1, 3, 0, 0, ()) a (b0 op)).length = 6 := l
  have hb : (putS (1, 3, 0, 0, ()) a (b0 op)).getD 1 0#8 = (a >>> 16).setWidth 8 := by
    apply BitVec.eq_of_getLsbD_eq
    intro r hr
    have := put_bit ho hw a (b0 op) hl 1 r (by decide) hr
    unfold bit at this
    have c1 : cov (1, 3, 0, 0, ()) 1 r = true := by
      have : cov (1, 3, 0, 0, ()) 1 r = (true && (true && (true && (decide (0 ≤ 8 * 2 + r) && decide (8 * 2 + r < 0 + 24))))) := rfl
      rw [this, decide_eq_true (show 0 ≤ 8 * 2 + r by omega), decide_eq_true (show 8 * 2 + r < 0 + 24 by omega)]; rfl
    refine this.trans ?_
    rw [show cov (((1 : Nat) : Int), ((3 : Nat) : Int), 0, 0, ()) 1 r = true from c1, if_pos rfl, BitVec.getLsbD_setWidth, BitVec.getLsbD_ushiftRight, decide_eq_true hr, Bool.true_and]
    exact congrArg a.getLsbD (show 8 * 2 + r - 0 = 16 + r by omega)
  have hm : (putS (1, 3, 0, 0, ()) a (b0 op)).getD 1 0#8 % 32#8 = (putS (1, 3, 0, 0, ()) a (b0 op)).getD 1 0#8 := by
    rw [hb]
    apply BitVec.eq_of_toNat_eq
    rw [BitVec.toNat_umod, BitVec.toNat_setWidth, BitVec.toNat_ushiftRight, Nat.shiftRight_eq_div_pow]
    show a.toNat / 65536 % 256 % 32 = a.toNat / 65536 % 256
    omega
  rw [hm]
  refine list_ext (by rw [List.length_set]) fun j => ?_
  rw [set_getD _ _ _ _ (by omega)]
  split
  · rename_i e; rw [e]
  · rfl
theorem rb_8 (a : BitVec 64) (n p k : Int) (g1 : 0 ≤ n) (g2 : 0 ≤ p) (g3 : 0 ≤ k) (g4 : k ≤ 3) (g5 : p ≤ 255) : RB (8, a, n, p, k, ()) := by
  have hl : (b0 8).length = 6 := (b0_len 8).trans (by kernel_rfl)
  have c1 : reticuleref06_lay (b0 8, 1, 3, a) = some (putS (1, 3, 0, 0, ()) (a) (b0 8)) := lay_eq (N := 6) (a := 1) (w := 3) (by decide) (by decide) (by decide) (by decide) (by decide) _ _ hl
  have l1 : (putS (1, 3, 0, 0, ()) (a) (b0 8)).length = 6 := put_len (N := 6) (okSp_whole (a := 1) (w := 3) (by decide) (by decide) (by decide) (by decide)) (by decide) _ _ hl
  have c2 : chk (inLen 1 (putS (1, 3, 0, 0, ()) (a) (b0 8)).length) = some () := chk_in l1 (by decide)
  have i2 : (putS (1, 3, 0, 0, ()) (a) (b0 8))[(1 : Int).toNat]? = some ((putS (1, 3, 0, 0, ()) (a) (b0 8)).getD 1 0#8) := by rw [List.getD_eq_getElem?_getD, show ((1 : Int).toNat) = 1 from rfl, List.getElem?_eq_getElem (by rw [l1]; omega)]; rfl
  have l2 : ((putS (1, 3, 0, 0, ()) (a) (b0 8)).set 1 ((putS (1, 3, 0, 0, ()) (a) (b0 8)).getD 1 0#8 % 32#8)).length = 6 := by rw [List.length_set, l1]
  have c3 : chk (inLen 4 ((putS (1, 3, 0, 0, ()) (a) (b0 8)).set 1 ((putS (1, 3, 0, 0, ()) (a) (b0 8)).getD 1 0#8 % 32#8)).length) = some () := chk_in l2 (by decide)
  have l3 : (((putS (1, 3, 0, 0, ()) (a) (b0 8)).set 1 ((putS (1, 3, 0, 0, ()) (a) (b0 8)).getD 1 0#8 % 32#8)).set 4 (BitVec.ofInt 8 n)).length = 6 := by rw [List.length_set, l2]
  refine ⟨((putS (1, 3, 0, 0, ()) (a) (b0 8)).set 1 ((putS (1, 3, 0, 0, ()) (a) (b0 8)).getD 1 0#8 % 32#8)).set 4 (BitVec.ofInt 8 n), by rw [l3]; decide, fun hF => ?_, ?_⟩
  · have hs := fits_small hF
    simp only [shp_8] at hs
    obtain ⟨s1, s2, s3, s4⟩ := hs
    simp only [nB, Int.reduceEq, if_true, if_false, Int.reduceToNat, Nat.reduceMul, Nat.reducePow, Int.reducePow] at s1 s3 s4
    have e := same_bytes (8, a, n, p, k, ()) hF none (fun v h => by cases h) (N := 6) (by kernel_rfl) [((1, 3, 0, 21, ()), 0), ((4, 1, 0, 0, ()), 1), ((0, 0, 0, 0, ()), 2), ((0, 0, 0, 0, ()), 3)] [((1, 3, 0, 0, ()), 0), ((4, 1, 0, 0, ()), 1)] (by show bagC (shp 8) _ = _; rw [shp_8]; rfl) (by kernel_rfl) (by kernel_rfl) (by kernel_rfl)
    rw [e]
    have ml1 : (putS (1, 3, 0, 0, ()) (a) (b0 8)).length = 6 := put_len (N := 6) (okSp_whole (a := 1) (w := 3) (by decide) (by decide) (by decide) (by decide)) (by decide) _ _ hl
    have m2 : (putS (1, 3, 0, 0, ()) (a) (b0 8)).set 1 ((putS (1, 3, 0, 0, ()) (a) (b0 8)).getD 1 0#8 % 32#8) = putS (1, 3, 0, 0, ()) (a) (b0 8) := six_mod a s1 8 hl
    have m3 : (putS (1, 3, 0, 0, ()) (a) (b0 8)).set 4 (BitVec.ofInt 8 n) = putS (4, 1, 0, 0, ()) (BitVec.ofInt 64 n) (putS (1, 3, 0, 0, ()) (a) (b0 8)) := set_put (N := 6) (j := 4) (by decide) (by decide) _ _ (by rw [ofInt8_64]) _ ml1
    have ml3 : (putS (4, 1, 0, 0, ()) (BitVec.ofInt 64 n) (putS (1, 3, 0, 0, ()) (a) (b0 8))).length = 6 := put_len (N := 6) (okSp_whole (a := 4) (w := 1) (by decide) (by decide) (by decide) (by decide)) (by decide) _ _ ml1
    rw [m2, m3]
    rfl
  · have r1 := b0_raw 8 6 (by kernel_rfl)
    have ln : (((b0 8).length : Nat) : Int) = 6 := by rw [hl]; rfl
    have d1 := decide_eq_false (show ¬ n < 0 by omega)
    have d2 := decide_eq_false (show ¬ p < 0 by omega)
    have d3 := decide_eq_false (show ¬ k < 0 by omega)
    have d4 := decide_eq_false (show ¬ 3 < k by omega)
    have d5 := decide_eq_false (show ¬ 255 < p by omega)
    have z : sizeI 8 = ((6 : Nat) : Int) := by kernel_rfl
    have kn : decide (8 ∈ ops) = true := by decide
    have cl : clsI 8 = 1 := by decide
    have lm : decide (((6 : Nat) : Int) ≤ ((lim : Nat) : Int)) = true := by decide
    have c0 : chk (inLen 0 (List.replicate ((6 : Nat) : Int).toNat (0#8)).length) = some () := by decide
    have nn : (6 : Int) = ((6 : Nat) : Int) := rfl
    unfold reticuleref06_Bytes
    simp only [(known_eq _).2, (size_eq _).2, (cls_eq _).2, z, kn, cl, Option.bind_some, Bool.not_true, cond_false, cond_true, d1, d2, d3, d4, d5, lm, c0, r1, ln, chk_true rfl, decide_true, decide_false, Bool.and_self, Int.reduceLT, Int.reduceEq, Int.reduceLE, Int.natCast_nonneg, Int.le_refl, Int.reduceToNat, c1, c2, i2, c3, jn_inl]
    exact ref_fin (8, a, n, p, k, ()) _ (Nat.le_trans (Nat.le_of_eq hl) (by decide))
theorem rb_40_y (a : BitVec 64) (n p : Int) (g1 : 0 ≤ n) (g2 : 0 ≤ p) (g5 : p ≤ 255) : RB (40, a, n, p, 1, ()) := by
  have hl : (b0 40).length = 10 := (b0_len 40).trans (by kernel_rfl)
  have c1 : reticuleref06_lay (b0 40, 2, 4, a) = some (putS (2, 4, 0, 0, ()) (a) (b0 40)) := lay_eq (N := 10) (a := 2) (w := 4) (by decide) (by decide) (by decide) (by decide) (by decide) _ _ hl
  have l1 : (putS (2, 4, 0, 0, ()) (a) (b0 40)).length = 10 := put_len (N := 10) (okSp_whole (a := 2) (w := 4) (by decide) (by decide) (by decide) (by decide)) (by decide) _ _ hl
  have c2 : reticuleref06_lay (putS (2, 4, 0, 0, ()) (a) (b0 40), 7, 2, BitVec.ofInt 64 n) = some (putS (7, 2, 0, 0, ()) (BitVec.ofInt 64 n) (putS (2, 4, 0, 0, ()) (a) (b0 40))) := lay_eq (N := 10) (a := 7) (w := 2) (by decide) (by decide) (by decide) (by decide) (by decide) _ _ l1
  have l2 : (putS (7, 2, 0, 0, ()) (BitVec.ofInt 64 n) (putS (2, 4, 0, 0, ()) (a) (b0 40))).length = 10 := put_len (N := 10) (okSp_whole (a := 7) (w := 2) (by decide) (by decide) (by decide) (by decide)) (by decide) _ _ l1
  have c3 : chk (inLen 1 (putS (7, 2, 0, 0, ()) (BitVec.ofInt 64 n) (putS (2, 4, 0, 0, ()) (a) (b0 40))).length) = some () := chk_in l2 (by decide)
  have l3 : ((putS (7, 2, 0, 0, ()) (BitVec.ofInt 64 n) (putS (2, 4, 0, 0, ()) (a) (b0 40))).set 1 (8#8)).length = 10 := by rw [List.length_set, l2]
  refine ⟨(putS (7, 2, 0, 0, ()) (BitVec.ofInt 64 n) (putS (2, 4, 0, 0, ()) (a) (b0 40))).set 1 (8#8), by rw [l3]; decide, fun hF => ?_, ?_⟩
  · have hs := fits_small hF
    simp only [shp_40] at hs
    obtain ⟨s1, s2, s3, s4⟩ := hs
    simp only [nB, Int.reduceEq, if_true, if_false, Int.reduceToNat, Nat.reduceMul, Nat.reducePow, Int.reducePow] at s1 s3 s4
    have e := same_bytes (40, a, n, p, 1, ()) hF (some 1#64) (fun v h => by cases h; rfl) (N := 10) (by kernel_rfl) [((2, 4, 0, 0, ()), 0), ((7, 2, 0, 0, ()), 1), ((0, 0, 0, 0, ()), 2), ((1, 1, 3, 1, ()), 3)] [((2, 4, 0, 0, ()), 0), ((7, 2, 0, 0, ()), 1), ((1, 1, 0, 0, ()), 7)] (by show bagC (shp 40) _ = _; rw [shp_40]; rfl) (by kernel_rfl) (by kernel_rfl) (by kernel_rfl)
    rw [e]
    have ml1 : (putS (2, 4, 0, 0, ()) (a) (b0 40)).length = 10 := put_len (N := 10) (okSp_whole (a := 2) (w := 4) (by decide) (by decide) (by decide) (by decide)) (by decide) _ _ hl
    have ml2 : (putS (7, 2, 0, 0, ()) (BitVec.ofInt 64 n) (putS (2, 4, 0, 0, ()) (a) (b0 40))).length = 10 := put_len (N := 10) (okSp_whole (a := 7) (w := 2) (by decide) (by decide) (by decide) (by decide)) (by decide) _ _ ml1
    have m3 : (putS (7, 2, 0, 0, ()) (BitVec.ofInt 64 n) (putS (2, 4, 0, 0, ()) (a) (b0 40))).set 1 (8#8) = putS (1, 1, 0, 0, ()) (8#64) (putS (7, 2, 0, 0, ()) (BitVec.ofInt 64 n) (putS (2, 4, 0, 0, ()) (a) (b0 40))) := set_put (N := 10) (j := 1) (by decide) (by decide) _ _ (by decide) _ ml2
    have ml3 : (putS (1, 1, 0, 0, ()) (8#64) (putS (7, 2, 0, 0, ()) (BitVec.ofInt 64 n) (putS (2, 4, 0, 0, ()) (a) (b0 40)))).length = 10 := put_len (N := 10) (okSp_whole (a := 1) (w := 1) (by decide) (by decide) (by decide) (by decide)) (by decide) _ _ ml2
    rw [m3]
    rfl
  · have r1 := b0_raw 40 10 (by kernel_rfl)
    have ln : (((b0 40).length : Nat) : Int) = 10 := by rw [hl]; rfl
    have d1 := decide_eq_false (show ¬ n < 0 by omega)
    have d2 := decide_eq_false (show ¬ p < 0 by omega)
    have d5 := decide_eq_false (show ¬ 255 < p by omega)
    have z : sizeI 40 = ((10 : Nat) : Int) := by kernel_rfl
    have kn : decide (40 ∈ ops) = true := by decide
    have cl : clsI 40 = 1 := by decide
    have lm : decide (((10 : Nat) : Int) ≤ ((lim : Nat) : Int)) = true := by decide
    have c0 : chk (inLen 0 (List.replicate ((10 : Nat) : Int).toNat (0#8)).length) = some () := by decide
    have nn : (10 : Int) = ((10 : Nat) : Int) := rfl
    unfold reticuleref06_Bytes
    simp only [(known_eq _).2, (size_eq _).2, (cls_eq _).2, z, kn, cl, Option.bind_some, Bool.not_true, cond_false, cond_true, d1, d2, d5, lm, c0, r1, ln, chk_true rfl, decide_true, decide_false, Bool.and_self, Int.reduceLT, Int.reduceEq, Int.reduceLE, Int.natCast_nonneg, Int.le_refl, Int.reduceToNat, c1, c2, c3, jn_inl]
    exact ref_fin (40, a, n, p, 1, ()) _ (Nat.le_trans (Nat.le_of_eq hl) (by decide))
theorem rb_40_z (a : BitVec 64) (n p : Int) (g1 : 0 ≤ n) (g2 : 0 ≤ p) (g5 : p ≤ 255) : RB (40, a, n, p, 0, ()) := by
  have hl : (b0 40).length = 10 := (b0_len 40).trans (by kernel_rfl)
  have c1 : reticuleref06_lay (b0 40, 2, 4, a) = some (putS (2, 4, 0, 0, ()) (a) (b0 40)) := lay_eq (N := 10) (a := 2) (w := 4) (by decide) (by decide) (by decide) (by decide) (by decide) _ _ hl
  have l1 : (putS (2, 4, 0, 0, ()) (a) (b0 40)).length = 10 := put_len (N := 10) (okSp_whole (a := 2) (w := 4) (by decide) (by decide) (by decide) (by decide)) (by decide) _ _ hl
  have c2 : reticuleref06_lay (putS (2, 4, 0, 0, ()) (a) (b0 40), 7, 2, BitVec.ofInt 64 n) = some (putS (7, 2, 0, 0, ()) (BitVec.ofInt 64 n) (putS (2, 4, 0, 0, ()) (a) (b0 40))) := lay_eq (N := 10) (a := 7) (w := 2) (by decide) (by decide) (by decide) (by decide) (by decide) _ _ l1
  have l2 : (putS (7, 2, 0, 0, ()) (BitVec.ofInt 64 n) (putS (2, 4, 0, 0, ()) (a) (b0 40))).length = 10 := put_len (N := 10) (okSp_whole (a := 7) (w := 2) (by decide) (by decide) (by decide) (by decide)) (by decide) _ _ l1
  refine ⟨putS (7, 2, 0, 0, ()) (BitVec.ofInt 64 n) (putS (2, 4, 0, 0, ()) (a) (b0 40)), by rw [l2]; decide, fun hF => ?_, ?_⟩
  · have hs := fits_small hF
    simp only [shp_40] at hs
    obtain ⟨s1, s2, s3, s4⟩ := hs
    simp only [nB, Int.reduceEq, if_true, if_false, Int.reduceToNat, Nat.reduceMul, Nat.reducePow, Int.reducePow] at s1 s3 s4
    have e := same_bytes (40, a, n, p, 0, ()) hF (some 0#64) (fun v h => by cases h; rfl) (N := 10) (by kernel_rfl) [((2, 4, 0, 0, ()), 0), ((7, 2, 0, 0, ()), 1), ((0, 0, 0, 0, ()), 2), ((1, 1, 3, 1, ()), 3)] [((2, 4, 0, 0, ()), 0), ((7, 2, 0, 0, ()), 1)] (by show bagC (shp 40) _ = _; rw [shp_40]; rfl) (by kernel_rfl) (by kernel_rfl) (by kernel_rfl)
    rw [e]
    have ml1 : (putS (2, 4, 0, 0, ()) (a) (b0 40)).length = 10 := put_len (N := 10) (okSp_whole (a := 2) (w := 4) (by decide) (by decide) (by decide) (by decide)) (by decide) _ _ hl
    have ml2 : (putS (7, 2, 0, 0, ()) (BitVec.ofInt 64 n) (putS (2, 4, 0, 0, ()) (a) (b0 40))).length = 10 := put_len (N := 10) (okSp_whole (a := 7) (w := 2) (by decide) (by decide) (by decide) (by decide)) (by decide) _ _ ml1
    rfl
  · have r1 := b0_raw 40 10 (by kernel_rfl)
    have ln : (((b0 40).length : Nat) : Int) = 10 := by rw [hl]; rfl
    have d1 := decide_eq_false (show ¬ n < 0 by omega)
    have d2 := decide_eq_false (show ¬ p < 0 by omega)
    have d5 := decide_eq_false (show ¬ 255 < p by omega)
    have z : sizeI 40 = ((10 : Nat) : Int) := by kernel_rfl
    have kn : decide (40 ∈ ops) = true := by decide
    have cl : clsI 40 = 1 := by decide
    have lm : decide (((10 : Nat) : Int) ≤ ((lim : Nat) : Int)) = true := by decide
    have c0 : chk (inLen 0 (List.replicate ((10 : Nat) : Int).toNat (0#8)).length) = some () := by decide
    have nn : (10 : Int) = ((10 : Nat) : Int) := rfl
    unfold reticuleref06_Bytes
    simp only [(known_eq _).2, (size_eq _).2, (cls_eq _).2, z, kn, cl, Option.bind_some, Bool.not_true, cond_false, cond_true, d1, d2, d5, lm, c0, r1, ln, chk_true rfl, decide_true, decide_false, Bool.and_self, Int.reduceLT, Int.reduceEq, Int.reduceLE, Int.natCast_nonneg, Int.le_refl, Int.reduceToNat, c1, c2, jn_inl]
    exact ref_fin (40, a, n, p, 0, ()) _ (Nat.le_trans (Nat.le_of_eq hl) (by decide))
theorem rb_40_n (a : BitVec 64) (n p k : Int) (hk : k ≠ 1 ∧ k ≠ 0) (g1 : 0 ≤ n) (g2 : 0 ≤ p) (g3 : 0 ≤ k) (g4 : k ≤ 3) (g5 : p ≤ 255) : RB (40, a, n, p, k, ()) := by
  have hl : (b0 40).length = 10 := (b0_len 40).trans (by kernel_rfl)
  have c1 : reticuleref06_lay (b0 40, 2, 4, a) = some (putS (2, 4, 0, 0, ()) (a) (b0 40)) := lay_eq (N := 10) (a := 2) (w := 4) (by decide) (by decide) (by decide) (by decide) (by decide) _ _ hl
  have l1 : (putS (2, 4, 0, 0, ()) (a) (b0 40)).length = 10 := put_len (N := 10) (okSp_whole (a := 2) (w := 4) (by decide) (by decide) (by decide) (by decide)) (by decide) _ _ hl
  have c2 : reticuleref06_lay (putS (2, 4, 0, 0, ()) (a) (b0 40), 7, 2, BitVec.ofInt 64 n) = some (putS (7, 2, 0, 0, ()) (BitVec.ofInt 64 n) (putS (2, 4, 0, 0, ()) (a) (b0 40))) := lay_eq (N := 10) (a := 7) (w := 2) (by decide) (by decide) (by decide) (by decide) (by decide) _ _ l1
  have l2 : (putS (7, 2, 0, 0, ()) (BitVec.ofInt 64 n) (putS (2, 4, 0, 0, ()) (a) (b0 40))).length = 10 := put_len (N := 10) (okSp_whole (a := 7) (w := 2) (by decide) (by decide) (by decide) (by decide)) (by decide) _ _ l1
  refine ⟨putS (7, 2, 0, 0, ()) (BitVec.ofInt 64 n) (putS (2, 4, 0, 0, ()) (a) (b0 40)), by rw [l2]; decide, fun hF => ?_, ?_⟩
  · have hs := fits_small hF
    simp only [shp_40] at hs
    obtain ⟨s1, s2, s3, s4⟩ := hs
    simp only [nB, Int.reduceEq, if_true, if_false, Int.reduceToNat, Nat.reduceMul, Nat.reducePow, Int.reducePow] at s1 s3 s4
    exfalso
    omega
  · have r1 := b0_raw 40 10 (by kernel_rfl)
    have ln : (((b0 40).length : Nat) : Int) = 10 := by rw [hl]; rfl
    have d1 := decide_eq_false (show ¬ n < 0 by omega)
    have d2 := decide_eq_false (show ¬ p < 0 by omega)
    have d3 := decide_eq_false (show ¬ k < 0 by omega)
    have d4 := decide_eq_false (show ¬ 3 < k by omega)
    have d6 := decide_eq_false hk.1
    have d5 := decide_eq_false (show ¬ 255 < p by omega)
    have z : sizeI 40 = ((10 : Nat) : Int) := by kernel_rfl
    have kn : decide (40 ∈ ops) = true := by decide
    have cl : clsI 40 = 1 := by decide
    have lm : decide (((10 : Nat) : Int) ≤ ((lim : Nat) : Int)) = true := by decide
    have c0 : chk (inLen 0 (List.replicate ((10 : Nat) : Int).toNat (0#8)).length) = some () := by decide
    have nn : (10 : Int) = ((10 : Nat) : Int) := rfl
    unfold reticuleref06_Bytes
    simp only [(known_eq _).2, (size_eq _).2, (cls_eq _).2, z, kn, cl, Option.bind_some, Bool.not_true, cond_false, cond_true, d1, d2, d3, d4, d6, d5, lm, c0, r1, ln, chk_true rfl, decide_true, decide_false, Bool.and_self, Int.reduceLT, Int.reduceEq, Int.reduceLE, Int.natCast_nonneg, Int.le_refl, Int.reduceToNat, c1, c2, jn_inl]
    exact ref_fin (40, a, n, p, k, ()) _ (Nat.le_trans (Nat.le_of_eq hl) (by decide))
theorem rb_168_y (a : BitVec 64) (n p : Int) (g1 : 0 ≤ n) (g2 : 0 ≤ p) (g5 : p ≤ 255) : RB (168, a, n, p, 1, ()) := by
  have hl : (b0 168).length = 12 := (b0_len 168).trans (by kernel_rfl)
  have c1 : reticuleref06_lay (b0 168, 2, 4, a) = some (putS (2, 4, 0, 0, ()) (a) (b0 168)) := lay_eq (N := 12) (a := 2) (w := 4) (by decide) (by decide) (by decide) (by decide) (by decide) _ _ hl
  have l1 : (putS (2, 4, 0, 0, ()) (a) (b0 168)).length = 12 := put_len (N := 12) (okSp_whole (a := 2) (w := 4) (by decide) (by decide) (by decide) (by decide)) (by decide) _ _ hl
  have c2 : reticuleref06_lay (putS (2, 4, 0, 0, ()) (a) (b0 168), 6, 4, BitVec.ofInt 64 n) = some (putS (6, 4, 0, 0, ()) (BitVec.ofInt 64 n) (putS (2, 4, 0, 0, ()) (a) (b0 168))) := lay_eq (N := 12) (a := 6) (w := 4) (by decide) (by decide) (by decide) (by decide) (by decide) _ _ l1
  have l2 : (putS (6, 4, 0, 0, ()) (BitVec.ofInt 64 n) (putS (2, 4, 0, 0, ()) (a) (b0 168))).length = 12 := put_len (N := 12) (okSp_whole (a := 6) (w := 4) (by decide) (by decide) (by decide) (by decide)) (by decide) _ _ l1
  have c3 : chk (inLen 1 (putS (6, 4, 0, 0, ()) (BitVec.ofInt 64 n) (putS (2, 4, 0, 0, ()) (a) (b0 168))).length) = some () := chk_in l2 (by decide)
  have l3 : ((putS (6, 4, 0, 0, ()) (BitVec.ofInt 64 n) (putS (2, 4, 0, 0, ()) (a) (b0 168))).set 1 (8#8)).length = 12 := by rw [List.length_set, l2]
  refine ⟨(putS (6, 4, 0, 0, ()) (BitVec.ofInt 64 n) (putS (2, 4, 0, 0, ()) (a) (b0 168))).set 1 (8#8), by rw [l3]; decide, fun hF => ?_, ?_⟩
  · have hs := fits_small hF
    simp only [shp_168] at hs
    obtain ⟨s1, s2, s3, s4⟩ := hs
    simp only [nB, Int.reduceEq, if_true, if_false, Int.reduceToNat, Nat.reduceMul, Nat.reducePow, Int.reducePow] at s1 s3 s4
    have e := same_bytes (168, a, n, p, 1, ()) hF (some 1#64) (fun v h => by cases h; rfl) (N := 12) (by kernel_rfl) [((2, 4, 0, 0, ()), 0), ((6, 4, 0, 0, ()), 1), ((0, 0, 0, 0, ()), 2), ((1, 1, 3, 1, ()), 3)] [((2, 4, 0, 0, ()), 0), ((6, 4, 0, 0, ()), 1), ((1, 1, 0, 0, ()), 7)] (by show bagC (shp 168) _ = _; rw [shp_168]; rfl) (by kernel_rfl) (by kernel_rfl) (by kernel_rfl)
    rw [e]
    have ml1 : (putS (2, 4, 0, 0, ()) (a) (b0 168)).length = 12 := put_len (N := 12) (okSp_whole (a := 2) (w := 4) (by decide) (by decide) (by decide) (by decide)) (by decide) _ _ hl
    have ml2 : (putS (6, 4, 0, 0, ()) (BitVec.ofInt 64 n) (putS (2, 4, 0, 0, ()) (a) (b0 168))).length = 12 := put_len (N := 12) (okSp_whole (a := 6) (w := 4) (by decide) (by decide) (by decide) (by decide)) (by decide) _ _ ml1
    have m3 : (putS (6, 4, 0, 0, ()) (BitVec.ofInt 64 n) (putS (2, 4, 0, 0, ()) (a) (b0 168))).set 1 (8#8) = putS (1, 1, 0, 0, ()) (8#64) (putS (6, 4, 0, 0, ()) (BitVec.ofInt 64 n) (putS (2, 4, 0, 0, ()) (a) (b0 168))) := set_put (N := 12) (j := 1) (by decide) (by decide) _ _ (by decide) _ ml2
    have ml3 : (putS (1, 1, 0, 0, ()) (8#64) (putS (6, 4, 0, 0, ()) (BitVec.ofInt 64 n) (putS (2, 4, 0, 0, ()) (a) (b0 168)))).length = 12 := put_len (N := 12) (okSp_whole (a := 1) (w := 1) (by decide) (by decide) (by decide) (by decide)) (by decide) _ _ ml2
    rw [m3]
    rfl
  · have r1 := b0_raw 168 12 (by kernel_rfl)
    have ln : (((b0 168).length : Nat) : Int) = 12 := by rw [hl]; rfl
    have d1 := decide_eq_false (show ¬ n < 0 by omega)
    have d2 := decide_eq_false (show ¬ p < 0 by omega)
    have d5 := decide_eq_false (show ¬ 255 < p by omega)
    have z : sizeI 168 = ((12 : Nat) : Int) := by kernel_rfl
    have kn : decide (168 ∈ ops) = true := by decide
    have cl : clsI 168 = 1 := by decide
    have lm : decide (((12 : Nat) : Int) ≤ ((lim : Nat) : Int)) = true := by decide
    have c0 : chk (inLen 0 (List.replicate ((12 : Nat) : Int).toNat (0#8)).length) = some () := by decide
    have nn : (12 : Int) = ((12 : Nat) : Int) := rfl
    unfold reticuleref06_Bytes
    simp only [(known_eq _).2, (size_eq _).2, (cls_eq _).2, z, kn, cl, Option.bind_some, Bool.not_true, cond_false, cond_true, d1, d2, d5, lm, c0, r1, ln, chk_true rfl, decide_true, decide_false, Bool.and_self, Int.reduceLT, Int.reduceEq, Int.reduceLE, Int.natCast_nonneg, Int.le_refl, Int.reduceToNat, c1, c2, c3, jn_inl]
    exact ref_fin (168, a, n, p, 1, ()) _ (Nat.le_trans (Nat.le_of_eq hl) (by decide))
theorem rb_168_z (a : BitVec 64) (n p : Int) (g1 : 0 ≤ n) (g2 : 0 ≤ p) (g5 : p ≤ 255) : RB (168, a, n, p, 0, ()) := by
  have hl : (b0 168).length = 12 := (b0_len 168).trans (by kernel_rfl)
  have c1 : reticuleref06_lay (b0 168, 2, 4, a) = some (putS (2, 4, 0, 0, ()) (a) (b0 168)) := lay_eq (N := 12) (a := 2) (w := 4) (by decide) (by decide) (by decide) (by decide) (by decide) _ _ hl
  have l1 : (putS (2, 4, 0, 0, ()) (a) (b0 168)).length = 12 := put_len (N := 12) (okSp_whole (a := 2) (w := 4) (by decide) (by decide) (by decide) (by decide)) (by decide) _ _ hl
  have c2 : reticuleref06_lay (putS (2, 4, 0, 0, ()) (a) (b0 168), 6, 4, BitVec.ofInt 64 n) = some (putS (6, 4, 0, 0, ()) (BitVec.ofInt 64 n) (putS (2, 4, 0, 0, ()) (a) (b0 168))) := lay_eq (N := 12) (a := 6) (w := 4) (by decide) (by decide) (by decide) (by decide) (by decide) _ _ l1
  have l2 : (putS (6, 4, 0, 0, ()) (BitVec.ofInt 64 n) (putS (2, 4, 0, 0, ()) (a) (b0 168))).length = 12 := put_len (N := 12) (okSp_whole (a := 6) (w := 4) (by decide) (by decide) (by decide) (by decide)) (by decide) _ _ l1
  refine ⟨putS (6, 4, 0, 0, ()) (BitVec.ofInt 64 n) (putS (2, 4, 0, 0, ()) (a) (b0 168)), by rw [l2]; decide, fun hF => ?_, ?_⟩
  · have hs := fits_small hF
    simp only [shp_168] at hs
    obtain ⟨s1, s2, s3, s4⟩ := hs
    simp only [nB, Int.reduceEq, if_true, if_false, Int.reduceToNat, Nat.reduceMul, Nat.reducePow, Int.reducePow] at s1 s3 s4
    have e := same_bytes (168, a, n, p, 0, ()) hF (some 0#64) (fun v h => by cases h; rfl) (N := 12) (by kernel_rfl) [((2, 4, 0, 0, ()), 0), ((6, 4, 0, 0, ()), 1), ((0, 0, 0, 0, ()), 2), ((1, 1, 3, 1, ()), 3)] [((2, 4, 0, 0, ()), 0), ((6, 4, 0, 0, ()), 1)] (by show bagC (shp 168) _ = _; rw [shp_168]; rfl) (by kernel_rfl) (by kernel_rfl) (by kernel_rfl)
    rw [e]
    have ml1 : (putS (2, 4, 0, 0, ()) (a) (b0 168)).length = 12 := put_len (N := 12) (okSp_whole (a := 2) (w := 4) (by decide) (by decide) (by decide) (by decide)) (by decide) _ _ hl
    have ml2 : (putS (6, 4, 0, 0, ()) (BitVec.ofInt 64 n) (putS (2, 4, 0, 0, ()) (a) (b0 168))).length = 12 := put_len (N := 12) (okSp_whole (a := 6) (w := 4) (by decide) (by decide) (by decide) (by decide)) (by decide) _ _ ml1
    rfl
  · have r1 := b0_raw 168 12 (by kernel_rfl)
    have ln : (((b0 168).length : Nat) : Int) = 12 := by rw [hl]; rfl
    have d1 := decide_eq_false (show ¬ n < 0 by omega)
    have d2 := decide_eq_false (show ¬ p < 0 by omega)
    have d5 := decide_eq_false (show ¬ 255 < p by omega)
    have z : sizeI 168 = ((12 : Nat) : Int) := by kernel_rfl
    have kn : decide (168 ∈ ops) = true := by decide
    have cl : clsI 168 = 1 := by decide
    have lm : decide (((12 : Nat) : Int) ≤ ((lim : Nat) : Int)) = true := by decide
    have c0 : chk (inLen 0 (List.replicate ((12 : Nat) : Int).toNat (0#8)).length) = some () := by decide
    have nn : (12 : Int) = ((12 : Nat) : Int) := rfl
    unfold reticuleref06_Bytes
    simp only [(known_eq _).2, (size_eq _).2, (cls_eq _).2, z, kn, cl, Option.bind_some, Bool.not_true, cond_false, cond_true, d1, d2, d5, lm, c0, r1, ln, chk_true rfl, decide_true, decide_false, Bool.and_self, Int.reduceLT, Int.reduceEq, Int.reduceLE, Int.natCast_nonneg, Int.le_refl, Int.reduceToNat, c1, c2, jn_inl]
    exact ref_fin (168, a, n, p, 0, ()) _ (Nat.le_trans (Nat.le_of_eq hl) (by decide))
theorem rb_168_n (a : BitVec 64) (n p k : Int) (hk : k ≠ 1 ∧ k ≠ 0) (g1 : 0 ≤ n) (g2 : 0 ≤ p) (g3 : 0 ≤ k) (g4 : k ≤ 3) (g5 : p ≤ 255) : RB (168, a, n, p, k, ()) := by
  have hl : (b0 168).length = 12 := (b0_len 168).trans (by kernel_rfl)
  have c1 : reticuleref06_lay (b0 168, 2, 4, a) = some (putS (2, 4, 0, 0, ()) (a) (b0 168)) := lay_eq (N := 12) (a := 2) (w := 4) (by decide) (by decide) (by decide) (by decide) (by decide) _ _ hl
  have l1 : (putS (2, 4, 0, 0, ()) (a) (b0 168)).length = 12 := put_len (N := 12) (okSp_whole (a := 2) (w := 4) (by decide) (by decide) (by decide) (by decide)) (by decide) _ _ hl
  have c2 : reticuleref06_lay (putS (2, 4, 0, 0, ()) (a) (b0 168), 6, 4, BitVec.ofInt 64 n) = some (putS (6, 4, 0, 0, ()) (BitVec.ofInt 64 n) (putS (2, 4, 0, 0, ()) (a) (b0 168))) := lay_eq (N := 12) (a := 6) (w := 4) (by decide) (by decide) (by decide) (by decide) (by decide) _ _ l1
  have l2 : (putS (6, 4, 0, 0, ()) (BitVec.ofInt 64 n) (putS (2, 4, 0, 0, ()) (a) (b0 168))).length = 12 := put_len (N := 12) (okSp_whole (a := 6) (w := 4) (by decide) (by decide) (by decide) (by decide)) (by decide) _ _ l1
  refine ⟨putS (6, 4, 0, 0, ()) (BitVec.ofInt 64 n) (putS (2, 4, 0, 0, ()) (a) (b0 168)), by rw [l2]; decide, fun hF => ?_, ?_⟩
  · have hs := fits_small hF
    simp only [shp_168] at hs
    obtain ⟨s1, s2, s3, s4⟩ := hs
    simp only [nB, Int.reduceEq, if_true, if_false, Int.reduceToNat, Nat.reduceMul, Nat.reducePow, Int.reducePow] at s1 s3 s4
    exfalso
    omega
  · have r1 := b0_raw 168 12 (by kernel_rfl)
    have ln : (((b0 168).length : Nat) : Int) = 12 := by rw [hl]; rfl
    have d1 := decide_eq_false (show ¬ n < 0 by omega)
    have d2 := decide_eq_false (show ¬ p < 0 by omega)
    have d3 := decide_eq_false (show ¬ k < 0 by omega)
    have d4 := decide_eq_false (show ¬ 3 < k by omega)
    have d6 := decide_eq_false hk.1
    have d5 := decide_eq_false (show ¬ 255 < p by omega)
    have z : sizeI 168 = ((12 : Nat) : Int) := by kernel_rfl
    have kn : decide (168 ∈ ops) = true := by decide
    have cl : clsI 168 = 1 := by decide
    have lm : decide (((12 : Nat) : Int) ≤ ((lim : Nat) : Int)) = true := by decide
    have c0 : chk (inLen 0 (List.replicate ((12 : Nat) : Int).toNat (0#8)).length) = some () := by decide
    have nn : (12 : Int) = ((12 : Nat) : Int) := rfl
    unfold reticuleref06_Bytes
    simp only [(known_eq _).2, (size_eq _).2, (cls_eq _).2, z, kn, cl, Option.bind_some, Bool.not_true, cond_false, cond_true, d1, d2, d3, d4, d6, d5, lm, c0, r1, ln, chk_true rfl, decide_true, decide_false, Bool.and_self, Int.reduceLT, Int.reduceEq, Int.reduceLE, Int.natCast_nonneg, Int.le_refl, Int.reduceToNat, c1, c2, jn_inl]
    exact ref_fin (168, a, n, p, k, ()) _ (Nat.le_trans (Nat.le_of_eq hl) (by decide))
theorem rb_136_y (a : BitVec 64) (n p : Int) (g1 : 0 ≤ n) (g2 : 0 ≤ p) (g5 : p ≤ 255) : RB (136, a, n, p, 1, ()) := by
  have hl : (b0 136).length = 16 := (b0_len 136).trans (by kernel_rfl)
  have c1 : reticuleref06_lay (b0 136, 2, 8, a) = some (putS (2, 8, 0, 0, ()) (a) (b0 136)) := lay_eq (N := 16) (a := 2) (w := 8) (by decide) (by decide) (by decide) (by decide) (by decide) _ _ hl
  have l1 : (putS (2, 8, 0, 0, ()) (a) (b0 136)).length = 16 := put_len (N := 16) (okSp_whole (a := 2) (w := 8) (by decide) (by decide) (by decide) (by decide)) (by decide) _ _ hl
  have c2 : reticuleref06_lay (putS (2, 8, 0, 0, ()) (a) (b0 136), 10, 4, BitVec.ofInt 64 n) = some (putS (10, 4, 0, 0, ()) (BitVec.ofInt 64 n) (putS (2, 8, 0, 0, ()) (a) (b0 136))) := lay_eq (N := 16) (a := 10) (w := 4) (by decide) (by decide) (by decide) (by decide) (by decide) _ _ l1
  have l2 : (putS (10, 4, 0, 0, ()) (BitVec.ofInt 64 n) (putS (2, 8, 0, 0, ()) (a) (b0 136))).length = 16 := put_len (N := 16) (okSp_whole (a := 10) (w := 4) (by decide) (by decide) (by decide) (by decide)) (by decide) _ _ l1
  have c3 : chk (inLen 1 (putS (10, 4, 0, 0, ()) (BitVec.ofInt 64 n) (putS (2, 8, 0, 0, ()) (a) (b0 136))).length) = some () := chk_in l2 (by decide)
  have l3 : ((putS (10, 4, 0, 0, ()) (BitVec.ofInt 64 n) (putS (2, 8, 0, 0, ()) (a) (b0 136))).set 1 (8#8)).length = 16 := by rw [List.length_set, l2]
  refine ⟨(putS (10, 4, 0, 0, ()) (BitVec.ofInt 64 n) (putS (2, 8, 0, 0, ()) (a) (b0 136))).set 1 (8#8), by rw [l3]; decide, fun hF => ?_, ?_⟩
  · have hs := fits_small hF
    simp only [shp_136] at hs
    obtain ⟨s1, s2, s3, s4⟩ := hs
    simp only [nB, Int.reduceEq, if_true, if_false, Int.reduceToNat, Nat.reduceMul, Nat.reducePow, Int.reducePow] at s1 s3 s4
    have e := same_bytes (136, a, n, p, 1, ()) hF (some 1#64) (fun v h => by cases h; rfl) (N := 16) (by kernel_rfl) [((2, 8, 0, 0, ()), 0), ((10, 4, 0, 0, ()), 1), ((0, 0, 0, 0, ()), 2), ((1, 1, 3, 1, ()), 3)] [((2, 8, 0, 0, ()), 0), ((10, 4, 0, 0, ()), 1), ((1, 1, 0, 0, ()), 7)] (by show bagC (shp 136) _ = _; rw [shp_136]; rfl) (by kernel_rfl) (by kernel_rfl) (by kernel_rfl)
    rw [e]
    have ml1 : (putS (2, 8, 0, 0, ()) (a) (b0 136)).length = 16 := put_len (N := 16) (okSp_whole (a := 2) (w := 8) (by decide) (by decide) (by decide) (by decide)) (by decide) _ _ hl
    have ml2 : (putS (10, 4, 0, 0, ()) (BitVec.ofInt 64 n) (putS (2, 8, 0, 0, ()) (a) (b0 136))).length = 16 := put_len (N := 16) (okSp_whole (a := 10) (w := 4) (by decide) (by decide) (by decide) (by decide)) (by decide) _ _ ml1
    have m3 : (putS (10, 4, 0, 0, ()) (BitVec.ofInt 64 n) (putS (2, 8, 0, 0, ()) (a) (b0 136))).set 1 (8#8) = putS (1, 1, 0, 0, ()) (8#64) (putS (10, 4, 0, 0, ()) (BitVec.ofInt 64 n) (putS (2, 8, 0, 0, ()) (a) (b0 136))) := set_put (N := 16) (j := 1) (by decide) (by decide) _ _ (by decide) _ ml2
    have ml3 : (putS (1, 1, 0, 0, ()) (8#64) (putS (10, 4, 0, 0, ()) (BitVec.ofInt 64 n) (putS (2, 8, 0, 0, ()) (a) (b0 136)))).length = 16 := put_len (N := 16) (okSp_whole (a := 1) (w := 1) (by decide) (by decide) (by decide) (by decide)) (by decide) _ _ ml2
    rw [m3]
    rfl
  · have r1 := b0_raw 136 16 (by kernel_rfl)
    have ln : (((b0 136).length : Nat) : Int) = 16 := by rw [hl]; rfl
    have d1 := decide_eq_false (show ¬ n < 0 by omega)
    have d2 := decide_eq_false (show ¬ p < 0 by omega)
    have d5 := decide_eq_false (show ¬ 255 < p by omega)
    have z : sizeI 136 = ((16 : Nat) : Int) := by kernel_rfl
    have kn : decide (136 ∈ ops) = true := by decide
    have cl : clsI 136 = 1 := by decide
    have lm : decide (((16 : Nat) : Int) ≤ ((lim : Nat) : Int)) = true := by decide
    have c0 : chk (inLen 0 (List.replicate ((16 : Nat) : Int).toNat (0#8)).length) = some () := by decide
    have nn : (16 : Int) = ((16 : Nat) : Int) := rfl
    unfold reticuleref06_Bytes
    simp only [(known_eq _).2, (size_eq _).2, (cls_eq _).2, z, kn, cl, Option.bind_some, Bool.not_true, cond_false, cond_true, d1, d2, d5, lm, c0, r1, ln, chk_true rfl, decide_true, decide_false, Bool.and_self, Int.reduceLT, Int.reduceEq, Int.reduceLE, Int.natCast_nonneg, Int.le_refl, Int.reduceToNat, c1, c2, c3, jn_inl]
    exact ref_fin (136, a, n, p, 1, ()) _ (Nat.le_trans (Nat.le_of_eq hl) (by decide))
theorem rb_136_z (a : BitVec 64) (n p : Int) (g1 : 0 ≤ n) (g2 : 0 ≤ p) (g5 : p ≤ 255) : RB (136, a, n, p, 0, ()) := by
  have hl : (b0 136).length = 16 := (b0_len 136).trans (by kernel_rfl)
  have c1 : reticuleref06_lay (b0 136, 2, 8, a) = some (putS (2, 8, 0, 0, ()) (a) (b0 136)) := lay_eq (N := 16) (a := 2) (w := 8) (by decide) (by decide) (by decide) (by decide) (by decide) _ _ hl
  have l1 : (putS (2, 8, 0, 0, ()) (a) (b0 136)).length = 16 := put_len (N := 16) (okSp_whole (a := 2) (w := 8) (by decide) (by decide) (by decide) (by decide)) (by decide) _ _ hl
  have c2 : reticuleref06_lay (putS (2, 8, 0, 0, ()) (a) (b0 136), 10, 4, BitVec.ofInt 64 n) = some (putS (10, 4, 0, 0, ()) (BitVec.ofInt 64 n) (putS (2, 8, 0, 0, ()) (a) (b0 136))) := lay_eq (N := 16) (a := 10) (w := 4) (by decide) (by decide) (by decide) (by decide) (by decide) _ _ l1
  have l2 : (putS (10, 4, 0, 0, ()) (BitVec.ofInt 64 n) (putS (2, 8, 0, 0, ()) (a) (b0 136))).length = 16 := put_len (N := 16) (okSp_whole (a := 10) (w := 4) (by decide) (by decide) (by decide) (by decide)) (by decide) _ _ l1
  refine ⟨putS (10, 4, 0, 0, ()) (BitVec.ofInt 64 n) (putS (2, 8, 0, 0, ()) (a) (b0 136)), by rw [l2]; decide, fun hF => ?_, ?_⟩
  · have hs := fits_small hF
    simp only [shp_136] at hs
    obtain ⟨s1, s2, s3, s4⟩ := hs
    simp only [nB, Int.reduceEq, if_true, if_false, Int.reduceToNat, Nat.reduceMul, Nat.reducePow, Int.reducePow] at s1 s3 s4
    have e := same_bytes (136, a, n, p, 0, ()) hF (some 0#64) (fun v h => by cases h; rfl) (N := 16) (by kernel_rfl) [((2, 8, 0, 0, ()), 0), ((10, 4, 0, 0, ()), 1), ((0, 0, 0, 0, ()), 2), ((1, 1, 3, 1, ()), 3)] [((2, 8, 0, 0, ()), 0), ((10, 4, 0, 0, ()), 1)] (by show bagC (shp 136) _ = _; rw [shp_136]; rfl) (by kernel_rfl) (by kernel_rfl) (by kernel_rfl)
    rw [e]
    have ml1 : (putS (2, 8, 0, 0, ()) (a) (b0 136)).length = 16 := put_len (N := 16) (okSp_whole (a := 2) (w := 8) (by decide) (by decide) (by decide) (by decide)) (by decide) _ _ hl
    have ml2 : (putS (10, 4, 0, 0, ()) (BitVec.ofInt 64 n) (putS (2, 8, 0, 0, ()) (a) (b0 136))).length = 16 := put_len (N := 16) (okSp_whole (a := 10) (w := 4) (by decide) (by decide) (by decide) (by decide)) (by decide) _ _ ml1
    rfl
  · have r1 := b0_raw 136 16 (by kernel_rfl)
    have ln : (((b0 136).length : Nat) : Int) = 16 := by rw [hl]; rfl
    have d1 := decide_eq_false (show ¬ n < 0 by omega)
    have d2 := decide_eq_false (show ¬ p < 0 by omega)
    have d5 := decide_eq_false (show ¬ 255 < p by omega)
    have z : sizeI 136 = ((16 : Nat) : Int) := by kernel_rfl
    have kn : decide (136 ∈ ops) = true := by decide
    have cl : clsI 136 = 1 := by decide
    have lm : decide (((16 : Nat) : Int) ≤ ((lim : Nat) : Int)) = true := by decide
    have c0 : chk (inLen 0 (List.replicate ((16 : Nat) : Int).toNat (0#8)).length) = some () := by decide
    have nn : (16 : Int) = ((16 : Nat) : Int) := rfl
    unfold reticuleref06_Bytes
    simp only [(known_eq _).2, (size_eq _).2, (cls_eq _).2, z, kn, cl, Option.bind_some, Bool.not_true, cond_false, cond_true, d1, d2, d5, lm, c0, r1, ln, chk_true rfl, decide_true, decide_false, Bool.and_self, Int.reduceLT, Int.reduceEq, Int.reduceLE, Int.natCast_nonneg, Int.le_refl, Int.reduceToNat, c1, c2, jn_inl]
    exact ref_fin (136, a, n, p, 0, ()) _ (Nat.le_trans (Nat.le_of_eq hl) (by decide))
theorem rb_136_n (a : BitVec 64) (n p k : Int) (hk : k ≠ 1 ∧ k ≠ 0) (g1 : 0 ≤ n) (g2 : 0 ≤ p) (g3 : 0 ≤ k) (g4 : k ≤ 3) (g5 : p ≤ 255) : RB (136, a, n, p, k, ()) := by
  have hl : (b0 136).length = 16 := (b0_len 136).trans (by kernel_rfl)
  have c1 : reticuleref06_lay (b0 136, 2, 8, a) = some (putS (2, 8, 0, 0, ()) (a) (b0 136)) := lay_eq (N := 16) (a := 2) (w := 8) (by decide) (by decide) (by decide) (by decide) (by decide) _ _ hl
  have l1 : (putS (2, 8, 0, 0, ()) (a) (b0 136)).length = 16 := put_len (N := 16) (okSp_whole (a := 2) (w := 8) (by decide) (by decide) (by decide) (by decide)) (by decide) _ _ hl
  have c2 : reticuleref06_lay (putS (2, 8, 0, 0, ()) (a) (b0 136), 10, 4, BitVec.ofInt 64 n) = some (putS (10, 4, 0, 0, ()) (BitVec.ofInt 64 n) (putS (2, 8, 0, 0, ()) (a) (b0 136))) := lay_eq (N := 16) (a := 10) (w := 4) (by decide) (by decide) (by decide) (by decide) (by decide) _ _ l1
  have l2 : (putS (10, 4, 0, 0, ()) (BitVec.ofInt 64 n) (putS (2, 8, 0, 0, ()) (a) (b0 136))).length = 16 := put_len (N := 16) (okSp_whole (a := 10) (w := 4) (by decide) (by decide) (by decide) (by decide)) (by decide) _ _ l1
  refine ⟨putS (10, 4, 0, 0, ()) (BitVec.ofInt 64 n) (putS (2, 8, 0, 0, ()) (a) (b0 136)), by rw [l2]; decide, fun hF => ?_, ?_⟩
  · have hs := fits_small hF
    simp only [shp_136] at hs
    obtain ⟨s1, s2, s3, s4⟩ := hs
    simp only [nB, Int.reduceEq, if_true, if_false, Int.reduceToNat, Nat.reduceMul, Nat.reducePow, Int.reducePow] at s1 s3 s4
    exfalso
    omega
  · have r1 := b0_raw 136 16 (by kernel_rfl)
    have ln : (((b0 136).length : Nat) : Int) = 16 := by rw [hl]; rfl
    have d1 := decide_eq_false (show ¬ n < 0 by omega)
    have d2 := decide_eq_false (show ¬ p < 0 by omega)
    have d3 := decide_eq_false (show ¬ k < 0 by omega)
    have d4 := decide_eq_false (show ¬ 3 < k by omega)
    have d6 := decide_eq_false hk.1
    have d5 := decide_eq_false (show ¬ 255 < p by omega)
    have z : sizeI 136 = ((16 : Nat) : Int) := by kernel_rfl
    have kn : decide (136 ∈ ops) = true := by decide
    have cl : clsI 136 = 1 := by decide
    have lm : decide (((16 : Nat) : Int) ≤ ((lim : Nat) : Int)) = true := by decide
    have c0 : chk (inLen 0 (List.replicate ((16 : Nat) : Int).toNat (0#8)).length) = some () := by decide
    have nn : (16 : Int) = ((16 : Nat) : Int) := rfl
    unfold reticuleref06_Bytes
    simp only [(known_eq _).2, (size_eq _).2, (cls_eq _).2, z, kn, cl, Option.bind_some, Bool.not_true, cond_false, cond_true, d1, d2, d3, d4, d6, d5, lm, c0, r1, ln, chk_true rfl, decide_true, decide_false, Bool.and_self, Int.reduceLT, Int.reduceEq, Int.reduceLE, Int.natCast_nonneg, Int.le_refl, Int.reduceToNat, c1, c2, jn_inl]
    exact ref_fin (136, a, n, p, k, ()) _ (Nat.le_trans (Nat.le_of_eq hl) (by decide))
theorem rb_10 (a : BitVec 64) (n p k : Int) (g1 : 0 ≤ n) (g2 : 0 ≤ p) (g3 : 0 ≤ k) (g4 : k ≤ 3) (g5 : p ≤ 255) : RB (10, a, n, p, k, ()) := by
  have hl : (b0 10).length = 6 := (b0_len 10).trans (by kernel_rfl)
  have c1 : reticuleref06_lay (b0 10, 1, 3, a) = some (putS (1, 3, 0, 0, ()) (a) (b0 10)) := lay_eq (N := 6) (a := 1) (w := 3) (by decide) (by decide) (by decide) (by decide) (by decide) _ _ hl
  have l1 : (putS (1, 3, 0, 0, ()) (a) (b0 10)).length = 6 := put_len (N := 6) (okSp_whole (a := 1) (w := 3) (by decide) (by decide) (by decide) (by decide)) (by decide) _ _ hl
  have c2 : chk (inLen 1 (putS (1, 3, 0, 0, ()) (a) (b0 10)).length) = some () := chk_in l1 (by decide)
  have i2 : (putS (1, 3, 0, 0, ()) (a) (b0 10))[(1 : Int).toNat]? = some ((putS (1, 3, 0, 0, ()) (a) (b0 10)).getD 1 0#8) := by rw [List.getD_eq_getElem?_getD, show ((1 : Int).toNat) = 1 from rfl, List.getElem?_eq_getElem (by rw [l1]; omega)]; rfl
  have l2 : ((putS (1, 3, 0, 0, ()) (a) (b0 10)).set 1 ((putS (1, 3, 0, 0, ()) (a) (b0 10)).getD 1 0#8 % 32#8)).length = 6 := by rw [List.length_set, l1]
  have c3 : chk (inLen 4 ((putS (1, 3, 0, 0, ()) (a) (b0 10)).set 1 ((putS (1, 3, 0, 0, ()) (a) (b0 10)).getD 1 0#8 % 32#8)).length) = some () := chk_in l2 (by decide)
  have l3 : (((putS (1, 3, 0, 0, ()) (a) (b0 10)).set 1 ((putS (1, 3, 0, 0, ()) (a) (b0 10)).getD 1 0#8 % 32#8)).set 4 (BitVec.ofInt 8 n)).length = 6 := by rw [List.length_set, l2]
  refine ⟨((putS (1, 3, 0, 0, ()) (a) (b0 10)).set 1 ((putS (1, 3, 0, 0, ()) (a) (b0 10)).getD 1 0#8 % 32#8)).set 4 (BitVec.ofInt 8 n), by rw [l3]; decide, fun hF => ?_, ?_⟩
  · have hs := fits_small hF
    simp only [shp_10] at hs
    obtain ⟨s1, s2, s3, s4⟩ := hs
    simp only [nB, Int.reduceEq, if_true, if_false, Int.reduceToNat, Nat.reduceMul, Nat.reducePow, Int.reducePow] at s1 s3 s4
    have e := same_bytes (10, a, n, p, k, ()) hF none (fun v h => by cases h) (N := 6) (by kernel_rfl) [((1, 3, 0, 21, ()), 0), ((4, 1, 0, 0, ()), 1), ((0, 0, 0, 0, ()), 2), ((0, 0, 0, 0, ()), 3)] [((1, 3, 0, 0, ()), 0), ((4, 1, 0, 0, ()), 1)] (by show bagC (shp 10) _ = _; rw [shp_10]; rfl) (by kernel_rfl) (by kernel_rfl) (by kernel_rfl)
    rw [e]
    have ml1 : (putS (1, 3, 0, 0, ()) (a) (b0 10)).length = 6 := put_len (N := 6) (okSp_whole (a := 1) (w := 3) (by decide) (by decide) (by decide) (by decide)) (by decide) _ _ hl
    have m2 : (putS (1, 3, 0, 0, ()) (a) (b0 10)).set 1 ((putS (1, 3, 0, 0, ()) (a) (b0 10)).getD 1 0#8 % 32#8) = putS (1, 3, 0, 0, ()) (a) (b0 10) := six_mod a s1 10 hl
    have m3 : (putS (1, 3, 0, 0, ()) (a) (b0 10)).set 4 (BitVec.ofInt 8 n) = putS (4, 1, 0, 0, ()) (BitVec.ofInt 64 n) (putS (1, 3, 0, 0, ()) (a) (b0 10)) := set_put (N := 6) (j := 4) (by decide) (by decide) _ _ (by rw [ofInt8_64]) _ ml1
    have ml3 : (putS (4, 1, 0, 0, ()) (BitVec.ofInt 64 n) (putS (1, 3, 0, 0, ()) (a) (b0 10))).length = 6 := put_len (N := 6) (okSp_whole (a := 4) (w := 1) (by decide) (by decide) (by decide) (by decide)) (by decide) _ _ ml1
    rw [m2, m3]
    rfl
  · have r1 := b0_raw 10 6 (by kernel_rfl)
    have ln : (((b0 10).length : Nat) : Int) = 6 := by rw [hl]; rfl
    have d1 := decide_eq_false (show ¬ n < 0 by omega)
    have d2 := decide_eq_false (show ¬ p < 0 by omega)
    have d3 := decide_eq_false (show ¬ k < 0 by omega)
    have d4 := decide_eq_false (show ¬ 3 < k by omega)
    have d5 := decide_eq_false (show ¬ 255 < p by omega)
    have z : sizeI 10 = ((6 : Nat) : Int) := by kernel_rfl
    have kn : decide (10 ∈ ops) = true := by decide
    have cl : clsI 10 = 2 := by decide
    have lm : decide (((6 : Nat) : Int) ≤ ((lim : Nat) : Int)) = true := by decide
    have c0 : chk (inLen 0 (List.replicate ((6 : Nat) : Int).toNat (0#8)).length) = some () := by decide
    have nn : (6 : Int) = ((6 : Nat) : Int) := rfl
    unfold reticuleref06_Bytes
    simp only [(known_eq _).2, (size_eq _).2, (cls_eq _).2, z, kn, cl, Option.bind_some, Bool.not_true, cond_false, cond_true, d1, d2, d3, d4, d5, lm, c0, r1, ln, chk_true rfl, decide_true, decide_false, Bool.and_self, Int.reduceLT, Int.reduceEq, Int.reduceLE, Int.natCast_nonneg, Int.le_refl, Int.reduceToNat, c1, c2, i2, c3, jn_inl]
    exact ref_fin (10, a, n, p, k, ()) _ (Nat.le_trans (Nat.le_of_eq hl) (by decide))
theorem rb_42_y (a : BitVec 64) (n p : Int) (g1 : 0 ≤ n) (g2 : 0 ≤ p) (g5 : p ≤ 255) : RB (42, a, n, p, 1, ()) := by
  have hl : (b0 42).length = 10 := (b0_len 42).trans (by kernel_rfl)
  have c1 : reticuleref06_lay (b0 42, 2, 4, a) = some (putS (2, 4, 0, 0, ()) (a) (b0 42)) := lay_eq (N := 10) (a := 2) (w := 4) (by decide) (by decide) (by decide) (by decide) (by decide) _ _ hl
  have l1 : (putS (2, 4, 0, 0, ()) (a) (b0 42)).length = 10 := put_len (N := 10) (okSp_whole (a := 2) (w := 4) (by decide) (by decide) (by decide) (by decide)) (by decide) _ _ hl
  have c2 : reticuleref06_lay (putS (2, 4, 0, 0, ()) (a) (b0 42), 7, 2, BitVec.ofInt 64 n) = some (putS (7, 2, 0, 0, ()) (BitVec.ofInt 64 n) (putS (2, 4, 0, 0, ()) (a) (b0 42))) := lay_eq (N := 10) (a := 7) (w := 2) (by decide) (by decide) (by decide) (by decide) (by decide) _ _ l1
  have l2 : (putS (7, 2, 0, 0, ()) (BitVec.ofInt 64 n) (putS (2, 4, 0, 0, ()) (a) (b0 42))).length = 10 := put_len (N := 10) (okSp_whole (a := 7) (w := 2) (by decide) (by decide) (by decide) (by decide)) (by decide) _ _ l1
  have c3 : chk (inLen 1 (putS (7, 2, 0, 0, ()) (BitVec.ofInt 64 n) (putS (2, 4, 0, 0, ()) (a) (b0 42))).length) = some () := chk_in l2 (by decide)
  have l3 : ((putS (7, 2, 0, 0, ()) (BitVec.ofInt 64 n) (putS (2, 4, 0, 0, ()) (a) (b0 42))).set 1 (8#8)).length = 10 := by rw [List.length_set, l2]
  refine ⟨(putS (7, 2, 0, 0, ()) (BitVec.ofInt 64 n) (putS (2, 4, 0, 0, ()) (a) (b0 42))).set 1 (8#8), by rw [l3]; decide, fun hF => ?_, ?_⟩
  · have hs := fits_small hF
    simp only [shp_42] at hs
    obtain ⟨s1, s2, s3, s4⟩ := hs
    simp only [nB, Int.reduceEq, if_true, if_false, Int.reduceToNat, Nat.reduceMul, Nat.reducePow, Int.reducePow] at s1 s3 s4
    have e := same_bytes (42, a, n, p, 1, ()) hF (some 1#64) (fun v h => by cases h; rfl) (N := 10) (by kernel_rfl) [((2, 4, 0, 0, ()), 0), ((7, 2, 0, 0, ()), 1), ((0, 0, 0, 0, ()), 2), ((1, 1, 3, 1, ()), 3)] [((2, 4, 0, 0, ()), 0), ((7, 2, 0, 0, ()), 1), ((1, 1, 0, 0, ()), 7)] (by show bagC (shp 42) _ = _; rw [shp_42]; rfl) (by kernel_rfl) (by kernel_rfl) (by kernel_rfl)
    rw [e]
    have ml1 : (putS (2, 4, 0, 0, ()) (a) (b0 42)).length = 10 := put_len (N := 10) (okSp_whole (a := 2) (w := 4) (by decide) (by decide) (by decide) (by decide)) (by decide) _ _ hl
    have ml2 : (putS (7, 2, 0, 0, ()) (BitVec.ofInt 64 n) (putS (2, 4, 0, 0, ()) (a) (b0 42))).length = 10 := put_len (N := 10) (okSp_whole (a := 7) (w := 2) (by decide) (by decide) (by decide) (by decide)) (by decide) _ _ ml1
    have m3 : (putS (7, 2, 0, 0, ()) (BitVec.ofInt 64 n) (putS (2, 4, 0, 0, ()) (a) (b0 42))).set 1 (8#8) = putS (1, 1, 0, 0, ()) (8#64) (putS (7, 2, 0, 0, ()) (BitVec.ofInt 64 n) (putS (2, 4, 0, 0, ()) (a) (b0 42))) := set_put (N := 10) (j := 1) (by decide) (by decide) _ _ (by decide) _ ml2
    have ml3 : (putS (1, 1, 0, 0, ()) (8#64) (putS (7, 2, 0, 0, ()) (BitVec.ofInt 64 n) (putS (2, 4, 0, 0, ()) (a) (b0 42)))).length = 10 := put_len (N := 10) (okSp_whole (a := 1) (w := 1) (by decide) (by decide) (by decide) (by decide)) (by decide) _ _ ml2
    rw [m3]
    rfl
  · have r1 := b0_raw 42 10 (by kernel_rfl)
    have ln : (((b0 42).length : Nat) : Int) = 10 := by rw [hl]; rfl
    have d1 := decide_eq_false (show ¬ n < 0 by omega)
    have d2 := decide_eq_false (show ¬ p < 0 by omega)
    have d5 := decide_eq_false (show ¬ 255 < p by omega)
    have z : sizeI 42 = ((10 : Nat) : Int) := by kernel_rfl
    have kn : decide (42 ∈ ops) = true := by decide
    have cl : clsI 42 = 2 := by decide
    have lm : decide (((10 : Nat) : Int) ≤ ((lim : Nat) : Int)) = true := by decide
    have c0 : chk (inLen 0 (List.replicate ((10 : Nat) : Int).toNat (0#8)).length) = some () := by decide
    have nn : (10 : Int) = ((10 : Nat) : Int) := rfl
    unfold reticuleref06_Bytes
    simp only [(known_eq _).2, (size_eq _).2, (cls_eq _).2, z, kn, cl, Option.bind_some, Bool.not_true, cond_false, cond_true, d1, d2, d5, lm, c0, r1, ln, chk_true rfl, decide_true, decide_false, Bool.and_self, Int.reduceLT, Int.reduceEq, Int.reduceLE, Int.natCast_nonneg, Int.le_refl, Int.reduceToNat, c1, c2, c3, jn_inl]
    exact ref_fin (42, a, n, p, 1, ()) _ (Nat.le_trans (Nat.le_of_eq hl) (by decide))
theorem rb_42_z (a : BitVec 64) (n p : Int) (g1 : 0 ≤ n) (g2 : 0 ≤ p) (g5 : p ≤ 255) : RB (42, a, n, p, 0, ()) := by
  have hl : (b0 42).length = 10 := (b0_len 42).trans (by kernel_rfl)
  have c1 : reticuleref06_lay (b0 42, 2, 4, a) = some (putS (2, 4, 0, 0, ()) (a) (b0 42)) := lay_eq (N := 10) (a := 2) (w := 4) (by decide) (by decide) (by decide) (by decide) (by decide) _ _ hl
  have l1 : (putS (2, 4, 0, 0, ()) (a) (b0 42)).length = 10 := put_len (N := 10) (okSp_whole (a := 2) (w := 4) (by decide) (by decide) (by decide) (by decide)) (by decide) _ _ hl
  have c2 : reticuleref06_lay (putS (2, 4, 0, 0, ()) (a) (b0 42), 7, 2, BitVec.ofInt 64 n) = some (putS (7, 2, 0, 0, ()) (BitVec.ofInt 64 n) (putS (2, 4, 0, 0, ()) (a) (b0 42))) := lay_eq (N := 10) (a := 7) (w := 2) (by decide) (by decide) (by decide) (by decide) (by decide) _ _ l1
  have l2 : (putS (7, 2, 0, 0, ()) (BitVec.ofInt 64 n) (putS (2, 4, 0, 0, ()) (a) (b0 42))).length = 10 := put_len (N := 10) (okSp_whole (a := 7) (w := 2) (by decide) (by decide) (by decide) (by decide)) (by decide) _ _ l1
  refine ⟨putS (7, 2, 0, 0, ()) (BitVec.ofInt 64 n) (putS (2, 4, 0, 0, ()) (a) (b0 42)), by rw [l2]; decide, fun hF => ?_, ?_⟩
  · have hs := fits_small hF
    simp only [shp_42] at hs
    obtain ⟨s1, s2, s3, s4⟩ := hs
    simp only [nB, Int.reduceEq, if_true, if_false, Int.reduceToNat, Nat.reduceMul, Nat.reducePow, Int.reducePow] at s1 s3 s4
    have e := same_bytes (42, a, n, p, 0, ()) hF (some 0#64) (fun v h => by cases h; rfl) (N := 10) (by kernel_rfl) [((2, 4, 0, 0, ()), 0), ((7, 2, 0, 0, ()), 1), ((0, 0, 0, 0, ()), 2), ((1, 1, 3, 1, ()), 3)] [((2, 4, 0, 0, ()), 0), ((7, 2, 0, 0, ()), 1)] (by show bagC (shp 42) _ = _; rw [shp_42]; rfl) (by kernel_rfl) (by kernel_rfl) (by kernel_rfl)
    rw [e]
    have ml1 : (putS (2, 4, 0, 0, ()) (a) (b0 42)).length = 10 := put_len (N := 10) (okSp_whole (a := 2) (w := 4) (by decide) (by decide) (by decide) (by decide)) (by decide) _ _ hl
    have ml2 : (putS (7, 2, 0, 0, ()) (BitVec.ofInt 64 n) (putS (2, 4, 0, 0, ()) (a) (b0 42))).length = 10 := put_len (N := 10) (okSp_whole (a := 7) (w := 2) (by decide) (by decide) (by decide) (by decide)) (by decide) _ _ ml1
    rfl
  · have r1 := b0_raw 42 10 (by kernel_rfl)
    have ln : (((b0 42).length : Nat) : Int) = 10 := by rw [hl]; rfl
    have d1 := decide_eq_false (show ¬ n < 0 by omega)
    have d2 := decide_eq_false (show ¬ p < 0 by omega)
    have d5 := decide_eq_false (show ¬ 255 < p by omega)
    have z : sizeI 42 = ((10 : Nat) : Int) := by kernel_rfl
    have kn : decide (42 ∈ ops) = true := by decide
    have cl : clsI 42 = 2 := by decide
    have lm : decide (((10 : Nat) : Int) ≤ ((lim : Nat) : Int)) = true := by decide
    have c0 : chk (inLen 0 (List.replicate ((10 : Nat) : Int).toNat (0#8)).length) = some () := by decide
    have nn : (10 : Int) = ((10 : Nat) : Int) := rfl
    unfold reticuleref06_Bytes
    simp only [(known_eq _).2, (size_eq _).2, (cls_eq _).2, z, kn, cl, Option.bind_some, Bool.not_true, cond_false, cond_true, d1, d2, d5, lm, c0, r1, ln, chk_true rfl, decide_true, decide_false, Bool.and_self, Int.reduceLT, Int.reduceEq, Int.reduceLE, Int.natCast_nonneg, Int.le_refl, Int.reduceToNat, c1, c2, jn_inl]
    exact ref_fin (42, a, n, p, 0, ()) _ (Nat.le_trans (Nat.le_of_eq hl) (by decide))
theorem rb_42_n (a : BitVec 64) (n p k : Int) (hk : k ≠ 1 ∧ k ≠ 0) (g1 : 0 ≤ n) (g2 : 0 ≤ p) (g3 : 0 ≤ k) (g4 : k ≤ 3) (g5 : p ≤ 255) : RB (42, a, n, p, k, ()) := by
  have hl : (b0 42).length = 10 := (b0_len 42).trans (by kernel_rfl)
  have c1 : reticuleref06_lay (b0 42, 2, 4, a) = some (putS (2, 4, 0, 0, ()) (a) (b0 42)) := lay_eq (N := 10) (a := 2) (w := 4) (by decide) (by decide) (by decide) (by decide) (by decide) _ _ hl
  have l1 : (putS (2, 4, 0, 0, ()) (a) (b0 42)).length = 10 := put_len (N := 10) (okSp_whole (a := 2) (w := 4) (by decide) (by decide) (by decide) (by decide)) (by decide) _ _ hl
  have c2 : reticuleref06_lay (putS (2, 4, 0, 0, ()) (a) (b0 42), 7, 2, BitVec.ofInt 64 n) = some (putS (7, 2, 0, 0, ()) (BitVec.ofInt 64 n) (putS (2, 4, 0, 0, ()) (a) (b0 42))) := lay_eq (N := 10) (a := 7) (w := 2) (by decide) (by decide) (by decide) (by decide) (by decide) _ _ l1
  have l2 : (putS (7, 2, 0, 0, ()) (BitVec.ofInt 64 n) (putS (2, 4, 0, 0, ()) (a) (b0 42))).length = 10 := put_len (N := 10) (okSp_whole (a := 7) (w := 2) (by decide) (by decide) (by decide) (by decide)) (by decide) _ _ l1
  refine ⟨putS (7, 2, 0, 0, ()) (BitVec.ofInt 64 n) (putS (2, 4, 0, 0, ()) (a) (b0 42)), by rw [l2]; decide, fun hF => ?_, ?_⟩
  · have hs := fits_small hF
    simp only [shp_42] at hs
    obtain ⟨s1, s2, s3, s4⟩ := hs
    simp only [nB, Int.reduceEq, if_true, if_false, Int.reduceToNat, Nat.reduceMul, Nat.reducePow, Int.reducePow] at s1 s3 s4
    exfalso
    omega
  · have r1 := b0_raw 42 10 (by kernel_rfl)
    have ln : (((b0 42).length : Nat) : Int) = 10 := by rw [hl]; rfl
    have d1 := decide_eq_false (show ¬ n < 0 by omega)
    have d2 := decide_eq_false (show ¬ p < 0 by omega)
    have d3 := decide_eq_false (show ¬ k < 0 by omega)
    have d4 := decide_eq_false (show ¬ 3 < k by omega)
    have d6 := decide_eq_false hk.1
    have d5 := decide_eq_false (show ¬ 255 < p by omega)
    have z : sizeI 42 = ((10 : Nat) : Int) := by kernel_rfl
    have kn : decide (42 ∈ ops) = true := by decide
    have cl : clsI 42 = 2 := by decide
    have lm : decide (((10 : Nat) : Int) ≤ ((lim : Nat) : Int)) = true := by decide
    have c0 : chk (inLen 0 (List.replicate ((10 : Nat) : Int).toNat (0#8)).length) = some () := by decide
    have nn : (10 : Int) = ((10 : Nat) : Int) := rfl
    unfold reticuleref06_Bytes
    simp only [(known_eq _).2, (size_eq _).2, (cls_eq _).2, z, kn, cl, Option.bind_some, Bool.not_true, cond_false, cond_true, d1, d2, d3, d4, d6, d5, lm, c0, r1, ln, chk_true rfl, decide_true, decide_false, Bool.and_self, Int.reduceLT, Int.reduceEq, Int.reduceLE, Int.natCast_nonneg, Int.le_refl, Int.reduceToNat, c1, c2, jn_inl]
    exact ref_fin (42, a, n, p, k, ()) _ (Nat.le_trans (Nat.le_of_eq hl) (by decide))
theorem rb_170_y (a : BitVec 64) (n p : Int) (g1 : 0 ≤ n) (g2 : 0 ≤ p) (g5 : p ≤ 255) : RB (170, a, n, p, 1, ()) := by
  have hl : (b0 170).length = 12 := (b0_len 170).trans (by kernel_rfl)
  have c1 : reticuleref06_lay (b0 170, 2, 4, a) = some (putS (2, 4, 0, 0, ()) (a) (b0 170)) := lay_eq (N := 12) (a := 2) (w := 4) (by decide) (by decide) (by decide) (by decide) (by decide) _ _ hl
  have l1 : (putS (2, 4, 0, 0, ()) (a) (b0 170)).length = 12 := put_len (N := 12) (okSp_whole (a := 2) (w := 4) (by decide) (by decide) (by decide) (by decide)) (by decide) _ _ hl
  have c2 : reticuleref06_lay (putS (2, 4, 0, 0, ()) (a) (b0 170), 6, 4, BitVec.ofInt 64 n) = some (putS (6, 4, 0, 0, ()) (BitVec.ofInt 64 n) (putS (2, 4, 0, 0, ()) (a) (b0 170))) := lay_eq (N := 12) (a := 6) (w := 4) (by decide) (by decide) (by decide) (by decide) (by decide) _ _ l1
  have l2 : (putS (6, 4, 0, 0, ()) (BitVec.ofInt 64 n) (putS (2, 4, 0, 0, ()) (a) (b0 170))).length = 12 := put_len (N := 12) (okSp_whole (a := 6) (w := 4) (by decide) (by decide) (by decide) (by decide)) (by decide) _ _ l1
  have c3 : chk (inLen 1 (putS (6, 4, 0, 0, ()) (BitVec.ofInt 64 n) (putS (2, 4, 0, 0, ()) (a) (b0 170))).length) = some () := chk_in l2 (by decide)
  have l3 : ((putS (6, 4, 0, 0, ()) (BitVec.ofInt 64 n) (putS (2, 4, 0, 0, ()) (a) (b0 170))).set 1 (8#8)).length = 12 := by rw [List.length_set, l2]
  refine ⟨(putS (6, 4, 0, 0, ()) (BitVec.ofInt 64 n) (putS (2, 4, 0, 0, ()) (a) (b0 170))).set 1 (8#8), by rw [l3]; decide, fun hF => ?_, ?_⟩
  · have hs := fits_small hF
    simp only [shp_170] at hs
    obtain ⟨s1, s2, s3, s4⟩ := hs
    simp only [nB, Int.reduceEq, if_true, if_false, Int.reduceToNat, Nat.reduceMul, Nat.reducePow, Int.reducePow] at s1 s3 s4
    have e := same_bytes (170, a, n, p, 1, ()) hF (some 1#64) (fun v h => by cases h; rfl) (N := 12) (by kernel_rfl) [((2, 4, 0, 0, ()), 0), ((6, 4, 0, 0, ()), 1), ((0, 0, 0, 0, ()), 2), ((1, 1, 3, 1, ()), 3)] [((2, 4, 0, 0, ()), 0), ((6, 4, 0, 0, ()), 1), ((1, 1, 0, 0, ()), 7)] (by show bagC (shp 170) _ = _; rw [shp_170]; rfl) (by kernel_rfl) (by kernel_rfl) (by kernel_rfl)
    rw [e]
    have ml1 : (putS (2, 4, 0, 0, ()) (a) (b0 170)).length = 12 := put_len (N := 12) (okSp_whole (a := 2) (w := 4) (by decide) (by decide) (by decide) (by decide)) (by decide) _ _ hl
    have ml2 : (putS (6, 4, 0, 0, ()) (BitVec.ofInt 64 n) (putS (2, 4, 0, 0, ()) (a) (b0 170))).length = 12 := put_len (N := 12) (okSp_whole (a := 6) (w := 4) (by decide) (by decide) (by decide) (by decide)) (by decide) _ _ ml1
    have m3 : (putS (6, 4, 0, 0, ()) (BitVec.ofInt 64 n) (putS (2, 4, 0, 0, ()) (a) (b0 170))).set 1 (8#8) = putS (1, 1, 0, 0, ()) (8#64) (putS (6, 4, 0, 0, ()) (BitVec.ofInt 64 n) (putS (2, 4, 0, 0, ()) (a) (b0 170))) := set_put (N := 12) (j := 1) (by decide) (by decide) _ _ (by decide) _ ml2
    have ml3 : (putS (1, 1, 0, 0, ()) (8#64) (putS (6, 4, 0, 0, ()) (BitVec.ofInt 64 n) (putS (2, 4, 0, 0, ()) (a) (b0 170)))).length = 12 := put_len (N := 12) (okSp_whole (a := 1) (w := 1) (by decide) (by decide) (by decide) (by decide)) (by decide) _ _ ml2
    rw [m3]
    rfl
  · have r1 := b0_raw 170 12 (by kernel_rfl)
    have ln : (((b0 170).length : Nat) : Int) = 12 := by rw [hl]; rfl
    have d1 := decide_eq_false (show ¬ n < 0 by omega)
    have d2 := decide_eq_false (show ¬ p < 0 by omega)
    have d5 := decide_eq_false (show ¬ 255 < p by omega)
    have z : sizeI 170 = ((12 : Nat) : Int) := by kernel_rfl
    have kn : decide (170 ∈ ops) = true := by decide
    have cl : clsI 170 = 2 := by decide
    have lm : decide (((12 : Nat) : Int) ≤ ((lim : Nat) : Int)) = true := by decide
    have c0 : chk (inLen 0 (List.replicate ((12 : Nat) : Int).toNat (0#8)).length) = some () := by decide
    have nn : (12 : Int) = ((12 : Nat) : Int) := rfl
    unfold reticuleref06_Bytes
    simp only [(known_eq _).2, (size_eq _).2, (cls_eq _).2, z, kn, cl, Option.bind_some, Bool.not_true, cond_false, cond_true, d1, d2, d5, lm, c0, r1, ln, chk_true rfl, decide_true, decide_false, Bool.and_self, Int.reduceLT, Int.reduceEq, Int.reduceLE, Int.natCast_nonneg, Int.le_refl, Int.reduceToNat, c1, c2, c3, jn_inl]
    exact ref_fin (170, a, n, p, 1, ()) _ (Nat.le_trans (Nat.le_of_eq hl) (by decide))
theorem rb_170_z (a : BitVec 64) (n p : Int) (g1 : 0 ≤ n) (g2 : 0 ≤ p) (g5 : p ≤ 255) : RB (170, a, n, p, 0, ()) := by
  have hl : (b0 170).length = 12 := (b0_len 170).trans (by kernel_rfl)
  have c1 : reticuleref06_lay (b0 170, 2, 4, a) = some (putS (2, 4, 0, 0, ()) (a) (b0 170)) := lay_eq (N := 12) (a := 2) (w := 4) (by decide) (by decide) (by decide) (by decide) (by decide) _ _ hl
  have l1 : (putS (2, 4, 0, 0, ()) (a) (b0 170)).length = 12 := put_len (N := 12) (okSp_whole (a := 2) (w := 4) (by decide) (by decide) (by decide) (by decide)) (by decide) _ _ hl
  have c2 : reticuleref06_lay (putS (2, 4, 0, 0, ()) (a) (b0 170), 6, 4, BitVec.ofInt 64 n) = some (putS (6, 4, 0, 0, ()) (BitVec.ofInt 64 n) (putS (2, 4, 0, 0, ()) (a) (b0 170))) := lay_eq (N := 12) (a := 6) (w := 4) (by decide) (by decide) (by decide) (by decide) (by decide) _ _ l1
  have l2 : (putS (6, 4, 0, 0, ()) (BitVec.ofInt 64 n) (putS (2, 4, 0, 0, ()) (a) (b0 170))).length = 12 := put_len (N := 12) (okSp_whole (a := 6) (w := 4) (by decide) (by decide) (by decide) (by decide)) (by decide) _ _ l1
  refine ⟨putS (6, 4, 0, 0, ()) (BitVec.ofInt 64 n) (putS (2, 4, 0, 0, ()) (a) (b0 170)), by rw [l2]; decide, fun hF => ?_, ?_⟩
  · have hs := fits_small hF
    simp only [shp_170] at hs
    obtain ⟨s1, s2, s3, s4⟩ := hs
    simp only [nB, Int.reduceEq, if_true, if_false, Int.reduceToNat, Nat.reduceMul, Nat.reducePow, Int.reducePow] at s1 s3 s4
    have e := same_bytes (170, a, n, p, 0, ()) hF (some 0#64) (fun v h => by cases h; rfl) (N := 12) (by kernel_rfl) [((2, 4, 0, 0, ()), 0), ((6, 4, 0, 0, ()), 1), ((0, 0, 0, 0, ()), 2), ((1, 1, 3, 1, ()), 3)] [((2, 4, 0, 0, ()), 0), ((6, 4, 0, 0, ()), 1)] (by show bagC (shp 170) _ = _; rw [shp_170]; rfl) (by kernel_rfl) (by kernel_rfl) (by kernel_rfl)
    rw [e]
    have ml1 : (putS (2, 4, 0, 0, ()) (a) (b0 170)).length = 12 := put_len (N := 12) (okSp_whole (a := 2) (w := 4) (by decide) (by decide) (by decide) (by decide)) (by decide) _ _ hl
    have ml2 : (putS (6, 4, 0, 0, ()) (BitVec.ofInt 64 n) (putS (2, 4, 0, 0, ()) (a) (b0 170))).length = 12 := put_len (N := 12) (okSp_whole (a := 6) (w := 4) (by decide) (by decide) (by decide) (by decide)) (by decide) _ _ ml1
    rfl
  · have r1 := b0_raw 170 12 (by kernel_rfl)
    have ln : (((b0 170).length : Nat) : Int) = 12 := by rw [hl]; rfl
    have d1 := decide_eq_false (show ¬ n < 0 by omega)
    have d2 := decide_eq_false (show ¬ p < 0 by omega)
    have d5 := decide_eq_false (show ¬ 255 < p by omega)
    have z : sizeI 170 = ((12 : Nat) : Int) := by kernel_rfl
    have kn : decide (170 ∈ ops) = true := by decide
    have cl : clsI 170 = 2 := by decide
    have lm : decide (((12 : Nat) : Int) ≤ ((lim : Nat) : Int)) = true := by decide
    have c0 : chk (inLen 0 (List.replicate ((12 : Nat) : Int).toNat (0#8)).length) = some () := by decide
    have nn : (12 : Int) = ((12 : Nat) : Int) := rfl
    unfold reticuleref06_Bytes
    simp only [(known_eq _).2, (size_eq _).2, (cls_eq _).2, z, kn, cl, Option.bind_some, Bool.not_true, cond_false, cond_true, d1, d2, d5, lm, c0, r1, ln, chk_true rfl, decide_true, decide_false, Bool.and_self, Int.reduceLT, Int.reduceEq, Int.reduceLE, Int.natCast_nonneg, Int.le_refl, Int.reduceToNat, c1, c2, jn_inl]
    exact ref_fin (170, a, n, p, 0, ()) _ (Nat.le_trans (Nat.le_of_eq hl) (by decide))
theorem rb_170_n (a : BitVec 64) (n p k : Int) (hk : k ≠ 1 ∧ k ≠ 0) (g1 : 0 ≤ n) (g2 : 0 ≤ p) (g3 : 0 ≤ k) (g4 : k ≤ 3) (g5 : p ≤ 255) : RB (170, a, n, p, k, ()) := by
  have hl : (b0 170).length = 12 := (b0_len 170).trans (by kernel_rfl)
  have c1 : reticuleref06_lay (b0 170, 2, 4, a) = some (putS (2, 4, 0, 0, ()) (a) (b0 170)) := lay_eq (N := 12) (a := 2) (w := 4) (by decide) (by decide) (by decide) (by decide) (by decide) _ _ hl
  have l1 : (putS (2, 4, 0, 0, ()) (a) (b0 170)).length = 12 := put_len (N := 12) (okSp_whole (a := 2) (w := 4) (by decide) (by decide) (by decide) (by decide)) (by decide) _ _ hl
  have c2 : reticuleref06_lay (putS (2, 4, 0, 0, ()) (a) (b0 170), 6, 4, BitVec.ofInt 64 n) = some (putS (6, 4, 0, 0, ()) (BitVec.ofInt 64 n) (putS (2, 4, 0, 0, ()) (a) (b0 170))) := lay_eq (N := 12) (a := 6) (w := 4) (by decide) (by decide) (by decide) (by decide) (by decide) _ _ l1
  have l2 : (putS (6, 4, 0, 0, ()) (BitVec.ofInt 64 n) (putS (2, 4, 0, 0, ()) (a) (b0 170))).length = 12 := put_len (N := 12) (okSp_whole (a := 6) (w := 4) (by decide) (by decide) (by decide) (by decide)) (by decide) _ _ l1
  refine ⟨putS (6, 4, 0, 0, ()) (BitVec.ofInt 64 n) (putS (2, 4, 0, 0, ()) (a) (b0 170)), by rw [l2]; decide, fun hF => ?_, ?_⟩
  · have hs := fits_small hF
    simp only [shp_170] at hs
    obtain ⟨s1, s2, s3, s4⟩ := hs
    simp only [nB, Int.reduceEq, if_true, if_false, Int.reduceToNat, Nat.reduceMul, Nat.reducePow, Int.reducePow] at s1 s3 s4
    exfalso
    omega
  · have r1 := b0_raw 170 12 (by kernel_rfl)
    have ln : (((b0 170).length : Nat) : Int) = 12 := by rw [hl]; rfl
    have d1 := decide_eq_false (show ¬ n < 0 by omega)
    have d2 := decide_eq_false (show ¬ p < 0 by omega)
    have d3 := decide_eq_false (show ¬ k < 0 by omega)
    have d4 := decide_eq_false (show ¬ 3 < k by omega)
    have d6 := decide_eq_false hk.1
    have d5 := decide_eq_false (show ¬ 255 < p by omega)
    have z : sizeI 170 = ((12 : Nat) : Int) := by kernel_rfl
    have kn : decide (170 ∈ ops) = true := by decide
    have cl : clsI 170 = 2 := by decide
    have lm : decide (((12 : Nat) : Int) ≤ ((lim : Nat) : Int)) = true := by decide
    have c0 : chk (inLen 0 (List.replicate ((12 : Nat) : Int).toNat (0#8)).length) = some () := by decide
    have nn : (12 : Int) = ((12 : Nat) : Int) := rfl
    unfold reticuleref06_Bytes
    simp only [(known_eq _).2, (size_eq _).2, (cls_eq _).2, z, kn, cl, Option.bind_some, Bool.not_true, cond_false, cond_true, d1, d2, d3, d4, d6, d5, lm, c0, r1, ln, chk_true rfl, decide_true, decide_false, Bool.and_self, Int.reduceLT, Int.reduceEq, Int.reduceLE, Int.natCast_nonneg, Int.le_refl, Int.reduceToNat, c1, c2, jn_inl]
    exact ref_fin (170, a, n, p, k, ()) _ (Nat.le_trans (Nat.le_of_eq hl) (by decide))
theorem rb_138_y (a : BitVec 64) (n p : Int) (g1 : 0 ≤ n) (g2 : 0 ≤ p) (g5 : p ≤ 255) : RB (138, a, n, p, 1, ()) := by
  have hl : (b0 138).length = 16 := (b0_len 138).trans (by kernel_rfl)
  have c1 : reticuleref06_lay (b0 138, 2, 8, a) = some (putS (2, 8, 0, 0, ()) (a) (b0 138)) := lay_eq (N := 16) (a := 2) (w := 8) (by decide) (by decide) (by decide) (by decide) (by decide) _ _ hl
  have l1 : (putS (2, 8, 0, 0, ()) (a) (b0 138)).length = 16 := put_len (N := 16) (okSp_whole (a := 2) (w := 8) (by decide) (by decide) (by decide) (by decide)) (by decide) _ _ hl
  have c2 : reticuleref06_lay (putS (2, 8, 0, 0, ()) (a) (b0 138), 10, 4, BitVec.ofInt 64 n) = some (putS (10, 4, 0, 0, ()) (BitVec.ofInt 64 n) (putS (2, 8, 0, 0, ()) (a) (b0 138))) := lay_eq (N := 16) (a := 10) (w := 4) (by decide) (by decide) (by decide) (by decide) (by decide) _ _ l1
  have l2 : (putS (10, 4, 0, 0, ()) (BitVec.ofInt 64 n) (putS (2, 8, 0, 0, ()) (a) (b0 138))).length = 16 := put_len (N := 16) (okSp_whole (a := 10) (w := 4) (by decide) (by decide) (by decide) (by decide)) (by decide) _ _ l1
  have c3 : chk (inLen 1 (putS (10, 4, 0, 0, ()) (BitVec.ofInt 64 n) (putS (2, 8, 0, 0, ()) (a) (b0 138))).length) = some () := chk_in l2 (by decide)
  have l3 : ((putS (10, 4, 0, 0, ()) (BitVec.ofInt 64 n) (putS (2, 8, 0, 0, ()) (a) (b0 138))).set 1 (8#8)).length = 16 := by rw [List.length_set, l2]
  refine ⟨(putS (10, 4, 0, 0, ()) (BitVec.ofInt 64 n) (putS (2, 8, 0, 0, ()) (a) (b0 138))).set 1 (8#8), by rw [l3]; decide, fun hF => ?_, ?_⟩
  · have hs := fits_small hF
    simp only [shp_138] at hs
    obtain ⟨s1, s2, s3, s4⟩ := hs
    simp only [nB, Int.reduceEq, if_true, if_false, Int.reduceToNat, Nat.reduceMul, Nat.reducePow, Int.reducePow] at s1 s3 s4
    have e := same_bytes (138, a, n, p, 1, ()) hF (some 1#64) (fun v h => by cases h; rfl) (N := 16) (by kernel_rfl) [((2, 8, 0, 0, ()), 0), ((10, 4, 0, 0, ()), 1), ((0, 0, 0, 0, ()), 2), ((1, 1, 3, 1, ()), 3)] [((2, 8, 0, 0, ()), 0), ((10, 4, 0, 0, ()), 1), ((1, 1, 0, 0, ()), 7)] (by show bagC (shp 138) _ = _; rw [shp_138]; rfl) (by kernel_rfl) (by kernel_rfl) (by kernel_rfl)
    rw [e]
    have ml1 : (putS (2, 8, 0, 0, ()) (a) (b0 138)).length = 16 := put_len (N := 16) (okSp_whole (a := 2) (w := 8) (by decide) (by decide) (by decide) (by decide)) (by decide) _ _ hl
    have ml2 : (putS (10, 4, 0, 0, ()) (BitVec.ofInt 64 n) (putS (2, 8, 0, 0, ()) (a) (b0 138))).length = 16 := put_len (N := 16) (okSp_whole (a := 10) (w := 4) (by decide) (by decide) (by decide) (by decide)) (by decide) _ _ ml1
    have m3 : (putS (10, 4, 0, 0, ()) (BitVec.ofInt 64 n) (putS (2, 8, 0, 0, ()) (a) (b0 138))).set 1 (8#8) = putS (1, 1, 0, 0, ()) (8#64) (putS (10, 4, 0, 0, ()) (BitVec.ofInt 64 n) (putS (2, 8, 0, 0, ()) (a) (b0 138))) := set_put (N := 16) (j := 1) (by decide) (by decide) _ _ (by decide) _ ml2
    have ml3 : (putS (1, 1, 0, 0, ()) (8#64) (putS (10, 4, 0, 0, ()) (BitVec.ofInt 64 n) (putS (2, 8, 0, 0, ()) (a) (b0 138)))).length = 16 := put_len (N := 16) (okSp_whole (a := 1) (w := 1) (by decide) (by decide) (by decide) (by decide)) (by decide) _ _ ml2
    rw [m3]
    rfl
  · have r1 := b0_raw 138 16 (by kernel_rfl)
    have ln : (((b0 138).length : Nat) : Int) = 16 := by rw [hl]; rfl
    have d1 := decide_eq_false (show ¬ n < 0 by omega)
    have d2 := decide_eq_false (show ¬ p < 0 by omega)
    have d5 := decide_eq_false (show ¬ 255 < p by omega)
    have z : sizeI 138 = ((16 : Nat) : Int) := by kernel_rfl
    have kn : decide (138 ∈ ops) = true := by decide
    have cl : clsI 138 = 2 := by decide
    have lm : decide (((16 : Nat) : Int) ≤ ((lim : Nat) : Int)) = true := by decide
    have c0 : chk (inLen 0 (List.replicate ((16 : Nat) : Int).toNat (0#8)).length) = some () := by decide
    have nn : (16 : Int) = ((16 : Nat) : Int) := rfl
    unfold reticuleref06_Bytes
    simp only [(known_eq _).2, (size_eq _).2, (cls_eq _).2, z, kn, cl, Option.bind_some, Bool.not_true, cond_false, cond_true, d1, d2, d5, lm, c0, r1, ln, chk_true rfl, decide_true, decide_false, Bool.and_self, Int.reduceLT, Int.reduceEq, Int.reduceLE, Int.natCast_nonneg, Int.le_refl, Int.reduceToNat, c1, c2, c3, jn_inl]
    exact ref_fin (138, a, n, p, 1, ()) _ (Nat.le_trans (Nat.le_of_eq hl) (by decide))
theorem rb_138_z (a : BitVec 64) (n p : Int) (g1 : 0 ≤ n) (g2 : 0 ≤ p) (g5 : p ≤ 255) : RB (138, a, n, p, 0, ()) := by
  have hl : (b0 138).length = 16 := (b0_len 138).trans (by kernel_rfl)
  have c1 : reticuleref06_lay (b0 138, 2, 8, a) = some (putS (2, 8, 0, 0, ()) (a) (b0 138)) := lay_eq (N := 16) (a := 2) (w := 8) (by decide) (by decide) (by decide) (by decide) (by decide) _ _ hl
  have l1 : (putS (2, 8, 0, 0, ()) (a) (b0 138)).length = 16 := put_len (N := 16) (okSp_whole (a := 2) (w := 8) (by decide) (by decide) (by decide) (by decide)) (by decide) _ _ hl
  have c2 : reticuleref06_lay (putS (2, 8, 0, 0, ()) (a) (b0 138), 10, 4, BitVec.ofInt 64 n) = some (putS (10, 4, 0, 0, ()) (BitVec.ofInt 64 n) (putS (2, 8, 0, 0, ()) (a) (b0 138))) := lay_eq (N := 16) (a := 10) (w := 4) (by decide) (by decide) (by decide) (by decide) (by decide) _ _ l1
  have l2 : (putS (10, 4, 0, 0, ()) (BitVec.ofInt 64 n) (putS (2, 8, 0, 0, ()) (a) (b0 138))).length = 16 := put_len (N := 16) (okSp_whole (a := 10) (w := 4) (by decide) (by decide) (by decide) (by decide)) (by decide) _ _ l1
  refine ⟨putS (10, 4, 0, 0, ()) (BitVec.ofInt 64 n) (putS (2, 8, 0, 0, ()) (a) (b0 138)), by rw [l2]; decide, fun hF => ?_, ?_⟩
  · have hs := fits_small hF
    simp only [shp_138] at hs
    obtain ⟨s1, s2, s3, s4⟩ := hs
    simp only [nB, Int.reduceEq, if_true, if_false, Int.reduceToNat, Nat.reduceMul, Nat.reducePow, Int.reducePow] at s1 s3 s4
    have e := same_bytes (138, a, n, p, 0, ()) hF (some 0#64) (fun v h => by cases h; rfl) (N := 16) (by kernel_rfl) [((2, 8, 0, 0, ()), 0), ((10, 4, 0, 0, ()), 1), ((0, 0, 0, 0, ()), 2), ((1, 1, 3, 1, ()), 3)] [((2, 8, 0, 0, ()), 0), ((10, 4, 0, 0, ()), 1)] (by show bagC (shp 138) _ = _; rw [shp_138]; rfl) (by kernel_rfl) (by kernel_rfl) (by kernel_rfl)
    rw [e]
    have ml1 : (putS (2, 8, 0, 0, ()) (a) (b0 138)).length = 16 := put_len (N := 16) (okSp_whole (a := 2) (w := 8) (by decide) (by decide) (by decide) (by decide)) (by decide) _ _ hl
    have ml2 : (putS (10, 4, 0, 0, ()) (BitVec.ofInt 64 n) (putS (2, 8, 0, 0, ()) (a) (b0 138))).length = 16 := put_len (N := 16) (okSp_whole (a := 10) (w := 4) (by decide) (by decide) (by decide) (by decide)) (by decide) _ _ ml1
    rfl
  · have r1 := b0_raw 138 16 (by kernel_rfl)
    have ln : (((b0 138).length : Nat) : Int) = 16 := by rw [hl]; rfl
    have d1 := decide_eq_false (show ¬ n < 0 by omega)
    have d2 := decide_eq_false (show ¬ p < 0 by omega)
    have d5 := decide_eq_false (show ¬ 255 < p by omega)
    have z : sizeI 138 = ((16 : Nat) : Int) := by kernel_rfl
    have kn : decide (138 ∈ ops) = true := by decide
    have cl : clsI 138 = 2 := by decide
    have lm : decide (((16 : Nat) : Int) ≤ ((lim : Nat) : Int)) = true := by decide
    have c0 : chk (inLen 0 (List.replicate ((16 : Nat) : Int).toNat (0#8)).length) = some () := by decide
    have nn : (16 : Int) = ((16 : Nat) : Int) := rfl
    unfold reticuleref06_Bytes
    simp only [(known_eq _).2, (size_eq _).2, (cls_eq _).2, z, kn, cl, Option.bind_some, Bool.not_true, cond_false, cond_true, d1, d2, d5, lm, c0, r1, ln, chk_true rfl, decide_true, decide_false, Bool.and_self, Int.reduceLT, Int.reduceEq, Int.reduceLE, Int.natCast_nonneg, Int.le_refl, Int.reduceToNat, c1, c2, jn_inl]
    exact ref_fin (138, a, n, p, 0, ()) _ (Nat.le_trans (Nat.le_of_eq hl) (by decide))
theorem rb_138_n (a : BitVec 64) (n p k : Int) (hk : k ≠ 1 ∧ k ≠ 0) (g1 : 0 ≤ n) (g2 : 0 ≤ p) (g3 : 0 ≤ k) (g4 : k ≤ 3) (g5 : p ≤ 255) : RB (138, a, n, p, k, ()) := by
  have hl : (b0 138).length = 16 := (b0_len 138).trans (by kernel_rfl)
  have c1 : reticuleref06_lay (b0 138, 2, 8, a) = some (putS (2, 8, 0, 0, ()) (a) (b0 138)) := lay_eq (N := 16) (a := 2) (w := 8) (by decide) (by decide) (by decide) (by decide) (by decide) _ _ hl
  have l1 : (putS (2, 8, 0, 0, ()) (a) (b0 138)).length = 16 := put_len (N := 16) (okSp_whole (a := 2) (w := 8) (by decide) (by decide) (by decide) (by decide)) (by decide) _ _ hl
  have c2 : reticuleref06_lay (putS (2, 8, 0, 0, ()) (a) (b0 138), 10, 4, BitVec.ofInt 64 n) = some (putS (10, 4, 0, 0, ()) (BitVec.ofInt 64 n) (putS (2, 8, 0, 0, ()) (a) (b0 138))) := lay_eq (N := 16) (a := 10) (w := 4) (by decide) (by decide) (by decide) (by decide) (by decide) _ _ l1
  have l2 : (putS (10, 4, 0, 0, ()) (BitVec.ofInt 64 n) (putS (2, 8, 0, 0, ()) (a) (b0 138))).length = 16 := put_len (N := 16) (okSp_whole (a := 10) (w := 4) (by decide) (by decide) (by decide) (by decide)) (by decide) _ _ l1
  refine ⟨putS (10, 4, 0, 0, ()) (BitVec.ofInt 64 n) (putS (2, 8, 0, 0, ()) (a) (b0 138)), by rw [l2]; decide, fun hF => ?_, ?_⟩
  · have hs := fits_small hF
    simp only [shp_138] at hs
    obtain ⟨s1, s2, s3, s4⟩ := hs
    simp only [nB, Int.reduceEq, if_true, if_false, Int.reduceToNat, Nat.reduceMul, Nat.reducePow, Int.reducePow] at s1 s3 s4
    exfalso
    omega
  · have r1 := b0_raw 138 16 (by kernel_rfl)
    have ln : (((b0 138).length : Nat) : Int) = 16 := by rw [hl]; rfl
    have d1 := decide_eq_false (show ¬ n < 0 by omega)
    have d2 := decide_eq_false (show ¬ p < 0 by omega)
    have d3 := decide_eq_false (show ¬ k < 0 by omega)
    have d4 := decide_eq_false (show ¬ 3 < k by omega)
    have d6 := decide_eq_false hk.1
    have d5 := decide_eq_false (show ¬ 255 < p by omega)
    have z : sizeI 138 = ((16 : Nat) : Int) := by kernel_rfl
    have kn : decide (138 ∈ ops) = true := by decide
    have cl : clsI 138 = 2 := by decide
    have lm : decide (((16 : Nat) : Int) ≤ ((lim : Nat) : Int)) = true := by decide
    have c0 : chk (inLen 0 (List.replicate ((16 : Nat) : Int).toNat (0#8)).length) = some () := by decide
    have nn : (16 : Int) = ((16 : Nat) : Int) := rfl
    unfold reticuleref06_Bytes
    simp only [(known_eq _).2, (size_eq _).2, (cls_eq _).2, z, kn, cl, Option.bind_some, Bool.not_true, cond_false, cond_true, d1, d2, d3, d4, d6, d5, lm, c0, r1, ln, chk_true rfl, decide_true, decide_false, Bool.and_self, Int.reduceLT, Int.reduceEq, Int.reduceLE, Int.natCast_nonneg, Int.le_refl, Int.reduceToNat, c1, c2, jn_inl]
    exact ref_fin (138, a, n, p, k, ()) _ (Nat.le_trans (Nat.le_of_eq hl) (by decide))
theorem rb_47_y (a : BitVec 64) (n p : Int) (g1 : 0 ≤ n) (g2 : 0 ≤ p) (g5 : p ≤ 255) : RB (47, a, n, p, 1, ()) := by
  have hl : (b0 47).length = 10 := (b0_len 47).trans (by kernel_rfl)
  have c1 : reticuleref06_lay (b0 47, 2, 4, a) = some (putS (2, 4, 0, 0, ()) (a) (b0 47)) := lay_eq (N := 10) (a := 2) (w := 4) (by decide) (by decide) (by decide) (by decide) (by decide) _ _ hl
  have l1 : (putS (2, 4, 0, 0, ()) (a) (b0 47)).length = 10 := put_len (N := 10) (okSp_whole (a := 2) (w := 4) (by decide) (by decide) (by decide) (by decide)) (by decide) _ _ hl
  have c2 : reticuleref06_lay (putS (2, 4, 0, 0, ()) (a) (b0 47), 7, 2, BitVec.ofInt 64 n) = some (putS (7, 2, 0, 0, ()) (BitVec.ofInt 64 n) (putS (2, 4, 0, 0, ()) (a) (b0 47))) := lay_eq (N := 10) (a := 7) (w := 2) (by decide) (by decide) (by decide) (by decide) (by decide) _ _ l1
  have l2 : (putS (7, 2, 0, 0, ()) (BitVec.ofInt 64 n) (putS (2, 4, 0, 0, ()) (a) (b0 47))).length = 10 := put_len (N := 10) (okSp_whole (a := 7) (w := 2) (by decide) (by decide) (by decide) (by decide)) (by decide) _ _ l1
  have c3 : chk (inLen 1 (putS (7, 2, 0, 0, ()) (BitVec.ofInt 64 n) (putS (2, 4, 0, 0, ()) (a) (b0 47))).length) = some () := chk_in l2 (by decide)
  have l3 : ((putS (7, 2, 0, 0, ()) (BitVec.ofInt 64 n) (putS (2, 4, 0, 0, ()) (a) (b0 47))).set 1 (2#8)).length = 10 := by rw [List.length_set, l2]
  refine ⟨(putS (7, 2, 0, 0, ()) (BitVec.ofInt 64 n) (putS (2, 4, 0, 0, ()) (a) (b0 47))).set 1 (2#8), by rw [l3]; decide, fun hF => ?_, ?_⟩
  · have hs := fits_small hF
    simp only [shp_47] at hs
    obtain ⟨s1, s2, s3, s4⟩ := hs
    simp only [nB, Int.reduceEq, if_true, if_false, Int.reduceToNat, Nat.reduceMul, Nat.reducePow, Int.reducePow] at s1 s3 s4
    have e := same_bytes (47, a, n, p, 1, ()) hF (some 1#64) (fun v h => by cases h; rfl) (N := 10) (by kernel_rfl) [((2, 4, 0, 0, ()), 0), ((7, 2, 0, 0, ()), 1), ((0, 0, 0, 0, ()), 2), ((1, 1, 1, 1, ()), 3), ((1, 1, 2, 1, ()), 4)] [((2, 4, 0, 0, ()), 0), ((7, 2, 0, 0, ()), 1), ((1, 1, 0, 0, ()), 8)] (by show bagC (shp 47) _ = _; rw [shp_47]; rfl) (by kernel_rfl) (by kernel_rfl) (by kernel_rfl)
    rw [e]
    have ml1 : (putS (2, 4, 0, 0, ()) (a) (b0 47)).length = 10 := put_len (N := 10) (okSp_whole (a := 2) (w := 4) (by decide) (by decide) (by decide) (by decide)) (by decide) _ _ hl
    have ml2 : (putS (7, 2, 0, 0, ()) (BitVec.ofInt 64 n) (putS (2, 4, 0, 0, ()) (a) (b0 47))).length = 10 := put_len (N := 10) (okSp_whole (a := 7) (w := 2) (by decide) (by decide) (by decide) (by decide)) (by decide) _ _ ml1
    have m3 : (putS (7, 2, 0, 0, ()) (BitVec.ofInt 64 n) (putS (2, 4, 0, 0, ()) (a) (b0 47))).set 1 (2#8) = putS (1, 1, 0, 0, ()) (2#64) (putS (7, 2, 0, 0, ()) (BitVec.ofInt 64 n) (putS (2, 4, 0, 0, ()) (a) (b0 47))) := set_put (N := 10) (j := 1) (by decide) (by decide) _ _ (by decide) _ ml2
    have ml3 : (putS (1, 1, 0, 0, ()) (2#64) (putS (7, 2, 0, 0, ()) (BitVec.ofInt 64 n) (putS (2, 4, 0, 0, ()) (a) (b0 47)))).length = 10 := put_len (N := 10) (okSp_whole (a := 1) (w := 1) (by decide) (by decide) (by decide) (by decide)) (by decide) _ _ ml2
    rw [m3]
    rfl
  · have r1 := b0_raw 47 10 (by kernel_rfl)
    have ln : (((b0 47).length : Nat) : Int) = 10 := by rw [hl]; rfl
    have d1 := decide_eq_false (show ¬ n < 0 by omega)
    have d2 := decide_eq_false (show ¬ p < 0 by omega)
    have d5 := decide_eq_false (show ¬ 255 < p by omega)
    have z : sizeI 47 = ((10 : Nat) : Int) := by kernel_rfl
    have kn : decide (47 ∈ ops) = true := by decide
    have cl : clsI 47 = 3 := by decide
    have lm : decide (((10 : Nat) : Int) ≤ ((lim : Nat) : Int)) = true := by decide
    have c0 : chk (inLen 0 (List.replicate ((10 : Nat) : Int).toNat (0#8)).length) = some () := by decide
    have nn : (10 : Int) = ((10 : Nat) : Int) := rfl
    unfold reticuleref06_Bytes
    simp only [(known_eq _).2, (size_eq _).2, (cls_eq _).2, z, kn, cl, Option.bind_some, Bool.not_true, cond_false, cond_true, d1, d2, d5, lm, c0, r1, ln, chk_true rfl, decide_true, decide_false, Bool.and_self, Int.reduceLT, Int.reduceEq, Int.reduceLE, Int.natCast_nonneg, Int.le_refl, Int.reduceToNat, c1, c2, c3, jn_inl]
    exact ref_fin (47, a, n, p, 1, ()) _ (Nat.le_trans (Nat.le_of_eq hl) (by decide))
theorem rb_47_z (a : BitVec 64) (n p : Int) (g1 : 0 ≤ n) (g2 : 0 ≤ p) (g5 : p ≤ 255) : RB (47, a, n, p, 0, ()) := by
  have hl : (b0 47).length = 10 := (b0_len 47).trans (by kernel_rfl)
  have c1 : reticuleref06_lay (b0 47, 2, 4, a) = some (putS (2, 4, 0, 0, ()) (a) (b0 47)) := lay_eq (N := 10) (a := 2) (w := 4) (by decide) (by decide) (by decide) (by decide) (by decide) _ _ hl
  have l1 : (putS (2, 4, 0, 0, ()) (a) (b0 47)).length = 10 := put_len (N := 10) (okSp_whole (a := 2) (w := 4) (by decide) (by decide) (by decide) (by decide)) (by decide) _ _ hl
  have c2 : reticuleref06_lay (putS (2, 4, 0, 0, ()) (a) (b0 47), 7, 2, BitVec.ofInt 64 n) = some (putS (7, 2, 0, 0, ()) (BitVec.ofInt 64 n) (putS (2, 4, 0, 0, ()) (a) (b0 47))) := lay_eq (N := 10) (a := 7) (w := 2) (by decide) (by decide) (by decide) (by decide) (by decide) _ _ l1
  have l2 : (putS (7, 2, 0, 0, ()) (BitVec.ofInt 64 n) (putS (2, 4, 0, 0, ()) (a) (b0 47))).length = 10 := put_len (N := 10) (okSp_whole (a := 7) (w := 2) (by decide) (by decide) (by decide) (by decide)) (by decide) _ _ l1
  refine ⟨putS (7, 2, 0, 0, ()) (BitVec.ofInt 64 n) (putS (2, 4, 0, 0, ()) (a) (b0 47)), by rw [l2]; decide, fun hF => ?_, ?_⟩
  · have hs := fits_small hF
    simp only [shp_47] at hs
    obtain ⟨s1, s2, s3, s4⟩ := hs
    simp only [nB, Int.reduceEq, if_true, if_false, Int.reduceToNat, Nat.reduceMul, Nat.reducePow, Int.reducePow] at s1 s3 s4
    have e := same_bytes (47, a, n, p, 0, ()) hF (some 0#64) (fun v h => by cases h; rfl) (N := 10) (by kernel_rfl) [((2, 4, 0, 0, ()), 0), ((7, 2, 0, 0, ()), 1), ((0, 0, 0, 0, ()), 2), ((1, 1, 1, 1, ()), 3), ((1, 1, 2, 1, ()), 4)] [((2, 4, 0, 0, ()), 0), ((7, 2, 0, 0, ()), 1)] (by show bagC (shp 47) _ = _; rw [shp_47]; rfl) (by kernel_rfl) (by kernel_rfl) (by kernel_rfl)
    rw [e]
    have ml1 : (putS (2, 4, 0, 0, ()) (a) (b0 47)).length = 10 := put_len (N := 10) (okSp_whole (a := 2) (w := 4) (by decide) (by decide) (by decide) (by decide)) (by decide) _ _ hl
    have ml2 : (putS (7, 2, 0, 0, ()) (BitVec.ofInt 64 n) (putS (2, 4, 0, 0, ()) (a) (b0 47))).length = 10 := put_len (N := 10) (okSp_whole (a := 7) (w := 2) (by decide) (by decide) (by decide) (by decide)) (by decide) _ _ ml1
    rfl
  · have r1 := b0_raw 47 10 (by kernel_rfl)
    have ln : (((b0 47).length : Nat) : Int) = 10 := by rw [hl]; rfl
    have d1 := decide_eq_false (show ¬ n < 0 by omega)
    have d2 := decide_eq_false (show ¬ p < 0 by omega)
    have d5 := decide_eq_false (show ¬ 255 < p by omega)
    have z : sizeI 47 = ((10 : Nat) : Int) := by kernel_rfl
    have kn : decide (47 ∈ ops) = true := by decide
    have cl : clsI 47 = 3 := by decide
    have lm : decide (((10 : Nat) : Int) ≤ ((lim : Nat) : Int)) = true := by decide
    have c0 : chk (inLen 0 (List.replicate ((10 : Nat) : Int).toNat (0#8)).length) = some () := by decide
    have nn : (10 : Int) = ((10 : Nat) : Int) := rfl
    unfold reticuleref06_Bytes
    simp only [(known_eq _).2, (size_eq _).2, (cls_eq _).2, z, kn, cl, Option.bind_some, Bool.not_true, cond_false, cond_true, d1, d2, d5, lm, c0, r1, ln, chk_true rfl, decide_true, decide_false, Bool.and_self, Int.reduceLT, Int.reduceEq, Int.reduceLE, Int.natCast_nonneg, Int.le_refl, Int.reduceToNat, c1, c2, jn_inl]
    exact ref_fin (47, a, n, p, 0, ()) _ (Nat.le_trans (Nat.le_of_eq hl) (by decide))
theorem rb_47_n (a : BitVec 64) (n p k : Int) (hk : k ≠ 1 ∧ k ≠ 0) (g1 : 0 ≤ n) (g2 : 0 ≤ p) (g3 : 0 ≤ k) (g4 : k ≤ 3) (g5 : p ≤ 255) : RB (47, a, n, p, k, ()) := by
  have hl : (b0 47).length = 10 := (b0_len 47).trans (by kernel_rfl)
  have c1 : reticuleref06_lay (b0 47, 2, 4, a) = some (putS (2, 4, 0, 0, ()) (a) (b0 47)) := lay_eq (N := 10) (a := 2) (w := 4) (by decide) (by decide) (by decide) (by decide) (by decide) _ _ hl
  have l1 : (putS (2, 4, 0, 0, ()) (a) (b0 47)).length = 10 := put_len (N := 10) (okSp_whole (a := 2) (w := 4) (by decide) (by decide) (by decide) (by decide)) (by decide) _ _ hl
  have c2 : reticuleref06_lay (putS (2, 4, 0, 0, ()) (a) (b0 47), 7, 2, BitVec.ofInt 64 n) = some (putS (7, 2, 0, 0, ()) (BitVec.ofInt 64 n) (putS (2, 4, 0, 0, ()) (a) (b0 47))) := lay_eq (N := 10) (a := 7) (w := 2) (by decide) (by decide) (by decide) (by decide) (by decide) _ _ l1
  have l2 : (putS (7, 2, 0, 0, ()) (BitVec.ofInt 64 n) (putS (2, 4, 0, 0, ()) (a) (b0 47))).length = 10 := put_len (N := 10) (okSp_whole (a := 7) (w := 2) (by decide) (by decide) (by decide) (by decide)) (by decide) _ _ l1
  refine ⟨putS (7, 2, 0, 0, ()) (BitVec.ofInt 64 n) (putS (2, 4, 0, 0, ()) (a) (b0 47)), by rw [l2]; decide, fun hF => ?_, ?_⟩
  · have hs := fits_small hF
    simp only [shp_47] at hs
    obtain ⟨s1, s2, s3, s4⟩ := hs
    simp only [nB, Int.reduceEq, if_true, if_false, Int.reduceToNat, Nat.reduceMul, Nat.reducePow, Int.reducePow] at s1 s3 s4
    exfalso
    omega
  · have r1 := b0_raw 47 10 (by kernel_rfl)
    have ln : (((b0 47).length : Nat) : Int) = 10 := by rw [hl]; rfl
    have d1 := decide_eq_false (show ¬ n < 0 by omega)
    have d2 := decide_eq_false (show ¬ p < 0 by omega)
    have d3 := decide_eq_false (show ¬ k < 0 by omega)
    have d4 := decide_eq_false (show ¬ 3 < k by omega)
    have d6 := decide_eq_false hk.1
    have d5 := decide_eq_false (show ¬ 255 < p by omega)
    have z : sizeI 47 = ((10 : Nat) : Int) := by kernel_rfl
    have kn : decide (47 ∈ ops) = true := by decide
    have cl : clsI 47 = 3 := by decide
    have lm : decide (((10 : Nat) : Int) ≤ ((lim : Nat) : Int)) = true := by decide
    have c0 : chk (inLen 0 (List.replicate ((10 : Nat) : Int).toNat (0#8)).length) = some () := by decide
    have nn : (10 : Int) = ((10 : Nat) : Int) := rfl
    unfold reticuleref06_Bytes
    simp only [(known_eq _).2, (size_eq _).2, (cls_eq _).2, z, kn, cl, Option.bind_some, Bool.not_true, cond_false, cond_true, d1, d2, d3, d4, d6, d5, lm, c0, r1, ln, chk_true rfl, decide_true, decide_false, Bool.and_self, Int.reduceLT, Int.reduceEq, Int.reduceLE, Int.natCast_nonneg, Int.le_refl, Int.reduceToNat, c1, c2, jn_inl]
    exact ref_fin (47, a, n, p, k, ()) _ (Nat.le_trans (Nat.le_of_eq hl) (by decide))
theorem rb_175_y (a : BitVec 64) (n p : Int) (g1 : 0 ≤ n) (g2 : 0 ≤ p) (g5 : p ≤ 255) : RB (175, a, n, p, 1, ()) := by
  have hl : (b0 175).length = 12 := (b0_len 175).trans (by kernel_rfl)
  have c1 : reticuleref06_lay (b0 175, 2, 4, a) = some (putS (2, 4, 0, 0, ()) (a) (b0 175)) := lay_eq (N := 12) (a := 2) (w := 4) (by decide) (by decide) (by decide) (by decide) (by decide) _ _ hl
  have l1 : (putS (2, 4, 0, 0, ()) (a) (b0 175)).length = 12 := put_len (N := 12) (okSp_whole (a := 2) (w := 4) (by decide) (by decide) (by decide) (by decide)) (by decide) _ _ hl
  have c2 : reticuleref06_lay (putS (2, 4, 0, 0, ()) (a) (b0 175), 6, 4, BitVec.ofInt 64 n) = some (putS (6, 4, 0, 0, ()) (BitVec.ofInt 64 n) (putS (2, 4, 0, 0, ()) (a) (b0 175))) := lay_eq (N := 12) (a := 6) (w := 4) (by decide) (by decide) (by decide) (by decide) (by decide) _ _ l1
  have l2 : (putS (6, 4, 0, 0, ()) (BitVec.ofInt 64 n) (putS (2, 4, 0, 0, ()) (a) (b0 175))).length = 12 := put_len (N := 12) (okSp_whole (a := 6) (w := 4) (by decide) (by decide) (by decide) (by decide)) (by decide) _ _ l1
  have c3 : chk (inLen 1 (putS (6, 4, 0, 0, ()) (BitVec.ofInt 64 n) (putS (2, 4, 0, 0, ()) (a) (b0 175))).length) = some () := chk_in l2 (by decide)
  have l3 : ((putS (6, 4, 0, 0, ()) (BitVec.ofInt 64 n) (putS (2, 4, 0, 0, ()) (a) (b0 175))).set 1 (2#8)).length = 12 := by rw [List.length_set, l2]
  refine ⟨(putS (6, 4, 0, 0, ()) (BitVec.ofInt 64 n) (putS (2, 4, 0, 0, ()) (a) (b0 175))).set 1 (2#8), by rw [l3]; decide, fun hF => ?_, ?_⟩
  · have hs := fits_small hF
    simp only [shp_175] at hs
    obtain ⟨s1, s2, s3, s4⟩ := hs
    simp only [nB, Int.reduceEq, if_true, if_false, Int.reduceToNat, Nat.reduceMul, Nat.reducePow, Int.reducePow] at s1 s3 s4
    have e := same_bytes (175, a, n, p, 1, ()) hF (some 1#64) (fun v h => by cases h; rfl) (N := 12) (by kernel_rfl) [((2, 4, 0, 0, ()), 0), ((6, 4, 0, 0, ()), 1), ((0, 0, 0, 0, ()), 2), ((1, 1, 1, 1, ()), 3), ((1, 1, 2, 1, ()), 4)] [((2, 4, 0, 0, ()), 0), ((6, 4, 0, 0, ()), 1), ((1, 1, 0, 0, ()), 8)] (by show bagC (shp 175) _ = _; rw [shp_175]; rfl) (by kernel_rfl) (by kernel_rfl) (by kernel_rfl)
    rw [e]
    have ml1 : (putS (2, 4, 0, 0, ()) (a) (b0 175)).length = 12 := put_len (N := 12) (okSp_whole (a := 2) (w := 4) (by decide) (by decide) (by decide) (by decide)) (by decide) _ _ hl
    have ml2 : (putS (6, 4, 0, 0, ()) (BitVec.ofInt 64 n) (putS (2, 4, 0, 0, ()) (a) (b0 175))).length = 12 := put_len (N := 12) (okSp_whole (a := 6) (w := 4) (by decide) (by decide) (by decide) (by decide)) (by decide) _ _ ml1
    have m3 : (putS (6, 4, 0, 0, ()) (BitVec.ofInt 64 n) (putS (2, 4, 0, 0, ()) (a) (b0 175))).set 1 (2#8) = putS (1, 1, 0, 0, ()) (2#64) (putS (6, 4, 0, 0, ()) (BitVec.ofInt 64 n) (putS (2, 4, 0, 0, ()) (a) (b0 175))) := set_put (N := 12) (j := 1) (by decide) (by decide) _ _ (by decide) _ ml2
    have ml3 : (putS (1, 1, 0, 0, ()) (2#64) (putS (6, 4, 0, 0, ()) (BitVec.ofInt 64 n) (putS (2, 4, 0, 0, ()) (a) (b0 175)))).length = 12 := put_len (N := 12) (okSp_whole (a := 1) (w := 1) (by decide) (by decide) (by decide) (by decide)) (by decide) _ _ ml2
    rw [m3]
    rfl
  · have r1 := b0_raw 175 12 (by kernel_rfl)
    have ln : (((b0 175).length : Nat) : Int) = 12 := by rw [hl]; rfl
    have d1 := decide_eq_false (show ¬ n < 0 by omega)
    have d2 := decide_eq_false (show ¬ p < 0 by omega)
    have d5 := decide_eq_false (show ¬ 255 < p by omega)
    have z : sizeI 175 = ((12 : Nat) : Int) := by kernel_rfl
    have kn : decide (175 ∈ ops) = true := by decide
    have cl : clsI 175 = 3 := by decide
    have lm : decide (((12 : Nat) : Int) ≤ ((lim : Nat) : Int)) = true := by decide
    have c0 : chk (inLen 0 (List.replicate ((12 : Nat) : Int).toNat (0#8)).length) = some () := by decide
    have nn : (12 : Int) = ((12 : Nat) : Int) := rfl
    unfold reticuleref06_Bytes
    simp only [(known_eq _).2, (size_eq _).2, (cls_eq _).2, z, kn, cl, Option.bind_some, Bool.not_true, cond_false, cond_true, d1, d2, d5, lm, c0, r1, ln, chk_true rfl, decide_true, decide_false, Bool.and_self, Int.reduceLT, Int.reduceEq, Int.reduceLE, Int.natCast_nonneg, Int.le_refl, Int.reduceToNat, c1, c2, c3, jn_inl]
    exact ref_fin (175, a, n, p, 1, ()) _ (Nat.le_trans (Nat.le_of_eq hl) (by decide))
theorem rb_175_z (a : BitVec 64) (n p : Int) (g1 : 0 ≤ n) (g2 : 0 ≤ p) (g5 : p ≤ 255) : RB (175, a, n, p, 0, ()) := by
  have hl : (b0 175).length = 12 := (b0_len 175).trans (by kernel_rfl)
  have c1 : reticuleref06_lay (b0 175, 2, 4, a) = some (putS (2, 4, 0, 0, ()) (a) (b0 175)) := lay_eq (N := 12) (a := 2) (w := 4) (by decide) (by decide) (by decide) (by decide) (by decide) _ _ hl
  have l1 : (putS (2, 4, 0, 0, ()) (a) (b0 175)).length = 12 := put_len (N := 12) (okSp_whole (a := 2) (w := 4) (by decide) (by decide) (by decide) (by decide)) (by decide) _ _ hl
  have c2 : reticuleref06_lay (putS (2, 4, 0, 0, ()) (a) (b0 175), 6, 4, BitVec.ofInt 64 n) = some (putS (6, 4, 0, 0, ()) (BitVec.ofInt 64 n) (putS (2, 4, 0, 0, ()) (a) (b0 175))) := lay_eq (N := 12) (a := 6) (w := 4) (by decide) (by decide) (by decide) (by decide) (by decide) _ _ l1
  have l2 : (putS (6, 4, 0, 0, ()) (BitVec.ofInt 64 n) (putS (2, 4, 0, 0, ()) (a) (b0 175))).length = 12 := put_len (N := 12) (okSp_whole (a := 6) (w := 4) (by decide) (by decide) (by decide) (by decide)) (by decide) _ _ l1
  refine ⟨putS (6, 4, 0, 0, ()) (BitVec.ofInt 64 n) (putS (2, 4, 0, 0, ()) (a) (b0 175)), by rw [l2]; decide, fun hF => ?_, ?_⟩
  · have hs := fits_small hF
    simp only [shp_175] at hs
    obtain ⟨s1, s2, s3, s4⟩ := hs
    simp only [nB, Int.reduceEq, if_true, if_false, Int.reduceToNat, Nat.reduceMul, Nat.reducePow, Int.reducePow] at s1 s3 s4
    have e := same_bytes (175, a, n, p, 0, ()) hF (some 0#64) (fun v h => by cases h; rfl) (N := 12) (by kernel_rfl) [((2, 4, 0, 0, ()), 0), ((6, 4, 0, 0, ()), 1), ((0, 0, 0, 0, ()), 2), ((1, 1, 1, 1, ()), 3), ((1, 1, 2, 1, ()), 4)] [((2, 4, 0, 0, ()), 0), ((6, 4, 0, 0, ()), 1)] (by show bagC (shp 175) _ = _; rw [shp_175]; rfl) (by kernel_rfl) (by kernel_rfl) (by kernel_rfl)
    rw [e]
    have ml1 : (putS (2, 4, 0, 0, ()) (a) (b0 175)).length = 12 := put_len (N := 12) (okSp_whole (a := 2) (w := 4) (by decide) (by decide) (by decide) (by decide)) (by decide) _ _ hl
    have ml2 : (putS (6, 4, 0, 0, ()) (BitVec.ofInt 64 n) (putS (2, 4, 0, 0, ()) (a) (b0 175))).length = 12 := put_len (N := 12) (okSp_whole (a := 6) (w := 4) (by decide) (by decide) (by decide) (by decide)) (by decide) _ _ ml1
    rfl
  · have r1 := b0_raw 175 12 (by kernel_rfl)
    have ln : (((b0 175).length : Nat) : Int) = 12 := by rw [hl]; rfl
    have d1 := decide_eq_false (show ¬ n < 0 by omega)
    have d2 := decide_eq_false (show ¬ p < 0 by omega)
    have d5 := decide_eq_false (show ¬ 255 < p by omega)
    have z : sizeI 175 = ((12 : Nat) : Int) := by kernel_rfl
    have kn : decide (175 ∈ ops) = true := by decide
    have cl : clsI 175 = 3 := by decide
    have lm : decide (((12 : Nat) : Int) ≤ ((lim : Nat) : Int)) = true := by decide
    have c0 : chk (inLen 0 (List.replicate ((12 : Nat) : Int).toNat (0#8)).length) = some () := by decide
    have nn : (12 : Int) = ((12 : Nat) : Int) := rfl
    unfold reticuleref06_Bytes
    simp only [(known_eq _).2, (size_eq _).2, (cls_eq _).2, z, kn, cl, Option.bind_some, Bool.not_true, cond_false, cond_true, d1, d2, d5, lm, c0, r1, ln, chk_true rfl, decide_true, decide_false, Bool.and_self, Int.reduceLT, Int.reduceEq, Int.reduceLE, Int.natCast_nonneg, Int.le_refl, Int.reduceToNat, c1, c2, jn_inl]
    exact ref_fin (175, a, n, p, 0, ()) _ (Nat.le_trans (Nat.le_of_eq hl) (by decide))
theorem rb_175_n (a : BitVec 64) (n p k : Int) (hk : k ≠ 1 ∧ k ≠ 0) (g1 : 0 ≤ n) (g2 : 0 ≤ p) (g3 : 0 ≤ k) (g4 : k ≤ 3) (g5 : p ≤ 255) : RB (175, a, n, p, k, ()) := by
  have hl : (b0 175).length = 12 := (b0_len 175).trans (by kernel_rfl)
  have c1 : reticuleref06_lay (b0 175, 2, 4, a) = some (putS (2, 4, 0, 0, ()) (a) (b0 175)) := lay_eq (N := 12) (a := 2) (w := 4) (by decide) (by decide) (by decide) (by decide) (by decide) _ _ hl
  have l1 : (putS (2, 4, 0, 0, ()) (a) (b0 175)).length = 12 := put_len (N := 12) (okSp_whole (a := 2) (w := 4) (by decide) (by decide) (by decide) (by decide)) (by decide) _ _ hl
  have c2 : reticuleref06_lay (putS (2, 4, 0, 0, ()) (a) (b0 175), 6, 4, BitVec.ofInt 64 n) = some (putS (6, 4, 0, 0, ()) (BitVec.ofInt 64 n) (putS (2, 4, 0, 0, ()) (a) (b0 175))) := lay_eq (N := 12) (a := 6) (w := 4) (by decide) (by decide) (by decide) (by decide) (by decide) _ _ l1
  have l2 : (putS (6, 4, 0, 0, ()) (BitVec.ofInt 64 n) (putS (2, 4, 0, 0, ()) (a) (b0 175))).length = 12 := put_len (N := 12) (okSp_whole (a := 6) (w := 4) (by decide) (by decide) (by decide) (by decide)) (by decide) _ _ l1
  refine ⟨putS (6, 4, 0, 0, ()) (BitVec.ofInt 64 n) (putS (2, 4, 0, 0, ()) (a) (b0 175)), by rw [l2]; decide, fun hF => ?_, ?_⟩
  · have hs := fits_small hF
    simp only [shp_175] at hs
    obtain ⟨s1, s2, s3, s4⟩ := hs
    simp only [nB, Int.reduceEq, if_true, if_false, Int.reduceToNat, Nat.reduceMul, Nat.reducePow, Int.reducePow] at s1 s3 s4
    exfalso
    omega
  · have r1 := b0_raw 175 12 (by kernel_rfl)
    have ln : (((b0 175).length : Nat) : Int) = 12 := by rw [hl]; rfl
    have d1 := decide_eq_false (show ¬ n < 0 by omega)
    have d2 := decide_eq_false (show ¬ p < 0 by omega)
    have d3 := decide_eq_false (show ¬ k < 0 by omega)
    have d4 := decide_eq_false (show ¬ 3 < k by omega)
    have d6 := decide_eq_false hk.1
    have d5 := decide_eq_false (show ¬ 255 < p by omega)
    have z : sizeI 175 = ((12 : Nat) : Int) := by kernel_rfl
    have kn : decide (175 ∈ ops) = true := by decide
    have cl : clsI 175 = 3 := by decide
    have lm : decide (((12 : Nat) : Int) ≤ ((lim : Nat) : Int)) = true := by decide
    have c0 : chk (inLen 0 (List.replicate ((12 : Nat) : Int).toNat (0#8)).length) = some () := by decide
    have nn : (12 : Int) = ((12 : Nat) : Int) := rfl
    unfold reticuleref06_Bytes
    simp only [(known_eq _).2, (size_eq _).2, (cls_eq _).2, z, kn, cl, Option.bind_some, Bool.not_true, cond_false, cond_true, d1, d2, d3, d4, d6, d5, lm, c0, r1, ln, chk_true rfl, decide_true, decide_false, Bool.and_self, Int.reduceLT, Int.reduceEq, Int.reduceLE, Int.natCast_nonneg, Int.le_refl, Int.reduceToNat, c1, c2, jn_inl]
    exact ref_fin (175, a, n, p, k, ()) _ (Nat.le_trans (Nat.le_of_eq hl) (by decide))
theorem rb_143_y (a : BitVec 64) (n p : Int) (g1 : 0 ≤ n) (g2 : 0 ≤ p) (g5 : p ≤ 255) : RB (143, a, n, p, 1, ()) := by
  have hl : (b0 143).length = 16 := (b0_len 143).trans (by kernel_rfl)
  have c1 : reticuleref06_lay (b0 143, 2, 8, a) = some (putS (2, 8, 0, 0, ()) (a) (b0 143)) := lay_eq (N := 16) (a := 2) (w := 8) (by decide) (by decide) (by decide) (by decide) (by decide) _ _ hl
  have l1 : (putS (2, 8, 0, 0, ()) (a) (b0 143)).length = 16 := put_len (N := 16) (okSp_whole (a := 2) (w := 8) (by decide) (by decide) (by decide) (by decide)) (by decide) _ _ hl
  have c2 : reticuleref06_lay (putS (2, 8, 0, 0, ()) (a) (b0 143), 10, 4, BitVec.ofInt 64 n) = some (putS (10, 4, 0, 0, ()) (BitVec.ofInt 64 n) (putS (2, 8, 0, 0, ()) (a) (b0 143))) := lay_eq (N := 16) (a := 10) (w := 4) (by decide) (by decide) (by decide) (by decide) (by decide) _ _ l1
  have l2 : (putS (10, 4, 0, 0, ()) (BitVec.ofInt 64 n) (putS (2, 8, 0, 0, ()) (a) (b0 143))).length = 16 := put_len (N := 16) (okSp_whole (a := 10) (w := 4) (by decide) (by decide) (by decide) (by decide)) (by decide) _ _ l1
  have c3 : chk (inLen 1 (putS (10, 4, 0, 0, ()) (BitVec.ofInt 64 n) (putS (2, 8, 0, 0, ()) (a) (b0 143))).length) = some () := chk_in l2 (by decide)
  have l3 : ((putS (10, 4, 0, 0, ()) (BitVec.ofInt 64 n) (putS (2, 8, 0, 0, ()) (a) (b0 143))).set 1 (2#8)).length = 16 := by rw [List.length_set, l2]
  refine ⟨(putS (10, 4, 0, 0, ()) (BitVec.ofInt 64 n) (putS (2, 8, 0, 0, ()) (a) (b0 143))).set 1 (2#8), by rw [l3]; decide, fun hF => ?_, ?_⟩
  · have hs := fits_small hF
    simp only [shp_143] at hs
    obtain ⟨s1, s2, s3, s4⟩ := hs
    simp only [nB, Int.reduceEq, if_true, if_false, Int.reduceToNat, Nat.reduceMul, Nat.reducePow, Int.reducePow] at s1 s3 s4
    have e := same_bytes (143, a, n, p, 1, ()) hF (some 1#64) (fun v h => by cases h; rfl) (N := 16) (by kernel_rfl) [((2, 8, 0, 0, ()), 0), ((10, 4, 0, 0, ()), 1), ((0, 0, 0, 0, ()), 2), ((1, 1, 1, 1, ()), 3), ((1, 1, 2, 1, ()), 4)] [((2, 8, 0, 0, ()), 0), ((10, 4, 0, 0, ()), 1), ((1, 1, 0, 0, ()), 8)] (by show bagC (shp 143) _ = _; rw [shp_143]; rfl) (by kernel_rfl) (by kernel_rfl) (by kernel_rfl)
    rw [e]
    have ml1 : (putS (2, 8, 0, 0, ()) (a) (b0 143)).length = 16 := put_len (N := 16) (okSp_whole (a := 2) (w := 8) (by decide) (by decide) (by decide) (by decide)) (by decide) _ _ hl
    have ml2 : (putS (10, 4, 0, 0, ()) (BitVec.ofInt 64 n) (putS (2, 8, 0, 0, ()) (a) (b0 143))).length = 16 := put_len (N := 16) (okSp_whole (a := 10) (w := 4) (by decide) (by decide) (by decide) (by decide)) (by decide) _ _ ml1
    have m3 : (putS (10, 4, 0, 0, ()) (BitVec.ofInt 64 n) (putS (2, 8, 0, 0, ()) (a) (b0 143))).set 1 (2#8) = putS (1, 1, 0, 0, ()) (2#64) (putS (10, 4, 0, 0, ()) (BitVec.ofInt 64 n) (putS (2, 8, 0, 0, ()) (a) (b0 143))) := set_put (N := 16) (j := 1) (by decide) (by decide) _ _ (by decide) _ ml2
    have ml3 : (putS (1, 1, 0, 0, ()) (2#64) (putS (10, 4, 0, 0, ()) (BitVec.ofInt 64 n) (putS (2, 8, 0, 0, ()) (a) (b0 143)))).length = 16 := put_len (N := 16) (okSp_whole (a := 1) (w := 1) (by decide) (by decide) (by decide) (by decide)) (by decide) _ _ ml2
    rw [m3]
    rfl
  · have r1 := b0_raw 143 16 (by kernel_rfl)
    have ln : (((b0 143).length : Nat) : Int) = 16 := by rw [hl]; rfl
    have d1 := decide_eq_false (show ¬ n < 0 by omega)
    have d2 := decide_eq_false (show ¬ p < 0 by omega)
    have d5 := decide_eq_false (show ¬ 255 < p by omega)
    have z : sizeI 143 = ((16 : Nat) : Int) := by kernel_rfl
    have kn : decide (143 ∈ ops) = true := by decide
    have cl : clsI 143 = 3 := by decide
    have lm : decide (((16 : Nat) : Int) ≤ ((lim : Nat) : Int)) = true := by decide
    have c0 : chk (inLen 0 (List.replicate ((16 : Nat) : Int).toNat (0#8)).length) = some () := by decide
    have nn : (16 : Int) = ((16 : Nat) : Int) := rfl
    unfold reticuleref06_Bytes
    simp only [(known_eq _).2, (size_eq _).2, (cls_eq _).2, z, kn, cl, Option.bind_some, Bool.not_true, cond_false, cond_true, d1, d2, d5, lm, c0, r1, ln, chk_true rfl, decide_true, decide_false, Bool.and_self, Int.reduceLT, Int.reduceEq, Int.reduceLE, Int.natCast_nonneg, Int.le_refl, Int.reduceToNat, c1, c2, c3, jn_inl]
    exact ref_fin (143, a, n, p, 1, ()) _ (Nat.le_trans (Nat.le_of_eq hl) (by decide))
theorem rb_143_z (a : BitVec 64) (n p : Int) (g1 : 0 ≤ n) (g2 : 0 ≤ p) (g5 : p ≤ 255) : RB (143, a, n, p, 0, ()) := by
  have hl : (b0 143).length = 16 := (b0_len 143).trans (by kernel_rfl)
  have c1 : reticuleref06_lay (b0 143, 2, 8, a) = some (putS (2, 8, 0, 0, ()) (a) (b0 143)) := lay_eq (N := 16) (a := 2) (w := 8) (by decide) (by decide) (by decide) (by decide) (by decide) _ _ hl
  have l1 : (putS (2, 8, 0, 0, ()) (a) (b0 143)).length = 16 := put_len (N := 16) (okSp_whole (a := 2) (w := 8) (by decide) (by decide) (by decide) (by decide)) (by decide) _ _ hl
  have c2 : reticuleref06_lay (putS (2, 8, 0, 0, ()) (a) (b0 143), 10, 4, BitVec.ofInt 64 n) = some (putS (10, 4, 0, 0, ()) (BitVec.ofInt 64 n) (putS (2, 8, 0, 0, ()) (a) (b0 143))) := lay_eq (N := 16) (a := 10) (w := 4) (by decide) (by decide) (by decide) (by decide) (by decide) _ _ l1
  have l2 : (putS (10, 4, 0, 0, ()) (BitVec.ofInt 64 n) (putS (2, 8, 0, 0, ()) (a) (b0 143))).length = 16 := put_len (N := 16) (okSp_whole (a := 10) (w := 4) (by decide) (by decide) (by decide) (by decide)) (by decide) _ _ l1
  refine ⟨putS (10, 4, 0, 0, ()) (BitVec.ofInt 64 n) (putS (2, 8, 0, 0, ()) (a) (b0 143)), by rw [l2]; decide, fun hF => ?_, ?_⟩
  · have hs := fits_small hF
    simp only [shp_143] at hs
    obtain ⟨s1, s2, s3, s4⟩ := hs
    simp only [nB, Int.reduceEq, if_true, if_false, Int.reduceToNat, Nat.reduceMul, Nat.reducePow, Int.reducePow] at s1 s3 s4
    have e := same_bytes (143, a, n, p, 0, ()) hF (some 0#64) (fun v h => by cases h; rfl) (N := 16) (by kernel_rfl) [((2, 8, 0, 0, ()), 0), ((10, 4, 0, 0, ()), 1), ((0, 0, 0, 0, ()), 2), ((1, 1, 1, 1, ()), 3), ((1, 1, 2, 1, ()), 4)] [((2, 8, 0, 0, ()), 0), ((10, 4, 0, 0, ()), 1)] (by show bagC (shp 143) _ = _; rw [shp_143]; rfl) (by kernel_rfl) (by kernel_rfl) (by kernel_rfl)
    rw [e]
    have ml1 : (putS (2, 8, 0, 0, ()) (a) (b0 143)).length = 16 := put_len (N := 16) (okSp_whole (a := 2) (w := 8) (by decide) (by decide) (by decide) (by decide)) (by decide) _ _ hl
    have ml2 : (putS (10, 4, 0, 0, ()) (BitVec.ofInt 64 n) (putS (2, 8, 0, 0, ()) (a) (b0 143))).length = 16 := put_len (N := 16) (okSp_whole (a := 10) (w := 4) (by decide) (by decide) (by decide) (by decide)) (by decide) _ _ ml1
    rfl
  · have r1 := b0_raw 143 16 (by kernel_rfl)
    have ln : (((b0 143).length : Nat) : Int) = 16 := by rw [hl]; rfl
    have d1 := decide_eq_false (show ¬ n < 0 by omega)
    have d2 := decide_eq_false (show ¬ p < 0 by omega)
    have d5 := decide_eq_false (show ¬ 255 < p by omega)
    have z : sizeI 143 = ((16 : Nat) : Int) := by kernel_rfl
    have kn : decide (143 ∈ ops) = true := by decide
    have cl : clsI 143 = 3 := by decide
    have lm : decide (((16 : Nat) : Int) ≤ ((lim : Nat) : Int)) = true := by decide
    have c0 : chk (inLen 0 (List.replicate ((16 : Nat) : Int).toNat (0#8)).length) = some () := by decide
    have nn : (16 : Int) = ((16 : Nat) : Int) := rfl
    unfold reticuleref06_Bytes
    simp only [(known_eq _).2, (size_eq _).2, (cls_eq _).2, z, kn, cl, Option.bind_some, Bool.not_true, cond_false, cond_true, d1, d2, d5, lm, c0, r1, ln, chk_true rfl, decide_true, decide_false, Bool.and_self, Int.reduceLT, Int.reduceEq, Int.reduceLE, Int.natCast_nonneg, Int.le_refl, Int.reduceToNat, c1, c2, jn_inl]
    exact ref_fin (143, a, n, p, 0, ()) _ (Nat.le_trans (Nat.le_of_eq hl) (by decide))
theorem rb_143_n (a : BitVec 64) (n p k : Int) (hk : k ≠ 1 ∧ k ≠ 0) (g1 : 0 ≤ n) (g2 : 0 ≤ p) (g3 : 0 ≤ k) (g4 : k ≤ 3) (g5 : p ≤ 255) : RB (143, a, n, p, k, ()) := by
  have hl : (b0 143).length = 16 := (b0_len 143).trans (by kernel_rfl)
  have c1 : reticuleref06_lay (b0 143, 2, 8, a) = some (putS (2, 8, 0, 0, ()) (a) (b0 143)) := lay_eq (N := 16) (a := 2) (w := 8) (by decide) (by decide) (by decide) (by decide) (by decide) _ _ hl
  have l1 : (putS (2, 8, 0, 0, ()) (a) (b0 143)).length = 16 := put_len (N := 16) (okSp_whole (a := 2) (w := 8) (by decide) (by decide) (by decide) (by decide)) (by decide) _ _ hl
  have c2 : reticuleref06_lay (putS (2, 8, 0, 0, ()) (a) (b0 143), 10, 4, BitVec.ofInt 64 n) = some (putS (10, 4, 0, 0, ()) (BitVec.ofInt 64 n) (putS (2, 8, 0, 0, ()) (a) (b0 143))) := lay_eq (N := 16) (a := 10) (w := 4) (by decide) (by decide) (by decide) (by decide) (by decide) _ _ l1
  have l2 : (putS (10, 4, 0, 0, ()) (BitVec.ofInt 64 n) (putS (2, 8, 0, 0, ()) (a) (b0 143))).length = 16 := put_len (N := 16) (okSp_whole (a := 10) (w := 4) (by decide) (by decide) (by decide) (by decide)) (by decide) _ _ l1
  refine ⟨putS (10, 4, 0, 0, ()) (BitVec.ofInt 64 n) (putS (2, 8, 0, 0, ()) (a) (b0 143)), by rw [l2]; decide, fun hF => ?_, ?_⟩
  · have hs := fits_small hF
    simp only [shp_143] at hs
    obtain ⟨s1, s2, s3, s4⟩ := hs
    simp only [nB, Int.reduceEq, if_true, if_false, Int.reduceToNat, Nat.reduceMul, Nat.reducePow, Int.reducePow] at s1 s3 s4
    exfalso
    omega
  · have r1 := b0_raw 143 16 (by kernel_rfl)
    have ln : (((b0 143).length : Nat) : Int) = 16 := by rw [hl]; rfl
    have d1 := decide_eq_false (show ¬ n < 0 by omega)
    have d2 := decide_eq_false (show ¬ p < 0 by omega)
    have d3 := decide_eq_false (show ¬ k < 0 by omega)
    have d4 := decide_eq_false (show ¬ 3 < k by omega)
    have d6 := decide_eq_false hk.1
    have d5 := decide_eq_false (show ¬ 255 < p by omega)
    have z : sizeI 143 = ((16 : Nat) : Int) := by kernel_rfl
    have kn : decide (143 ∈ ops) = true := by decide
    have cl : clsI 143 = 3 := by decide
    have lm : decide (((16 : Nat) : Int) ≤ ((lim : Nat) : Int)) = true := by decide
    have c0 : chk (inLen 0 (List.replicate ((16 : Nat) : Int).toNat (0#8)).length) = some () := by decide
    have nn : (16 : Int) = ((16 : Nat) : Int) := rfl
    unfold reticuleref06_Bytes
    simp only [(known_eq _).2, (size_eq _).2, (cls_eq _).2, z, kn, cl, Option.bind_some, Bool.not_true, cond_false, cond_true, d1, d2, d3, d4, d6, d5, lm, c0, r1, ln, chk_true rfl, decide_true, decide_false, Bool.and_self, Int.reduceLT, Int.reduceEq, Int.reduceLE, Int.natCast_nonneg, Int.le_refl, Int.reduceToNat, c1, c2, jn_inl]
    exact ref_fin (143, a, n, p, k, ()) _ (Nat.le_trans (Nat.le_of_eq hl) (by decide))
theorem rb_53 (a : BitVec 64) (n p k : Int) (g1 : 0 ≤ n) (g2 : 0 ≤ p) (g3 : 0 ≤ k) (g4 : k ≤ 3) (g5 : p ≤ 255) : RB (53, a, n, p, k, ()) := by
  have hl : (b0 53).length = 10 := (b0_len 53).trans (by kernel_rfl)
  have c1 : reticuleref06_lay (b0 53, 2, 4, a) = some (putS (2, 4, 0, 0, ()) (a) (b0 53)) := lay_eq (N := 10) (a := 2) (w := 4) (by decide) (by decide) (by decide) (by decide) (by decide) _ _ hl
  have l1 : (putS (2, 4, 0, 0, ()) (a) (b0 53)).length = 10 := put_len (N := 10) (okSp_whole (a := 2) (w := 4) (by decide) (by decide) (by decide) (by decide)) (by decide) _ _ hl
  have c2 : reticuleref06_lay (putS (2, 4, 0, 0, ()) (a) (b0 53), 7, 2, BitVec.ofInt 64 n) = some (putS (7, 2, 0, 0, ()) (BitVec.ofInt 64 n) (putS (2, 4, 0, 0, ()) (a) (b0 53))) := lay_eq (N := 10) (a := 7) (w := 2) (by decide) (by decide) (by decide) (by decide) (by decide) _ _ l1
  have l2 : (putS (7, 2, 0, 0, ()) (BitVec.ofInt 64 n) (putS (2, 4, 0, 0, ()) (a) (b0 53))).length = 10 := put_len (N := 10) (okSp_whole (a := 7) (w := 2) (by decide) (by decide) (by decide) (by decide)) (by decide) _ _ l1
  refine ⟨putS (7, 2, 0, 0, ()) (BitVec.ofInt 64 n) (putS (2, 4, 0, 0, ()) (a) (b0 53)), by rw [l2]; decide, fun hF => ?_, ?_⟩
  · have hs := fits_small hF
    simp only [shp_53] at hs
    obtain ⟨s1, s2, s3, s4⟩ := hs
    simp only [nB, Int.reduceEq, if_true, if_false, Int.reduceToNat, Nat.reduceMul, Nat.reducePow, Int.reducePow] at s1 s3 s4
    have e := same_bytes (53, a, n, p, k, ()) hF none (fun v h => by cases h) (N := 10) (by kernel_rfl) [((2, 4, 0, 0, ()), 0), ((7, 2, 0, 0, ()), 1), ((0, 0, 0, 0, ()), 2), ((0, 0, 0, 0, ()), 3)] [((2, 4, 0, 0, ()), 0), ((7, 2, 0, 0, ()), 1)] (by show bagC (shp 53) _ = _; rw [shp_53]; rfl) (by kernel_rfl) (by kernel_rfl) (by kernel_rfl)
    rw [e]
    have ml1 : (putS (2, 4, 0, 0, ()) (a) (b0 53)).length = 10 := put_len (N := 10) (okSp_whole (a := 2) (w := 4) (by decide) (by decide) (by decide) (by decide)) (by decide) _ _ hl
    have ml2 : (putS (7, 2, 0, 0, ()) (BitVec.ofInt 64 n) (putS (2, 4, 0, 0, ()) (a) (b0 53))).length = 10 := put_len (N := 10) (okSp_whole (a := 7) (w := 2) (by decide) (by decide) (by decide) (by decide)) (by decide) _ _ ml1
    rfl
  · have r1 := b0_raw 53 10 (by kernel_rfl)
    have ln : (((b0 53).length : Nat) : Int) = 10 := by rw [hl]; rfl
    have d1 := decide_eq_false (show ¬ n < 0 by omega)
    have d2 := decide_eq_false (show ¬ p < 0 by omega)
    have d3 := decide_eq_false (show ¬ k < 0 by omega)
    have d4 := decide_eq_false (show ¬ 3 < k by omega)
    have d5 := decide_eq_false (show ¬ 255 < p by omega)
    have z : sizeI 53 = ((10 : Nat) : Int) := by kernel_rfl
    have kn : decide (53 ∈ ops) = true := by decide
    have cl : clsI 53 = 4 := by decide
    have lm : decide (((10 : Nat) : Int) ≤ ((lim : Nat) : Int)) = true := by decide
    have c0 : chk (inLen 0 (List.replicate ((10 : Nat) : Int).toNat (0#8)).length) = some () := by decide
    have nn : (10 : Int) = ((10 : Nat) : Int) := rfl
    unfold reticuleref06_Bytes
    simp only [(known_eq _).2, (size_eq _).2, (cls_eq _).2, z, kn, cl, Option.bind_some, Bool.not_true, cond_false, cond_true, d1, d2, d3, d4, d5, lm, c0, r1, ln, chk_true rfl, decide_true, decide_false, Bool.and_self, Int.reduceLT, Int.reduceEq, Int.reduceLE, Int.natCast_nonneg, Int.le_refl, Int.reduceToNat, c1, c2, jn_inl]
    exact ref_fin (53, a, n, p, k, ()) _ (Nat.le_trans (Nat.le_of_eq hl) (by decide))
theorem rb_145 (a : BitVec 64) (n p k : Int) (g1 : 0 ≤ n) (g2 : 0 ≤ p) (g3 : 0 ≤ k) (g4 : k ≤ 3) (g5 : p ≤ 255) : RB (145, a, n, p, k, ()) := by
  have hl : (b0 145).length = 16 := (b0_len 145).trans (by kernel_rfl)
  have c1 : reticuleref06_lay (b0 145, 2, 8, a) = some (putS (2, 8, 0, 0, ()) (a) (b0 145)) := lay_eq (N := 16) (a := 2) (w := 8) (by decide) (by decide) (by decide) (by decide) (by decide) _ _ hl
  have l1 : (putS (2, 8, 0, 0, ()) (a) (b0 145)).length = 16 := put_len (N := 16) (okSp_whole (a := 2) (w := 8) (by decide) (by decide) (by decide) (by decide)) (by decide) _ _ hl
  have c2 : reticuleref06_lay (putS (2, 8, 0, 0, ()) (a) (b0 145), 10, 4, BitVec.ofInt 64 n) = some (putS (10, 4, 0, 0, ()) (BitVec.ofInt 64 n) (putS (2, 8, 0, 0, ()) (a) (b0 145))) := lay_eq (N := 16) (a := 10) (w := 4) (by decide) (by decide) (by decide) (by decide) (by decide) _ _ l1
  have l2 : (putS (10, 4, 0, 0, ()) (BitVec.ofInt 64 n) (putS (2, 8, 0, 0, ()) (a) (b0 145))).length = 16 := put_len (N := 16) (okSp_whole (a := 10) (w := 4) (by decide) (by decide) (by decide) (by decide)) (by decide) _ _ l1
  refine ⟨putS (10, 4, 0, 0, ()) (BitVec.ofInt 64 n) (putS (2, 8, 0, 0, ()) (a) (b0 145)), by rw [l2]; decide, fun hF => ?_, ?_⟩
  · have hs := fits_small hF
    simp only [shp_145] at hs
    obtain ⟨s1, s2, s3, s4⟩ := hs
    simp only [nB, Int.reduceEq, if_true, if_false, Int.reduceToNat, Nat.reduceMul, Nat.reducePow, Int.reducePow] at s1 s3 s4
    have e := same_bytes (145, a, n, p, k, ()) hF none (fun v h => by cases h) (N := 16) (by kernel_rfl) [((2, 8, 0, 0, ()), 0), ((10, 4, 0, 0, ()), 1), ((0, 0, 0, 0, ()), 2), ((0, 0, 0, 0, ()), 3)] [((2, 8, 0, 0, ()), 0), ((10, 4, 0, 0, ()), 1)] (by show bagC (shp 145) _ = _; rw [shp_145]; rfl) (by kernel_rfl) (by kernel_rfl) (by kernel_rfl)
    rw [e]
    have ml1 : (putS (2, 8, 0, 0, ()) (a) (b0 145)).length = 16 := put_len (N := 16) (okSp_whole (a := 2) (w := 8) (by decide) (by decide) (by decide) (by decide)) (by decide) _ _ hl
    have ml2 : (putS (10, 4, 0, 0, ()) (BitVec.ofInt 64 n) (putS (2, 8, 0, 0, ()) (a) (b0 145))).length = 16 := put_len (N := 16) (okSp_whole (a := 10) (w := 4) (by decide) (by decide) (by decide) (by decide)) (by decide) _ _ ml1
    rfl
  · have r1 := b0_raw 145 16 (by kernel_rfl)
    have ln : (((b0 145).length : Nat) : Int) = 16 := by rw [hl]; rfl
    have d1 := decide_eq_false (show ¬ n < 0 by omega)
    have d2 := decide_eq_false (show ¬ p < 0 by omega)
    have d3 := decide_eq_false (show ¬ k < 0 by omega)
    have d4 := decide_eq_false (show ¬ 3 < k by omega)
    have d5 := decide_eq_false (show ¬ 255 < p by omega)
    have z : sizeI 145 = ((16 : Nat) : Int) := by kernel_rfl
    have kn : decide (145 ∈ ops) = true := by decide
    have cl : clsI 145 = 4 := by decide
    have lm : decide (((16 : Nat) : Int) ≤ ((lim : Nat) : Int)) = true := by decide
    have c0 : chk (inLen 0 (List.replicate ((16 : Nat) : Int).toNat (0#8)).length) = some () := by decide
    have nn : (16 : Int) = ((16 : Nat) : Int) := rfl
    unfold reticuleref06_Bytes
    simp only [(known_eq _).2, (size_eq _).2, (cls_eq _).2, z, kn, cl, Option.bind_some, Bool.not_true, cond_false, cond_true, d1, d2, d3, d4, d5, lm, c0, r1, ln, chk_true rfl, decide_true, decide_false, Bool.and_self, Int.reduceLT, Int.reduceEq, Int.reduceLE, Int.natCast_nonneg, Int.le_refl, Int.reduceToNat, c1, c2, jn_inl]
    exact ref_fin (145, a, n, p, k, ()) _ (Nat.le_trans (Nat.le_of_eq hl) (by decide))
end Cdb
end Go.Proofs.Ytnhmeldgpgidiaa
/- Plain laws of chapter 6: CdbBytes. -/
namespace Go.Proofs.Ytnhmeldgpgidiaa
open Go Go.Re
set_option linter.unusedVariables false
set_option linter.unusedSimpArgs false
namespace Cdb
theorem rb_all (c : Cmd) (hk : c.1 ∈ ops) (g1 : 0 ≤ c.2.2.1) (g2 : 0 ≤ c.2.2.2.1) (g3 : 0 ≤ c.2.2.2.2.1) (g4 : c.2.2.2.2.1 ≤ 3) (g5 : c.2.2.2.1 ≤ 255) : RB c := by
  obtain ⟨op, a, n, p, k, _⟩ := c
  have hk : op ∈ ops := hk
  have g1 : 0 ≤ n := g1
  have g2 : 0 ≤ p := g2
  have g3 : 0 ≤ k := g3
  have g4 : k ≤ 3 := g4
  have g5 : p ≤ 255 := g5
  simp only [ops, opsB, opsR, List.cons_append, List.nil_append, List.mem_cons, List.not_mem_nil, or_false] at hk
  rcases hk with rfl | rfl | rfl | rfl | rfl | rfl | rfl | rfl | rfl | rfl | rfl | rfl | rfl | rfl | rfl | rfl | rfl | rfl | rfl | rfl | rfl | rfl | rfl | rfl | rfl
  · exact rb_8 a n p k g1 g2 g3 g4 g5
  · by_cases h1 : k = 1
    · subst h1; exact rb_40_y a n p g1 g2 g5
    · by_cases h0 : k = 0
      · subst h0; exact rb_40_z a n p g1 g2 g5
      · exact rb_40_n a n p k ⟨h1, h0⟩ g1 g2 g3 g4 g5
  · by_cases h1 : k = 1
    · subst h1; exact rb_168_y a n p g1 g2 g5
    · by_cases h0 : k = 0
      · subst h0; exact rb_168_z a n p g1 g2 g5
      · exact rb_168_n a n p k ⟨h1, h0⟩ g1 g2 g3 g4 g5
  · by_cases h1 : k = 1
    · subst h1; exact rb_136_y a n p g1 g2 g5
    · by_cases h0 : k = 0
      · subst h0; exact rb_136_z a n p g1 g2 g5
      · exact rb_136_n a n p k ⟨h1, h0⟩ g1 g2 g3 g4 g5
  · exact rb_10 a n p k g1 g2 g3 g4 g5
  · by_cases h1 : k = 1
    · subst h1; exact rb_42_y a n p g1 g2 g5
    · by_cases h0 : k = 0
      · subst h0; exact rb_42_z a n p g1 g2 g5
      · exact rb_42_n a n p k ⟨h1, h0⟩ g1 g2 g3 g4 g5
  · by_cases h1 : k = 1
    · subst h1; exact rb_170_y a n p g1 g2 g5
    · by_cases h0 : k = 0
      · subst h0; exact rb_170_z a n p g1 g2 g5
      · exact rb_170_n a n p k ⟨h1, h0⟩ g1 g2 g3 g4 g5
  · by_cases h1 : k = 1
    · subst h1; exact rb_138_y a n p g1 g2 g5
    · by_cases h0 : k = 0
      · subst h0; exact rb_138_z a n p g1 g2 g5
      · exact rb_138_n a n p k ⟨h1, h0⟩ g1 g2 g3 g4 g5
  · by_cases h1 : k = 1
    · subst h1; exact rb_47_y a n p g1 g2 g5
    · by_cases h0 : k = 0
      · subst h0; exact rb_47_z a n p g1 g2 g5
      · exact rb_47_n a n p k ⟨h1, h0⟩ g1 g2 g3 g4 g5
  · by_cases h1 : k = 1
    · subst h1; exact rb_175_y a n p g1 g2 g5
    · by_cases h0 : k = 0
      · subst h0; exact rb_175_z a n p g1 g2 g5
      · exact rb_175_n a n p k ⟨h1, h0⟩ g1 g2 g3 g4 g5
  · by_cases h1 : k = 1
    · subst h1; exact rb_143_y a n p g1 g2 g5
    · by_cases h0 : k = 0
      · subst h0; exact rb_143_z a n p g1 g2 g5
      · exact rb_143_n a n p k ⟨h1, h0⟩ g1 g2 g3 g4 g5
  · exact rb_53 a n p k g1 g2 g3 g4 g5
  · exact rb_145 a n p k g1 g2 g3 g4 g5
  · exact rb_0 a n p k g1 g2 g3 g4 g5
  · exact rb_3 a n p k g1 g2 g3 g4 g5
  · exact rb_18 a n p k g1 g2 g3 g4 g5
  · exact rb_21 a n p k g1 g2 g3 g4 g5
  · exact rb_85 a n p k g1 g2 g3 g4 g5
  · exact rb_26 a n p k g1 g2 g3 g4 g5
  · exact rb_90 a n p k g1 g2 g3 g4 g5
  · exact rb_27 a n p k g1 g2 g3 g4 g5
  · exact rb_30 a n p k g1 g2 g3 g4 g5
  · exact rb_37 a n p k g1 g2 g3 g4 g5
  · exact rb_158 a n p k g1 g2 g3 g4 g5
  · exact rb_160 a n p k g1 g2 g3 g4 g5
theorem fits_guard {c : Cmd} (h : Fits c) : 0 ≤ c.2.2.1 ∧ 0 ≤ c.2.2.2.1 ∧ 0 ≤ c.2.2.2.2.1 ∧ c.2.2.2.2.1 ≤ 3 ∧ c.2.2.2.1 ≤ 255 := by
  obtain ⟨h1, h2, h3, h4⟩ := fits_small h
  have hw : nB (shp c.1).2.2.1 ≤ 8 ∧ nB (shp c.1).2.2.2.1 ≤ 2 := by
    have hk := h.1
    generalize c.1 = op at hk
    simp only [ops, opsB, opsR, List.cons_append, List.nil_append, List.mem_cons, List.not_mem_nil, or_false] at hk
    rcases hk with rfl | rfl | rfl | rfl | rfl | rfl | rfl | rfl | rfl | rfl | rfl | rfl | rfl | rfl | rfl | rfl | rfl | rfl | rfl | rfl | rfl | rfl | rfl | rfl | rfl <;> decide +kernel
  have p1 : (2 : Int) ^ nB (shp c.1).2.2.1 ≤ 256 := by
    have : 2 ^ nB (shp c.1).2.2.1 ≤ 2 ^ 8 := Nat.pow_le_pow_right (by decide) hw.1
    have e : ((2 ^ nB (shp c.1).2.2.1 : Nat) : Int) = (2 : Int) ^ nB (shp c.1).2.2.1 := by simp
    omega
  have p2 : (2 : Int) ^ nB (shp c.1).2.2.2.1 ≤ 4 := by
    have : 2 ^ nB (shp c.1).2.2.2.1 ≤ 2 ^ 2 := Nat.pow_le_pow_right (by decide) hw.2
    have e : ((2 ^ nB (shp c.1).2.2.2.1 : Nat) : Int) = (2 : Int) ^ nB (shp c.1).2.2.2.1 := by simp
    omega
  exact ⟨h2.1, h3.1, h4.1, by omega, by omega⟩
open Classical in
theorem ref_bytes_eq (c : Cmd) : reticuleref06_Bytes c = some (if Fits c then (bytesC c, true) else ([], false)) := by
  by_cases hk : c.1 ∈ ops
  · by_cases hg : 0 ≤ c.2.2.1 ∧ 0 ≤ c.2.2.2.1 ∧ 0 ≤ c.2.2.2.2.1 ∧ c.2.2.2.2.1 ≤ 3 ∧ c.2.2.2.1 ≤ 255
    · obtain ⟨B, hB, h1, h2⟩ := rb_all c hk hg.1 hg.2.1 hg.2.2.1 hg.2.2.2.1 hg.2.2.2.2
      rw [h2]
      unfold finB
      by_cases hF : Fits c
      · have e := h1 hF
        have hp := ((parse_self c).2 hF).2
        rw [if_pos hF, if_pos (by rw [e]; exact hp), e]
      · rw [if_neg hF, if_neg (fun h => hF (fits_of_parse h).1)]
    · have hF : ¬ Fits c := fun h => hg (fits_guard h)
      rw [if_neg hF]
      unfold reticuleref06_Bytes
      simp only [(known_eq _).2, decide_eq_true hk, Option.bind_some, Bool.not_true, cond_false]
      by_cases h1 : c.2.2.1 < 0
      · simp only [decide_eq_true h1, cond_true, Option.bind_some]
      by_cases h2 : c.2.2.2.1 < 0
      · simp only [decide_eq_false h1, decide_eq_true h2, cond_true, cond_false, Option.bind_some]
      by_cases h3 : c.2.2.2.2.1 < 0
      · simp only [decide_eq_false h1, decide_eq_false h2, decide_eq_true h3, cond_true, cond_false, Option.bind_some]
      by_cases h4 : 3 < c.2.2.2.2.1
      · simp only [decide_eq_false h1, decide_eq_false h2, decide_eq_false h3, decide_eq_true h4, cond_true, cond_false, Option.bind_some]
      by_cases h5 : 255 < c.2.2.2.1
      · simp only [decide_eq_false h1, decide_eq_false h2, decide_eq_false h3, decide_eq_false h4, decide_eq_true h5, cond_true, cond_false, Option.bind_some]
      exact absurd ⟨by omega, by omega, by omega, by omega, by omega⟩ hg
  · rw [if_neg (fun h => hk h.1)]
    unfold reticuleref06_Bytes
    simp only [(known_eq _).2, decide_eq_false hk, Option.bind_some, Bool.not_false, cond_true]
end Cdb
open Cdb
theorem CdbBytes_pure (x : Int × (BitVec 64 × (Int × (Int × (Int × Unit))))) : reticulelaw06_CdbBytes x = some true := by
  obtain ⟨R, r1, r2, r3⟩ : ∃ R : BY × Bool, cdb_Bytes x = some R ∧ reticuleref06_Bytes x = some R ∧ R.1.length ≤ 16 := by
    refine ⟨_, bytes_eq x, ref_bytes_eq x, ?_⟩
    by_cases hF : Fits x
    · rw [if_pos hF]
      have := (of_some x.1 hF.1).2.2.2.2
      rw [bytesC_len hF.1]; exact this
    · rw [if_neg hF]; decide
  have hl : R.1.length ≤ lim := by show R.1.length ≤ 2147483648; omega
  simp only [reticulelaw06_CdbBytes, alive_ok, r1, r2, Option.bind_some, Bool.not_true, cond_false, decide_eq_true hl, chk_true rfl, decide_true, cond_true]
end Go.Proofs.Ytnhmeldgpgidiaa
