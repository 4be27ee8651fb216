/- Plain laws of chapter 22: how commands and managements are read. -/
import Derived.Test.YtmkoigeofajhfaaIuP
import Derived.Test.YtmkoigeofajhfaaNumE
namespace Go.Proofs.Ytmkoigeofajhfaa
open Go Go.Re
set_option linter.unusedVariables false
set_option linter.unusedSimpArgs false
theorem getD_at {α : Type} (l : List α) (n : Nat) (d : α) (h : n < l.length) : ix l (n : Int) = some (l.getD n d) := by
  rw [ix_at l n h, List.getD_eq_getElem?_getD, List.getElem?_eq_getElem h]; rfl
def twoL (x : List (BitVec 8)) (a : Nat) : Int := if a + 2 ≤ x.length then 256 * ((x.getD a 0#8).toNat : Int) + ((x.getD (a + 1) 0#8).toNat : Int) else 0
theorem two_at (x : List (BitVec 8)) (a : Nat) (h : a + 2 ≤ x.length) : (x.drop a).take 2 = [x.getD a 0#8, x.getD (a + 1) 0#8] := by
  apply List.ext_getElem
  · simp; omega
  · intro i h1 h2
    rw [List.getElem_take, List.getElem_drop]
    rcases (show i = 0 ∨ i = 1 by simp at h2; omega) with rfl | rfl <;> simp [List.getD_eq_getElem?_getD, List.getElem?_eq_getElem, show a < x.length by omega, show a + 1 < x.length by omega]
theorem two_eq (x : List (BitVec 8)) (a : Nat) (hx : x.length ≤ 1000) (ha : a ≤ 1000) : iu_two (x, (a : Int)) = some (twoL x a) := by
  simp only [iu_two, num_big x (a : Int) 2 (by omega), Option.bind_some]
  unfold twoL
  by_cases h : a + 2 ≤ x.length
  · have := (x.getD a 0#8).isLt
    have := (x.getD (a + 1) 0#8).isLt
    rw [if_pos (by omega), if_pos h, Int.toNat_natCast, show (2 : Int).toNat = 2 from rfl, two_at x a h]
    congr 1
    show w64 ((BitVec.ofNat 64 (nv [x.getD (a + 1) 0#8, x.getD a 0#8])).toNat : Int) = _
    have hv : nv [x.getD (a + 1) 0#8, x.getD a 0#8] = (x.getD (a + 1) 0#8).toNat + 256 * (x.getD a 0#8).toNat := rfl
    rw [BitVec.toNat_ofNat, Nat.mod_eq_of_lt (by rw [hv]; omega), hv, w64_in (by omega) (by omega)]
    omega
  · rw [if_neg (by omega), if_neg h]; rfl
theorem tag_eq (x : List (BitVec 8)) (hx : x.length ≤ 1000) : iu_Tag x = some (twoL x 2) := by
  have := two_eq x 2 hx (by omega)
  simp only [show ((2 : Nat) : Int) = 2 from rfl] at this
  simp only [iu_Tag, this, Option.bind_some]
theorem ref_tag_eq (x : List (BitVec 8)) (hx : x.length ≤ 1000) : reticuleref22_Tag x = some (twoL x 2) := by
  simp only [reticuleref22_Tag, twoL]
  by_cases h : 4 ≤ x.length
  · have h1 : ¬ ((x.length : Int) < 4) := by omega
    have g2 := getD_at x 2 0#8 (by omega)
    have g3 := getD_at x 3 0#8 (by omega)
    simp only [show ((2 : Nat) : Int) = 2 from rfl, show ((3 : Nat) : Int) = 3 from rfl] at g2 g3
    have := (x.getD 2 0#8).isLt
    have := (x.getD 3 0#8).isLt
    rw [if_pos (by omega)]
    simp only [decide_eq_false h1, cond_false, g2, g3, Option.bind_some]
    rw [w64_in (n := (256 : Int) * _) (by omega) (by omega), w64_in (by omega) (by omega)]
  · have h1 : ((x.length : Int) < 4) := by omega
    rw [if_neg (by omega)]
    simp only [decide_eq_true h1, cond_true]
def lunL (l : List (BitVec 8)) : Int := if l = placeB (l.getD 1 0#8) then ((l.getD 1 0#8).toNat : Int) else 256
theorem equal_loop (a b : List (BitVec 8)) (hl : a.length = b.length) (hs : a.length ≤ 2147483648) : ∀ k i n, i + k = a.length → k < n →
    slices_Equal_byte_L0 n (a, b, (a.length : Int), (i : Int)) = some (if a.drop i = b.drop i then Sum.inl () else Sum.inr false) := by
  intro k
  induction k with
  | zero =>
    intro i n hi hn
    obtain ⟨n, rfl⟩ := Nat.exists_eq_succ_of_ne_zero (show n ≠ 0 by omega)
    have h : ¬ ((i : Int) < (a.length : Int)) := by omega
    simp only [slices_Equal_byte_L0, decide_eq_false h, cond_false]
    rw [List.drop_eq_nil_of_le (by omega), List.drop_eq_nil_of_le (by omega), if_pos rfl]
  | succ k ih =>
    intro i n hi hn
    obtain ⟨n, rfl⟩ := Nat.exists_eq_succ_of_ne_zero (show n ≠ 0 by omega)
    have h : ((i : Int) < (a.length : Int)) := by omega
    have h1 : i < a.length := by omega
    have h2 : i < b.length := by omega
    have hd : (a.drop i = b.drop i) = (a[i] :: a.drop (i + 1) = b[i] :: b.drop (i + 1)) := by rw [List.drop_eq_getElem_cons h1, List.drop_eq_getElem_cons h2]
    simp only [slices_Equal_byte_L0, decide_eq_true h, cond_true, ix_at a i h1, ix_at b i h2, Option.bind_some, hd]
    by_cases he : a[i] = b[i]
    · simp only [he, decide_true, Bool.not_true, cond_false, w64_succ i (by omega), ih (i + 1) n (by omega) (by omega), List.cons.injEq, true_and]
    · simp only [decide_eq_false he, Bool.not_false, cond_true]
      rw [if_neg (fun h => he (List.cons.inj h).1)]
theorem equal_eq (a b : List (BitVec 8)) (hs : a.length ≤ 2147483648) : slices_Equal_byte (a, b) = some (decide (a = b)) := by
  simp only [slices_Equal_byte]
  by_cases hl : a.length = b.length
  · have hl' : (a.length : Int) = (b.length : Int) := by omega
    have := equal_loop a b hl hs a.length 0 Big (by omega) (big_lt (by omega))
    simp only [Int.natCast_zero, List.drop_zero] at this
    simp only [decide_eq_true hl', Bool.not_true, cond_false, this]
    by_cases he : a = b
    · rw [if_pos he, decide_eq_true he]; rfl
    · rw [if_neg he, decide_eq_false he]; rfl
  · have hl' : ¬ ((a.length : Int) = (b.length : Int)) := by omega
    have hn : ¬ a = b := fun h => hl (congrArg List.length h)
    rw [decide_eq_false hn]
    simp [hl']
theorem lun_eq (l : List (BitVec 8)) (hx : l.length ≤ 1000) : iu_Lun l = some (lunL l) := by
  simp only [iu_Lun, lunL]
  by_cases h8 : l.length = 8
  · have h8' : (l.length : Int) = 8 := by omega
    have g1 := getD_at l 1 0#8 (by omega)
    simp only [show ((1 : Nat) : Int) = 1 from rfl] at g1
    have hp : lo ((l.getD 1 0#8).toNat : Int) = l.getD 1 0#8 := ofInt_toNat _
    simp only [decide_eq_true h8', cond_true, g1, Option.bind_some, place_eq, hp, equal_eq l _ (by omega)]
    by_cases he : l = placeB (l.getD 1 0#8)
    · rw [decide_eq_true he, if_pos he]; rfl
    · rw [decide_eq_false he, if_neg he]; rfl
  · have h8' : ¬ ((l.length : Int) = 8) := by omega
    rw [if_neg (fun he => h8 (by rw [he]; rfl))]
    simp only [decide_eq_false h8', cond_false, Option.bind_some]
theorem ref_lun_loop (l : List (BitVec 8)) (h8 : l.length = 8) : ∀ k i n, i + k = 8 → k < n →
    ((∀ p, i ≤ p → p < 8 → p ≠ 1 → l.getD p 0#8 = 0#8) → reticuleref22_Lun_L0 n (l, (i : Int)) = some (Sum.inl l)) ∧
    (¬ (∀ p, i ≤ p → p < 8 → p ≠ 1 → l.getD p 0#8 = 0#8) → reticuleref22_Lun_L0 n (l, (i : Int)) = some (Sum.inr 256)) := by
  intro k
  induction k with
  | zero =>
    intro i n hi hn
    obtain ⟨n, rfl⟩ := Nat.exists_eq_succ_of_ne_zero (show n ≠ 0 by omega)
    have h : ¬ ((i : Int) < 8) := by omega
    refine ⟨fun _ => by simp only [reticuleref22_Lun_L0, decide_eq_false h, cond_false], fun hc => absurd (fun p h1 h2 => ?_) hc⟩
    omega
  | succ k ih =>
    intro i n hi hn
    obtain ⟨n, rfl⟩ := Nat.exists_eq_succ_of_ne_zero (show n ≠ 0 by omega)
    have h : ((i : Int) < 8) := by omega
    obtain ⟨ih1, ih2⟩ := ih (i + 1) n (by omega) (by omega)
    simp only [reticuleref22_Lun_L0, decide_eq_true h, cond_true, getD_at l i 0#8 (by omega), Option.bind_some, w64_succ i (by omega)]
    by_cases h1 : i = 1
    · have h1' : (i : Int) = 1 := by omega
      simp only [decide_eq_true h1', Bool.not_true, cond_false, Option.bind_some]
      refine ⟨fun hg => ih1 fun p a b c => hg p (by omega) b c, fun hg => ih2 fun hc => hg fun p a b c => hc p (by omega) b c⟩
    · have h1' : ¬ (i : Int) = 1 := by omega
      simp only [decide_eq_false h1', Bool.not_false, cond_true, Option.bind_some]
      by_cases h0 : l.getD i 0#8 = 0#8
      · simp only [h0, decide_true, Bool.not_true, cond_false]
        refine ⟨fun hg => ih1 fun p a b c => hg p (by omega) b c, fun hg => ih2 fun hc => hg fun p a b c => ?_⟩
        by_cases hp : p = i
        · rw [hp]; exact h0
        · exact hc p (by omega) b c
      · simp only [decide_eq_false h0, Bool.not_false, cond_true]
        refine ⟨fun hg => absurd (hg i (by omega) (by omega) h1) h0, fun _ => trivial⟩
theorem place_iff (l : List (BitVec 8)) (h8 : l.length = 8) : (∀ p, 0 ≤ p → p < 8 → p ≠ 1 → l.getD p 0#8 = 0#8) ↔ l = placeB (l.getD 1 0#8) := by
  match l, h8 with
  | [a, b, c, d, e, f, g, h], _ =>
    constructor
    · intro hp
      have p0 := hp 0 (by omega) (by omega) (by omega)
      have p2 := hp 2 (by omega) (by omega) (by omega)
      have p3 := hp 3 (by omega) (by omega) (by omega)
      have p4 := hp 4 (by omega) (by omega) (by omega)
      have p5 := hp 5 (by omega) (by omega) (by omega)
      have p6 := hp 6 (by omega) (by omega) (by omega)
      have p7 := hp 7 (by omega) (by omega) (by omega)
      simp only [List.getD_cons_zero, List.getD_cons_succ] at p0 p2 p3 p4 p5 p6 p7
      rw [p0, p2, p3, p4, p5, p6, p7]; rfl
    · intro he p _ hp h1
      rw [he]
      rcases (show p = 0 ∨ p = 2 ∨ p = 3 ∨ p = 4 ∨ p = 5 ∨ p = 6 ∨ p = 7 by omega) with rfl | rfl | rfl | rfl | rfl | rfl | rfl <;> rfl
theorem ref_Lun_eq (l : List (BitVec 8)) (hx : l.length ≤ 1000) : reticuleref22_Lun l = some (lunL l) := by
  simp only [reticuleref22_Lun, lunL]
  by_cases h8 : l.length = 8
  · have h8' : (l.length : Int) = 8 := by omega
    obtain ⟨q1, q2⟩ := ref_lun_loop l h8 8 0 Big (by omega) (big_lt (by omega))
    have g1 := getD_at l 1 0#8 (by omega)
    simp only [show ((1 : Nat) : Int) = 1 from rfl] at g1
    rw [Int.natCast_zero] at q1 q2
    by_cases he : l = placeB (l.getD 1 0#8)
    · rw [if_pos he]
      simp only [decide_eq_true h8', Bool.not_true, cond_false, q1 ((place_iff l h8).2 he), jn_inl, g1, Option.bind_some]
    · rw [if_neg he]
      simp only [decide_eq_true h8', Bool.not_true, cond_false, q2 (fun hc => he ((place_iff l h8).1 hc)), jn_inr]
  · have h8' : ¬ ((l.length : Int) = 8) := by omega
    rw [if_neg (fun he => h8 (by rw [he]; rfl))]
    simp only [decide_eq_false h8', Bool.not_false, cond_true]
theorem is_eq (x : List (BitVec 8)) (k n : Nat) (hn : 1 ≤ n) : iu_is (x, (k : Int), (n : Int)) = some (decide (x.length = n ∧ (x.getD 0 0#8).toNat = k)) := by
  simp only [iu_is]
  by_cases h : x.length = n
  · have h' : (x.length : Int) = (n : Int) := by omega
    have g0 := getD_at x 0 0#8 (by omega)
    simp only [Int.natCast_zero] at g0
    simp only [decide_eq_true h', cond_true, g0, Option.bind_some]
    congr 1
    rw [Bool.eq_iff_iff, decide_eq_true_eq, decide_eq_true_eq]
    omega
  · have h' : ¬ (x.length : Int) = (n : Int) := by omega
    simp only [decide_eq_false h', cond_false, Option.bind_some]
    congr 1
    rw [Bool.eq_iff_iff, decide_eq_true_eq]
    simp [h]
def zC : Cm := (0, 0#64, 0, 0, 0, ())
def zS : Sn := (0, 0, 0, ())
def zJ : Jb := (zC, 0, 0, [], zS, ())
def mkT (tag lun : Int) (c : List (BitVec 8)) : Tk := (tag, lun, c, 0, [], zJ, zS, ())
def cmdL (x : List (BitVec 8)) : Tk × Bool :=
  if x.length = 32 ∧ x.getD 0 0#8 = 1#8 ∧ x.getD 6 0#8 = 0#8 then (mkT (twoL x 2) (lunL ((x.drop 8).take 8)) ((x.drop 16).take 16), true) else (mkT 0 0 (List.replicate 16 0#8), false)
theorem one_nat (b : BitVec 8) : b.toNat = 1 ↔ b = 1#8 := ⟨fun h => BitVec.eq_of_toNat_eq h, fun h => by rw [h]; rfl⟩
theorem five_nat (b : BitVec 8) : b.toNat = 5 ↔ b = 5#8 := ⟨fun h => BitVec.eq_of_toNat_eq h, fun h => by rw [h]; rfl⟩
theorem command_eq (x : List (BitVec 8)) (hx : x.length ≤ 1000) : iu_Command x = some (cmdL x) := by
  have hi := is_eq x 1 32 (by omega)
  simp only [show ((1 : Nat) : Int) = 1 from rfl, show ((32 : Nat) : Int) = 32 from rfl] at hi
  unfold cmdL
  by_cases h : x.length = 32 ∧ (x.getD 0 0#8).toNat = 1
  · have g6 := getD_at x 6 0#8 (by omega)
    simp only [show ((6 : Nat) : Int) = 6 from rfl] at g6
    have h0 := (one_nat _).1 h.2
    by_cases h6 : x.getD 6 0#8 = 0#8
    · rw [if_pos ⟨h.1, h0, h6⟩]
      have c1 : (decide (0 ≤ (8 : Int)) && decide ((8 : Int) ≤ (16 : Int)) && decide ((16 : Int) ≤ (x.length : Int))) = true := by simp; omega
      have c2 : (decide (0 ≤ (16 : Int)) && decide ((16 : Int) ≤ (x.length : Int))) = true := by simp; omega
      have c3 : 16 ≤ (x.drop (16 : Int).toNat).length := by rw [List.length_drop]; show 16 ≤ x.length - 16; omega
      simp only [iu_Command, hi, decide_eq_true h, Bool.not_true, cond_false, g6, h6, decide_true, Option.bind_some, tag_eq x hx, chk_true c1, chk_true c2, chk_dec c3]
      rw [lun_eq _ (by simp [slc]; omega)]
      simp only [Option.bind_some, slc, List.drop_take]
      rfl
    · rw [if_neg (fun hc => h6 hc.2.2)]
      simp only [iu_Command, hi, decide_eq_true h, Bool.not_true, cond_false, g6, decide_eq_false h6, Bool.not_false, cond_true, Option.bind_some]
      rfl
  · rw [if_neg (fun hc => h ⟨hc.1, (one_nat _).2 hc.2.1⟩)]
    simp only [iu_Command, hi, decide_eq_false h, Bool.not_false, cond_true, Option.bind_some]
    rfl
theorem ref_cmd_loop (x : List (BitVec 8)) (hx : x.length = 32) (u : Tk) (tag lun : Int) : ∀ k i n, i + k = 16 → k < n →
    ∀ c : List (BitVec 8), c.length = 16 → c.take i = ((x.drop 16).take 16).take i → reticuleref22_Command_L0 n (x, u, mkT tag lun c, (i : Int)) = some (Sum.inl (u, mkT tag lun ((x.drop 16).take 16))) := by
  intro k
  induction k with
  | zero =>
    intro i n hi hn c hc hp
    obtain ⟨n, rfl⟩ := Nat.exists_eq_succ_of_ne_zero (show n ≠ 0 by omega)
    have h1 : ¬ ((i : Int) < 16) := by omega
    simp only [reticuleref22_Command_L0, decide_eq_false h1, cond_false]
    rw [List.take_of_length_le (by omega), List.take_of_length_le (by simp; omega)] at hp
    rw [hp]
  | succ k ih =>
    intro i n hi hn c hc hp
    obtain ⟨n, rfl⟩ := Nat.exists_eq_succ_of_ne_zero (show n ≠ 0 by omega)
    have h1 : ((i : Int) < 16) := by omega
    have hw : w64 ((16 : Int) + (i : Int)) = ((16 + i : Nat) : Int) := by rw [w64_in] <;> omega
    have h2 : i < c.length := by omega
    simp only [reticuleref22_Command_L0, decide_eq_true h1, cond_true, hw, ix_at x (16 + i) (by omega), Option.bind_some, chk_true (inLen_nat (show i < 16 by omega)), Int.toNat_natCast, mkT, List.getElem?_eq_getElem h2, Option.map_some, w64_succ i (by omega)]
    refine ih (i + 1) n (by omega) (by omega) _ (by simp [hc]) ?_
    apply List.ext_getElem
    · simp; omega
    · intro p p1 p2
      rw [List.getElem_take, List.getElem_take, List.getElem_take, List.getElem_drop, List.getElem_set]
      split
      · rename_i e; subst e; rfl
      · rename_i e
        have p3 : p < i := by simp at p1; omega
        have := congrArg (fun l => l[p]?) hp
        simp only [List.getElem?_take, if_pos p3, List.getElem?_drop, if_pos (show p < 16 by omega), List.getElem?_eq_getElem (show p < c.length by omega), List.getElem?_eq_getElem (show 16 + p < x.length by omega), Option.some.injEq] at this
        exact this
theorem ref_command_eq (x : List (BitVec 8)) (hx : x.length ≤ 1000) : reticuleref22_Command x = some (cmdL x) := by
  unfold cmdL
  by_cases h : x.length = 32
  · have h' : (x.length : Int) = 32 := by omega
    have g0 := getD_at x 0 0#8 (by omega)
    have g6 := getD_at x 6 0#8 (by omega)
    simp only [Int.natCast_zero, show ((6 : Nat) : Int) = 6 from rfl] at g0 g6
    by_cases h0 : x.getD 0 0#8 = 1#8
    · by_cases h6 : x.getD 6 0#8 = 0#8
      · rw [if_pos ⟨h, h0, h6⟩]
        have c1 : (decide (0 ≤ (8 : Int)) && decide ((8 : Int) ≤ (16 : Int)) && decide ((16 : Int) ≤ (x.length : Int))) = true := by simp; omega
        simp only [reticuleref22_Command, decide_eq_true h', Bool.not_true, cond_false, g0, g6, h0, h6, decide_true, Option.bind_some, ref_tag_eq x hx, chk_true c1]
        rw [ref_Lun_eq _ (by simp [slc]; omega)]
        simp only [Option.bind_some, slc, List.drop_take]
        have := ref_cmd_loop x h (mkT 0 0 (List.replicate 16 0#8)) (twoL x 2) (lunL ((x.drop 8).take (16 - 8))) 16 0 Big (by omega) (big_lt (by omega)) (List.replicate 16 0#8) (by simp) (by simp)
        rw [Int.natCast_zero] at this
        unfold mkT zJ zC zS at this
        rw [show (16 : Int).toNat - (8 : Int).toNat = 16 - 8 from rfl, show (8 : Int).toNat = 8 from rfl, this]
        rfl
      · rw [if_neg (fun hc => h6 hc.2.2)]
        simp only [reticuleref22_Command, decide_eq_true h', Bool.not_true, cond_false, g0, g6, h0, decide_true, decide_eq_false h6, Bool.not_false, cond_true, Option.bind_some]
        rfl
    · rw [if_neg (fun hc => h0 hc.2.1)]
      simp only [reticuleref22_Command, decide_eq_true h', Bool.not_true, cond_false, g0, decide_eq_false h0, Bool.not_false, cond_true, Option.bind_some]
      rfl
  · have h' : ¬ (x.length : Int) = 32 := by omega
    rw [if_neg (fun hc => h hc.1)]
    simp only [reticuleref22_Command, decide_eq_false h', Bool.not_false, cond_true, Option.bind_some]
    rfl
def manL (x : List (BitVec 8)) : Mg × Bool :=
  if x.length = 16 ∧ x.getD 0 0#8 = 5#8 then ((twoL x 2, ((x.getD 4 0#8).toNat : Int), twoL x 6, lunL (x.drop 8), ()), true) else ((0, 0, 0, 0, ()), false)
theorem manage_eq (x : List (BitVec 8)) (hx : x.length ≤ 1000) : iu_Manage x = some (manL x) := by
  have hi := is_eq x 5 16 (by omega)
  simp only [show ((5 : Nat) : Int) = 5 from rfl, show ((16 : Nat) : Int) = 16 from rfl] at hi
  unfold manL
  by_cases h : x.length = 16 ∧ (x.getD 0 0#8).toNat = 5
  · have h0 := (five_nat _).1 h.2
    rw [if_pos ⟨h.1, h0⟩]
    have g4 := getD_at x 4 0#8 (by omega)
    have h6 := two_eq x 6 hx (by omega)
    simp only [show ((4 : Nat) : Int) = 4 from rfl, show ((6 : Nat) : Int) = 6 from rfl] at g4 h6
    have c1 : (decide (0 ≤ (8 : Int)) && decide ((8 : Int) ≤ (x.length : Int))) = true := by simp; omega
    simp only [iu_Manage, hi, decide_eq_true h, Bool.not_true, cond_false, g4, h6, Option.bind_some, tag_eq x hx, chk_true c1]
    rw [lun_eq _ (by simp; omega)]
    rfl
  · rw [if_neg (fun hc => h ⟨hc.1, (five_nat _).2 hc.2⟩)]
    simp only [iu_Manage, hi, decide_eq_false h, Bool.not_false, cond_true, Option.bind_some]
theorem ref_manage_eq (x : List (BitVec 8)) (hx : x.length ≤ 1000) : reticuleref22_Manage x = some (manL x) := by
  unfold manL
  by_cases h : x.length = 16
  · have h' : (x.length : Int) = 16 := by omega
    have g0 := getD_at x 0 0#8 (by omega)
    have g4 := getD_at x 4 0#8 (by omega)
    have g6 := getD_at x 6 0#8 (by omega)
    have g7 := getD_at x 7 0#8 (by omega)
    simp only [Int.natCast_zero, show ((4 : Nat) : Int) = 4 from rfl, show ((6 : Nat) : Int) = 6 from rfl, show ((7 : Nat) : Int) = 7 from rfl] at g0 g4 g6 g7
    by_cases h0 : x.getD 0 0#8 = 5#8
    · rw [if_pos ⟨h, h0⟩]
      have c1 : (decide (0 ≤ (8 : Int)) && decide ((8 : Int) ≤ (x.length : Int))) = true := by simp; omega
      have := (x.getD 6 0#8).isLt
      have := (x.getD 7 0#8).isLt
      have e : w64 (w64 ((256 : Int) * ((x.getD 6 0#8).toNat : Int)) + ((x.getD 7 0#8).toNat : Int)) = twoL x 6 := by
        rw [w64_in (n := (256 : Int) * _) (by omega) (by omega), w64_in (by omega) (by omega)]
        unfold twoL; rw [if_pos (by omega)]
      simp only [reticuleref22_Manage, decide_eq_true h', Bool.not_true, cond_false, g0, g4, g6, g7, h0, decide_true, Option.bind_some, ref_tag_eq x hx, chk_true c1, e]
      rw [ref_Lun_eq _ (by simp; omega)]
      rfl
    · rw [if_neg (fun hc => h0 hc.2)]
      simp only [reticuleref22_Manage, decide_eq_true h', Bool.not_true, cond_false, g0, decide_eq_false h0, Bool.not_false, cond_true, Option.bind_some]
  · have h' : ¬ (x.length : Int) = 16 := by omega
    rw [if_neg (fun hc => h hc.1)]
    simp only [reticuleref22_Manage, decide_eq_false h', Bool.not_false, cond_true, Option.bind_some]
end Go.Proofs.Ytmkoigeofajhfaa
