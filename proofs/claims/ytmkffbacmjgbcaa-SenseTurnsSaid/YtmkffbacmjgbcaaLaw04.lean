/- The plain laws of chapter 4: each answer is true. -/
import Derived.Test.YtmkffbacmjgbcaaNumR
import Derived.KernelRfl
namespace Go.Proofs.Ytmkffbacmjgbcaa
open Go Go.Re
set_option linter.unusedVariables false
set_option linter.unusedSimpArgs false
theorem alive_ok : reticulelaw04_alive () = some true := rfl
abbrev Sense := Int × (Int × (Int × Unit))
def o8 (v : Int) : BitVec 8 := BitVec.ofInt 8 v
def senseB (s : Sense) : List (BitVec 8) := [112#8, 0#8, o8 s.1, 0#8, 0#8, 0#8, 0#8, 10#8, 0#8, 0#8, 0#8, 0#8, o8 s.2.1, o8 s.2.2.1, 0#8, 0#8, 0#8, 0#8]
theorem two_big (c q : BitVec 8) : (leN 2 (((c.setWidth 64) <<< (((8#64).toNat : Int)).toNat) ||| (q.setWidth 64))).reverse = [c, q] := by
  rw [show (((8#64).toNat : Int)).toNat = 8 from rfl]
  have hc := c.isLt
  have hq := q.isLt
  have hX := shl8_or (c.setWidth 64) q c.toNat (by rw [BitVec.toNat_setWidth]; omega) (by omega)
  generalize ((c.setWidth 64) <<< 8) ||| (q.setWidth 64) = X at hX
  have e : leN 2 X = [(X >>> (8 * 0)).setWidth 8, (X >>> (8 * 1)).setWidth 8] := rfl
  rw [e]
  have e1 : (X >>> (8 * 0)).setWidth 8 = q := by
    apply BitVec.eq_of_toNat_eq
    rw [BitVec.toNat_setWidth, BitVec.toNat_ushiftRight, Nat.shiftRight_eq_div_pow, hX]
    show (q.toNat + 256 * c.toNat) / 1 % 256 = _
    omega
  have e2 : (X >>> (8 * 1)).setWidth 8 = c := by
    apply BitVec.eq_of_toNat_eq
    rw [BitVec.toNat_setWidth, BitVec.toNat_ushiftRight, Nat.shiftRight_eq_div_pow, hX]
    show (q.toNat + 256 * c.toNat) / 256 % 256 = _
    omega
  rw [e1, e2]; rfl
theorem bytes_eq (s : Sense) : sense_Bytes s = some (senseB s) := by
  obtain ⟨k, c, q, u⟩ := s
  unfold sense_Bytes
  simp only [putBig_eq, if_pos (show (1 : Int) ≤ 2 ∧ (2 : Int) ≤ 8 by omega), show (2 : Int).toNat = 2 from rfl, two_big]
  rfl
theorem ref_bytes (s : Sense) : reticuleref04_Bytes s = some (senseB s) := rfl
theorem equal_loop (a b : List (BitVec 8)) (hl : a.length = b.length) (hs : a.length ≤ 2147483648) : ∀ k i n, i + k = a.length → k < n →
    slices_Equal_byte_L0 n (a, b, (a.length : Int), (i : Int)) = some (if a.drop i = b.drop i then Sum.inl () else Sum.inr false) := by
  intro k
  induction k with
  | zero =>
    intro i n hi hn
    obtain ⟨n, rfl⟩ := Nat.exists_eq_succ_of_ne_zero (show n ≠ 0 by omega)
    have h : ¬ ((i : Int) < (a.length : Int)) := by omega
    simp only [slices_Equal_byte_L0, decide_eq_false h, cond_false]
    rw [List.drop_eq_nil_of_le (by omega), List.drop_eq_nil_of_le (by omega), if_pos rfl]
  | succ k ih =>
    intro i n hi hn
    obtain ⟨n, rfl⟩ := Nat.exists_eq_succ_of_ne_zero (show n ≠ 0 by omega)
    have h : ((i : Int) < (a.length : Int)) := by omega
    have h1 : i < a.length := by omega
    have h2 : i < b.length := by omega
    have hd : (a.drop i = b.drop i) = (a[i] :: a.drop (i + 1) = b[i] :: b.drop (i + 1)) := by rw [List.drop_eq_getElem_cons h1, List.drop_eq_getElem_cons h2]
    simp only [slices_Equal_byte_L0, decide_eq_true h, cond_true, ix_at a i h1, ix_at b i h2, Option.bind_some, hd]
    by_cases he : a[i] = b[i]
    · simp only [he, decide_true, Bool.not_true, cond_false, w64_succ i (by omega), ih (i + 1) n (by omega) (by omega), List.cons.injEq, true_and]
    · simp only [decide_eq_false he, Bool.not_false, cond_true]
      rw [if_neg (fun h => he (List.cons.inj h).1)]
theorem equal_eq (a b : List (BitVec 8)) (hs : a.length ≤ 2147483648) : slices_Equal_byte (a, b) = some (decide (a = b)) := by
  simp only [slices_Equal_byte]
  by_cases hl : a.length = b.length
  · have hl' : (a.length : Int) = (b.length : Int) := by omega
    have := equal_loop a b hl hs a.length 0 Big (by omega) (big_lt (by omega))
    simp only [Int.natCast_zero, List.drop_zero] at this
    simp only [decide_eq_true hl', Bool.not_true, cond_false, this]
    by_cases he : a = b
    · rw [if_pos he, decide_eq_true he]; rfl
    · rw [if_neg he, decide_eq_false he]; rfl
  · have hl' : ¬ ((a.length : Int) = (b.length : Int)) := by omega
    have hn : ¬ a = b := fun h => hl (congrArg List.length h)
    rw [decide_eq_false hn]
    simp [hl']
def fields (x : List (BitVec 8)) : Sense := (((x.getD 2 0#8).toNat : Int), ((x.getD 12 0#8).toNat : Int), ((x.getD 13 0#8).toNat : Int), ())
def parseL (x : List (BitVec 8)) : Sense × Bool := if senseB (fields x) = x then (fields x, true) else ((0, 0, 0, ()), false)
theorem senseB_len (s : Sense) : (senseB s).length = 18 := rfl
theorem parse_eq (x : List (BitVec 8)) (hx : x.length ≤ 100) : sense_Parse x = some (parseL x) ∧ reticuleref04_Parse x = some (parseL x) := by
  by_cases h : x.length = 18
  · have h' : (x.length : Int) = 18 := by omega
    have i : ∀ n : Nat, n < 18 → ix x (n : Int) = some (x.getD n 0#8) := by
      intro n hn
      rw [ix_at x n (by omega)]
      simp [List.getElem?_eq_getElem, h, hn]
    have i2 := i 2 (by omega)
    have i12 := i 12 (by omega)
    have i13 := i 13 (by omega)
    simp only [show ((2 : Nat) : Int) = 2 from rfl, show ((12 : Nat) : Int) = 12 from rfl, show ((13 : Nat) : Int) = 13 from rfl] at i2 i12 i13
    have eb := equal_eq (senseB (fields x)) x (by rw [senseB_len]; omega)
    have c1 : (senseB (fields x)).length ≤ lim := by rw [senseB_len]; show 18 ≤ 2147483648; omega
    have c2 : x.length ≤ lim := by rw [h]; show 18 ≤ 2147483648; omega
    constructor
    · simp only [sense_Parse, h', decide_true, Bool.not_true, cond_false, i2, i12, i13, Option.bind_some, bytes_eq]
      rw [show (((x.getD 2 0#8).toNat : Int), ((x.getD 12 0#8).toNat : Int), ((x.getD 13 0#8).toNat : Int), ()) = fields x from rfl, eb]
      unfold parseL
      by_cases he : senseB (fields x) = x
      · rw [decide_eq_true he, if_pos he]; rfl
      · rw [decide_eq_false he, if_neg he]; rfl
    · simp only [reticuleref04_Parse, h', decide_true, Bool.not_true, cond_false, i2, i12, i13, Option.bind_some, reticuleref04_Of, ref_bytes]
      rw [show (((x.getD 2 0#8).toNat : Int), ((x.getD 12 0#8).toNat : Int), ((x.getD 13 0#8).toNat : Int), ()) = fields x from rfl]
      simp only [chk_dec c1, chk_dec c2, Option.bind_some]
      unfold parseL
      by_cases he : senseB (fields x) = x
      · rw [decide_eq_true he, if_pos he]; rfl
      · rw [decide_eq_false he, if_neg he]; rfl
  · have h' : ¬ ((x.length : Int) = 18) := by omega
    have hn : ¬ (senseB (fields x) = x) := fun he => h (by rw [← he]; rfl)
    unfold parseL
    rw [if_neg hn]
    constructor
    · simp only [sense_Parse, decide_eq_false h', Bool.not_false, cond_true]
    · simp only [reticuleref04_Parse, decide_eq_false h', Bool.not_false, cond_true]
theorem sense_dec (a b : Sense) : ((decide (a.1 = b.1)) && ((decide (a.2.1 = b.2.1)) && ((decide (a.2.2.1 = b.2.2.1)) && true))) = decide (a = b) := by
  obtain ⟨a1, a2, a3, u⟩ := a
  obtain ⟨b1, b2, b3, v⟩ := b
  rw [Bool.eq_iff_iff]
  simp only [Bool.and_eq_true, decide_eq_true_eq, Prod.mk.injEq]
theorem SenseBytes_pure (x) : reticulelaw04_SenseBytes x = some true := by
  obtain ⟨s, b⟩ := x
  simp only [reticulelaw04_SenseBytes, alive_ok, Option.bind_some, Bool.not_true, cond_false]
  by_cases h : (100 : Int) < b.length
  · simp [h]
  obtain ⟨p1, p2⟩ := parse_eq b (by omega)
  have c1 : (senseB s).length ≤ lim := by rw [senseB_len]; show 18 ≤ 2147483648; omega
  simp only [h, decide_false, cond_false, p1, p2, bytes_eq, ref_bytes, Option.bind_some, chk_dec c1, decide_true, cond_true, Bool.and_self, sense_Good]
theorem fields_senseB (a b c : BitVec 8) : fields (senseB ((a.toNat : Int), (b.toNat : Int), (c.toNat : Int), ())) = ((a.toNat : Int), (b.toNat : Int), (c.toNat : Int), ()) := by
  have e : ∀ x : BitVec 8, o8 (x.toNat : Int) = x := fun x => by unfold o8; exact ofInt_toNat x
  simp only [fields, senseB, e, List.getD_eq_getElem?_getD, List.getElem?_cons_succ, List.getElem?_cons_zero, Option.getD_some]
theorem SenseBack_pure (x) (h1 : Ty.ok (.arr 3 (.int .u8)) x.1) (_ : Ty.ok (.sl (.int .u8)) x.2) : reticulelaw04_SenseBack x = some true := by
  obtain ⟨t, b⟩ := x
  obtain ⟨hl, _⟩ := h1
  match t, hl with
  | [a, d, c], _ =>
    simp only [reticulelaw04_SenseBack, alive_ok, Option.bind_some, Bool.not_true, cond_false]
    by_cases h : (100 : Int) < b.length
    · simp [h]
    obtain ⟨p1, _⟩ := parse_eq b (by omega)
    obtain ⟨p2, _⟩ := parse_eq (senseB ((a.toNat : Int), (d.toNat : Int), (c.toNat : Int), ())) (by rw [senseB_len]; omega)
    have hp : parseL (senseB ((a.toNat : Int), (d.toNat : Int), (c.toNat : Int), ())) = (((a.toNat : Int), (d.toNat : Int), (c.toNat : Int), ()), true) := by
      unfold parseL; rw [fields_senseB, if_pos rfl]
    rw [hp] at p2
    have c2 : b.length ≤ lim := by show _ ≤ 2147483648; omega
    have hb : b.length ≤ 2147483648 := c2
    simp only [h, decide_false, cond_false, show chk (inLen 0 3) = some () from rfl, show chk (inLen 1 3) = some () from rfl, show chk (inLen 2 3) = some () from rfl, show (0 : Int).toNat = 0 from rfl, show (1 : Int).toNat = 1 from rfl, show (2 : Int).toNat = 2 from rfl,
      List.getElem?_cons_zero, List.getElem?_cons_succ, Option.bind_some, reticuleref04_Of, bytes_eq, p1, p2, decide_true, Bool.and_self, cond_true, chk_dec (show (senseB ((a.toNat : Int), (d.toNat : Int), (c.toNat : Int), ())).length ≤ lim from (show 18 ≤ 2147483648 by omega)), show decide (((senseB ((a.toNat : Int), (d.toNat : Int), (c.toNat : Int), ())).length : Int) = 18) = true from rfl]
    unfold parseL
    by_cases he : senseB (fields b) = b
    · have c1 : (senseB (fields b)).length ≤ lim := by rw [senseB_len]; show 18 ≤ 2147483648; omega
      simp only [if_pos he, Bool.not_true, cond_false, cond_true, Option.bind_some, chk_dec c1, chk_dec c2, decide_eq_true he]
    · simp only [if_neg he, Bool.not_false, cond_true, sense_Good, Option.bind_some]
      rfl
theorem index_loop (l : List Sense) (s : Sense) (hs : l.length ≤ 100) : ∀ k i n, i + k = l.length → k < n →
    (s ∈ l.drop i ∧ ∃ j : Nat, slices_Index_api_Sense_L0 n (l, s, (l.length : Int), (i : Int)) = some (Sum.inr (j : Int))) ∨ (s ∉ l.drop i ∧ slices_Index_api_Sense_L0 n (l, s, (l.length : Int), (i : Int)) = some (Sum.inl ())) := by
  intro k
  induction k with
  | zero =>
    intro i n hi hn
    obtain ⟨n, rfl⟩ := Nat.exists_eq_succ_of_ne_zero (show n ≠ 0 by omega)
    have h : ¬ ((i : Int) < (l.length : Int)) := by omega
    right
    rw [List.drop_eq_nil_of_le (by omega)]
    exact ⟨by simp, by simp only [slices_Index_api_Sense_L0, decide_eq_false h, cond_false]⟩
  | succ k ih =>
    intro i n hi hn
    obtain ⟨n, rfl⟩ := Nat.exists_eq_succ_of_ne_zero (show n ≠ 0 by omega)
    have h : ((i : Int) < (l.length : Int)) := by omega
    have h1 : i < l.length := by omega
    rw [List.drop_eq_getElem_cons h1]
    simp only [slices_Index_api_Sense_L0, decide_eq_true h, cond_true, ix_at l i h1, Option.bind_some, sense_dec]
    by_cases he : s = l[i]
    · left; exact ⟨by rw [← he]; simp, i, by simp only [he, decide_true, cond_true]⟩
    · simp only [decide_eq_false he, cond_false, w64_succ i (by omega)]
      rcases ih (i + 1) n (by omega) (by omega) with ⟨g1, g2⟩ | ⟨g1, g2⟩
      · left; exact ⟨List.mem_cons_of_mem _ g1, g2⟩
      · right; exact ⟨fun hm => (List.mem_cons.1 hm).elim he g1, g2⟩
theorem contains_eq (l : List Sense) (s : Sense) (hs : l.length ≤ 100) : slices_Contains_api_Sense (l, s) = some (decide (s ∈ l)) := by
  simp only [slices_Contains_api_Sense, slices_Index_api_Sense]
  have := index_loop l s hs l.length 0 Big (by omega) (big_lt (by omega))
  rw [List.drop_zero, Int.natCast_zero] at this
  rcases this with ⟨g1, j, g2⟩ | ⟨g1, g2⟩
  · simp only [g2, jn_inr, Option.bind_some, decide_eq_true g1]
    rw [decide_eq_true (show (0 : Int) ≤ (j : Int) by omega)]
  · simp only [g2, jn_inl, Option.bind_some, decide_eq_false g1]
    rfl
theorem has_loop (l : List Sense) (s : Sense) (hs : l.length ≤ 100) : ∀ k i n, i + k = l.length → k < n →
    reticuleref04_Has_L0 n (l, s, (i : Int)) = some (if s ∈ l.drop i then Sum.inr true else Sum.inl ()) := by
  intro k
  induction k with
  | zero =>
    intro i n hi hn
    obtain ⟨n, rfl⟩ := Nat.exists_eq_succ_of_ne_zero (show n ≠ 0 by omega)
    have h : ¬ ((i : Int) < (l.length : Int)) := by omega
    rw [List.drop_eq_nil_of_le (by omega)]
    simp only [reticuleref04_Has_L0, decide_eq_false h, cond_false]
    simp
  | succ k ih =>
    intro i n hi hn
    obtain ⟨n, rfl⟩ := Nat.exists_eq_succ_of_ne_zero (show n ≠ 0 by omega)
    have h : ((i : Int) < (l.length : Int)) := by omega
    have h1 : i < l.length := by omega
    rw [List.drop_eq_getElem_cons h1]
    simp only [reticuleref04_Has_L0, decide_eq_true h, cond_true, ix_at l i h1, Option.bind_some, sense_dec]
    by_cases he : l[i] = s
    · rw [decide_eq_true he, if_pos (by rw [he]; simp)]; rfl
    · have hc : (s ∈ l[i] :: l.drop (i + 1)) ↔ s ∈ l.drop (i + 1) := ⟨fun hm => (List.mem_cons.1 hm).elim (fun e => absurd e.symm he) id, List.mem_cons_of_mem _⟩
      simp only [decide_eq_false he, cond_false, w64_succ i (by omega), ih (i + 1) n (by omega) (by omega)]
      by_cases hm : s ∈ l.drop (i + 1)
      · rw [if_pos hm, if_pos (hc.2 hm)]
      · rw [if_neg hm, if_neg (fun h => hm (hc.1 h))]
theorem has_eq (l : List Sense) (s : Sense) (hs : l.length ≤ 100) : reticuleref04_Has (l, s) = some (decide (s ∈ l)) := by
  have := has_loop l s hs l.length 0 Big (by omega) (big_lt (by omega))
  rw [List.drop_zero, Int.natCast_zero] at this
  simp only [reticuleref04_Has, this]
  by_cases hm : s ∈ l
  · rw [if_pos hm, decide_eq_true hm]; rfl
  · rw [if_neg hm, decide_eq_false hm]; rfl
def powerOn : Sense := (6, 41, 0, ())
def addL (l : List Sense) (s : Sense) : List Sense := if s ∈ l then l else if s = powerOn then [s] else if 4 ≤ l.length then l else l ++ [s]
theorem add_eq (l : List Sense) (s : Sense) (hs : l.length ≤ 100) : sense_Add (l, s) = some (addL l s) ∧ reticuleref04_Add (l, s) = some (addL l s) := by
  have c1 : ([] : List Sense).length + l.length ≤ lim := by show 0 + _ ≤ 2147483648; omega
  have c2 : l.length + ([s] : List Sense).length ≤ lim := by show _ + 1 ≤ 2147483648; omega
  have hp : sense_PowerOn () = some powerOn := rfl
  have ho : reticuleref04_Of (6, 41, 0) = some powerOn := rfl
  have hclip : slices_Clip_api_Sense l = some l := by
    have c : ((decide (0 ≤ (l.length : Int)) && decide ((l.length : Int) ≤ (l.length : Int))) && decide ((l.length : Int) = (l.length : Int))) = true := by simp
    unfold slices_Clip_api_Sense
    rw [c]
    simp only [chk, cond_true, Option.bind_some, Int.toNat_natCast, List.take_length]
  unfold addL
  by_cases h1 : s ∈ l
  · rw [if_pos h1]
    constructor
    · simp only [sense_Add, contains_eq l s hs, decide_eq_true h1, Option.bind_some, cond_true]
    · simp only [reticuleref04_Add, chk_dec c1, has_eq l s hs, decide_eq_true h1, Option.bind_some, cond_true, List.nil_append]
  · rw [if_neg h1]
    by_cases h2 : s = powerOn
    · rw [if_pos h2]
      constructor
      · simp only [sense_Add, contains_eq l s hs, decide_eq_false h1, Option.bind_some, cond_false, hp, sense_dec, decide_eq_true h2, cond_true]
      · simp only [reticuleref04_Add, chk_dec c1, has_eq l s hs, decide_eq_false h1, Option.bind_some, cond_false, ho, sense_dec, decide_eq_true h2, cond_true]
    · rw [if_neg h2]
      by_cases h3 : 4 ≤ l.length
      · have h3' : (4 : Int) ≤ (l.length : Int) := by omega
        rw [if_pos h3]
        constructor
        · simp only [sense_Add, contains_eq l s hs, decide_eq_false h1, Option.bind_some, cond_false, hp, sense_dec, decide_eq_false h2, decide_eq_true h3', cond_true]
        · simp only [reticuleref04_Add, chk_dec c1, has_eq l s hs, decide_eq_false h1, Option.bind_some, cond_false, ho, sense_dec, decide_eq_false h2, decide_eq_true h3', cond_true, List.nil_append]
      · have h3' : ¬ ((4 : Int) ≤ (l.length : Int)) := by omega
        rw [if_neg h3]
        constructor
        · simp only [sense_Add, contains_eq l s hs, decide_eq_false h1, Option.bind_some, cond_false, hp, sense_dec, decide_eq_false h2, decide_eq_false h3', hclip, chk_dec c2]
        · simp only [reticuleref04_Add, chk_dec c1, has_eq l s hs, decide_eq_false h1, Option.bind_some, cond_false, ho, sense_dec, decide_eq_false h2, decide_eq_false h3', List.nil_append, chk_dec c2]
theorem same_loop (l : List Sense) (hs : l.length ≤ 200) : ∀ k i n, i + k = l.length → k < n → reticuleref04_Same_L0 n (l, l, (i : Int)) = some (Sum.inl ()) := by
  intro k
  induction k with
  | zero =>
    intro i n hi hn
    obtain ⟨n, rfl⟩ := Nat.exists_eq_succ_of_ne_zero (show n ≠ 0 by omega)
    have h : ¬ ((i : Int) < (l.length : Int)) := by omega
    simp only [reticuleref04_Same_L0, decide_eq_false h, cond_false]
  | succ k ih =>
    intro i n hi hn
    obtain ⟨n, rfl⟩ := Nat.exists_eq_succ_of_ne_zero (show n ≠ 0 by omega)
    have h : ((i : Int) < (l.length : Int)) := by omega
    have h1 : i < l.length := by omega
    simp only [reticuleref04_Same_L0, decide_eq_true h, cond_true, ix_at l i h1, Option.bind_some, sense_dec, decide_true, Bool.not_true, cond_false, w64_succ i (by omega), ih (i + 1) n (by omega) (by omega)]
theorem same_self (l : List Sense) (hs : l.length ≤ 200) : reticuleref04_Same (l, l) = some true := by
  have := same_loop l hs l.length 0 Big (by omega) (big_lt (by omega))
  rw [Int.natCast_zero] at this
  simp only [reticuleref04_Same, decide_true, Bool.not_true, cond_false, this, jn_inl]
theorem first_eq (l : List Sense) (hs : l.length ≤ 100) : ∃ r, sense_First l = some r ∧ reticuleref04_First l = some r ∧ r.2.length ≤ 100 := by
  cases l with
  | nil => exact ⟨((0, 0, 0, ()), []), rfl, rfl, by simp⟩
  | cons a l =>
    refine ⟨(a, l), ?_, ?_, by simp at hs; show l.length ≤ 100; omega⟩
    · have h : ¬ (((a :: l).length : Int) = 0) := by simp; omega
      have c : (decide (0 ≤ (1 : Int)) && decide ((1 : Int) ≤ ((a :: l).length : Int))) = true := by simp; omega
      have i0 := ix_at (a :: l) 0 (by simp)
      rw [Int.natCast_zero] at i0
      simp only [sense_First, decide_eq_false h, cond_false, i0, chk_true c, Option.bind_some]; rfl
    · have h : ¬ (((a :: l).length : Int) = 0) := by simp; omega
      have c : (decide (0 ≤ (1 : Int)) && decide ((1 : Int) ≤ ((a :: l).length : Int))) = true := by simp; omega
      have i0 := ix_at (a :: l) 0 (by simp)
      rw [Int.natCast_zero] at i0
      have c2 : ([] : List Sense).length + ((a :: l).drop (1 : Int).toNat).length ≤ lim := by
        simp at hs
        show 0 + l.length ≤ 2147483648; omega
      simp only [reticuleref04_First, decide_eq_false h, cond_false, i0, chk_true c, chk_dec c2, Option.bind_some]; rfl
theorem addL_len (l : List Sense) (s : Sense) (hs : l.length ≤ 100) : (addL l s).length ≤ 200 := by
  unfold addL
  split
  · omega
  · split
    · simp
    · split
      · omega
      · simp; omega
theorem SenseAdds_pure (x) : reticulelaw04_SenseAdds x = some true := by
  obtain ⟨l, s⟩ := x
  simp only [reticulelaw04_SenseAdds, alive_ok, Option.bind_some, Bool.not_true, cond_false]
  by_cases h : (30 : Int) < l.length
  · simp [h]
  have hs : l.length ≤ 100 := by omega
  have c1 : ([] : List Sense).length + l.length ≤ lim := by show 0 + _ ≤ 2147483648; omega
  obtain ⟨a1, a2⟩ := add_eq l s hs
  obtain ⟨r, f1, f2, f3⟩ := first_eq l hs
  simp only [h, decide_false, cond_false, chk_dec c1, List.nil_append, a1, a2, f1, f2, Option.bind_some, same_self _ (addL_len l s hs), same_self r.2 (by omega), same_self l (by omega), decide_true, Bool.and_self, cond_true]
end Go.Proofs.Ytmkffbacmjgbcaa
