/- The plain laws of chapter 22: each answer is true. -/
import Derived.Test.YtmkoigeofajhfaaIuQ
namespace Go.Proofs.Ytmkoigeofajhfaa
open Go Go.Re
set_option linter.unusedVariables false
set_option linter.unusedSimpArgs false
theorem alive_ok : reticulelaw22_alive () = some true := rfl
theorem task_eq (a b a' b' : Int) (c c' : List (BitVec 8)) : reticulelaw22_task (mkT a b c, mkT a' b' c') = some (decide (a = a' ∧ b = b' ∧ c = c')) := by
  have hj : reticuleref10_Same (zJ, zJ) = some true := rfl
  by_cases h1 : a = a'
  · by_cases h2 : b = b'
    · by_cases h3 : c = c'
      · simp only [reticulelaw22_task, mkT, h1, h2, h3, decide_true, cond_true, Option.bind_some, hj, and_self, Bool.and_self]
      · simp only [reticulelaw22_task, mkT, h1, h2, h3, decide_true, decide_false, cond_true, cond_false, Option.bind_some, and_false]
    · simp only [reticulelaw22_task, mkT, h1, h2, decide_true, decide_false, cond_true, cond_false, Option.bind_some, false_and, and_false]
  · simp only [reticulelaw22_task, mkT, h1, decide_false, cond_false, Option.bind_some, false_and]
theorem task_self (x : List (BitVec 8)) : reticulelaw22_task ((cmdL x).1, (cmdL x).1) = some true := by
  unfold cmdL
  split
  · rw [task_eq]; simp
  · rw [task_eq]; simp
theorem IuReads_pure (x) : reticulelaw22_IuReads x = some true := by
  simp only [reticulelaw22_IuReads, alive_ok, Option.bind_some, Bool.not_true, cond_false]
  by_cases h : (200 : Int) < x.length
  · simp [h]
  have hx : x.length ≤ 1000 := by omega
  simp only [h, decide_false, cond_false, command_eq x hx, ref_command_eq x hx, manage_eq x hx, ref_manage_eq x hx, tag_eq x hx, ref_tag_eq x hx, lun_eq x hx, ref_Lun_eq x hx, task_self, Option.bind_some, decide_true, cond_true, Bool.and_self]
abbrev TyCm : Ty := .st (.pair (.int .i64) (.pair (.int .u64) (.pair (.int .i64) (.pair (.int .i64) (.pair (.int .i64) .unit)))))
abbrev TySn : Ty := .st (.pair (.int .i64) (.pair (.int .i64) (.pair (.int .i64) .unit)))
abbrev TyJb : Ty := .st (.pair TyCm (.pair (.int .i64) (.pair (.int .i64) (.pair (.sl (.int .u8)) (.pair TySn .unit)))))
abbrev TyTk : Ty := .st (.pair (.int .i64) (.pair (.int .i64) (.pair (.arr 16 (.int .u8)) (.pair (.int .i64) (.pair (.sl (.int .u8)) (.pair TyJb (.pair TySn .unit)))))))
abbrev TyMg : Ty := .st (.pair (.int .i64) (.pair (.int .i64) (.pair (.int .i64) (.pair (.int .i64) .unit))))
abbrev TyHow : Ty := .st (.pair (.int .u8) (.pair (.int .u8) (.pair (.arr 16 (.int .u8)) .unit)))
theorem task_cdb {t : Tk} (h : Ty.ok TyTk t) : t.2.2.1.length = 16 := h.2.2.1.1
theorem cmdB_len (t : Tk) (h : t.2.2.1.length = 16) : (cmdB t).length = 32 := by
  simp [cmdB, placeB, h]
theorem IuPuts_pure (x) (h1 : Ty.ok TyTk x.1) (_ : Ty.ok TyMg x.2) : reticulelaw22_IuPuts x = some true := by
  obtain ⟨t, m⟩ := x
  have hc : t.2.2.1.length = 16 := task_cdb h1
  have hl := cmdB_len t hc
  have c1 : (cmdB t).length ≤ lim := by rw [hl]; show 32 ≤ 2147483648; omega
  have c2 : (manB m).length ≤ lim := (show 16 ≤ 2147483648 by omega)
  simp only [reticulelaw22_IuPuts, alive_ok, Option.bind_some, Bool.not_true, cond_false, putCommand_eq t (show t.2.2.1.length ≤ 100 by omega), ref_putCommand_eq t hc, putManage_eq, ref_putManage_eq, chk_dec c1, chk_dec c2, decide_true, cond_true]
def o8 (v : Int) : BitVec 8 := BitVec.ofInt 8 v
def senseB (s : Sn) : List (BitVec 8) := [112#8, 0#8, o8 s.1, 0#8, 0#8, 0#8, 0#8, 10#8, 0#8, 0#8, 0#8, 0#8, o8 s.2.1, o8 s.2.2.1, 0#8, 0#8, 0#8, 0#8]
theorem two_big (c q : BitVec 8) : (leN 2 (((c.setWidth 64) <<< (((8#64).toNat : Int)).toNat) ||| (q.setWidth 64))).reverse = [c, q] := by
  rw [show (((8#64).toNat : Int)).toNat = 8 from rfl]
  have hc := c.isLt
  have hq := q.isLt
  have hX := shl8_or (c.setWidth 64) q c.toNat (by rw [BitVec.toNat_setWidth]; omega) (by omega)
  generalize ((c.setWidth 64) <<< 8) ||| (q.setWidth 64) = X at hX
  have e : leN 2 X = [(X >>> (8 * 0)).setWidth 8, (X >>> (8 * 1)).setWidth 8] := rfl
  rw [e]
  have e1 : (X >>> (8 * 0)).setWidth 8 = q := by
    apply BitVec.eq_of_toNat_eq
    rw [BitVec.toNat_setWidth, BitVec.toNat_ushiftRight, Nat.shiftRight_eq_div_pow, hX]
    show (q.toNat + 256 * c.toNat) / 1 % 256 = _
    omega
  have e2 : (X >>> (8 * 1)).setWidth 8 = c := by
    apply BitVec.eq_of_toNat_eq
    rw [BitVec.toNat_setWidth, BitVec.toNat_ushiftRight, Nat.shiftRight_eq_div_pow, hX]
    show (q.toNat + 256 * c.toNat) / 256 % 256 = _
    omega
  rw [e1, e2]; rfl
theorem sense_bytes_eq (s : Sn) : sense_Bytes s = some (senseB s) := by
  obtain ⟨k, c, q, u⟩ := s
  unfold sense_Bytes
  simp only [putBig_eq, if_pos (show (1 : Int) ≤ 2 ∧ (2 : Int) ≤ 8 by omega), show (2 : Int).toNat = 2 from rfl, two_big]
  rfl
theorem ref_sense_bytes (s : Sn) : reticuleref04_Bytes s = some (senseB s) := rfl
theorem info_eq (k tag : Int) (m : List (BitVec 8)) (h : m.length ≤ 1000) : iu_info (k, tag, m) = some (k, tag, [lo k, 0#8, hi tag, lo tag] ++ m, ()) := by
  simp only [iu_info, head_eq, Option.bind_some]
  rw [concat_eq _ (by simp; omega) (by simp)]
  simp only [Option.bind_some, List.flatten_cons, List.flatten_nil, List.append_nil]
theorem same_self (a : Int × (Int × (List (BitVec 8) × Unit))) (h : a.2.2.1.length ≤ 1000) : reticuleref22_Same (a, a) = some true := by
  have c : a.2.2.1.length ≤ lim := le_lim (by omega)
  simp only [reticuleref22_Same, decide_true, cond_true, Option.bind_some, chk_dec c]
def statB (tag n : Int) (told : List (BitVec 8)) : List (BitVec 8) := [3#8, 0#8, hi tag, lo tag, 0#8, 0#8, lo n, 0#8, 0#8, 0#8, 0#8, 0#8, 0#8, 0#8, 0#8, lo (told.length : Int)] ++ told
theorem status_eq (tag n : Int) (s : Sn) : ∃ told, told.length ≤ 18 ∧ iu_Status (tag, n, s) = some (3, tag, statB tag n told, ()) ∧ reticuleref22_Status (tag, n, s) = some (3, tag, statB tag n told, ()) := by
  have core : ∀ told : List (BitVec 8), told.length ≤ 18 → ((iu_put (told.length : Int)).bind fun r4 =>
      (slices_Concat_byte ([([0#8, 0#8, BitVec.ofInt 8 n, 0#8, 0#8, 0#8, 0#8, 0#8, 0#8, 0#8] : List (BitVec 8)), r4, told] : List (List (BitVec 8)))).bind fun r5 =>
      (iu_info (3, tag, r5)).bind fun r6 => some r6) = some (3, tag, statB tag n told, ()) := by
    intro told ht
    have hh : hi (told.length : Int) = 0#8 := by apply bv8; rw [hi_nat]; show _ = (0 : Int); omega
    simp only [put_eq, Option.bind_some, hh]
    rw [concat_eq _ (by simp; omega) (by simp)]
    simp only [Option.bind_some, List.flatten_cons, List.flatten_nil, List.append_nil]
    rw [info_eq _ _ _ (by simp; omega)]
    rfl
  have rcore : ∀ told : List (BitVec 8), told.length ≤ 18 → ((reticuleref22_head (3#8, tag)).bind fun r3 =>
      (chk (decide (r3.length + ([0#8, 0#8, BitVec.ofInt 8 (BitVec.toInt (BitVec.ofInt 64 n &&& BitVec.ofInt 64 255)), 0#8, 0#8, 0#8, 0#8, 0#8, 0#8, 0#8, 0#8, BitVec.ofInt 8 (told.length : Int)] : List (BitVec 8)).length ≤ lim))).bind fun _ =>
      (chk (decide ((r3 ++ ([0#8, 0#8, BitVec.ofInt 8 (BitVec.toInt (BitVec.ofInt 64 n &&& BitVec.ofInt 64 255)), 0#8, 0#8, 0#8, 0#8, 0#8, 0#8, 0#8, 0#8, BitVec.ofInt 8 (told.length : Int)] : List (BitVec 8))).length + told.length ≤ lim))).bind fun _ =>
      some ((3 : Int), tag, (r3 ++ ([0#8, 0#8, BitVec.ofInt 8 (BitVec.toInt (BitVec.ofInt 64 n &&& BitVec.ofInt 64 255)), 0#8, 0#8, 0#8, 0#8, 0#8, 0#8, 0#8, 0#8, BitVec.ofInt 8 (told.length : Int)] : List (BitVec 8))) ++ told, ())) = some (3, tag, statB tag n told, ()) := by
    intro told ht
    have c1 : ∀ (z : BitVec 8), ([3#8, 0#8, hi tag, lo tag] : List (BitVec 8)).length + ([0#8, 0#8, lo n, 0#8, 0#8, 0#8, 0#8, 0#8, 0#8, 0#8, 0#8, z] : List (BitVec 8)).length ≤ lim := fun z => (show 4 + 12 ≤ 2147483648 by omega)
    have c2 : ∀ (z : BitVec 8), (([3#8, 0#8, hi tag, lo tag] : List (BitVec 8)) ++ ([0#8, 0#8, lo n, 0#8, 0#8, 0#8, 0#8, 0#8, 0#8, 0#8, 0#8, z] : List (BitVec 8))).length + told.length ≤ lim := fun z => (show 16 + told.length ≤ 2147483648 by omega)
    simp only [ref_head_eq, low8, Option.bind_some, chk_dec (c1 _), chk_dec (c2 _)]
    rfl
  by_cases hz : s.1 = 0 ∧ s.2.1 = 0 ∧ s.2.2.1 = 0
  · obtain ⟨z1, z2, z3⟩ := hz
    refine ⟨[], by simp, ?_, ?_⟩
    · have := core [] (by simp)
      simp only [iu_Status, sense_Good, z1, z2, z3, decide_true, Bool.and_self, Bool.not_true, cond_false, Option.bind_some, jn_inl]
      exact this
    · have := rcore [] (by simp)
      simp only [reticuleref22_Status, z1, z2, z3, decide_true, Bool.and_self, Bool.not_true, cond_false, jn_inl]
      exact this
  · have hg : ((decide (s.1 = 0)) && ((decide (s.2.1 = 0)) && ((decide (s.2.2.1 = 0)) && true))) = false := by
      rw [Bool.eq_false_iff]
      intro hc
      simp only [Bool.and_eq_true, decide_eq_true_eq] at hc
      exact hz ⟨hc.1, hc.2.1, hc.2.2.1⟩
    refine ⟨senseB s, by show 18 ≤ 18; omega, ?_, ?_⟩
    · have := core (senseB s) (by show 18 ≤ 18; omega)
      simp only [iu_Status, sense_Good, hg, Bool.not_false, cond_true, Option.bind_some, sense_bytes_eq, jn_inl]
      exact this
    · have := rcore (senseB s) (by show 18 ≤ 18; omega)
      simp only [reticuleref22_Status, hg, Bool.not_false, cond_true, ref_sense_bytes, Option.bind_some, jn_inl]
      exact this
theorem response_eq (tag n : Int) : iu_Response (tag, n) = some (4, tag, [lo 4, 0#8, hi tag, lo tag, 0#8, 0#8, 0#8, lo n], ()) ∧ reticuleref22_Response (tag, n) = some (4, tag, [lo 4, 0#8, hi tag, lo tag, 0#8, 0#8, 0#8, lo n], ()) := by
  constructor
  · simp only [iu_Response]; rw [info_eq _ _ _ (by simp)]; rfl
  · simp only [reticuleref22_Response, ref_head_eq, low8, Option.bind_some]; rfl
theorem ready_eq (tag n : Int) : ∃ k : Int, iu_Ready (tag, n) = some (k, tag, [lo k, 0#8, hi tag, lo tag], ()) ∧ reticuleref22_Ready (tag, n) = some (k, tag, [lo k, 0#8, hi tag, lo tag], ()) := by
  by_cases h : n = 1
  · refine ⟨6, ?_, ?_⟩
    · simp only [iu_Ready, h, decide_true, cond_true]; rw [info_eq _ _ _ (by simp)]; rfl
    · simp only [reticuleref22_Ready, h, decide_true, cond_true, jn_inl, ref_head_eq, Option.bind_some]; rfl
  · refine ⟨7, ?_, ?_⟩
    · simp only [iu_Ready, decide_eq_false h, cond_false]; rw [info_eq _ _ _ (by simp)]; rfl
    · simp only [reticuleref22_Ready, decide_eq_false h, cond_false, jn_inl, ref_head_eq, Option.bind_some]; rfl
theorem IuTells_pure (x) : reticulelaw22_IuTells x = some true := by
  obtain ⟨tag, n, s⟩ := x
  obtain ⟨told, h0, h1, h2⟩ := status_eq tag n s
  obtain ⟨h3, h4⟩ := response_eq tag n
  obtain ⟨k, h5, h6⟩ := ready_eq tag n
  simp only [reticulelaw22_IuTells, alive_ok, Option.bind_some, Bool.not_true, cond_false, h1, h2, h3, h4, h5, h6]
  rw [same_self _ (by simp [statB]; omega), same_self _ (by simp), same_self _ (by simp)]
  rfl
theorem lunL_place (b : BitVec 8) : lunL (placeB b) = (b.toNat : Int) := by
  show (if placeB b = placeB b then (b.toNat : Int) else 256) = _
  rw [if_pos rfl]
theorem cmd_back (t : Tk) (h : t.2.2.1.length = 16) : cmdL (cmdB t) = (mkT (t.1 % 65536) (t.2.1 % 256) t.2.2.1, true) := by
  obtain ⟨tag, lun, c, r⟩ := t
  match c, h with
  | [c0, c1, c2, c3, c4, c5, c6, c7, c8, c9, c10, c11, c12, c13, c14, c15], _ =>
    have e1 := hi_nat tag
    have e2 := lo_nat tag
    have e3 := lo_nat lun
    unfold cmdL
    rw [if_pos ⟨rfl, rfl, rfl⟩]
    have ht : twoL (cmdB (tag, lun, [c0, c1, c2, c3, c4, c5, c6, c7, c8, c9, c10, c11, c12, c13, c14, c15], r)) 2 = tag % 65536 := by
      show 256 * ((hi tag).toNat : Int) + ((lo tag).toNat : Int) = _
      omega
    have hlu : lunL (((cmdB (tag, lun, [c0, c1, c2, c3, c4, c5, c6, c7, c8, c9, c10, c11, c12, c13, c14, c15], r)).drop 8).take 8) = lun % 256 := by
      rw [← e3, ← lunL_place]; rfl
    rw [ht, hlu]; rfl
theorem IuBack_pure (x) (_ : Ty.ok (.int .u16) x.1) (_ : Ty.ok (.int .u16) x.2.1) (h3 : Ty.ok TyHow x.2.2) : reticulelaw22_IuBack x = some true := by
  obtain ⟨tag, meant, lun, fn, c, u⟩ := x
  have hc : c.length = 16 := h3.2.2.1.1
  have := tag.isLt
  have := meant.isLt
  have := lun.isLt
  have := fn.isLt
  have hp := putCommand_eq (mkT (tag.toNat : Int) (lun.toNat : Int) c) (show c.length ≤ 100 by omega)
  have hq := putManage_eq ((tag.toNat : Int), (fn.toNat : Int), (meant.toNat : Int), (lun.toNat : Int), ())
  have hl := cmdB_len (mkT (tag.toNat : Int) (lun.toNat : Int) c) hc
  have hb := cmd_back (mkT (tag.toNat : Int) (lun.toNat : Int) c) hc
  have hb' : cmdL (cmdB (mkT (tag.toNat : Int) (lun.toNat : Int) c)) = (mkT (tag.toNat : Int) (lun.toNat : Int) c, true) := by
    rw [hb]
    show (mkT ((tag.toNat : Int) % 65536) ((lun.toNat : Int) % 256) c, true) = _
    rw [show (tag.toNat : Int) % 65536 = (tag.toNat : Int) by omega, show (lun.toNat : Int) % 256 = (lun.toNat : Int) by omega]
  have hm : manL (manB ((tag.toNat : Int), (fn.toNat : Int), (meant.toNat : Int), (lun.toNat : Int), ())) = (((tag.toNat : Int), (fn.toNat : Int), (meant.toNat : Int), (lun.toNat : Int), ()), true) := by
    have e1 := hi_nat (tag.toNat : Int)
    have e2 := lo_nat (tag.toNat : Int)
    have e3 := hi_nat (meant.toNat : Int)
    have e4 := lo_nat (meant.toNat : Int)
    have e5 := lo_nat (fn.toNat : Int)
    have e6 := lo_nat (lun.toNat : Int)
    unfold manL
    rw [if_pos ⟨rfl, rfl⟩]
    show ((256 * ((hi (tag.toNat : Int)).toNat : Int) + ((lo (tag.toNat : Int)).toNat : Int), ((lo (fn.toNat : Int)).toNat : Int), 256 * ((hi (meant.toNat : Int)).toNat : Int) + ((lo (meant.toNat : Int)).toNat : Int), lunL (placeB (lo (lun.toNat : Int))), ()), true) = _
    rw [lunL_place]
    simp only [Prod.mk.injEq]
    refine ⟨⟨by omega, by omega, by omega, by omega, trivial⟩, trivial⟩
  have ht := task_eq (tag.toNat : Int) (lun.toNat : Int) (tag.toNat : Int) (lun.toNat : Int) c c
  simp only [and_self, decide_true] at ht
  have hce := command_eq (cmdB (mkT (tag.toNat : Int) (lun.toNat : Int) c)) (by omega)
  have hme := manage_eq (manB ((tag.toNat : Int), (fn.toNat : Int), (meant.toNat : Int), (lun.toNat : Int), ())) (by show 16 ≤ 1000; omega)
  rw [hb'] at hce
  rw [hm] at hme
  simp only [mkT, zJ, zC, zS] at hp hce ht
  simp only [reticulelaw22_IuBack, alive_ok, Option.bind_some, Bool.not_true, cond_false, hp, hq, hce, hme, ht, cond_true, decide_true, Bool.and_self]
theorem xor_ne (a b : BitVec 8) (h : ¬ b = 0#8) : a ^^^ b ≠ a := by
  intro he
  apply h
  have : a ^^^ (a ^^^ b) = a ^^^ a := by rw [he]
  rwa [← BitVec.xor_assoc, BitVec.xor_self, BitVec.zero_xor] at this
theorem cmd32 (a0 a1 a2 a3 a4 a5 a6 a7 a8 a9 a10 a11 a12 a13 a14 a15 c0 c1 c2 c3 c4 c5 c6 c7 c8 c9 c10 c11 c12 c13 c14 c15 : BitVec 8) :
    cmdL [a0, a1, a2, a3, a4, a5, a6, a7, a8, a9, a10, a11, a12, a13, a14, a15, c0, c1, c2, c3, c4, c5, c6, c7, c8, c9, c10, c11, c12, c13, c14, c15] =
      if a0 = 1#8 ∧ a6 = 0#8 then (mkT (256 * (a2.toNat : Int) + (a3.toNat : Int)) (lunL [a8, a9, a10, a11, a12, a13, a14, a15]) [c0, c1, c2, c3, c4, c5, c6, c7, c8, c9, c10, c11, c12, c13, c14, c15], true)
      else (mkT 0 0 (List.replicate 16 0#8), false) := by
  unfold cmdL
  by_cases h : a0 = 1#8 ∧ a6 = 0#8
  · rw [if_pos h, if_pos ⟨rfl, h⟩]; rfl
  · rw [if_neg h, if_neg (fun hc => h hc.2)]
theorem lun_off (l : List (BitVec 8)) (b : BitVec 8) (hb : ¬ b = 0#8) (h : l = [b, l.getD 1 0#8, 0#8, 0#8, 0#8, 0#8, 0#8, 0#8] ∨ l = [0#8, l.getD 1 0#8, b, 0#8, 0#8, 0#8, 0#8, 0#8] ∨ l = [0#8, l.getD 1 0#8, 0#8, b, 0#8, 0#8, 0#8, 0#8] ∨
    l = [0#8, l.getD 1 0#8, 0#8, 0#8, b, 0#8, 0#8, 0#8] ∨ l = [0#8, l.getD 1 0#8, 0#8, 0#8, 0#8, b, 0#8, 0#8] ∨ l = [0#8, l.getD 1 0#8, 0#8, 0#8, 0#8, 0#8, b, 0#8] ∨ l = [0#8, l.getD 1 0#8, 0#8, 0#8, 0#8, 0#8, 0#8, b]) : lunL l = 256 := by
  unfold lunL
  rw [if_neg]
  intro he
  apply hb
  rcases h with h | h | h | h | h | h | h
  all_goals
    rw [h] at he
    simp only [placeB, List.cons.injEq] at he
    simp only [he]
theorem cmdB_list (tag lun : Int) (c0 c1 c2 c3 c4 c5 c6 c7 c8 c9 c10 c11 c12 c13 c14 c15 : BitVec 8) (r) :
    cmdB (tag, lun, [c0, c1, c2, c3, c4, c5, c6, c7, c8, c9, c10, c11, c12, c13, c14, c15], r) = [1#8, 0#8, hi tag, lo tag, 0#8, 0#8, 0#8, 0#8, 0#8, lo lun, 0#8, 0#8, 0#8, 0#8, 0#8, 0#8, c0, c1, c2, c3, c4, c5, c6, c7, c8, c9, c10, c11, c12, c13, c14, c15] := rfl
theorem turned_same (t : Tk) (h : t.2.2.1.length = 16) (k : Nat) (hk : k = 1 ∨ k = 4 ∨ k = 5 ∨ k = 7) (z : BitVec 8) : cmdL ((cmdB t).set k z) = cmdL (cmdB t) := by
  obtain ⟨tag, lun, c, r⟩ := t
  match c, h with
  | [c0, c1, c2, c3, c4, c5, c6, c7, c8, c9, c10, c11, c12, c13, c14, c15], _ =>
    rw [cmdB_list]
    rcases hk with rfl | rfl | rfl | rfl
    all_goals simp only [List.set_cons_succ, List.set_cons_zero, cmd32]
theorem turned_other (t : Tk) (h : t.2.2.1.length = 16) (k : Nat) (hk : k < 32) (hk' : ¬ (k = 1 ∨ k = 4 ∨ k = 5 ∨ k = 7)) (b : BitVec 8) (hb : ¬ b = 0#8) (x : BitVec 8) (hx : (cmdB t)[k]? = some x) :
    (∃ u, cmdL ((cmdB t).set k (x ^^^ b)) = (u, false)) ∨ ∃ p q c, cmdL ((cmdB t).set k (x ^^^ b)) = (mkT p q c, true) ∧ ¬ (t.1 % 65536 = p ∧ t.2.1 % 256 = q ∧ t.2.2.1 = c) := by
  obtain ⟨tag, lun, c, r⟩ := t
  have ne := fun a => xor_ne a b hb
  have nn : ∀ a : BitVec 8, ((a ^^^ b).toNat : Int) ≠ (a.toNat : Int) := fun a he => ne a (bv8 he)
  have e1 := hi_nat tag
  have e2 := lo_nat tag
  have e3 := lo_nat lun
  have b1 := (hi tag).isLt
  have b2 := (lo tag).isLt
  have b3 := (lo lun).isLt
  have z0 : (0#8) ^^^ b = b := BitVec.zero_xor
  match c, h with
  | [c0, c1, c2, c3, c4, c5, c6, c7, c8, c9, c10, c11, c12, c13, c14, c15], _ =>
    rw [cmdB_list] at hx ⊢
    rcases (show k = 0 ∨ k = 6 ∨ k = 2 ∨ k = 3 ∨ k = 9 ∨ (k = 8 ∨ k = 10 ∨ k = 11 ∨ k = 12 ∨ k = 13 ∨ k = 14 ∨ k = 15) ∨ 16 ≤ k by omega) with rfl | rfl | rfl | rfl | rfl | hk | hk
    · left
      simp only [List.getElem?_cons_zero, Option.some.injEq] at hx
      subst hx
      simp only [List.set_cons_zero, cmd32]
      rw [if_neg (fun hc => ne _ hc.1)]
      exact ⟨_, rfl⟩
    · left
      simp only [List.getElem?_cons_succ, List.getElem?_cons_zero, Option.some.injEq] at hx
      subst hx
      simp only [List.set_cons_succ, List.set_cons_zero, cmd32]
      rw [if_neg (fun hc => ne _ hc.2)]
      exact ⟨_, rfl⟩
    · right
      simp only [List.getElem?_cons_succ, List.getElem?_cons_zero, Option.some.injEq] at hx
      subst hx
      simp only [List.set_cons_succ, List.set_cons_zero, cmd32]
      rw [if_pos ⟨trivial, trivial⟩]
      refine ⟨_, _, _, rfl, fun hc => ?_⟩
      have := nn (hi tag)
      have h1 : tag % 65536 = 256 * ((hi tag ^^^ b).toNat : Int) + ((lo tag).toNat : Int) := hc.1
      omega
    · right
      simp only [List.getElem?_cons_succ, List.getElem?_cons_zero, Option.some.injEq] at hx
      subst hx
      simp only [List.set_cons_succ, List.set_cons_zero, cmd32]
      rw [if_pos ⟨trivial, trivial⟩]
      refine ⟨_, _, _, rfl, fun hc => ?_⟩
      have := nn (lo tag)
      have h1 : tag % 65536 = 256 * ((hi tag).toNat : Int) + ((lo tag ^^^ b).toNat : Int) := hc.1
      omega
    · right
      simp only [List.getElem?_cons_succ, List.getElem?_cons_zero, Option.some.injEq] at hx
      subst hx
      simp only [List.set_cons_succ, List.set_cons_zero, cmd32]
      rw [if_pos ⟨trivial, trivial⟩]
      refine ⟨_, _, _, rfl, fun hc => ?_⟩
      have := nn (lo lun)
      have h1 : lun % 256 = lunL (placeB (lo lun ^^^ b)) := hc.2.1
      rw [lunL_place] at h1
      omega
    · right
      rcases hk with rfl | rfl | rfl | rfl | rfl | rfl | rfl
      all_goals
        simp only [List.getElem?_cons_succ, List.getElem?_cons_zero, Option.some.injEq] at hx
        subst hx
        simp only [List.set_cons_succ, List.set_cons_zero, cmd32, z0]
        rw [if_pos ⟨trivial, trivial⟩]
        refine ⟨_, _, _, rfl, fun hc => ?_⟩
        have h1 := hc.2.1
        rw [lun_off _ b hb (by simp)] at h1
        have h1 : lun % 256 = 256 := h1
        omega
    · right
      rcases (show k = 16 ∨ k = 17 ∨ k = 18 ∨ k = 19 ∨ k = 20 ∨ k = 21 ∨ k = 22 ∨ k = 23 ∨ k = 24 ∨ k = 25 ∨ k = 26 ∨ k = 27 ∨ k = 28 ∨ k = 29 ∨ k = 30 ∨ k = 31 by omega) with
        rfl | rfl | rfl | rfl | rfl | rfl | rfl | rfl | rfl | rfl | rfl | rfl | rfl | rfl | rfl | rfl
      all_goals
        simp only [List.getElem?_cons_succ, List.getElem?_cons_zero, Option.some.injEq] at hx
        subst hx
        simp only [List.set_cons_succ, List.set_cons_zero, cmd32]
        rw [if_pos ⟨trivial, trivial⟩]
        refine ⟨_, _, _, rfl, fun hc => ?_⟩
        have h1 := hc.2.2
        simp only [List.cons.injEq, true_and, and_true] at h1
        exact absurd h1.symm (ne _)
theorem IuTurned_pure (x) (h1 : Ty.ok TyTk x.1) (_ : Ty.ok (.int .u8) x.2.1) (_ : Ty.ok (.int .u8) x.2.2) : reticulelaw22_IuTurned x = some true := by
  obtain ⟨t, at_, b⟩ := x
  have hc : t.2.2.1.length = 16 := task_cdb h1
  have hl := cmdB_len t hc
  have hl' : ((cmdB t).length : Int) = 32 := by omega
  obtain ⟨k, hk, hk32⟩ : ∃ k : Nat, (at_ % (32#8)).toNat = k ∧ k < 32 := ⟨_, rfl, by rw [BitVec.toNat_umod]; exact Nat.mod_lt _ (by decide)⟩
  simp only [reticulelaw22_IuTurned, alive_ok, Option.bind_some, Bool.not_true, cond_false, putCommand_eq t (show t.2.2.1.length ≤ 100 by omega), hl', decide_true, hk]
  by_cases hb : b = 0#8
  · simp only [hb, decide_true, cond_true]
  have c1 : ([] : List (BitVec 8)).length + (cmdB t).length ≤ lim := by rw [hl]; show 0 + 32 ≤ 2147483648; omega
  have c2 : inLen (k : Int) (cmdB t).length = true := inLen_nat (by omega)
  have hx : (cmdB t)[k]? = some ((cmdB t)[k]'(by omega)) := List.getElem?_eq_getElem (by omega)
  have hs : ((cmdB t).set k ((cmdB t)[k]'(by omega) ^^^ b)).length ≤ 1000 := by simp; omega
  simp only [decide_eq_false hb, cond_false, command_eq _ (show (cmdB t).length ≤ 1000 by omega), Option.bind_some, chk_dec c1, chk_true c2, List.nil_append, Int.toNat_natCast, hx, command_eq _ hs]
  by_cases hk4 : k = 1 ∨ k = 4 ∨ k = 5 ∨ k = 7
  · rw [turned_same t hc k hk4, task_self, cmd_back t hc]
    rcases hk4 with rfl | rfl | rfl | rfl <;> rfl
  · have d1 : ¬ (k : Int) = 1 := by omega
    have d4 : ¬ (k : Int) = 4 := by omega
    have d5 : ¬ (k : Int) = 5 := by omega
    have d7 : ¬ (k : Int) = 7 := by omega
    rw [cmd_back t hc]
    simp only [decide_eq_false d1, decide_eq_false d4, decide_eq_false d5, decide_eq_false d7, cond_false, cond_true, Option.bind_some]
    rcases turned_other t hc k hk32 hk4 b hb _ hx with ⟨u, hu⟩ | ⟨p, q, c, hu, hn⟩
    · rw [hu]; rfl
    · rw [hu, task_eq, decide_eq_false hn]; rfl
end Go.Proofs.Ytmkoigeofajhfaa
