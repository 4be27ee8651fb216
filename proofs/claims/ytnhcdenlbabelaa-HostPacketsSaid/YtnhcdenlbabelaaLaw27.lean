/- The plain laws of chapter 27: each answer is true. -/
import Derived.Test.YtnhcdenlbabelaaHostP
namespace Go.Proofs.Ytnhcdenlbabelaa
open Go Go.Re
set_option linter.unusedVariables false
set_option linter.unusedSimpArgs false
theorem alive_ok : reticulelaw27_alive () = some true := rfl
theorem one_self (e : Ev) (h : e.2.2.2.2.2.2.2.2.1.length ≤ lim) : reticuleref13_One (e, e) = some true := by
  simp only [reticuleref13_One, decide_true, cond_true, Option.bind_some, chk_dec h]
theorem same_loop (l : List Ev) (hl : l.length ≤ 2147483648) (h : ∀ e ∈ l, e.2.2.2.2.2.2.2.2.1.length ≤ lim) : ∀ k i n, i + k = l.length → k < n →
    reticuleref13_Same_L0 n (l, l, (i : Int)) = some (Sum.inl ()) := by
  intro k
  induction k with
  | zero =>
    intro i n hi hn
    obtain ⟨n, rfl⟩ := Nat.exists_eq_succ_of_ne_zero (show n ≠ 0 by omega)
    have h1 : ¬ ((i : Int) < (l.length : Int)) := by omega
    simp only [reticuleref13_Same_L0, decide_eq_false h1, cond_false]
  | succ k ih =>
    intro i n hi hn
    obtain ⟨n, rfl⟩ := Nat.exists_eq_succ_of_ne_zero (show n ≠ 0 by omega)
    have h1 : ((i : Int) < (l.length : Int)) := by omega
    have hi' : i < l.length := by omega
    rw [← ih (i + 1) n (by omega) (by omega), ← w64_succ i (by omega)]
    simp only [reticuleref13_Same_L0, decide_eq_true h1, cond_true, ix_at l i hi', Option.bind_some, one_self l[i] (h _ (List.getElem_mem hi')), Bool.not_true, cond_false]
theorem same_self (l : List Ev) (hl : l.length ≤ 2147483648) (h : ∀ e ∈ l, e.2.2.2.2.2.2.2.2.1.length ≤ lim) : reticuleref13_Same (l, l) = some true := by
  have := same_loop l hl h l.length 0 Big (by omega) (big_lt (by omega))
  simp only [Int.natCast_zero] at this
  simp only [reticuleref13_Same, decide_true, Bool.not_true, cond_false, this, jn_inl]
/-- an event of a transfer -/
def Mild (a : Int) (e : Ev) : Prop := e.2.2.2.2.2.2.2.2.1.length ≤ 8 ∧ (e.2.1 = a ∨ e.2.1 = 0) ∧ 1 ≤ e.1 ∧ e.1 ≤ 4 ∧ e.2.2.1 = 0 ∧ e.2.2.2.1 = 0 ∧ (e.2.2.2.2.1 = 0 ∨ e.2.2.2.2.1 = 1) ∧ e.2.2.2.2.2.2.1 = 0
theorem trL_mild (a : Int) (r : Su.Rq) : ∀ e ∈ trL a r, Mild a e := by
  intro e he
  rcases trL_mem a r e he with rfl | rfl | rfl
  · exact ⟨by simp [askE], Or.inl rfl, (show (1 : Int) ≤ 4 by decide), (show (4 : Int) ≤ 4 by decide), rfl, rfl, Or.inl rfl, rfl⟩
  · exact ⟨by simp [statE], Or.inl rfl, (show (1 : Int) ≤ 3 by decide), (show (3 : Int) ≤ 4 by decide), rfl, rfl, Or.inr rfl, rfl⟩
  · exact ⟨by simp [setupE, Su.bytesR], Or.inl rfl, (show (1 : Int) ≤ 2 by decide), (show (2 : Int) ≤ 4 by decide), rfl, rfl, Or.inl rfl, rfl⟩
theorem mild_lim {l : List Ev} {a : Int} (h : ∀ e ∈ l, Mild a e) : ∀ e ∈ l, e.2.2.2.2.2.2.2.2.1.length ≤ lim := fun e he => le_lim (Nat.le_trans (h e he).1 (by decide))
theorem HostTransfers_pure (x) : reticulelaw27_HostTransfers x = some true := by
  obtain ⟨a, r⟩ := x
  simp only [reticulelaw27_HostTransfers, alive_ok, Option.bind_some, Bool.not_true, cond_false, transfer_eq, ref_transfer_eq,
    same_self _ (Nat.le_trans (trL_len a r) (by decide)) (mild_lim (trL_mild a r))]
/-- the events of more than one request -/
theorem all_loop (a : Int) (rs : List Su.Rq) (hrs : rs.length ≤ 1000) : ∀ k i n, i + k = rs.length → k < n →
    host_all_L0 n (a, ((rs.take i).map (trL a)).flatten, rs, (rs.length : Int), (i : Int)) = some (Sum.inl ((rs.map (trL a)).flatten)) := by
  have hb : ∀ l : List Su.Rq, ((l.map (trL a)).flatten).length ≤ 1026 * l.length := by
    intro l
    induction l with
    | nil => simp
    | cons r l ih =>
      have := trL_len a r
      simp only [List.map_cons, List.flatten_cons, List.length_append, List.length_cons]; omega
  intro k
  induction k with
  | zero =>
    intro i n hi hn
    obtain ⟨n, rfl⟩ := Nat.exists_eq_succ_of_ne_zero (show n ≠ 0 by omega)
    have h1 : ¬ ((i : Int) < (rs.length : Int)) := by omega
    simp only [host_all_L0, decide_eq_false h1, cond_false]
    rw [List.take_of_length_le (by omega)]
  | succ k ih =>
    intro i n hi hn
    obtain ⟨n, rfl⟩ := Nat.exists_eq_succ_of_ne_zero (show n ≠ 0 by omega)
    have h1 : ((i : Int) < (rs.length : Int)) := by omega
    have hi' : i < rs.length := by omega
    have hc : ((rs.take i).map (trL a)).flatten.length + (trL a rs[i]).length ≤ lim := by
      have h1 := hb (rs.take i)
      have h2 := trL_len a rs[i]
      rw [List.length_take] at h1
      apply le_lim; omega
    have e : ((rs.take (i + 1)).map (trL a)).flatten = ((rs.take i).map (trL a)).flatten ++ trL a rs[i] := by
      rw [List.take_add_one, List.getElem?_eq_getElem hi', List.map_append, List.flatten_append]
      simp only [Option.toList, List.map_cons, List.map_nil, List.flatten_cons, List.flatten_nil, List.append_nil]
    rw [← ih (i + 1) n (by omega) (by omega), ← w64_succ i (by omega), e]
    simp only [host_all_L0, decide_eq_true h1, cond_true, ix_at rs i hi', Option.bind_some, transfer_eq, chk_dec hc]
theorem all_eq (a : Int) (rs : List Su.Rq) (hrs : rs.length ≤ 1000) : host_all (a, rs) = some ((rs.map (trL a)).flatten) := by
  have := all_loop a rs hrs rs.length 0 Big (by omega) (big_lt (by omega))
  simp only [List.take_zero, List.map_nil, List.flatten_nil, Int.natCast_zero] at this
  simp only [host_all, this, jn_inl]
def resetE : Ev := (1, 0, 0, 0, 0, false, 0, 0#64, ([] : List (BitVec 8)), ())
/-- what an enumeration is -/
def enumL (a t : Int) : List Ev := ([resetE] ++ trL 0 (0, 5, a, 0, 0, ()) ++ trL a (0, 9, 1, 0, 0, ())) ++ (if t = 0 then [] else trL a (1, 11, t, 0, 0, ()))
def recL (a : Int) : List Ev := trL a (33, 255, 0, 0, 0, ()) ++ trL a (2, 1, 0, 129, 0, ()) ++ trL a (2, 1, 0, 2, 0, ())
theorem enum_eq (a t : Int) : host_Enumerate (a, t) = some (enumL a t) := by
  have b1 := trL_len 0 (0, 5, a, 0, 0, ())
  have b2 := trL_len a (0, 9, 1, 0, 0, ())
  have b3 := trL_len a (1, 11, t, 0, 0, ())
  simp only [host_Enumerate, all_eq _ _ (show ([_] : List Su.Rq).length ≤ 1000 by simp), Option.bind_some, List.map_cons, List.map_nil, List.flatten_cons, List.flatten_nil, List.append_nil]
  rw [Ge.concat_eq _ (by simp; omega) (by simp)]
  simp only [Option.bind_some, List.flatten_cons, List.flatten_nil, List.append_nil]
  unfold enumL
  by_cases h : t = 0
  · simp [h, resetE]
  · simp only [decide_eq_false h, cond_false, if_neg h]
    rw [chk_dec (le_lim (by simp; omega))]
    simp [resetE]
theorem ref_enum_eq (a t : Int) : reticuleref27_Enumerate (a, t) = some (enumL a t) := by
  have b1 := trL_len 0 (0, 5, a, 0, 0, ())
  have b2 := trL_len a (0, 9, 1, 0, 0, ())
  have b3 := trL_len a (1, 11, t, 0, 0, ())
  simp only [reticuleref27_Enumerate, ref_transfer_eq, Option.bind_some]
  rw [chk_dec (le_lim (by simp; omega))]
  simp only [Option.bind_some]
  rw [chk_dec (le_lim (by simp; omega))]
  simp only [Option.bind_some]
  unfold enumL
  by_cases h : t = 0
  · simp [h, resetE, jn_inl]
  · simp only [decide_eq_false h, Bool.not_false, cond_true, if_neg h]
    rw [chk_dec (le_lim (by simp; omega))]
    simp [resetE, jn_inl]
theorem rec_eq (a : Int) : host_Recover a = some (recL a) := by
  simp only [host_Recover, all_eq _ _ (show ([_, _, _] : List Su.Rq).length ≤ 1000 by simp), Option.bind_some, List.map_cons, List.map_nil, List.flatten_cons, List.flatten_nil, List.append_nil, recL, List.append_assoc]
theorem ref_rec_eq (a : Int) : reticuleref27_Recover a = some (recL a) := by
  have b1 := trL_len a (33, 255, 0, 0, 0, ())
  have b2 := trL_len a (2, 1, 0, 129, 0, ())
  have b3 := trL_len a (2, 1, 0, 2, 0, ())
  simp only [reticuleref27_Recover, ref_transfer_eq, Option.bind_some]
  rw [chk_dec (le_lim (by omega))]
  simp only [Option.bind_some]
  rw [chk_dec (le_lim (by simp; omega))]
  rfl
theorem mild_app {a : Int} {l m : List Ev} (h1 : ∀ e ∈ l, Mild a e) (h2 : ∀ e ∈ m, Mild a e) : ∀ e ∈ l ++ m, Mild a e := by
  intro e he
  rcases List.mem_append.mp he with h | h
  · exact h1 e h
  · exact h2 e h
theorem mild_zero {a : Int} {l : List Ev} (h : ∀ e ∈ l, Mild 0 e) : ∀ e ∈ l, Mild a e := by
  intro e he
  obtain ⟨h1, h2, h3⟩ := h e he
  exact ⟨h1, Or.inr (by omega), h3⟩
theorem enum_mild (a t : Int) : ∀ e ∈ enumL a t, Mild a e := by
  unfold enumL
  refine mild_app (mild_app (mild_app ?_ (mild_zero (trL_mild 0 _))) (trL_mild a _)) ?_
  · intro e he
    rw [List.mem_singleton.mp he]
    exact ⟨by simp [resetE], Or.inr rfl, by decide, by decide, rfl, rfl, Or.inl rfl, rfl⟩
  · split
    · intro e he; cases he
    · exact trL_mild a _
theorem rec_mild (a : Int) : ∀ e ∈ recL a, Mild a e := mild_app (mild_app (trL_mild a _) (trL_mild a _)) (trL_mild a _)
theorem enum_len (a t : Int) : (enumL a t).length ≤ 5000 := by
  have b1 := trL_len 0 (0, 5, a, 0, 0, ())
  have b2 := trL_len a (0, 9, 1, 0, 0, ())
  have b3 := trL_len a (1, 11, t, 0, 0, ())
  unfold enumL
  split <;> simp <;> omega
theorem rec_len (a : Int) : (recL a).length ≤ 5000 := by
  have b1 := trL_len a (33, 255, 0, 0, 0, ())
  have b2 := trL_len a (2, 1, 0, 129, 0, ())
  have b3 := trL_len a (2, 1, 0, 2, 0, ())
  unfold recL
  simp only [List.length_append]; omega
theorem HostBegins_pure (x) : reticulelaw27_HostBegins x = some true := by
  obtain ⟨a, t⟩ := x
  simp only [reticulelaw27_HostBegins, alive_ok, Option.bind_some, Bool.not_true, cond_false, enum_eq, ref_enum_eq, rec_eq, ref_rec_eq,
    same_self _ (Nat.le_trans (enum_len a t) (by decide)) (mild_lim (enum_mild a t)), same_self _ (Nat.le_trans (rec_len a) (by decide)) (mild_lim (rec_mild a)), cond_true]
theorem wrap_eq (a t : Int) (c : Cb.Cbw) : host_Wrapper (a, t, c) = some (if Cb.okC c then ((3, a, 2, 0, t, false, 0, 0#64, Cb.bytesC c, ()), true) else ((0, 0, 0, 0, 0, false, 0, 0#64, ([] : List (BitVec 8)), ()), false)) := by
  simp only [host_Wrapper, Cb.bytes_eq, Option.bind_some]
  by_cases h : Cb.okC c
  · simp only [if_pos h, Bool.not_true, cond_false, host_send, Option.bind_some]
  · simp only [if_neg h, Bool.not_false, cond_true]
theorem ref_wrap_eq (a t : Int) (c : Cb.Cbw) : reticuleref27_Wrapper (a, t, c) = some (if Cb.okC c then ((3, a, 2, 0, t, false, 0, 0#64, Cb.bytesC c, ()), true) else ((0, 0, 0, 0, 0, false, 0, 0#64, ([] : List (BitVec 8)), ()), false)) := by
  simp only [reticuleref27_Wrapper, Cb.ref_bytes, Option.bind_some]
  by_cases h : Cb.okC c
  · simp only [if_pos h, Bool.not_true, cond_false]
  · simp only [if_neg h, Bool.not_false, cond_true]
theorem fill_loop (c : Cb.Cbw) (hw m : Int × (Int × (Int × (Int × Unit)))) (e f : Ev) (ok is : Bool) (hc : c.2.2.2.2.1.length ≤ 100) : ∀ (k i n : Nat) (t : Tk), i + k = 16 → k < n → t.2.2.1.length = 16 →
    ∃ t' : Tk, t'.2.2.1.length = 16 ∧ reticulelaw27_HostAsks_L0 n (c, hw, m, e, ok, f, is, t, (i : Int)) = some (Sum.inl (hw, m, e, ok, f, is, t')) := by
  intro k
  induction k with
  | zero =>
    intro i n t hi hn ht
    obtain ⟨n, rfl⟩ := Nat.exists_eq_succ_of_ne_zero (show n ≠ 0 by omega)
    have h1 : ¬ ((i : Int) < 16) := by omega
    refine ⟨t, ht, ?_⟩
    simp only [reticulelaw27_HostAsks_L0, decide_eq_false h1, cond_false, Option.bind_some]
  | succ k ih =>
    intro i n t hi hn ht
    obtain ⟨n, rfl⟩ := Nat.exists_eq_succ_of_ne_zero (show n ≠ 0 by omega)
    have h1 : ((i : Int) < 16) := by omega
    by_cases h2 : i < c.2.2.2.2.1.length
    · have h2' : ((i : Int) < (c.2.2.2.2.1.length : Int)) := by omega
      obtain ⟨t1, t2, cd, r⟩ := t
      simp only at ht
      obtain ⟨t', hl, h'⟩ := ih (i + 1) n (t1, t2, cd.set i (c.2.2.2.2.1[i]), r) (by omega) (by omega) (by simp [ht])
      refine ⟨t', hl, ?_⟩
      rw [← h', ← w64_succ i (by omega)]
      have hg : i < cd.length := by omega
      simp only [reticulelaw27_HostAsks_L0, decide_eq_true h1, decide_eq_true h2', cond_true, Option.bind_some, ix_at _ i h2, chk_true (inLen_nat (show i < 16 by omega)), Int.toNat_natCast, List.getElem?_eq_getElem hg, Option.map_some]
    · have h2' : ¬ ((i : Int) < (c.2.2.2.2.1.length : Int)) := by omega
      refine ⟨t, ht, ?_⟩
      simp only [reticulelaw27_HostAsks_L0, decide_eq_true h1, decide_eq_false h2', cond_true, cond_false, Option.bind_some]
theorem cmdB_len (t : Tk) (h : t.2.2.1.length = 16) : (cmdB t).length = 32 := by simp [cmdB, placeB, h]
theorem HostAsks_pure (x) : reticulelaw27_HostAsks x = some true := by
  obtain ⟨c, ⟨a, tg, ep, st, u⟩, m⟩ := x
  by_cases h100 : (100 : Int) < (c.2.2.2.2.1.length : Int)
  · simp only [reticulelaw27_HostAsks, alive_ok, Option.bind_some, Bool.not_true, cond_false, decide_eq_true h100, cond_true]
  simp only [reticulelaw27_HostAsks, alive_ok, Option.bind_some, Bool.not_true, cond_false, decide_eq_false h100, wrap_eq, ref_wrap_eq]
  generalize hW : (if Cb.okC c then (((3, a, 2, 0, tg, false, 0, 0#64, Cb.bytesC c, ()) : Ev), true) else (((0, 0, 0, 0, 0, false, 0, 0#64, ([] : List (BitVec 8)), ()) : Ev), false)) = W
  have hWl : W.1.2.2.2.2.2.2.2.2.1.length ≤ lim := by
    rw [← hW]
    split
    · rename_i h; simp only [Cb.bytesC_len c h]; exact le_lim (by decide)
    · simp
  obtain ⟨t', hl, hL⟩ := fill_loop c (a, tg, ep, st, u) m W.1 W.1 W.2 W.2 (by omega) 16 0 Big (m.1, (m.2.2.2.1, (List.replicate 16 (0#8), (0, ([], (((0, (0#64, (0, (0, (0, ()))))), (0, (0, ([], ((0, (0, (0, ()))), ()))))), ((0, (0, (0, ()))), ()))))))) (by omega) (big_lt (by omega)) (by simp)
  simp only [Int.natCast_zero] at hL
  have o1 := one_self W.1 hWl
  have o2 := one_self (3, a, 4, 0, tg, false, 0, 0#64, cmdB t', ()) (by show (cmdB t').length ≤ lim; rw [cmdB_len t' hl]; exact le_lim (by decide))
  have o3 := one_self (3, a, 4, 0, tg, false, 0, 0#64, manB m, ()) (le_lim (by simp [manB, placeB]))
  have o4 := one_self (4, a, ep, st, 0, true, 0, 0#64, [], ()) (le_lim (by simp))
  rw [hL]
  simp only [jn_inl, o1, Option.bind_some, Bool.not_true, cond_false, decide_true, host_Command, reticuleref27_Command, putCommand_eq t' (by omega), ref_putCommand_eq t' hl, host_send, o2, host_Manage, reticuleref27_Manage, putManage_eq, ref_putManage_eq, o3, cond_true, host_Ask, reticuleref27_Ask, o4]
theorem count_loop (n16 : BitVec 16) (l : List Ev) (hl : l.length ≤ 2147483648) : ∀ (k i n c : Nat), i + k = l.length → k < n → c ≤ i →
    reticulelaw27_HostPackets_L0 n (n16, l, (c : Int), (i : Int)) = some (Sum.inl (n16, l, ((c + ((l.drop i).filter fun e => decide (e.1 = 4)).length : Nat) : Int))) := by
  intro k
  induction k with
  | zero =>
    intro i n c hi hn hc
    obtain ⟨n, rfl⟩ := Nat.exists_eq_succ_of_ne_zero (show n ≠ 0 by omega)
    have h1 : ¬ ((i : Int) < (l.length : Int)) := by omega
    simp only [reticulelaw27_HostPackets_L0, decide_eq_false h1, cond_false]
    rw [List.drop_of_length_le (by omega)]; rfl
  | succ k ih =>
    intro i n c hi hn hc
    obtain ⟨n, rfl⟩ := Nat.exists_eq_succ_of_ne_zero (show n ≠ 0 by omega)
    have h1 : ((i : Int) < (l.length : Int)) := by omega
    have hi' : i < l.length := by omega
    have hd : l.drop i = l[i] :: l.drop (i + 1) := List.drop_eq_getElem_cons hi'
    simp only [reticulelaw27_HostPackets_L0, decide_eq_true h1, cond_true, chk_true (inLen_nat hi'), Option.bind_some, Int.toNat_natCast, List.getElem?_eq_getElem hi']
    by_cases h4 : l[i].1 = 4
    · simp only [decide_eq_true h4, cond_true, jn_inl, w64_succ i (by omega), w64_succ c (by omega)]
      rw [ih (i + 1) n (c + 1) (by omega) (by omega) (by omega), hd, List.filter_cons_of_pos (by simp [h4]), List.length_cons, Nat.add_assoc c 1, Nat.add_comm 1]
    · simp only [decide_eq_false h4, cond_false, jn_inl, w64_succ i (by omega)]
      rw [ih (i + 1) n c (by omega) (by omega) (by omega), hd, List.filter_cons_of_neg (by simp [h4])]
theorem packs (n : Nat) : ∃ N : Nat, ((n : Int) + 63) / 64 = (N : Int) := ⟨(((n : Int) + 63) / 64).toNat, by omega⟩
theorem HostPackets_pure (x) : reticulelaw27_HostPackets x = some true := by
  obtain ⟨ad, n16⟩ := x
  have hn := n16.isLt
  have hok : Su.okR (128, 6, 0, 0, (n16.toNat : Int), ()) := by
    unfold Su.okR; simp only; omega
  have hlen := trL_len (ad.toNat : Int) (128, 6, 0, 0, (n16.toNat : Int), ())
  unfold reticulelaw27_HostPackets
  rw [alive_ok, Option.bind_some, Bool.not_true, cond_false, transfer_eq, Option.bind_some]
  have L := count_loop n16 (trL (ad.toNat : Int) (128, 6, 0, 0, (n16.toNat : Int), ())) (by omega) _ 0 Big 0 (Nat.zero_add _) (big_lt (by omega)) (by omega)
  simp only [Int.natCast_zero, List.drop_zero, Nat.zero_add] at L
  rw [L, jn_inl]
  clear L
  show (bif decide (n16 = 0#16) then _ else _) = some true
  by_cases h0 : n16 = 0#16
  · subst h0
    have e : trL (ad.toNat : Int) (128, 6, 0, 0, ((0#16).toNat : Int), ()) = [setupE (ad.toNat : Int) (Su.bytesR (128, 6, 0, 0, ((0#16).toNat : Int), ())), askE (ad.toNat : Int) 0 0] := by
      unfold trL
      rw [if_pos hok, if_pos (by unfold Su.dirR; rw [if_neg (by simp)])]
    rw [e]
    simp [setupE, askE]
  · have hne : n16.toNat ≠ 0 := fun h => h0 (BitVec.eq_of_toNat_eq (by rw [h]; rfl))
    have hd : Su.dirR (128, 6, 0, 0, (n16.toNat : Int), ()) = 1 := by
      unfold Su.dirR
      rw [if_pos ⟨hok, by show (n16.toNat : Int) ≠ 0; omega⟩, if_pos (Int.le_refl 128)]
    obtain ⟨N, hN⟩ := packs n16.toNat
    have e : trL (ad.toNat : Int) (128, 6, 0, 0, (n16.toNat : Int), ()) = setupE (ad.toNat : Int) (Su.bytesR (128, 6, 0, 0, (n16.toNat : Int), ())) :: (List.replicate N (askE (ad.toNat : Int) 0 0) ++ [statE (ad.toNat : Int)]) := by
      unfold trL
      rw [if_pos hok, hd, if_neg (by decide), if_neg (by decide)]
      simp only [hN, Int.toNat_natCast]
    have hcount : ((trL (ad.toNat : Int) (128, 6, 0, 0, (n16.toNat : Int), ())).filter fun e => decide (e.1 = 4)).length = N := by
      rw [e]
      simp [List.filter_append, List.filter_replicate, setupE, askE, statE]
    have hlen2 : (trL (ad.toNat : Int) (128, 6, 0, 0, (n16.toNat : Int), ())).length = N + 2 := by rw [e]; simp
    have w1 : w64 ((N : Int) + 2) = (N : Int) + 2 := w64_in (by omega) (by omega)
    have w2 : w64 ((64 : Int) * (N : Int)) = (64 : Int) * (N : Int) := w64_in (by omega) (by omega)
    have w3 : w64 ((n16.toNat : Int) + 64) = (n16.toNat : Int) + 64 := w64_in (by omega) (by omega)
    have a1 : ((N + 2 : Nat) : Int) = (N : Int) + 2 := by omega
    have a2 : (n16.toNat : Int) ≤ (64 : Int) * (N : Int) := by omega
    have a3 : (64 : Int) * (N : Int) < (n16.toNat : Int) + 64 := by omega
    simp only [hcount, hlen2, decide_eq_false h0, cond_false, w1, w2, w3, decide_eq_true a1, decide_eq_true a2, decide_eq_true a3, cond_true, Option.bind_some]
theorem right_mild (a : Int) (ha : 0 ≤ a ∧ a ≤ 127) (e : Ev) (h : Mild a e) : reticuleref13_Right e = some true := by
  obtain ⟨h1, h2, h3, h4, h5, h6, h7, h8⟩ := h
  have n1 : ¬ (e.1 < 1) := by omega
  have n2 : ¬ (8 < e.1) := by omega
  have n3 : ¬ (e.2.1 < 0) := by omega
  have n4 : ¬ (127 < e.2.1) := by omega
  have n5 : ¬ (e.2.2.1 < 0) := by omega
  have n6 : ¬ (15 < e.2.2.1) := by omega
  have n7 : ¬ (e.2.2.2.1 < 0) := by omega
  have n8 : ¬ (65535 < e.2.2.2.1) := by omega
  have p1 : 0 ≤ e.2.2.2.2.2.2.1 := by omega
  have p2 : e.2.2.2.2.2.2.1 ≤ 255 := by omega
  have p3 : (e.2.2.2.2.2.2.2.2.1.length : Int) ≤ 1024 := by omega
  simp only [reticuleref13_Right, decide_eq_false n1, decide_eq_false n2, decide_eq_false n3, decide_eq_false n4, decide_eq_false n5, decide_eq_false n6, decide_eq_false n7, decide_eq_false n8, cond_false, Option.bind_some]
  rcases h7 with h7 | h7
  · simp only [decide_eq_true h7, cond_true, Option.bind_some, decide_eq_true p1, decide_eq_true p2, decide_eq_true p3]
  · have : ¬ (e.2.2.2.2.1 = 0) := by omega
    simp only [decide_eq_false this, cond_false, decide_eq_true h7, cond_true, Option.bind_some, decide_eq_true p1, decide_eq_true p2, decide_eq_true p3]
theorem right_loop (a : Int) (ha : 0 ≤ a ∧ a ≤ 127) (l : List Ev) (hl : l.length ≤ 2147483648) (h : ∀ e ∈ l, Mild a e) : ∀ k i n, i + k = l.length → k < n →
    reticulelaw27_HostRight_L0 n (l, (i : Int)) = some (Sum.inl l) := by
  intro k
  induction k with
  | zero =>
    intro i n hi hn
    obtain ⟨n, rfl⟩ := Nat.exists_eq_succ_of_ne_zero (show n ≠ 0 by omega)
    have h1 : ¬ ((i : Int) < (l.length : Int)) := by omega
    simp only [reticulelaw27_HostRight_L0, decide_eq_false h1, cond_false]
  | succ k ih =>
    intro i n hi hn
    obtain ⟨n, rfl⟩ := Nat.exists_eq_succ_of_ne_zero (show n ≠ 0 by omega)
    have h1 : ((i : Int) < (l.length : Int)) := by omega
    have hi' : i < l.length := by omega
    rw [← ih (i + 1) n (by omega) (by omega), ← w64_succ i (by omega)]
    simp only [reticulelaw27_HostRight_L0, decide_eq_true h1, cond_true, chk_true (inLen_nat hi'), Int.toNat_natCast, List.getElem?_eq_getElem hi', Option.bind_some, right_mild a ha l[i] (h _ (List.getElem_mem hi')), Bool.not_true, cond_false]
theorem tr_two (a : Int) (r : Su.Rq) (h : Su.okR r) (h0 : r.2.2.2.2.1 = 0) : (trL a r).length = 2 := by
  unfold trL
  rw [if_pos h, if_pos (by unfold Su.dirR; rw [if_neg (by simp [h0])])]; rfl
theorem HostRight_pure (x) : reticulelaw27_HostRight x = some true := by
  obtain ⟨ad, al, r⟩ := x
  have ha := ad.isLt
  have hb := al.isLt
  unfold reticulelaw27_HostRight
  rw [alive_ok, Option.bind_some, Bool.not_true, cond_false, transfer_eq, Option.bind_some]
  show (chk _).bind _ = _
  generalize hA : (ad.toNat : Int).tmod 128 = A
  have hA2 : 0 ≤ A ∧ A ≤ 127 := by rw [← hA, Int.tmod_eq_emod_of_nonneg (by omega)]; omega
  generalize hT : (al.toNat : Int).tmod 2 = T
  have l1 := trL_len A r
  have l2 := enum_len A T
  have l3 := rec_len A
  have c1 : ([] : List Ev).length + (trL A r).length ≤ lim := le_lim (by simp only [List.length_nil]; omega)
  have c2 : ([] ++ trL A r).length + (enumL A T).length ≤ lim := le_lim (by rw [List.nil_append]; omega)
  have c3 : (([] ++ trL A r) ++ enumL A T).length + (recL A).length ≤ lim := le_lim (by rw [List.nil_append]; simp only [List.length_append]; omega)
  rw [chk_dec c1, Option.bind_some, enum_eq, Option.bind_some, chk_dec c2, Option.bind_some, rec_eq, Option.bind_some, chk_dec c3, Option.bind_some, List.nil_append]
  have L := right_loop A hA2 (trL A r ++ enumL A T ++ recL A) (by simp only [List.length_append]; omega) (mild_app (mild_app (trL_mild A r) (enum_mild A T)) (rec_mild A)) _ 0 Big (Nat.zero_add _) (big_lt (by simp only [List.length_append]; omega))
  simp only [Int.natCast_zero] at L
  rw [L, jn_inl]
  have e1 : 5 ≤ (enumL A T).length := by
    have t1 := tr_two 0 (0, 5, A, 0, 0, ()) (by unfold Su.okR; simp only; omega) rfl
    have t2 := tr_two A (0, 9, 1, 0, 0, ()) (by decide) rfl
    unfold enumL
    simp only [List.length_append, t1, t2, List.length_cons, List.length_nil]; omega
  have e2 : (recL A).length = 6 := by
    have t1 := tr_two A (33, 255, 0, 0, 0, ()) (by decide) rfl
    have t2 := tr_two A (2, 1, 0, 129, 0, ()) (by decide) rfl
    have t3 := tr_two A (2, 1, 0, 2, 0, ()) (by decide) rfl
    unfold recL
    simp only [List.length_append, t1, t2, t3]
  congr 1
  apply decide_eq_true
  simp only [List.length_append]; omega
end Go.Proofs.Ytnhcdenlbabelaa
