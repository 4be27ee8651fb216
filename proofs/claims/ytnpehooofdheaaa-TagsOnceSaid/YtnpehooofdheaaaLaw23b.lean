/- The plain law of chapter 23's many calls: each answer is true. -/
import Derived.Test.YtnpehooofdheaaaLaw23
namespace Go.Proofs.Ytnpehooofdheaaa
open Go Go.Re
set_option linter.unusedVariables false
set_option linter.unusedSimpArgs false
abbrev Cl := Int × (Int × (Int × Unit))
theorem without_loop (l : List Int) (c : Int) (hl : l.length ≤ 2147483640) : ∀ k i n, i + k = l.length → k < n → reticulelaw23_without_L0 n (l, c, (l.take i).filter (fun x => !decide (x = c)), (i : Int)) = some (Sum.inl (l.filter (fun x => !decide (x = c)))) := by
  intro k
  induction k with
  | zero =>
    intro i n hi hn
    obtain ⟨n, rfl⟩ := Nat.exists_eq_succ_of_ne_zero (show n ≠ 0 by omega)
    have h : ¬ ((i : Int) < (l.length : Int)) := by omega
    simp only [reticulelaw23_without_L0, decide_eq_false h, cond_false]
    rw [List.take_of_length_le (by omega)]
  | succ k ih =>
    intro i n hi hn
    obtain ⟨n, rfl⟩ := Nat.exists_eq_succ_of_ne_zero (show n ≠ 0 by omega)
    have h : ((i : Int) < (l.length : Int)) := by omega
    have hi' : i < l.length := by omega
    have ih' := ih (i + 1) n (by omega) (by omega)
    have e : (l.take (i + 1)).filter (fun x => !decide (x = c)) = (l.take i).filter (fun x => !decide (x = c)) ++ ([l[i]]).filter (fun x => !decide (x = c)) := by
      rw [List.take_add_one, List.getElem?_eq_getElem hi', List.filter_append]; rfl
    have hle : ((l.take i).filter (fun x => !decide (x = c))).length ≤ i := by
      have := List.length_filter_le (fun x => !decide (x = c)) (l.take i)
      rw [List.length_take] at this; omega
    have hc : ∀ x : Int, ((l.take i).filter (fun x => !decide (x = c))).length + ([x] : List Int).length ≤ lim := fun x => le_lim (by rw [List.length_singleton]; omega)
    rw [e, ← w64_succ i (by omega)] at ih'
    simp only [reticulelaw23_without_L0, decide_eq_true h, cond_true, ix_at l i hi', Option.bind_some]
    cases hq : decide (l[i] = c) with
    | true =>
      have : ([l[i]]).filter (fun x => !decide (x = c)) = [] := by simp [hq]
      rw [this, List.append_nil] at ih'
      simp only [Bool.not_true, cond_false, jn_inl]; exact ih'
    | false =>
      have : ([l[i]]).filter (fun x => !decide (x = c)) = [l[i]] := by simp [hq]
      rw [this] at ih'
      simp only [Bool.not_false, cond_true, chk_dec (hc _), Option.bind_some, jn_inl]; exact ih'
theorem without_eq (l : List Int) (c : Int) (hl : l.length ≤ 2147483640) : reticulelaw23_without (l, c) = some (l.filter (fun x => !decide (x = c))) := by
  have L := without_loop l c hl l.length 0 Big (by omega) (big_lt (by omega))
  rw [Int.natCast_zero, List.take_zero] at L
  have L' : reticulelaw23_without_L0 Big (l, c, [], 0) = some (Sum.inl (l.filter (fun x => !decide (x = c)))) := L
  simp only [reticulelaw23_without, L', jn_inl]
theorem has_loop (l : List Int) (c : Int) (hl : l.length ≤ 2147483648) : ∀ k i n, i + k = l.length → k < n →
    reticuleref01_Has_L0 n (l, c, (i : Int)) = some (if c ∈ l.drop i then Sum.inr true else Sum.inl ()) := by
  intro k
  induction k with
  | zero =>
    intro i n hi hn
    obtain ⟨n, rfl⟩ := Nat.exists_eq_succ_of_ne_zero (show n ≠ 0 by omega)
    have h : ¬ ((i : Int) < (l.length : Int)) := by omega
    simp only [reticuleref01_Has_L0, decide_eq_false h, cond_false]
    rw [List.drop_of_length_le (by omega)]; simp
  | succ k ih =>
    intro i n hi hn
    obtain ⟨n, rfl⟩ := Nat.exists_eq_succ_of_ne_zero (show n ≠ 0 by omega)
    have h : ((i : Int) < (l.length : Int)) := by omega
    have hi' : i < l.length := by omega
    have hd : l.drop i = l[i] :: l.drop (i + 1) := List.drop_eq_getElem_cons hi'
    simp only [reticuleref01_Has_L0, decide_eq_true h, cond_true, ix_at l i hi', Option.bind_some]
    rw [hd]
    by_cases hq : l[i] = c
    · rw [decide_eq_true hq, cond_true, if_pos (by rw [hq]; exact List.mem_cons_self ..)]
    · rw [decide_eq_false hq, cond_false, w64_succ i (by omega), ih (i + 1) n (by omega) (by omega)]
      congr 1
      simp only [List.mem_cons, show ¬ (c = l[i]) from fun e => hq e.symm, false_or]
theorem has_eq (l : List Int) (c : Int) (hl : l.length ≤ 2147483648) : reticuleref01_Has (l, c) = some (decide (c ∈ l)) := by
  have L := has_loop l c hl l.length 0 Big (by omega) (big_lt (by omega))
  rw [Int.natCast_zero, List.drop_zero] at L
  simp only [reticuleref01_Has, L]
  by_cases h : c ∈ l
  · rw [if_pos h, decide_eq_true h]; rfl
  · rw [if_neg h, decide_eq_false h]; rfl
/-- none of those that are left is one of those that go -/
theorem once_inner (cs : List Cl) (d : Int) (l : List Tk) (ths : List Int) (o : Int) (c : Cl) (hl : l.length ≤ 2147483648) (hs : ∀ t ∈ l, sP c.2.2.1 t = false) : ∀ k i n, i + k = l.length → k < n →
    reticulelaw23_TagsOnce_L1 n (cs, d, l, ths, o, c, (i : Int)) = some (Sum.inl (cs, d, l, ths, o)) := by
  intro k
  induction k with
  | zero =>
    intro i n hi hn
    obtain ⟨n, rfl⟩ := Nat.exists_eq_succ_of_ne_zero (show n ≠ 0 by omega)
    have h : ¬ ((i : Int) < (l.length : Int)) := by omega
    simp only [reticulelaw23_TagsOnce_L1, decide_eq_false h, cond_false]
  | succ k ih =>
    intro i n hi hn
    obtain ⟨n, rfl⟩ := Nat.exists_eq_succ_of_ne_zero (show n ≠ 0 by omega)
    have h : ((i : Int) < (l.length : Int)) := by omega
    have hi' : i < l.length := by omega
    have hq := hs l[i] (List.getElem_mem hi')
    unfold sP at hq
    rw [Bool.or_eq_false_iff] at hq
    rw [← ih (i + 1) n (by omega) (by omega), ← w64_succ i (by omega)]
    simp only [reticulelaw23_TagsOnce_L1, decide_eq_true h, cond_true, ix_at l i hi', Option.bind_some, or_chain, hq.1, hq.2, Bool.or_self, cond_false]
/-- what stays true from call to call -/
structure Inv (d : Nat) (l : List Tk) (ths : List Int) : Prop where
  good : Good l
  len : l.length ≤ d
  tags : ths = tagL l
theorem good_filter {l : List Tk} (h : Good l) (p : Tk → Bool) : Good (l.filter p) := by
  rw [good_nodup] at h ⊢
  refine ⟨fun t ht => h.1 t (List.mem_filter.1 ht).1, ?_⟩
  exact List.Nodup.sublist (List.Sublist.map _ List.filter_sublist) h.2
theorem once_check {d : Nat} {l : List Tk} {ths : List Int} (hd : d ≤ 8) (h : Inv d l ths) : ((tags_Right l).bind fun r16 =>
      (bif !r16 then some true else some (decide ((d : Int) < (l.length : Int))) : Option Bool).bind fun b17 =>
      (bif b17 then some true else
          (tags_Tags l).bind fun r18 => (reticuleref01_Ints (r18, ths)).bind fun r19 => some (!r19) : Option Bool).bind fun b20 => some b20) = some false := by
  have hl := h.len
  obtain ⟨b, e1, e2⟩ := right_eq l (by omega)
  have hb : b = true := e2.2 ⟨by omega, h.good⟩
  subst hb
  have hn : ¬ ((d : Int) < (l.length : Int)) := by omega
  rw [e1, Option.bind_some, Bool.not_true, cond_false, decide_eq_false hn, Option.bind_some, cond_false, (tags_eq l (by omega)).1, Option.bind_some, h.tags, ints_self _ (by rw [tagL_len]; omega), Option.bind_some]
  rfl
theorem once_step (cs : List Cl) (d : Nat) (hd : 1 ≤ d ∧ d ≤ 8) (hcs : cs.length ≤ 1000) (l : List Tk) (ths : List Int) (h : Inv d l ths) (i n : Nat) (hi : i < cs.length) :
    ∃ l' ths', Inv d l' ths' ∧ reticulelaw23_TagsOnce_L0 (n + 1) (cs, (d : Int), l, ths, (i : Int)) = reticulelaw23_TagsOnce_L0 n (cs, (d : Int), l', ths', ((i + 1 : Nat) : Int)) := by
  have hlt : ((i : Int) < (cs.length : Int)) := by omega
  have hl := h.len
  have hg := h.good
  have ht := h.tags
  -- behind a call
  have fin : ∀ l' ths', Inv d l' ths' → ∀ K : Option (_ ⊕ (Unit ⊕ Bool)), K = some (Sum.inl (cs, (d : Int), l', ths', (i : Int))) →
      (jn (A := ((List Cl) × Int × (List Tk) × (List Int) × Int)) (R := (Unit ⊕ Bool)) K fun j15 =>
      (tags_Right j15.2.2.1).bind fun r16 =>
      (bif !r16 then some true else some (decide (j15.2.1 < (j15.2.2.1.length : Int))) : Option Bool).bind fun b17 =>
      (bif b17 then some true else
          (tags_Tags j15.2.2.1).bind fun r18 => (reticuleref01_Ints (r18, j15.2.2.2.1)).bind fun r19 => some (!r19) : Option Bool).bind fun b20 =>
      bif b20 then some (Sum.inr false) else
        reticulelaw23_TagsOnce_L0 n (j15.1, j15.2.1, j15.2.2.1, j15.2.2.2.1, w64 (j15.2.2.2.2 + 1))) = reticulelaw23_TagsOnce_L0 n (cs, (d : Int), l', ths', ((i + 1 : Nat) : Int)) := by
    intro l' ths' hv K hK
    subst hK
    rw [jn_inl]
    have hl' := hv.len
    obtain ⟨b, e1, e2⟩ := right_eq l' (by omega)
    have hb : b = true := e2.2 ⟨by omega, hv.good⟩
    subst hb
    have hn : ¬ ((d : Int) < (l'.length : Int)) := by omega
    show (tags_Right l').bind _ = _
    rw [e1, Option.bind_some, Bool.not_true, cond_false]
    show (some (decide ((d : Int) < (l'.length : Int)))).bind _ = _
    rw [decide_eq_false hn, Option.bind_some, cond_false]
    show ((tags_Tags l').bind fun r18 => (reticuleref01_Ints (r18, ths')).bind _).bind _ = _
    rw [(tags_eq l' (by omega)).1, Option.bind_some, hv.tags, ints_self _ (by rw [tagL_len]; omega), Option.bind_some, Option.bind_some]
    show reticulelaw23_TagsOnce_L0 n (cs, (d : Int), l', tagL l', w64 ((i : Int) + 1)) = _
    rw [w64_succ i (by omega)]
  obtain ⟨⟨kd, tg, ln, u⟩, hc⟩ : ∃ c : Cl, cs[i] = c := ⟨_, rfl⟩
  have hix : ix cs (i : Int) = some (kd, tg, ln, u) := by rw [ix_at cs i hi, hc]
  by_cases h1 : kd = 1
  · refine ⟨dropL l tg, ths.filter (fun x => !decide (x = tg)), ⟨good_filter hg _, Nat.le_trans (dropL_sub l tg).1 hl, ?_⟩, ?_⟩
    · rw [ht]; unfold tagL
      rw [List.filter_map]; rfl
    · conv => lhs; unfold reticulelaw23_TagsOnce_L0
      rw [show decide ((i : Int) < (cs.length : Int)) = true from decide_eq_true hlt, cond_true, hix, Option.bind_some]
      refine fin (dropL l tg) (ths.filter (fun x => !decide (x = tg))) ⟨good_filter hg _, Nat.le_trans (dropL_sub l tg).1 hl, ?_⟩ _ ?_
      · rw [ht]; unfold tagL
        rw [List.filter_map]; rfl
      · rw [show decide (kd = 1) = true from decide_eq_true h1, cond_true, drop_eq l tg (by omega), Option.bind_some, without_eq ths tg (by rw [ht, tagL_len]; omega), Option.bind_some]
  by_cases h2 : kd = 2
  · have hinv : Inv d (sweepL l ln) (tagL (sweepL l ln)) := ⟨good_filter hg _, Nat.le_trans (sweepL_sub l ln).1 hl, rfl⟩
    refine ⟨sweepL l ln, tagL (sweepL l ln), hinv, ?_⟩
    have hsl := (sweepL_sub l ln).1
    conv => lhs; unfold reticulelaw23_TagsOnce_L0
    rw [show decide ((i : Int) < (cs.length : Int)) = true from decide_eq_true hlt, cond_true, hix, Option.bind_some]
    refine fin _ _ hinv _ ?_
    have hin := once_inner cs (d : Int) (sweepL l ln) (tagL (sweepL l ln)) (i : Int) (kd, tg, ln, u) (by omega) (fun t hm => by
      have := (List.mem_filter.1 hm).2
      simpa using this) (sweepL l ln).length 0 Big (by omega) (big_lt (by omega))
    rw [Int.natCast_zero] at hin
    rw [show decide (kd = 1) = false from decide_eq_false h1, cond_false, show decide (kd = 2) = true from decide_eq_true h2, cond_true, sweep_eq l ln (by omega), Option.bind_some, (tags_eq _ (by omega)).1, Option.bind_some, hin, jn_inl]
  · -- one more
    let t : Tk := (tg, ln, List.replicate 16 (0#8), 0, ([] : BY), ((0, 0#64, 0, 0, 0, ()), 0, 0, ([] : BY), (0, 0, 0, ()), ()), (0, 0, 0, ()), ())
    have hadd := add_eq l t (d : Int) (by omega)
    have hm1 : (bif decide (1 ≤ tg) then some (decide (tg ≤ 65535)) else some false : Option Bool) = some (mayB tg) := by
      rw [and_chain]
      congr 1
      unfold mayB
      rw [Bool.eq_iff_iff, Bool.and_eq_true, decide_eq_true_eq, decide_eq_true_eq, decide_eq_true_eq]
    have hmem : decide (tg ∈ ths) = (pIx (fP tg) l).isSome := by
      rw [Bool.eq_iff_iff, decide_eq_true_eq, ht]
      cases hx : pIx (fP tg) l with
      | none =>
        have := pIx_none.1 hx
        simp only [Option.isSome_none, Bool.false_eq_true, iff_false]
        intro hmm
        obtain ⟨x, hx1, hx2⟩ := List.mem_map.1 hmm
        have := this x hx1
        unfold fP at this
        rw [decide_eq_false_iff_not] at this
        exact this hx2
      | some j =>
        simp only [Option.isSome_some, iff_true]
        obtain ⟨_, hj, hp⟩ := pIx_take hx
        exact List.mem_map.2 ⟨l[j], List.getElem_mem hj, of_decide_eq_true hp⟩
    have hthl : ths.length = l.length := by rw [ht, tagL_len]
    have hhas := has_eq ths tg (by omega)
    have hstep : ∃ l' ths', Inv d l' ths' ∧ (bif decide (kd = 1) then
          (tags_Drop (l, tg)).bind fun r3 =>
          (reticulelaw23_without (ths, tg)).bind fun r4 =>
          some (Sum.inl (cs, (d : Int), r3, r4, (i : Int)))
        else
          bif decide (kd = 2) then
            (tags_Sweep (l, ln)).bind fun r5 =>
            (tags_Tags r5).bind fun r6 =>
            jn (A := ((List Cl) × Int × (List Tk) × (List Int) × Int)) (R := (((List Cl) × Int × (List Tk) × (List Int) × Int) ⊕ (Unit ⊕ Bool))) (reticulelaw23_TagsOnce_L1 Big (cs, (d : Int), r5, r6, (i : Int), (kd, tg, ln, u), 0)) fun q9 =>
            some (Sum.inl (q9.1, q9.2.1, q9.2.2.1, q9.2.2.2.1, q9.2.2.2.2))
          else
            (tags_Add (l, t, (d : Int))).bind fun r10 =>
            (bif decide (1 ≤ tg) then
                some (decide (tg ≤ 65535))
              else
                some false : Option Bool).bind fun b11 =>
            (bif b11 then
                (reticuleref01_Has (ths, tg)).bind fun r12 =>
                some (!r12)
              else
                some false : Option Bool).bind fun b13 =>
            (bif b13 then
                some (decide ((ths.length : Int) < (d : Int)))
              else
                some false : Option Bool).bind fun b14 =>
            bif !(decide ((decide (r10.2 = 0)) = b14)) then
              some (Sum.inr (Sum.inr false))
            else
              bif b14 then
                (chk (decide (([] : List Int).length + ths.length ≤ lim))).bind fun _ =>
                (chk (decide ((([] : List Int) ++ ths).length + ([tg] : List Int).length ≤ lim))).bind fun _ =>
                some (Sum.inl (cs, (d : Int), r10.1, (([] : List Int) ++ ths) ++ ([tg] : List Int), (i : Int)))
              else
                some (Sum.inl (cs, (d : Int), r10.1, ths, (i : Int)))) = some (Sum.inl (cs, (d : Int), l', ths', (i : Int))) := by
      rw [show decide (kd = 1) = false from decide_eq_false h1, cond_false, show decide (kd = 2) = false from decide_eq_false h2, cond_false, hadd, Option.bind_some, hm1, Option.bind_some, hhas, hmem]
      unfold addR
      cases hm : mayB tg with
      | false =>
        rw [if_neg Bool.false_ne_true]
        exact ⟨l, ths, h, rfl⟩
      | true =>
        rw [if_pos rfl]
        cases hx : pIx (fP tg) l with
        | some j =>
          exact ⟨l, ths, h, rfl⟩
        | none =>
          by_cases hf : (d : Int) ≤ (l.length : Int) ∨ 8 ≤ l.length
          · have hnl : ¬ ((ths.length : Int) < (d : Int)) := by omega
            refine ⟨l, ths, h, ?_⟩
            show ((some _).bind fun b13 => (bif b13 then some (decide ((ths.length : Int) < (d : Int))) else some false : Option Bool).bind _) = _
            rw [decide_eq_false hnl]
            show (bif !(decide ((decide ((if (d : Int) ≤ (l.length : Int) ∨ 8 ≤ l.length then (l, (6 : Int)) else (l ++ [t], 0)).2 = 0)) = false)) then _ else _) = _
            rw [if_pos hf]; rfl
          · have hnl : ((ths.length : Int) < (d : Int)) := by omega
            have c1 : ([] : List Int).length + ths.length ≤ lim := le_lim (by simp; omega)
            have c2 : (([] : List Int) ++ ths).length + ([tg] : List Int).length ≤ lim := le_lim (by simp; omega)
            refine ⟨l ++ [t], ths ++ [tg], ⟨?_, by simp; omega, by rw [ht]; simp [tagL]; rfl⟩, ?_⟩
            · rw [good_nodup] at hg ⊢
              refine ⟨fun x hxm => ?_, ?_⟩
              · rcases List.mem_append.1 hxm with hxm | hxm
                · exact hg.1 x hxm
                · rw [List.mem_singleton.1 hxm]; exact hm
              · rw [List.map_append, List.nodup_append]
                refine ⟨hg.2, by simp, fun a ha b hb hab => ?_⟩
                have hb' : b = tg := by simpa using hb
                subst hb'
                obtain ⟨y, hy1, hy2⟩ := List.mem_map.1 ha
                have := pIx_none.1 hx y hy1
                unfold fP at this
                rw [decide_eq_false_iff_not] at this
                exact this (hy2.trans hab)
            · show ((some _).bind fun b13 => (bif b13 then some (decide ((ths.length : Int) < (d : Int))) else some false : Option Bool).bind _) = _
              rw [decide_eq_true hnl]
              show (bif !(decide ((decide ((if (d : Int) ≤ (l.length : Int) ∨ 8 ≤ l.length then (l, (6 : Int)) else (l ++ [t], 0)).2 = 0)) = true)) then _ else (bif true then _ else _)) = _
              rw [if_neg hf]
              show (chk _).bind _ = _
              rw [chk_dec c1, Option.bind_some, chk_dec c2, Option.bind_some]; rfl
    obtain ⟨l', ths', hv, hK⟩ := hstep
    refine ⟨l', ths', hv, ?_⟩
    conv => lhs; unfold reticulelaw23_TagsOnce_L0
    rw [show decide ((i : Int) < (cs.length : Int)) = true from decide_eq_true hlt, cond_true, hix, Option.bind_some]
    exact fin l' ths' hv _ hK
theorem once_loop (cs : List Cl) (d : Nat) (hd : 1 ≤ d ∧ d ≤ 8) (hcs : cs.length ≤ 1000) : ∀ k i n l ths, i + k = cs.length → k < n → Inv d l ths → reticulelaw23_TagsOnce_L0 n (cs, (d : Int), l, ths, (i : Int)) = some (Sum.inl ()) := by
  intro k
  induction k with
  | zero =>
    intro i n l ths hi hn hv
    obtain ⟨n, rfl⟩ := Nat.exists_eq_succ_of_ne_zero (show n ≠ 0 by omega)
    have h : ¬ ((i : Int) < (cs.length : Int)) := by omega
    unfold reticulelaw23_TagsOnce_L0
    rw [show decide ((i : Int) < (cs.length : Int)) = false from decide_eq_false h, cond_false]
  | succ k ih =>
    intro i n l ths hi hn hv
    obtain ⟨n, rfl⟩ := Nat.exists_eq_succ_of_ne_zero (show n ≠ 0 by omega)
    obtain ⟨l', ths', hv', e⟩ := once_step cs d hd hcs l ths hv i n (by omega)
    exact e.trans (ih (i + 1) n l' ths' (by omega) (by omega) hv')
theorem TagsOnce_pure (x) : reticulelaw23_TagsOnce x = some true := by
  obtain ⟨cs, dp⟩ := x
  unfold reticulelaw23_TagsOnce
  rw [alive_ok, Option.bind_some, Bool.not_true, cond_false]
  by_cases h : (60 : Int) < (cs.length : Int)
  · rw [show decide ((60 : Int) < (cs.length : Int)) = true from decide_eq_true h, cond_true]
  rw [show decide ((60 : Int) < (cs.length : Int)) = false from decide_eq_false h, cond_false]
  obtain ⟨d, hd, hd2⟩ : ∃ d : Nat, w64 ((1 : Int) + ((dp.toNat : Int).tmod 8)) = (d : Int) ∧ 1 ≤ d ∧ d ≤ 8 := by
    refine ⟨1 + dp.toNat % 8, ?_, by omega, by omega⟩
    rw [Int.tmod_eq_emod_of_nonneg (by omega), w64_in] <;> omega
  have L := once_loop cs d hd2 (by omega) cs.length 0 Big [] [] (by omega) (big_lt (by omega)) ⟨trivial, by simp, rfl⟩
  rw [Int.natCast_zero] at L
  show jn (reticulelaw23_TagsOnce_L0 Big (cs, w64 ((1 : Int) + ((dp.toNat : Int).tmod 8)), [], [], 0)) _ = _
  rw [hd, L]; rfl
end Go.Proofs.Ytnpehooofdheaaa
