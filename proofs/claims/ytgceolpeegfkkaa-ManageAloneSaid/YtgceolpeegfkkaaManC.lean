/- Chapter 24: what comes of a management. -/
import Derived.Test.YtgceolpeegfkkaaManB
namespace Go.Proofs.Ytgceolpeegfkkaa
open Go Go.Re
set_option linter.unusedVariables false
set_option linter.unusedSimpArgs false
theorem rattend_loop (us : List Un) (lun : Int) (s : Sense) (hu : us.length ≤ 1000) (ha : ∀ u ∈ us, u.2.2.1.length ≤ 100) : ∀ k i n, i + k = us.length → k < n →
    reticuleref12_Attend_L0 n (lun, s, attW us (fun j => decide (j < i) && whoU lun j) s, (i : Int)) = some (Sum.inl (attU us lun s)) := by
  intro k
  induction k with
  | zero =>
    intro i n hi hn
    obtain ⟨n, rfl⟩ := Nat.exists_eq_succ_of_ne_zero (show n ≠ 0 by omega)
    have h : ¬ ((i : Int) < ((attW us (fun j => decide (j < i) && whoU lun j) s).length : Int)) := by rw [attW_len]; omega
    simp only [reticuleref12_Attend_L0, decide_eq_false h, cond_false]
    unfold attU
    refine congrArg (fun z => some (Sum.inl z)) (attW_ext fun j hj => ?_)
    rw [decide_eq_true (show j < i by omega), Bool.true_and]
  | succ k ih =>
    intro i n hi hn
    obtain ⟨n, rfl⟩ := Nat.exists_eq_succ_of_ne_zero (show n ≠ 0 by omega)
    have hi' : i < us.length := by omega
    have hil : i < (attW us (fun j => decide (j < i) && whoU lun j) s).length := by rw [attW_len]; exact hi'
    have h : ((i : Int) < ((attW us (fun j => decide (j < i) && whoU lun j) s).length : Int)) := by omega
    have hg : (attW us (fun j => decide (j < i) && whoU lun j) s)[i] = us[i] := by
      rw [attW_get us _ s i hi']
      simp
    have ih' := ih (i + 1) n (by omega) (by omega)
    rw [← w64_succ i (by omega)] at ih'
    have ha2 := (sn_add_eq us[i].2.2.1 s (ha _ (List.getElem_mem hi'))).2
    have hw : (decide ((i : Int) = lun) || decide (lun = -1)) = whoU lun i := rfl
    simp only [reticuleref12_Attend_L0, decide_eq_true h, cond_true, or_chain, Option.bind_some, hw]
    cases hq : whoU lun i with
    | true =>
      have hs : (attW us (fun j => decide (j < i) && whoU lun j) s).set i (att s us[i]) = attW us (fun j => decide (j < i + 1) && whoU lun j) s := by
        rw [attW_set us _ s i hi']
        refine attW_ext fun j hj => ?_
        by_cases hji : j = i
        · subst hji; rw [hq]; simp
        · rw [decide_eq_false hji, Bool.or_false]
          congr 1
          rw [Bool.eq_iff_iff, decide_eq_true_eq, decide_eq_true_eq]; omega
      simp only [cond_true, chk_true (inLen_nat hil), Int.toNat_natCast, List.getElem?_eq_getElem hil, Option.bind_some, hg, ha2, jn_inl]
      rw [show (us[i].1, us[i].2.1, addL us[i].2.2.1 s, us[i].2.2.2) = att s us[i] from rfl, hs]
      exact ih'
    | false =>
      simp only [cond_false, jn_inl]
      rw [attW_ext (q := fun j => decide (j < i + 1) && whoU lun j)]
      · exact ih'
      · intro j hj
        by_cases hji : j = i
        · subst hji; rw [hq]; simp
        · congr 1
          rw [Bool.eq_iff_iff, decide_eq_true_eq, decide_eq_true_eq]; omega
theorem rattend_eq (us : List Un) (lun : Int) (s : Sense) (hu : us.length ≤ 1000) (ha : ∀ u ∈ us, UnS u) : reticuleref12_Attend (us, lun, s) = some (attU us lun s) := by
  have L := rattend_loop us lun s hu (fun u hm => by have := (ha u hm).2.2; omega) us.length 0 Big (by omega) (big_lt (by omega))
  rw [Int.natCast_zero, attW_none (p := fun j => decide (j < 0) && whoU lun j) (fun j _ => by simp)] at L
  unfold reticuleref12_Attend
  rw [ucopy_eq us hu ha, Option.bind_some]
  show jn (reticuleref12_Attend_L0 Big (lun, s, us, 0)) _ = _
  rw [L, jn_inl]
def isU (us : List Un) (lun : Int) : Bool := decide (0 ≤ lun) && decide (lun < (us.length : Int))
/-- what comes of a management -/
def doU (x : Uas) (us : List Un) (m : Mg) : Uas × List Un × Int :=
  if (pIx (fP m.1) x.1).isSome = true then (dropU (tagL x.1) x, us, 10)
  else if m.2.1 = 16 then (([], [], ()), attU us (-1) (6, 41, 7, ()), 0)
  else if m.2.1 = 1 ∨ m.2.1 = 2 ∨ m.2.1 = 8 ∨ m.2.1 = 128 then
    if isU us m.2.2.2.1 = true then
      if m.2.1 = 1 then (dropU (if meantB x.1 m = true then [m.2.2.1] else []) x, us, 0)
      else if m.2.1 = 2 then (dropU (ofL m.2.2.2.1 x.1) x, us, 0)
      else if m.2.1 = 8 then (dropU (ofL m.2.2.2.1 x.1) x, attU us m.2.2.2.1 (6, 41, 3, ()), 0)
      else if meantB x.1 m = true then (x, us, 8) else (x, us, 0)
    else (x, us, 9)
  else (x, us, 4)
section
variable {x : Uas} {us : List Un} (h : AllS x us) (m : Mg)
theorem not_there (us : List Un) (lun : Int) : (decide (lun < 0) || decide ((us.length : Int) ≤ lun)) = !isU us lun := by
  unfold isU
  rw [Bool.eq_iff_iff, Bool.or_eq_true, Bool.not_eq_true', Bool.and_eq_false_iff, decide_eq_true_eq, decide_eq_true_eq, decide_eq_false_iff_not, decide_eq_false_iff_not]
  omega
include h in
theorem do_eq : manage_Do (x, us, m) = some (doU x us m) := by
  have htl := h.tl
  have hql := h.ql
  have hul := h.ul
  have hd : ∀ l : List Int, l.length ≤ 2147483648 → manage_Drop (x, l) = some (dropU l x) := fun l hl => mdrop_eq x l hl (by omega) (by omega)
  have hat : ∀ lun s, unit_Attend (us, lun, s) = some (attU us lun s) := fun lun s => attend_eq us lun s (by omega) (fun u hm => by have := (h.us u hm).2.2; omega)
  have hm := (meant_eq x m (by omega)).1
  have hof := (of_eq24 x.1 m.2.2.2.1 (by omega)).1
  have hol := ofL_len m.2.2.2.1 x.1
  unfold manage_Do doU
  rw [find_eq x.1 _ (by omega), Option.bind_some, ixV_some]
  cases hf : (pIx (fP m.1) x.1).isSome with
  | true =>
    rw [if_pos rfl, cond_true]
    rw [(tags_eq x.1 (by omega)).1, Option.bind_some]
    show (manage_Drop (x, tagL x.1)).bind _ = _
    rw [hd _ (by rw [tagL_len]; omega)]; rfl
  | false =>
    rw [cond_false, if_neg Bool.false_ne_true]
    obtain ⟨tag, f, task, lun, ⟨⟩⟩ := m
    show (bif decide (f = 16) then _ else _) = _
    by_cases h16 : f = 16
    · subst h16
      rw [decide_eq_true rfl, cond_true, if_pos rfl]
      show (unit_Attend (us, -1, (6, 41, 7, ()))).bind _ = _
      rw [hat]; rfl
    rw [decide_eq_false h16, cond_false, if_neg h16]
    have pre : ∀ (g : Int) (K : (List Un × Uas × Mg × Uas × Bool) → Option (Uas × List Un × Int)), jn (A := (List Un × Uas × Mg × Uas × Bool)) (R := (Uas × List Un × Int)) (bif decide (f = 1) then
          some (Sum.inl (us, x, ((tag, f, task, lun, ()) : Mg), (([], [], ()) : Uas), decide (f = 1)))
        else
          bif decide (f = 2) then
            some (Sum.inl (us, x, ((tag, f, task, lun, ()) : Mg), (([], [], ()) : Uas), decide (f = 2)))
          else
            bif decide (f = 8) then
              some (Sum.inl (us, x, ((tag, f, task, lun, ()) : Mg), (([], [], ()) : Uas), decide (f = 8)))
            else
              some (Sum.inl (us, x, ((tag, f, task, lun, ()) : Mg), (([], [], ()) : Uas), decide (f = 128)))) K = K (us, x, (tag, f, task, lun, ()), ([], [], ()), decide (f = 1 ∨ f = 2 ∨ f = 8 ∨ f = 128)) := by
      intro _ K
      by_cases h1 : f = 1
      · rw [decide_eq_true h1, cond_true, jn_inl, decide_eq_true (show f = 1 ∨ _ from .inl h1)]
      rw [decide_eq_false h1, cond_false]
      by_cases h2 : f = 2
      · rw [decide_eq_true h2, cond_true, jn_inl, decide_eq_true (show f = 1 ∨ f = 2 ∨ _ from .inr (.inl h2))]
      rw [decide_eq_false h2, cond_false]
      by_cases h8 : f = 8
      · rw [decide_eq_true h8, cond_true, jn_inl, decide_eq_true (show f = 1 ∨ f = 2 ∨ f = 8 ∨ _ from .inr (.inr (.inl h8)))]
      rw [decide_eq_false h8, cond_false, jn_inl]
      congr 5
      simp [h1, h2, h8]
    refine (pre 0 _).trans ?_
    show (bif decide (f = 1 ∨ f = 2 ∨ f = 8 ∨ f = 128) then _ else _) = _
    by_cases hv : f = 1 ∨ f = 2 ∨ f = 8 ∨ f = 128
    · rw [decide_eq_true hv, cond_true, if_pos hv]
      show ((bif decide (lun < 0) then some true else some (decide ((us.length : Int) ≤ lun)) : Option Bool).bind _) = _
      rw [or_chain, Option.bind_some, not_there]
      cases hu : isU us lun with
      | false => 
        rw [if_neg Bool.false_ne_true]
        rfl
      | true =>
        rw [if_pos rfl, Bool.not_true, cond_false]
        have hof' : manage_of (x.1, lun) = some (ofL lun x.1) := hof
        have hdo : manage_Drop (x, ofL lun x.1) = some (dropU (ofL lun x.1) x) := hd _ (by have : (ofL lun x.1).length ≤ x.1.length := hol; omega)
        have hm' : manage_meant (x, (tag, f, task, lun, ())) = some (if meantB x.1 (tag, f, task, lun, ()) = true then [task] else []) := hm
        show jn (bif decide (f = 1) then (manage_meant (x, (tag, f, task, lun, ()))).bind _ else bif decide (f = 2) then (manage_of (x.1, lun)).bind _ else bif decide (f = 8) then (manage_of (x.1, lun)).bind _ else bif decide (f = 128) then (manage_meant (x, (tag, f, task, lun, ()))).bind _ else _) _ = _
        by_cases h1 : f = 1
        · rw [decide_eq_true h1, cond_true, if_pos h1, hm', Option.bind_some]
          show jn ((manage_Drop (x, if meantB x.1 (tag, f, task, lun, ()) = true then [task] else [])).bind _) _ = _
          rw [hd _ (by split <;> simp)]; rfl
        rw [decide_eq_false h1, cond_false, if_neg h1]
        by_cases h2 : f = 2
        · rw [decide_eq_true h2, cond_true, if_pos h2, hof', Option.bind_some]
          show jn ((manage_Drop (x, ofL lun x.1)).bind _) _ = _
          rw [hdo]; rfl
        rw [decide_eq_false h2, cond_false, if_neg h2]
        by_cases h8 : f = 8
        · rw [decide_eq_true h8, cond_true, if_pos h8, hof', Option.bind_some]
          show jn ((manage_Drop (x, ofL lun x.1)).bind _) _ = _
          rw [hdo, Option.bind_some]
          show jn ((unit_Attend (us, lun, (6, 41, 3, ()))).bind _) _ = _
          rw [hat]; rfl
        rw [decide_eq_false h8, cond_false, if_neg h8]
        have h128 : f = 128 := by rcases hv with e | e | e | e <;> first | exact absurd e h1 | exact absurd e h2 | exact absurd e h8 | exact e
        rw [decide_eq_true h128, cond_true, hm', Option.bind_some]
        cases meantB x.1 (tag, f, task, lun, ()) <;> rfl
    · rw [decide_eq_false hv, cond_false, if_neg hv]
include h in
theorem rdo_eq : reticuleref24_Do (x, us, m) = some (doU x us m) := by
  have htl := h.tl
  have hql := h.ql
  have hul := h.ul
  have hd : ∀ l : List Int, l.length ≤ 2147483648 → reticuleref24_Drop (x, l) = some (dropU l x) := fun l hl => rdrop_eq x l hl (by omega) (by omega)
  have hat : ∀ lun s, reticuleref12_Attend (us, lun, s) = some (attU us lun s) := fun lun s => rattend_eq us lun s (by omega) h.us
  have hm := (meant_eq x m (by omega)).2
  have hof := (of_eq24 x.1 m.2.2.2.1 (by omega)).2
  have hol := ofL_len m.2.2.2.1 x.1
  unfold reticuleref24_Do doU
  rw [ref_find_eq x.1 _ (by omega), Option.bind_some, ixV_some]
  cases hf : (pIx (fP m.1) x.1).isSome with
  | true =>
    rw [if_pos rfl, cond_true]
    rw [(tags_eq x.1 (by omega)).2, Option.bind_some]
    show (reticuleref24_Drop (x, tagL x.1)).bind _ = _
    rw [hd _ (by rw [tagL_len]; omega)]; rfl
  | false =>
    rw [cond_false, if_neg Bool.false_ne_true]
    obtain ⟨tag, f, task, lun, ⟨⟩⟩ := m
    simp only [and_chain, Option.bind_some]
    have hb : (((((!decide (f = 1)) && !decide (f = 2)) && !decide (f = 8)) && !decide (f = 16)) && !decide (f = 128)) = !decide (f = 16 ∨ f = 1 ∨ f = 2 ∨ f = 8 ∨ f = 128) := by
      by_cases e1 : f = 1 <;> by_cases e2 : f = 2 <;> by_cases e3 : f = 8 <;> by_cases e4 : f = 16 <;> by_cases e5 : f = 128 <;> simp [e1, e2, e3, e4, e5]
    rw [hb]
    by_cases hv : f = 16 ∨ f = 1 ∨ f = 2 ∨ f = 8 ∨ f = 128
    · rw [decide_eq_true hv, Bool.not_true, cond_false]
      by_cases h16 : f = 16
      · subst h16
        rw [if_pos rfl]
        show (reticuleref12_Attend (us, -1, (6, 41, 7, ()))).bind _ = _
        rw [hat]; rfl
      rw [if_neg h16, if_pos (hv.resolve_left h16), decide_eq_false h16, Bool.not_false, cond_true, (there_eq us lun).2, Option.bind_some, Option.bind_some]
      rw [show (decide (0 ≤ lun) && decide (lun < (us.length : Int))) = isU us lun from rfl]
      cases hu : isU us lun with
      | false =>
        rw [if_neg Bool.false_ne_true]; rfl
      | true =>
        rw [if_pos rfl, Bool.not_true, cond_false]
        have hof' : reticuleref24_of (x.1, lun) = some (ofL lun x.1) := hof
        have hdo : reticuleref24_Drop (x, ofL lun x.1) = some (dropU (ofL lun x.1) x) := hd _ (by have : (ofL lun x.1).length ≤ x.1.length := hol; omega)
        have hm' : reticuleref24_meant (x, (tag, f, task, lun, ())) = some (meantB x.1 (tag, f, task, lun, ())) := hm
        by_cases h1 : f = 1
        · rw [decide_eq_true h1, cond_true, if_pos h1, hm', Option.bind_some]
          cases meantB x.1 (tag, f, task, lun, ()) with
          | true =>
            rw [cond_true, if_pos rfl, hd _ (by simp)]; rfl
          | false =>
            rw [cond_false, if_neg Bool.false_ne_true, drop_nil]
        rw [decide_eq_false h1, cond_false, if_neg h1]
        by_cases h2 : f = 2
        · rw [decide_eq_true h2, cond_true, if_pos h2, hof', Option.bind_some, hdo]; rfl
        rw [decide_eq_false h2, cond_false, if_neg h2]
        by_cases h8 : f = 8
        · rw [decide_eq_true h8, cond_true, if_pos h8, hof', Option.bind_some, hdo, Option.bind_some]
          show (reticuleref12_Attend (us, lun, (6, 41, 3, ()))).bind _ = _
          rw [hat]; rfl
        rw [decide_eq_false h8, cond_false, if_neg h8, cond_false, hm', Option.bind_some]
        cases meantB x.1 (tag, f, task, lun, ()) <;> rfl
    · rw [decide_eq_false hv, Bool.not_false, cond_true, if_neg (fun e => hv (.inl e)), if_neg (fun e => hv (.inr e))]
end
theorem attU_T {us : List Un} {lun : Int} {s : Sense} (h : ∀ u ∈ us, UnS u) : ∀ u ∈ attU us lun s, UnT u := attW_T h
theorem doU_same (x : Uas) (us : List Un) (m : Mg) (h : AllS x us) : reticuleref24_Same ((doU x us m).1, (doU x us m).1) = some true ∧ reticuleref12_Same ((doU x us m).2.1, (doU x us m).2.1) = some true := by
  have hx : reticuleref24_Same (x, x) = some true := same24 x (by have := h.tl; omega) h.ts (by have := h.ql; omega) h.qs
  have hu : reticuleref12_Same (us, us) = some true := usame us (by have := h.ul; omega) (fun u hm => unS_T (h.us u hm))
  have ha : ∀ lun s, reticuleref12_Same (attU us lun s, attU us lun s) = some true := fun lun s => usame _ (by unfold attU; rw [attW_len]; have := h.ul; omega) (attU_T h.us)
  have hd := fun l => same_drop x us l h
  unfold doU
  split
  · exact ⟨hd _, hu⟩
  split
  · exact ⟨same24 _ (by simp) (by simp) (by simp) (by simp), ha _ _⟩
  split
  · split
    · split
      · exact ⟨hd _, hu⟩
      split
      · exact ⟨hd _, hu⟩
      split
      · exact ⟨hd _, ha _ _⟩
      split
      · exact ⟨hx, hu⟩
      · exact ⟨hx, hu⟩
    · exact ⟨hx, hu⟩
  · exact ⟨hx, hu⟩
theorem ManageDoes_pure (x) : reticulelaw24_ManageDoes x = some true := by
  obtain ⟨x, us, m⟩ := x
  unfold reticulelaw24_ManageDoes
  rw [alive_ok, Option.bind_some, Bool.not_true, cond_false]
  rcases great24 x us with hg | ⟨hg, h⟩
  · rw [hg]; rfl
  have hx : reticuleref24_Same (x, x) = some true := same24 x (by have := h.tl; omega) h.ts (by have := h.ql; omega) h.qs
  have hu : reticuleref12_Same (us, us) = some true := usame us (by have := h.ul; omega) (fun u hm => unS_T (h.us u hm))
  obtain ⟨hs1, hs2⟩ := doU_same x us m h
  simp only [hg, Option.bind_some, cond_false, copy24 x us h, ucopy_eq us (show us.length ≤ 1000 by have := h.ul; omega) h.us, do_eq h m, rdo_eq h m, hs1, hs2, hx, hu, cond_true, decide_true]
theorem ManageDrops_pure (x) : reticulelaw24_ManageDrops x = some true := by
  obtain ⟨x, l⟩ := x
  unfold reticulelaw24_ManageDrops
  rw [alive_ok, Option.bind_some, Bool.not_true, cond_false]
  rcases great24 x [] with hg | ⟨hg, h⟩
  · show (reticuleref24_Great (x, [])).bind _ = _
    rw [hg]; rfl
  show (reticuleref24_Great (x, [])).bind _ = _
  rw [hg, Option.bind_some, cond_false, Option.bind_some]
  by_cases hl : (50 : Int) < (l.length : Int)
  · show (bif decide ((50 : Int) < (l.length : Int)) then _ else _) = _
    rw [decide_eq_true hl]; rfl
  show (bif decide ((50 : Int) < (l.length : Int)) then _ else _) = _
  have h1 := h.tl
  have h2 := h.ql
  have hx : reticuleref24_Same (x, x) = some true := same24 x (by omega) h.ts (by omega) h.qs
  rw [decide_eq_false hl, cond_false]
  simp only [copy24 x [] h, Option.bind_some, mdrop_eq x l (by omega) (by omega) (by omega), rdrop_eq x l (by omega) (by omega) (by omega), same_drop x [] l h, hx, cond_true]
end Go.Proofs.Ytgceolpeegfkkaa
