/- Chapter 24: what stays, what goes. -/
import Derived.Test.YtgceolpeegfkkaaManC
namespace Go.Proofs.Ytgceolpeegfkkaa
open Go Go.Re
set_option linter.unusedVariables false
set_option linter.unusedSimpArgs false
theorem dropT_all (ts : List Tk) : dropT (tagL ts) ts = [] := by
  unfold dropT
  rw [List.filter_eq_nil_iff]
  intro t ht
  have : t.1 ∈ tagL ts := List.mem_map.2 ⟨t, ht, rfl⟩
  simp [this]
theorem AllS.drop {x : Uas} {us : List Un} (h : AllS x us) (l : List Int) : AllS (dropU l x) us where
  tl := Nat.le_trans (List.length_filter_le _ _) h.tl
  ts t ht := h.ts t (List.mem_filter.1 ht).1
  ql := Nat.le_trans (List.length_filter_le _ _) h.ql
  qs q hq := h.qs q (List.mem_filter.1 hq).1
  ul := h.ul
  us := h.us
theorem ManageGone_pure (x) : reticulelaw24_ManageGone x = some true := by
  obtain ⟨x, us, tag, f, task, lun, ⟨⟩⟩ := x
  unfold reticulelaw24_ManageGone
  rw [alive_ok, Option.bind_some, Bool.not_true, cond_false]
  rcases great24 x us with hg | ⟨hg, h⟩
  · show (reticuleref24_Great (x, us)).bind _ = _
    rw [hg]; rfl
  show (reticuleref24_Great (x, us)).bind _ = _
  rw [hg, Option.bind_some, cond_false]
  show (manage_Do (x, us, (tag, 16, task, lun, ()))).bind _ = _
  have htl := h.tl
  have hul := h.ul
  rw [do_eq h, Option.bind_some]
  show (reticuleref23_Find (x.1, tag)).bind _ = _
  rw [ref_find_eq x.1 tag (by omega), Option.bind_some, ixV_some]
  have hu : reticuleref12_Same (us, us) = some true := usame us (by omega) (fun u hm => unS_T (h.us u hm))
  have ha : reticuleref12_Same (attU us (-1) (6, 41, 7, ()), attU us (-1) (6, 41, 7, ())) = some true := usame _ (by unfold attU; rw [attW_len]; omega) (attU_T h.us)
  cases hf : (pIx (fP tag) x.1).isSome with
  | true =>
    have e : doU x us (tag, 16, task, lun, ()) = (dropU (tagL x.1) x, us, 10) := by
      unfold doU; rw [if_pos (show (pIx (fP tag) x.1).isSome = true from hf)]
    rw [e, cond_true]
    have e0 : (dropU (tagL x.1) x).1 = [] := dropT_all x.1
    simp only [e0, decide_true, cond_true, Option.bind_some, hu, List.length_nil, Int.natCast_zero]
  | false =>
    have e : doU x us (tag, 16, task, lun, ()) = (([], [], ()), attU us (-1) (6, 41, 7, ()), 0) := by
      unfold doU
      rw [if_neg (show ¬ (pIx (fP tag) x.1).isSome = true by rw [hf]; exact Bool.false_ne_true), if_pos (show (16 : Int) = 16 from rfl)]
    rw [e, cond_false]
    simp only [decide_true, cond_true, Option.bind_some, List.length_nil, Int.natCast_zero, reticuleref04_Of, rattend_eq us (-1) _ (show us.length ≤ 1000 by omega) h.us, ha]
theorem good_uniq {l : List Tk} (h : Good l) {t t' : Tk} (ht : t ∈ l) (ht' : t' ∈ l) (e : t.1 = t'.1) : t = t' := by
  rw [good_iff] at h
  obtain ⟨i, hi, rfl⟩ := List.getElem_of_mem ht
  obtain ⟨j, hj, rfl⟩ := List.getElem_of_mem ht'
  have h1 := (h i hi).2
  have h2 := (h j hj).2
  rw [e, h2] at h1
  cases h1; rfl
theorem meant_some {ts : List Tk} {m : Mg} (h : meantB ts m = true) : ∃ t ∈ ts, t.1 = m.2.2.1 ∧ t.2.1 = m.2.2.2.1 := by
  unfold meantB at h
  cases hp : pIx (fP m.2.2.1) ts with
  | none => rw [hp] at h; cases h
  | some i =>
    rw [hp] at h
    obtain ⟨_, hi, hq⟩ := pIx_take hp
    simp only [List.getElem?_eq_getElem hi] at h
    exact ⟨ts[i], List.getElem_mem hi, of_decide_eq_true hq, of_decide_eq_true h⟩
theorem drop_one (c : Int) : ∀ l : List Tk, (l.map (·.1)).Nodup → c ∈ l.map (·.1) → (dropT [c] l).length + 1 = l.length := by
  intro l
  induction l with
  | nil => intro _ h; cases h
  | cons t r ih =>
    intro hn hc
    rw [List.map_cons, List.nodup_cons] at hn
    unfold dropT
    rw [List.filter_cons]
    by_cases ht : t.1 = c
    · have hd : (!decide (t.1 ∈ [c])) = false := by simp [ht]
      rw [hd, if_neg Bool.false_ne_true]
      have : r.filter (fun t => !decide (t.1 ∈ [c])) = r := by
        rw [List.filter_eq_self]
        intro a ha
        have : ¬ a.1 = c := fun e => hn.1 (by rw [ht, ← e]; exact List.mem_map.2 ⟨a, ha, rfl⟩)
        simp [this]
      rw [this]; rfl
    · have hd : (!decide (t.1 ∈ [c])) = true := by simp [ht]
      rw [hd, if_pos rfl]
      have hc' : c ∈ r.map (·.1) := by
        rcases List.mem_cons.1 hc with e | e
        · exact absurd e.symm ht
        · exact e
      have := ih hn.2 hc'
      rw [List.length_cons, List.length_cons]
      unfold dropT at this
      omega
theorem find_sub {l l' : List Tk} {c : Int} (hs : ∀ t ∈ l', t ∈ l) (h : pIx (fP c) l = none) : pIx (fP c) l' = none := pIx_none.2 fun t ht => pIx_none.1 h t (hs t ht)
theorem meant_key (x : Uas) (task lun : Int) : ((bif (pIx (fP task) x.1).isSome then (ix x.1 (ixV (pIx (fP task) x.1))).bind fun t => some (decide (t.2.1 = lun)) else some false) : Option Bool) = some (meantB x.1 (0, 0, task, lun, ())) := by
  unfold meantB
  show _ = some (match pIx (fP task) x.1 with
    | some i => match x.1[i]? with
      | some t => decide (t.2.1 = lun)
      | none => false
    | none => false)
  cases hp : pIx (fP task) x.1 with
  | none => rfl
  | some i =>
    have hi := pIx_lt hp
    show (ix x.1 (i : Int)).bind _ = _
    rw [ix_at x.1 i hi]
    simp only [List.getElem?_eq_getElem hi]; rfl
theorem meant_ign (ts : List Tk) (a b a' b' task lun : Int) : meantB ts (a, b, task, lun, ()) = meantB ts (a', b', task, lun, ()) := rfl
theorem ManageAsks_pure (x) : reticulelaw24_ManageAsks x = some true := by
  obtain ⟨x, us, tag, f, task, lun, ⟨⟩⟩ := x
  unfold reticulelaw24_ManageAsks
  rw [alive_ok, Option.bind_some, Bool.not_true, cond_false]
  rcases great24 x us with hg | ⟨hg, h⟩
  · show (reticuleref24_Great (x, us)).bind _ = _
    rw [hg]; rfl
  show (reticuleref24_Great (x, us)).bind _ = _
  have htl := h.tl
  have hul := h.ul
  obtain ⟨b, hb, hb2⟩ := ref_right_eq x.1 (by omega)
  simp only [hg, Option.bind_some, cond_false, hb, ref_find_eq x.1 tag (show x.1.length ≤ 2147483648 by omega), ixV_some, or_chain, (there_eq us lun).2, meant_key, Bool.false_or, ref_find_eq x.1 task (show x.1.length ≤ 2147483648 by omega), do_eq h]
  rw [show (decide (0 ≤ lun) && decide (lun < (us.length : Int))) = isU us lun from rfl]
  cases hc : (!b || (pIx (fP tag) x.1).isSome || !isU us lun) with
  | true => rfl
  | false =>
    rw [cond_false]
    simp only [Bool.or_eq_false_iff, Bool.not_eq_false'] at hc
    obtain ⟨⟨rfl, hf⟩, hu⟩ := hc
    obtain ⟨hl8, hgood⟩ := hb2.1 rfl
    have hf0 : pIx (fP tag) x.1 = none := by
      cases hp : pIx (fP tag) x.1 with
      | none => rfl
      | some i => rw [hp] at hf; cases hf
    have d128 : ∀ y : Uas, pIx (fP tag) y.1 = none → doU y us (tag, 128, task, lun, ()) = if meantB y.1 (tag, 128, task, lun, ()) = true then (y, us, 8) else (y, us, 0) := by
      intro y hy
      unfold doU
      rw [if_neg (show ¬ (pIx (fP tag) y.1).isSome = true by rw [hy]; exact Bool.false_ne_true), if_neg (show ¬ (128 : Int) = 16 by decide), if_pos (show (128 : Int) = 1 ∨ (128 : Int) = 2 ∨ (128 : Int) = 8 ∨ (128 : Int) = 128 by decide), if_pos (show isU us lun = true from hu),
        if_neg (show ¬ (128 : Int) = 1 by decide), if_neg (show ¬ (128 : Int) = 2 by decide), if_neg (show ¬ (128 : Int) = 8 by decide)]
    have d1 : doU x us (tag, 1, task, lun, ()) = (dropU (if meantB x.1 (tag, 1, task, lun, ()) = true then [task] else []) x, us, 0) := by
      unfold doU
      rw [if_neg (show ¬ (pIx (fP tag) x.1).isSome = true by rw [hf0]; exact Bool.false_ne_true), if_neg (show ¬ (1 : Int) = 16 by decide), if_pos (show (1 : Int) = 1 ∨ (1 : Int) = 2 ∨ (1 : Int) = 8 ∨ (1 : Int) = 128 by decide), if_pos (show isU us lun = true from hu), if_pos (show (1 : Int) = 1 from rfl)]
    rw [d128 x hf0, d1]
    rw [meant_ign x.1 tag 128 0 0, meant_ign x.1 tag 1 0 0]
    cases hm : meantB x.1 (0, 0, task, lun, ()) with
    | false =>
      simp only [if_neg Bool.false_ne_true, drop_nil, do_eq h, Option.bind_some, d128 x hf0, meant_ign x.1 tag 128 0 0, hm, Bool.not_false, cond_true, decide_true]
    | true =>
      obtain ⟨t0, ht0, ht1, ht2⟩ := meant_some hm
      have hd := h.drop [task]
      have hsub : ∀ t ∈ (dropU [task] x).1, t ∈ x.1 := fun t ht => (List.mem_filter.1 ht).1
      have hnone : pIx (fP task) (dropU [task] x).1 = none := pIx_none.2 fun t ht => by
        have := (List.mem_filter.1 ht).2
        have hne : ¬ t.1 = task := by simpa using this
        exact decide_eq_false hne
      have hm2 : meantB (dropU [task] x).1 (tag, 128, task, lun, ()) = false := by
        unfold meantB
        rw [show pIx (fP ((tag, 128, task, lun, ()) : Mg).2.2.1) (dropU [task] x).1 = none from hnone]
      have hlen : (dropT [task] x.1).length + 1 = x.1.length := drop_one task x.1 ((good_nodup _).1 hgood).2 (List.mem_map.2 ⟨t0, ht0, ht1⟩)
      have hlen2 : ((dropU [task] x).1.length : Int) = w64 ((x.1.length : Int) - 1) := by
        rw [w64_in (by omega) (by omega)]
        show ((dropT [task] x.1).length : Int) = _
        omega
      simp only [if_pos, do_eq hd, Option.bind_some, d128 (dropU [task] x) (find_sub hsub hf0), hm2, if_neg Bool.false_ne_true, Bool.not_true, cond_false, cond_true, decide_true, hlen2]
/-! ### what stays -/
theorem mright_loop (m : Md) (hl : m.2.1.length ≤ 2147483648) : ∀ k i n, i + k = m.2.1.length → k < n →
    reticuleref03_Right_L0 n (m, (i : Int)) = some (Sum.inr false) ∨ (reticuleref03_Right_L0 n (m, (i : Int)) = some (Sum.inl ()) ∧ ∀ e ∈ m.2.1.drop i, 0 ≤ e.1 ∧ e.1 < (m.1.length : Int)) := by
  intro k
  induction k with
  | zero =>
    intro i n hi hn
    obtain ⟨n, rfl⟩ := Nat.exists_eq_succ_of_ne_zero (show n ≠ 0 by omega)
    have h : ¬ ((i : Int) < (m.2.1.length : Int)) := by omega
    right
    refine ⟨?_, by rw [List.drop_of_length_le (by omega)]; intro t ht; cases ht⟩
    simp only [reticuleref03_Right_L0, decide_eq_false h, cond_false]
  | succ k ih =>
    intro i n hi hn
    obtain ⟨n, rfl⟩ := Nat.exists_eq_succ_of_ne_zero (show n ≠ 0 by omega)
    have h : ((i : Int) < (m.2.1.length : Int)) := by omega
    have hi' : i < m.2.1.length := by omega
    have hd : m.2.1.drop i = m.2.1[i] :: m.2.1.drop (i + 1) := List.drop_eq_getElem_cons hi'
    simp only [reticuleref03_Right_L0, decide_eq_true h, cond_true, ix_at m.2.1 i hi', Option.bind_some, or_chain]
    cases hb : (decide (m.2.1[i].1 < 0) || decide ((m.1.length : Int) ≤ m.2.1[i].1)) with
    | true => left; rfl
    | false =>
      simp only [Bool.or_eq_false_iff, decide_eq_false_iff_not] at hb
      simp only [cond_false, w64_succ i (by omega)]
      rcases ih (i + 1) n (by omega) (by omega) with h1 | ⟨h1, h2⟩
      · exact .inl h1
      · refine .inr ⟨h1, ?_⟩
        rw [hd]
        intro t ht
        rcases List.mem_cons.1 ht with rfl | ht
        · exact ⟨by omega, by omega⟩
        · exact h2 t ht
theorem mright_eq (m : Md) : ∃ b, reticuleref03_Right m = some b ∧ (b = true → ∀ e ∈ m.2.1, 0 ≤ e.1 ∧ e.1 < (m.1.length : Int)) := by
  unfold reticuleref03_Right
  rw [or_chain, Option.bind_some]
  cases hb : (decide ((64 : Int) < (m.1.length : Int)) || decide ((64 : Int) < (m.2.1.length : Int))) with
  | true => exact ⟨false, rfl, fun h => by cases h⟩
  | false =>
    simp only [Bool.or_eq_false_iff, decide_eq_false_iff_not] at hb
    have L := mright_loop m (by omega) m.2.1.length 0 Big (by omega) (big_lt (by omega))
    rw [Int.natCast_zero, List.drop_zero] at L
    rw [cond_false]
    rcases L with L | ⟨L, q⟩
    · rw [L]; exact ⟨false, rfl, fun h => by cases h⟩
    · rw [L]; exact ⟨true, rfl, fun _ => q⟩
theorem mall_loop (m : Md) (hl : m.2.1.length ≤ 2147483648) (hr : ∀ e ∈ m.2.1, 0 ≤ e.1 ∧ e.1 < (m.1.length : Int)) : ∀ k i n (bs : List BY), bs.length = m.1.length → i + k = m.2.1.length → k < n →
    ∃ r : List BY, reticuleref03_All_L0 n (m, bs, (i : Int)) = some (Sum.inl r) ∧ r.length = m.1.length := by
  intro k
  induction k with
  | zero =>
    intro i n bs hb hi hn
    obtain ⟨n, rfl⟩ := Nat.exists_eq_succ_of_ne_zero (show n ≠ 0 by omega)
    have h : ¬ ((i : Int) < (m.2.1.length : Int)) := by omega
    simp only [reticuleref03_All_L0, decide_eq_false h, cond_false]
    exact ⟨bs, rfl, hb⟩
  | succ k ih =>
    intro i n bs hb hi hn
    obtain ⟨n, rfl⟩ := Nat.exists_eq_succ_of_ne_zero (show n ≠ 0 by omega)
    have h : ((i : Int) < (m.2.1.length : Int)) := by omega
    have hi' : i < m.2.1.length := by omega
    obtain ⟨h1, h2⟩ := hr _ (List.getElem_mem hi')
    have hin : inLen m.2.1[i].1 bs.length = true := by
      unfold inLen
      rw [Bool.and_eq_true, decide_eq_true_eq, decide_eq_true_eq]
      omega
    simp only [reticuleref03_All_L0, decide_eq_true h, cond_true, ix_at m.2.1 i hi', Option.bind_some, chk_true hin, w64_succ i (by omega)]
    exact ih (i + 1) n _ (by rw [List.length_set]; exact hb) (by omega) (by omega)
theorem mall_eq (m : Md) (h1 : m.1.length ≤ 1000) (h2 : m.2.1.length ≤ 1000) : ∃ r, reticuleref03_All m = some r ∧ r.length ≤ 1000 := by
  obtain ⟨b, hb, hb2⟩ := mright_eq m
  unfold reticuleref03_All
  rw [hb, Option.bind_some]
  cases b with
  | false => exact ⟨[], rfl, by simp⟩
  | true =>
    have c1 : ([] : List BY).length + m.1.length ≤ lim := le_lim (by simp; omega)
    have hc : reticuleref02_Copy m.1 = some m.1 := by
      simp only [reticuleref02_Copy, chk_dec c1, Option.bind_some, List.nil_append]
    rw [Bool.not_true, cond_false, hc, Option.bind_some]
    obtain ⟨r, hr1, hr2⟩ := mall_loop m (by omega) (hb2 rfl) m.2.1.length 0 Big m.1 rfl (by omega) (big_lt (by omega))
    rw [Int.natCast_zero] at hr1
    rw [hr1]
    exact ⟨r, rfl, by omega⟩
theorem alone_loop (us v : List Un) (x y : Uas) (m : Mg) (hl : us.length ≤ 2147483648) (hv : v.length = us.length) (hs : ∀ u ∈ us, UnS u) (he : ∀ i (h : i < us.length), v[i].1 = us[i].1) : ∀ k i n, i + k = us.length → k < n →
    reticulelaw24_ManageAlone_L0 n (us, x, m, y, v, (i : Int)) = some (Sum.inl (x, m, y)) := by
  intro k
  induction k with
  | zero =>
    intro i n hi hn
    obtain ⟨n, rfl⟩ := Nat.exists_eq_succ_of_ne_zero (show n ≠ 0 by omega)
    have h : ¬ ((i : Int) < (us.length : Int)) := by omega
    simp only [reticulelaw24_ManageAlone_L0, decide_eq_false h, cond_false]
  | succ k ih =>
    intro i n hi hn
    obtain ⟨n, rfl⟩ := Nat.exists_eq_succ_of_ne_zero (show n ≠ 0 by omega)
    have h : ((i : Int) < (us.length : Int)) := by omega
    have hi' : i < us.length := by omega
    obtain ⟨g1, g2, g3⟩ := hs _ (List.getElem_mem hi')
    obtain ⟨r, hr1, hr2⟩ := mall_eq us[i].1.1 (by omega) (by omega)
    simp only [reticulelaw24_ManageAlone_L0, decide_eq_true h, cond_true, ix_at us i hi', ix_at v i (by omega), Option.bind_some, he i hi', msame us[i].1.1 (show us[i].1.1.1.length ≤ 1000 by omega) (show us[i].1.1.2.1.length ≤ 1000 by omega), decide_true, Bool.not_true, cond_false, hr1, bsame r (show r.length ≤ 2147483648 by omega), w64_succ i (by omega)]
    exact ih (i + 1) n (by omega) (by omega)
theorem doU_units (x : Uas) (us : List Un) (m : Mg) : (doU x us m).2.1.length = us.length ∧ ∀ i (h : i < us.length) (h' : i < (doU x us m).2.1.length), (doU x us m).2.1[i].1 = us[i].1 := by
  have ha : ∀ lun s, (attU us lun s).length = us.length ∧ ∀ i (h : i < us.length) (h' : i < (attU us lun s).length), (attU us lun s)[i].1 = us[i].1 := by
    intro lun s
    refine ⟨attW_len .., fun i h h' => ?_⟩
    exact (congrArg Prod.fst (attW_get us (whoU lun) s i h)).trans (by split <;> rfl)
  have hu : us.length = us.length ∧ ∀ i (h : i < us.length) (h' : i < us.length), us[i].1 = us[i].1 := ⟨rfl, fun _ _ _ => rfl⟩
  unfold doU
  split
  · exact hu
  split
  · exact ha _ _
  split
  · split
    · split
      · exact hu
      split
      · exact hu
      split
      · exact ha _ _
      split
      · exact hu
      · exact hu
    · exact hu
  · exact hu
theorem sweep_drop (ts : List Tk) (lun : Int) (l : List Int) (h : ∀ t ∈ ts, sP lun t = false → ¬ t.1 ∈ l) : sweepL (dropT l ts) lun = sweepL ts lun := by
  unfold sweepL dropT
  rw [List.filter_filter]
  apply List.filter_congr
  intro t ht
  cases hs : sP lun t with
  | true => simp
  | false => simp [h t ht hs]
theorem doU_sweep (x : Uas) (us : List Un) (m : Mg) (hg : Good x.1) (hf : pIx (fP m.1) x.1 = none) (h16 : ¬ m.2.1 = 16) : sweepL (doU x us m).1.1 m.2.2.2.1 = sweepL x.1 m.2.2.2.1 := by
  have h1 : sweepL (dropU (if meantB x.1 m = true then [m.2.2.1] else []) x).1 m.2.2.2.1 = sweepL x.1 m.2.2.2.1 := by
    refine sweep_drop _ _ _ fun t ht hs => ?_
    by_cases hm : meantB x.1 m = true
    · rw [if_pos hm]
      intro hc
      obtain ⟨t0, e1, e2, e3⟩ := meant_some hm
      have : t = t0 := good_uniq hg ht e1 (by rw [e2]; simpa using hc)
      subst this
      unfold sP at hs
      rw [Bool.or_eq_false_iff, decide_eq_false_iff_not] at hs
      exact (of_decide_eq_false hs.2) e3
    · rw [if_neg hm]; simp
  have h2 : sweepL (dropU (ofL m.2.2.2.1 x.1) x).1 m.2.2.2.1 = sweepL x.1 m.2.2.2.1 := by
    refine sweep_drop _ _ _ fun t ht hs => ?_
    intro hc
    obtain ⟨t0, e1, e2⟩ := List.mem_map.1 hc
    obtain ⟨e3, e4⟩ := List.mem_filter.1 e1
    have : t = t0 := good_uniq hg ht e3 e2.symm
    subst this
    unfold sP at hs
    rw [Bool.or_eq_false_iff, decide_eq_false_iff_not] at hs
    exact (of_decide_eq_false hs.2) (of_decide_eq_true e4)
  unfold doU
  rw [if_neg (show ¬ (pIx (fP m.1) x.1).isSome = true by rw [hf]; exact Bool.false_ne_true), if_neg h16]
  split
  · split
    · split
      · exact h1
      split
      · exact h2
      split
      · exact h2
      split
      · rfl
      · rfl
    · rfl
  · rfl
theorem ManageAlone_pure (x) : reticulelaw24_ManageAlone x = some true := by
  obtain ⟨x, us, m⟩ := x
  unfold reticulelaw24_ManageAlone
  rw [alive_ok, Option.bind_some, Bool.not_true, cond_false]
  rcases great24 x us with hg | ⟨hg, h⟩
  · show (reticuleref24_Great (x, us)).bind _ = _
    rw [hg]; rfl
  show (reticuleref24_Great (x, us)).bind _ = _
  have htl := h.tl
  have hul := h.ul
  rw [hg, Option.bind_some, cond_false]
  show (manage_Do (x, us, m)).bind _ = _
  rw [do_eq h, Option.bind_some]
  obtain ⟨hv1, hv2⟩ := doU_units x us m
  show (bif !decide (((doU x us m).2.1.length : Int) = (us.length : Int)) then _ else _) = _
  rw [decide_eq_true (show ((doU x us m).2.1.length : Int) = (us.length : Int) by rw [hv1]), Bool.not_true, cond_false]
  have L := alone_loop us (doU x us m).2.1 x (doU x us m).1 m (by omega) hv1 h.us (fun i hi => hv2 i hi (by omega)) us.length 0 Big (by omega) (big_lt (by omega))
  rw [Int.natCast_zero] at L
  show jn (reticulelaw24_ManageAlone_L0 Big (us, x, m, (doU x us m).1, (doU x us m).2.1, 0)) _ = _
  rw [L, jn_inl]
  obtain ⟨b, hb, hb2⟩ := ref_right_eq x.1 (by omega)
  have hlen : (doU x us m).1.1.length ≤ x.1.length := by
    unfold doU
    have hd : ∀ l, (dropU l x).1.length ≤ x.1.length := fun l => List.length_filter_le _ _
    repeat' split
    all_goals first | exact hd _ | exact Nat.le_refl _ | exact Nat.zero_le _
  simp only [hb, Option.bind_some, ref_find_eq x.1 m.1 (show x.1.length ≤ 2147483648 by omega), ixV_some, or_chain]
  cases hc : (!b || (pIx (fP m.1) x.1).isSome || decide (m.2.1 = 16)) with
  | true => rfl
  | false =>
    simp only [Bool.or_eq_false_iff, Bool.not_eq_false', decide_eq_false_iff_not] at hc
    obtain ⟨⟨rfl, hf⟩, h16⟩ := hc
    have hf0 : pIx (fP m.1) x.1 = none := by
      cases hp : pIx (fP m.1) x.1 with
      | none => rfl
      | some i => rw [hp] at hf; cases hf
    have hs := doU_sweep x us m (hb2.1 rfl).2 hf0 h16
    simp only [cond_false, ref_sweep_eq (doU x us m).1.1 m.2.2.2.1 (show (doU x us m).1.1.length ≤ 2147483640 by omega), ref_sweep_eq x.1 m.2.2.2.1 (show x.1.length ≤ 2147483640 by omega), Option.bind_some, hs]
    rw [same_self (sweepL x.1 m.2.2.2.1) (by have : (sweepL x.1 m.2.2.2.1).length ≤ x.1.length := List.length_filter_le _ _; omega) (fun t ht => h.ts t (List.mem_filter.1 ht).1)]; rfl
end Go.Proofs.Ytgceolpeegfkkaa
