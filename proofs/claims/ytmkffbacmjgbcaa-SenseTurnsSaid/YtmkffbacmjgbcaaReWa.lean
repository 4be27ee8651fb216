/- Reflection, part Wa: maps of one's own. -/
import Derived.Test.YtmkffbacmjgbcaaReW
import Derived.WideKeyRuns
namespace Go.Re
set_option linter.unusedVariables false
set_option linter.unusedSimpArgs false
open Go.RowKit (Below)

/-! ### pairs -/
def mpIdx {n : Nat} {V : Type} : List (List (BitVec n) × V) → List (BitVec n) → Option Nat
  | [], _ => none
  | p :: r, k => bif decide (k = p.1) then some 0 else (mpIdx r k).map (· + 1)
theorem mpIdx_lt {n : Nat} {V : Type} : ∀ {xs : List (List (BitVec n) × V)} {k : List (BitVec n)} {i : Nat}, mpIdx xs k = some i → ∃ v, xs[i]? = some (k, v)
  | [], _, _, h => by cases h
  | p :: r, k, i, h => by
    unfold mpIdx at h
    by_cases e : k = p.1
    · rw [decide_eq_true e, cond_true] at h
      cases h
      exact ⟨p.2, by rw [List.getElem?_cons_zero, e]⟩
    · rw [decide_eq_false e, cond_false] at h
      obtain ⟨j, h1, rfl⟩ := Option.map_eq_some_iff.1 h
      obtain ⟨v, h2⟩ := mpIdx_lt h1
      exact ⟨v, by rw [List.getElem?_cons_succ]; exact h2⟩
theorem mpPut_some {n : Nat} {V : Type} : ∀ {xs : List (List (BitVec n) × V)} {k : List (BitVec n)} {v : V} {i : Nat}, mpIdx xs k = some i → mpPut xs k v = xs.set i (k, v)
  | [], _, _, _, h => by cases h
  | p :: r, k, v, i, h => by
    unfold mpIdx at h
    unfold mpPut
    by_cases e : k = p.1
    · rw [decide_eq_true e, cond_true] at h
      cases h
      rw [decide_eq_true e, cond_true]; rfl
    · rw [decide_eq_false e, cond_false] at h
      obtain ⟨j, h1, rfl⟩ := Option.map_eq_some_iff.1 h
      rw [decide_eq_false e, cond_false, mpPut_some h1]; rfl
theorem mpPut_none {n : Nat} {V : Type} : ∀ {xs : List (List (BitVec n) × V)} {k : List (BitVec n)} {v : V}, mpIdx xs k = none → mpPut xs k v = xs ++ [(k, v)]
  | [], _, _, h => rfl
  | p :: r, k, v, h => by
    unfold mpIdx at h
    unfold mpPut
    by_cases e : k = p.1
    · rw [decide_eq_true e, cond_true] at h; cases h
    · rw [decide_eq_false e, cond_false] at h
      have h1 : mpIdx r k = none := by
        cases hh : mpIdx r k with
        | none => rfl
        | some j => rw [hh] at h; cases h
      rw [decide_eq_false e, cond_false, mpPut_none h1]; rfl
theorem mpGet_idx {n : Nat} {V : Type} : ∀ (xs : List (List (BitVec n) × V)) (k : List (BitVec n)), mpGet xs k = (mpIdx xs k).bind fun i => xs[i]?.map (·.2)
  | [], _ => rfl
  | p :: r, k => by
    unfold mpIdx mpGet
    by_cases e : k = p.1
    · rw [decide_eq_true e, cond_true, cond_true]; rfl
    · rw [decide_eq_false e, cond_false, cond_false, mpGet_idx r k]
      cases mpIdx r k <;> rfl

section
variable {P : Program} {E : Env} {N : Nat} {Z : Base} {own : Own} {β : Conc} {σ : S} {a : Act} {w : World} {o : Oper}

/-! ### keys -/
theorem key_part (hE : EnvOk P E) {t n : Nat} {x : List (BitVec 8)} {u : Value} (ht : E.ty t = some (.arr n (.int .u8))) (hu : RepV own w (.arr n (.int .u8)) u x) :
    ∃ te i, P.underlying t = some (.array n te) ∧ P.underlying te = some (.int .u8) ∧ P.info? te = some i ∧ x.length = n ∧ ∃ cs : List Value, u = .agg cs.toArray ∧ cs.length = n ∧
      (∀ j (h : j < x.length), cs[j]? = some (.int .u8 (toI .u8 x[j]))) ∧ ∀ j, j < n → ∃ v, (part te cs.toArray (j * P.cellsOf te)).run P w = .ok (.int .u8 v) w := by
  obtain ⟨cs, rfl, hx1, hx2, hx3⟩ := (RepV.agg rfl).1 hu
  obtain ⟨te, q1, q2⟩ := (hE.ty t _ ht).desc
  have hT := hE.ty te _ q2
  obtain ⟨i, g1, _⟩ := hT.info
  have hcell : P.cellsOf te = 1 := by
    have h1 := hT.cells (P := P) w
    rw [run_sizeOf w g1] at h1
    have : P.cellsOf te = Ty.size (.int .u8) := by injection h1
    exact this
  have hs1 : Ty.size (.int .u8) = 1 := rfl
  refine ⟨te, i, q1, hT.desc, g1, hx1, cs, rfl, by rw [hx2, hs1, Nat.mul_one], fun j hj => ?_, fun j hj => ?_⟩
  · have a1 := hx3 j hj
    rw [hs1, Nat.mul_one] at a1
    have : (cs.drop j).take 1 = [.int .u8 (toI .u8 x[j])] := a1.1
    have h0 : ((cs.drop j).take 1)[0]? = some (.int .u8 (toI .u8 x[j])) := by rw [this]; rfl
    rw [List.getElem?_take, if_pos (by omega), List.getElem?_drop] at h0
    exact h0
  · have a1 := hx3 j (by omega)
    have e1 := hT.partRun (w := w) (own := own) (cs := cs) (off := j * 1) a1 (by rw [hx2, hs1]; omega)
    have v1 := RepV.int.1 (RepV.mk (τ := .int .u8) rfl a1)
    simp only [hs1] at e1 v1
    rw [v1.1] at e1
    exact ⟨_, by rw [hcell]; exact e1⟩

theorem check_u8 {te : Nat} (h : P.underlying te = some (.int .u8)) (em : Bool) (m : Nat) (v : Int) : (Instr.checkKey em (m + 1) te (.int .u8 v)).run P w = .ok () w := by
  simp [Instr.checkKey, run_underlying h]
theorem same_int (m : Nat) (i : Int) : Instr.sameBits (m + 1) (.int .u8 i) (.int .u8 i) = true := by
  simp [Instr.sameBits]

theorem check_key (hE : EnvOk P E) {t n : Nat} {x : List (BitVec 8)} {u : Value} (ht : E.ty t = some (.arr n (.int .u8))) (hu : RepV own w (.arr n (.int .u8)) u x) (em : Bool) :
    (Instr.checkKey em 10000 t u).run P w = .ok () w := by
  obtain ⟨te, i, q1, q2, q3, hx, cs, rfl, hl, hc, hp⟩ := key_part hE ht hu
  rw [show (10000 : Nat) = 9999 + 1 from rfl, Instr.checkKey]
  simp only [Sem.run_bind, run_underlying q1, Result.andThen_ok]
  simp only [Std.Legacy.Range.forIn_eq_forIn_range', Std.Legacy.Range.size, Nat.sub_zero, Nat.add_one_sub_one, Nat.div_one]
  have each : ∀ j ∈ List.range' 0 n, j < n := fun j hj => by
    have := List.mem_range'_1.1 hj; omega
  generalize List.range' 0 n = is at each
  induction is with
  | nil => simp
  | cons j is ih =>
    obtain ⟨v, p1⟩ := hp j (each j (by simp))
    have p2 : (Instr.checkKey em 9999 te (.int .u8 v)).run P w = .ok () w := check_u8 q2 em 9998 v
    simp only [List.forIn_cons, Sem.run_bind, run_sizeOf w q3, Result.andThen_ok, p1, p2, Sem.run_pure]
    exact ih (fun y hy => each y (by simp [hy]))

/-- One datum, one value. -/
theorem key_same (hE : EnvOk P E) {t n : Nat} {x : List (BitVec 8)} {u v : Value} (ht : E.ty t = some (.arr n (.int .u8))) (hu : RepV own w (.arr n (.int .u8)) u x) (hv : RepV own w (.arr n (.int .u8)) v x) :
    u = v ∧ Instr.sameBits 10000 u v = true := by
  obtain ⟨_, _, _, _, _, hx, cs, rfl, hl, hc, hz1⟩ := key_part hE ht hu
  obtain ⟨_, _, _, _, _, hy, ds, rfl, hm, hd, hz2⟩ := key_part hE ht hv
  have : cs = ds := by
    apply List.ext_getElem?
    intro j
    by_cases hj : j < x.length
    · rw [hc j hj, hd j hj]
    · rw [List.getElem?_eq_none (by omega), List.getElem?_eq_none (by omega)]
  subst this
  refine ⟨rfl, ?_⟩
  rw [show (10000 : Nat) = 9999 + 1 from rfl, Instr.sameBits]
  have hall : ∀ c ∈ cs, ∃ i, c = .int .u8 i := by
    intro c hcm
    obtain ⟨j, hj, rfl⟩ := List.getElem_of_mem hcm
    have := hc j (by omega)
    rw [List.getElem?_eq_getElem hj] at this
    injection this with this
    exact ⟨_, this⟩
  simp only [beq_self_eq_true, Bool.true_and]
  clear hc hd hl hm hu hv hz1 hz2
  induction cs with
  | nil => rfl
  | cons c cs ih =>
    obtain ⟨i, rfl⟩ := hall c (by simp)
    simp only [List.zip_cons_cons, List.all_cons, Bool.and_eq_true]
    exact ⟨same_int 9998 i, ih fun c hcm => hall c (by simp [hcm])⟩

/-- How a key is looked for. -/
theorem find_asking (hE : EnvOk P E) {t n : Nat} {V : Ty} {k : List (BitVec 8)} {u : Value} (ht : E.ty t = some (.arr n (.int .u8))) (hu : RepV own w (.arr n (.int .u8)) u k) :
    ∀ (es : List MapEntry) (xs : List (List (BitVec 8) × V.D)) (i : Nat), es.length = xs.length → (∀ j (h : j < xs.length), ∃ e, es[j]? = some e ∧ RepV own w (.arr n (.int .u8)) e.key xs[j].1) →
      (Instr.findAsking t u es i).run P w = .ok ((mpIdx xs k).bind fun j => es[j]?.map fun e => (i + j, e.val)) w
  | [], [], i, _, _ => by simp [Instr.findAsking, mpIdx]
  | [], _ :: _, _, h, _ => by cases h
  | _ :: _, [], _, h, _ => by cases h
  | e :: es, x :: xs, i, hl, hr => by
    obtain ⟨e', h1, h2⟩ := hr 0 (by simp)
    cases h1
    have heq := eqArr_run (own := own) (w := w) (d := 9998) hE ht hu h2
    have heq' : (Op.equal t u e.key).run P w = .ok (decide (k = x.1)) w := heq
    have ih := find_asking hE (V := V) ht hu es xs (i + 1) (by simpa using hl) fun j hj => by
      obtain ⟨e', g1, g2⟩ := hr (j + 1) (by simpa using hj)
      exact ⟨e', by simpa using g1, by simpa using g2⟩
    unfold Instr.findAsking mpIdx
    simp only [Sem.run_bind, heq', Result.andThen_ok]
    by_cases hk : k = x.1
    · simp [decide_eq_true hk]
    · rw [decide_eq_false hk]
      simp only [Bool.false_eq_true, if_false, ih, cond_false]
      congr 1
      cases mpIdx xs k with
      | none => rfl
      | some j =>
        simp only [Option.map_some, Option.bind_some, List.getElem?_cons_succ]
        rw [show i + 1 + j = i + (j + 1) by omega]

theorem find_key (hE : EnvOk P E) {t n : Nat} {V : Ty} {k : List (BitVec 8)} {u : Value} (ht : E.ty t = some (.arr n (.int .u8))) (hu : RepV own w (.arr n (.int .u8)) u k) {es : Array MapEntry} {xs : List (List (BitVec 8) × V.D)}
    (hm : MapC own w (.arr n (.int .u8)) V es xs) : (Instr.findKey t u es.toList).run P w = .ok ((mpIdx xs k).bind fun j => es[j]?.map fun e => (j, e.val)) w := by
  obtain ⟨te, q1, _⟩ := (hE.ty t _ ht).desc
  rw [run_findKey_eq w (by rw [q1]), find_asking hE (V := V) ht hu es.toList xs 0 (by simpa using hm.1) fun j hj => by
    obtain ⟨e, h1, h2, _⟩ := hm.2.2 j hj
    exact ⟨e, by simpa using h1, h2⟩]
  congr 1
  cases mpIdx xs k with
  | none => rfl
  | some j => simp

/-! ### the operations -/
theorem mpLook_did (hE : EnvOk P E) (h : St N Z own β σ a w) {t n : Nat} {V : Ty} {vm vk : Re.V} {um uk : Value} {ok : Bool} (ht : E.mpt t = some (.arr n (.int .u8), V)) (hm : RepS own w β σ.mem vm um) (hk : RepS own w β σ.mem vk uk)
    (he : execOp a.eval o = (do pure (.value (← Instr.lookup t um uk ok)))) {r : Re.V × S} (hr : (mpLook n V vm vk ok).run σ = some r) : Did P N Z o a w r.2 r.1 := by
  obtain ⟨tk, tv, q1, q2, q3⟩ := hE.mpt t _ _ ht
  have hTV := hE.ty tv V q3
  unfold mpLook at hr
  split at hr
  case h_2 => cases hr
  rename_i s ver τk k
  simp only [M.run] at hr
  split at hr
  case h_2 => cases hr
  rename_i ver' e' xs hen
  split at hr
  case isFalse => cases hr
  rename_i hver
  subst hver
  split at hr
  case h_2 => cases hr
  rename_i xs' k' hxs hkk
  obtain ⟨e1, hxs⟩ := cast?_some hxs
  obtain ⟨e2, hkk⟩ := cast?_some hkk
  cases e1; subst e2
  have hxs : xs = xs' := hxs
  have hkk : k = k' := hkk
  subst hxs; subst hkk
  have hmm := h.mems s
  rw [hen] at hmm
  obtain ⟨rr, es, c, m1, m2, m3, m4, m5⟩ := hmm
  have hum : um = .map (some rr) := (hm.2 _ _ _ hen).trans m1
  have hf := find_key hE (V := V) q2 hk m5
  rw [ret_run hr]
  cases hi : mpIdx xs k with
  | none =>
    rw [hi] at hf
    have hg : mpGet xs k = none := by rw [mpGet_idx, hi]; rfl
    have hz : RepV own w V (mkV V (zeroC V)) V.zero := RepV.mk hTV.isVal (zero_rep hTV.good)
    have hl : (Instr.lookup t um uk ok).run P w = .ok (if ok then .tuple #[mkV V (zeroC V), .bool false] else mkV V (zeroC V)) w := by
      unfold Instr.lookup
      simp only [hum, Sem.run_bind, run_underlying q1, MapKept.run_getObj_map m4, Sem.run_pure, Result.andThen_ok, check_key hE q2 hk, hf, Option.bind_none, hTV.zeroRun w]
    refine did_value (exec_v he hl) h ?_
    rw [hg]
    cases ok with
    | true => exact ⟨_, [_], rfl, hz, _, [], rfl, RepV.bool.2 rfl, rfl⟩
    | false => exact hz
  | some j =>
    rw [hi] at hf
    obtain ⟨v, hv⟩ := mpIdx_lt hi
    have hj : j < xs.length := (List.getElem?_eq_some_iff.1 hv).1
    have hvj : xs[j] = (k, v) := (List.getElem?_eq_some_iff.1 hv).2
    obtain ⟨e, g1, g2, g3⟩ := m5.2.2 j hj
    rw [hvj] at g3
    have hg : mpGet xs k = some v := by rw [mpGet_idx, hi]; simp [hv]
    have hl : (Instr.lookup t um uk ok).run P w = .ok (if ok then .tuple #[e.val, .bool true] else e.val) w := by
      unfold Instr.lookup
      simp only [hum, Sem.run_bind, run_underlying q1, MapKept.run_getObj_map m4, Sem.run_pure, Result.andThen_ok, check_key hE q2 hk, hf, Option.bind_some, g1, Option.map_some]
    refine did_value (exec_v he hl) h ?_
    rw [hg]
    cases ok with
    | true => exact ⟨_, [_], rfl, g3, _, [], rfl, RepV.bool.2 rfl, rfl⟩
    | false => exact g3

theorem mpLen_did (hE : EnvOk P E) (h : St N Z own β σ a w) {t ty : Nat} {K V : Ty} {vm : Re.V} {um : Value} (ht : E.mpt t = some (K, V)) (hm : RepS own w β σ.mem vm um)
    (he : execOp a.eval o = (do pure (.value (← Builtin.len_ #[t] ty #[um])))) {r : Re.V × S} (hr : (mpLen vm).run σ = some r) : Did P N Z o a w r.2 r.1 := by
  obtain ⟨tk, tv, q1, q2, q3⟩ := hE.mpt t _ _ ht
  unfold mpLen at hr
  split at hr
  case h_2 => cases hr
  rename_i s ver
  simp only [M.run] at hr
  split at hr
  case h_2 => cases hr
  rename_i ver' e' xs hen
  split at hr
  case isFalse => cases hr
  rename_i hver
  subst hver
  have hmm := h.mems s
  rw [hen] at hmm
  have hmm : MapR _ _ _ _ _ _ _ := hmm
  have key : ∃ rr es c, um = .map (some rr) ∧ w.heap[rr]? = some (.map es c) ∧ es.size = xs.length ∧ xs.length ≤ lim := by
    have hum := hm.2 _ _ _ hen
    cases e' with
    | pair A B =>
      obtain ⟨rr, es, c, m1, m2, m3, m4, m5⟩ := hmm
      exact ⟨rr, es, c, hum.trans m1, m4, m5.1, m5.2.1⟩
    | _ => exact hmm.elim
  obtain ⟨rr, es, c, m1, m4, m5, m6⟩ := key
  have m6 : xs.length ≤ 2147483648 := m6
  rw [ret_run hr]
  refine did_value (exec_v he (u := .int .i64 (xs.length : Int)) (w' := w) ?_) h (RepV.int.2 ⟨rfl, ?_⟩)
  · rw [m1]
    simp [Builtin.len_, run_underlying q1, MapKept.run_getObj_map m4, goInt, m5]
  · show (-9223372036854775808 : Int) ≤ (xs.length : Int) ∧ (xs.length : Int) < 9223372036854775808
    omega

/-- A block more that is no row. -/
theorem mpMake_did (hE : EnvOk P E) (h : St N Z own β σ a w) {d t : Nat} {K V : Ty} {rs : Option Value} (ht : E.mpt t = some (K, V)) (hrs : rs = none ∨ ∃ k n, rs = some (.int k n))
    (he : execOp a.eval o = (do pure (.value (← Instr.makeMap t rs)))) {r : Re.V × S} (hr : (mpMake d K V).run σ = some r) : Did P N Z o a w r.2 r.1 := by
  obtain ⟨tk, tv, q1, q2, q3⟩ := hE.mpt t _ _ ht
  unfold mpMake at hr
  simp only [M.run] at hr
  obtain ⟨_, _, h9⟩ := Option.map_eq_some_iff.1 hr
  subst h9
  let w' : World := { w with heap := w.heap.push (.map #[] 0) }
  have hB := h.base
  have hblk : ∀ b, b < w.heap.size → w'.heap[b]? = w.heap[b]? := fun b hb => by
    show (w.heap.push _)[b]? = _
    rw [Array.getElem?_push]; simp; omega
  have hrun : (Instr.makeMap t rs).run P w = .ok (.map (some w.heap.size)) w' := by
    rcases hrs with rfl | ⟨k, n, rfl⟩
    · simp [Instr.makeMap]; rfl
    · simp [Instr.makeMap, run_underlying q1, asInt]; rfl
  have hk : Keeps own (allocOwn own w.heap.size (site d 0)) w w' := by
    intro b j v e1 e2
    have hlt := cell?_lt e2
    refine ⟨?_, by rw [cell?_of_heap (hblk b hlt)]; exact e2⟩
    unfold allocOwn; rw [if_neg (by omega)]; exact e1
  have hks : ∀ s', OwnKeeps s' own (allocOwn own w.heap.size (site d 0)) w w' := by
    intro s'
    refine ⟨?_, ?_⟩
    · intro b j v e1 e2
      have hlt := cell?_lt e2
      refine ⟨?_, by rw [cell?_of_heap (hblk b hlt)]; exact e2, frozen?_of_heap (hblk b hlt)⟩
      unfold allocOwn; rw [if_neg (by omega)]; exact e1
    · intro b es c e1 e2
      have hlt := map_lt e2
      refine ⟨?_, by rw [hblk b hlt]; exact e2⟩
      unfold allocOwn; rw [if_neg (by omega)]; exact e1
  have hst := h.newSite (s := site d 0) (e' := .own (nextVer (σ.mem (site d 0))) (.pair K V) [] .mp) (c := .map (some w.heap.size)) (w' := w') (own' := allocOwn own w.heap.size (site d 0))
    ⟨rfl, rfl, rfl, by show w.heap.size ≤ (w.heap.push _).size; simp, fun b j hb _ => cell?_of_heap (hblk b (by omega)), fun b j v hb hv => ⟨⟨v, by rw [cell?_of_heap (hblk b (by omega))]; exact hv⟩, frozen?_of_heap (hblk b (by omega))⟩,
      fun b k hb ⟨x, fz, e1, e2⟩ => ⟨x, fz, by rw [shp_of_heap (hblk b (by omega))]; exact e1, e2⟩, fun b hb _ => hblk b (by omega)⟩
    (fun b j hlt _ => by unfold allocOwn; rw [if_neg (by omega)]) hk (fun s' _ => hks s') (fun b _ ⟨x, fz, e1, e2⟩ => ⟨x, fz, by rw [shp_of_heap (hblk b (shp_lt e1))]; exact e1, e2⟩) (fun β' => Evo.newOwn _ _ _ _)
    ⟨w.heap.size, #[], 0, by rw [upd_eq, if_pos rfl], hB, by simp [allocOwn], by show (w.heap.push _)[w.heap.size]? = _; simp, rfl, by simp, fun i hi => by simp at hi⟩
  exact did_value (exec_v he hrun) hst (ref_new _ _ _ _ _ _ _ _ _ _)

theorem mpUpd_did (hE : EnvOk P E) (h : St N Z own β σ a w) {t n : Nat} {V : Ty} {vm vk vx : Re.V} {um uk ux : Value} (ht : E.mpt t = some (.arr n (.int .u8), V)) (hm : RepS own w β σ.mem vm um) (hk : RepS own w β σ.mem vk uk)
    (hx : RepS own w β σ.mem vx ux) (he : execOp a.eval o = (do Instr.mapUpdate t um uk ux; pure .skip)) {r : Re.V × S} (hr : (mpUpd n V vm vk vx).run σ = some r) : Did P N Z o a w r.2 r.1 := by
  obtain ⟨tk, tv, q1, q2, q3⟩ := hE.mpt t _ _ ht
  unfold mpUpd at hr
  split at hr
  case h_2 => cases hr
  rename_i s ver τk k τx x
  simp only [M.run] at hr
  split at hr
  case h_2 => cases hr
  rename_i ver' e' xs hen
  split at hr
  case isFalse => cases hr
  rename_i hver
  subst hver
  split at hr
  case h_2 => cases hr
  rename_i xs' k' x' hxs hkk hxx
  obtain ⟨e1, hxs⟩ := cast?_some hxs
  obtain ⟨e2, hkk⟩ := cast?_some hkk
  obtain ⟨e3, hxx⟩ := cast?_some hxx
  cases e1; subst e2; subst e3
  have hxs : xs = xs' := hxs
  have hkk : k = k' := hkk
  have hxx : x = x' := hxx
  subst hxs; subst hkk; subst hxx
  obtain ⟨_, hc, h9⟩ := Option.map_eq_some_iff.1 hr
  subst h9
  have hlen : xs.length + 1 ≤ lim := of_decide_eq_true (chk_some hc)
  have hmm := h.mems s
  rw [hen] at hmm
  obtain ⟨rr, es, c, m1, m2, m3, m4, m5⟩ := hmm
  have hum : um = .map (some rr) := (hm.2 _ _ _ hen).trans m1
  have hlt := map_lt m4
  have hf := find_key hE (V := τx) q2 hk m5
  -- a world in which the map's block is another map
  have fin : ∀ (es' : Array MapEntry) (c' : Nat), (Instr.mapUpdate t um uk ux).run P w = .ok () { w with heap := w.heap.setIfInBounds rr (.map es' c') } →
      MapC own w (.arr n (.int .u8)) τx es' (mpPut xs k x) → Did P N Z o a w (σ.set s (.own ver (.pair (.arr n (.int .u8)) τx) (mpPut xs k x) .mp)) .dead := by
    intro es' c' hrun hmc
    let w' : World := { w with heap := w.heap.setIfInBounds rr (.map es' c') }
    have hother : ∀ b, b ≠ rr → w'.heap[b]? = w.heap[b]? := fun b hb => by
      show (w.heap.setIfInBounds rr _)[b]? = _
      rw [Array.getElem?_setIfInBounds_ne (Ne.symm hb)]
    have hself : w'.heap[rr]? = some (.map es' c') := by
      show (w.heap.setIfInBounds rr _)[rr]? = _
      rw [Array.getElem?_setIfInBounds_self_of_lt hlt]
    have hcell : ∀ b j, w'.cell? ⟨b, j, none⟩ = w.cell? ⟨b, j, none⟩ := fun b j => by
      by_cases hb : b = rr
      · subst hb; rw [map_no_cell hself, map_no_cell m4]
      · exact cell?_of_heap (hother b hb)
    have hfroz : ∀ b j v, w.cell? ⟨b, j, none⟩ = some v → w'.frozen? ⟨b, j, none⟩ = w.frozen? ⟨b, j, none⟩ := fun b j v hv => by
      by_cases hb : b = rr
      · subst hb; rw [map_no_cell m4] at hv; cases hv
      · exact frozen?_of_heap (hother b hb)
    have hshp : ∀ b kk, Free w b kk → Free w' b kk := by
      rintro b kk ⟨y, fz, e1, e2⟩
      by_cases hb : b = rr
      · subst hb
        unfold shp at e1; rw [m4] at e1; cases e1
      · exact ⟨y, fz, by rw [shp_of_heap (hother b hb)]; exact e1, e2⟩
    have hk' : Keeps own own w w' := fun b j v e1 e2 => ⟨e1, by rw [hcell]; exact e2⟩
    have hks : ∀ s', s' ≠ s → OwnKeeps s' own own w w' := fun s' hs' => ⟨fun b j v e1 e2 => ⟨e1, by rw [hcell]; exact e2, hfroz b j v e2⟩, fun b es0 c0 e1 e2 => ⟨e1, by
      rw [hother b (fun e => by rw [e, m3] at e1; cases e1; exact hs' rfl)]; exact e2⟩⟩
    have hle : xs.length ≤ (mpPut xs k x).length := by
      cases hi : mpIdx xs k with
      | none => rw [mpPut_none hi]; simp
      | some j => rw [mpPut_some hi]; simp
    have hst : St N Z own β (σ.set s (.own ver (.pair (.arr n (.int .u8)) τx) (mpPut xs k x) .mp)) a w' := by
      refine h.go ⟨rfl, rfl, rfl, by show w.heap.size ≤ (w.heap.setIfInBounds rr _).size; simp, fun b j _ _ => hcell b j, fun b j v _ hv => ⟨⟨v, by rw [hcell]; exact hv⟩, hfroz b j v hv⟩, fun b kk _ => hshp b kk,
        fun b hb _ => hother b (by omega)⟩ (fun _ _ _ _ => rfl) hk' ?_ rfl ?_
      · intro s'
        show Evo β β s' (σ.mem s') (upd σ.mem s _ s')
        rw [upd_eq]; split
        · rename_i e; subst e; rw [hen]; exact Evo.setMp rfl hle
        · exact Evo.same _ rfl
      · intro s'
        show RepE Z own w' β s' (upd σ.mem s _ s')
        rw [upd_eq]; split
        · rename_i e; subst e
          exact ⟨rr, es', c', m1, m2, m3, hself, hmc.keeps hk'⟩
        · rename_i e; exact (h.mems s').keeps hk' (hks s' e) hshp rfl
    refine did_skip ?_ hst
    rw [he]
    simp only [Sem.run_bind, hrun, Result.andThen_ok, Sem.run_pure]
    rfl
  show Did P N Z o a w (σ.set s _) .dead
  cases hi : mpIdx xs k with
  | none =>
    rw [hi] at hf
    refine fin (es.push { key := uk, val := ux, born := c }) (c + 1) ?_ ?_
    · unfold Instr.mapUpdate
      simp only [hum, Sem.run_bind, run_underlying q1, MapKept.run_getObj_map m4, Sem.run_pure, Result.andThen_ok, check_key hE q2 hk, hf, Option.bind_none, MapKept.run_setObj_map _ m4]
    · rw [mpPut_none hi]
      refine ⟨by simp [m5.1], by simpa using hlen, fun i hil => ?_⟩
      by_cases hil2 : i < xs.length
      · obtain ⟨e, g1, g2, g3⟩ := m5.2.2 i hil2
        refine ⟨e, ?_, ?_, ?_⟩
        · rw [Array.getElem?_push, if_neg (by have := m5.1; omega)]; exact g1
        · rw [List.getElem_append_left hil2]; exact g2
        · rw [List.getElem_append_left hil2]; exact g3
      · have hie : i = xs.length := by simp at hil; omega
        subst hie
        refine ⟨{ key := uk, val := ux, born := c }, ?_, ?_, ?_⟩
        · rw [← m5.1]; simp
        · simp only [List.getElem_append_right (Nat.le_refl _), Nat.sub_self, List.getElem_cons_zero]; exact hk
        · simp only [List.getElem_append_right (Nat.le_refl _), Nat.sub_self, List.getElem_cons_zero]; exact hx
  | some j =>
    rw [hi] at hf
    obtain ⟨v, hv⟩ := mpIdx_lt hi
    have hj : j < xs.length := (List.getElem?_eq_some_iff.1 hv).1
    have hvj : xs[j] = (k, v) := (List.getElem?_eq_some_iff.1 hv).2
    obtain ⟨e, g1, g2, g3⟩ := m5.2.2 j hj
    rw [hvj] at g2
    obtain ⟨s1, s2⟩ := key_same hE q2 g2 hk
    refine fin (es.modify j fun e => { e with key := uk, val := ux }) c ?_ ?_
    · unfold Instr.mapUpdate
      simp only [hum, Sem.run_bind, run_underlying q1, MapKept.run_getObj_map m4, Sem.run_pure, Result.andThen_ok, check_key hE q2 hk, hf, Option.bind_some, g1, Option.map_some, Option.getD_some, Instr.keyThatStays, s2, if_true, MapKept.run_setObj_map _ m4]
    · rw [mpPut_some hi]
      refine ⟨by simp [m5.1], by simp; omega, fun i hil => ?_⟩
      rw [List.length_set] at hil
      obtain ⟨e0, f1, f2, f3⟩ := m5.2.2 i hil
      by_cases hij : j = i
      · subst hij
        refine ⟨{ e with key := uk, val := ux }, ?_, ?_, ?_⟩
        · rw [Array.getElem?_modify, if_pos rfl, g1]; rfl
        · rw [List.getElem_set_self]; exact hk
        · rw [List.getElem_set_self]; exact hx
      · refine ⟨e0, ?_, ?_, ?_⟩
        · rw [Array.getElem?_modify, if_neg hij]; exact f1
        · rw [List.getElem_set_ne hij]; exact f2
        · rw [List.getElem_set_ne hij]; exact f3

end
end Go.Re
