/- The library of the reflection. -/
import Derived.Test.YtnhmeldgpgidiaaLib2
import Derived.WideKeyRuns
import Derived.Laws.IdiomRangeMap
import Derived.Orders
import Derived.Still
/- Reflection, part Wa: maps of one's own. -/
namespace Go.Re
set_option linter.unusedVariables false
set_option linter.unusedSimpArgs false
open Go.RowKit (Below)

/-! ### pairs -/
def mpIdx {n : Nat} {V : Type} : List (List (BitVec n) × V) → List (BitVec n) → Option Nat
  | [], _ => none
  | p :: r, k => bif decide (k = p.1) then some 0 else (mpIdx r k).map (· + 1)
theorem mpIdx_lt {n : Nat} {V : Type} : ∀ {xs : List (List (BitVec n) × V)} {k : List (BitVec n)} {i : Nat}, mpIdx xs k = some i → ∃ v, xs[i]? = some (k, v)
  | [], _, _, h => by cases h
  | p :: r, k, i, h => by
    unfold mpIdx at h
    by_cases e : k = p.1
    · rw [decide_eq_true e, cond_true] at h
      cases h
      exact ⟨p.2, by rw [List.getElem?_cons_zero, e]⟩
    · rw [decide_eq_false e, cond_false] at h
      obtain ⟨j, h1, rfl⟩ := Option.map_eq_some_iff.1 h
      obtain ⟨v, h2⟩ := mpIdx_lt h1
      exact ⟨v, by rw [List.getElem?_cons_succ]; exact h2⟩
theorem mpPut_some {n : Nat} {V : Type} : ∀ {xs : List (List (BitVec n) × V)} {k : List (BitVec n)} {v : V} {i : Nat}, mpIdx xs k = some i → mpPut xs k v = xs.set i (k, v)
  | [], _, _, _, h => by cases h
  | p :: r, k, v, i, h => by
    unfold mpIdx at h
    unfold mpPut
    by_cases e : k = p.1
    · rw [decide_eq_true e, cond_true] at h
      cases h
      rw [decide_eq_true e, cond_true]; rfl
    · rw [decide_eq_false e, cond_false] at h
      obtain ⟨j, h1, rfl⟩ := Option.map_eq_some_iff.1 h
      rw [decide_eq_false e, cond_false, mpPut_some h1]; rfl
theorem mpPut_none {n : Nat} {V : Type} : ∀ {xs : List (List (BitVec n) × V)} {k : List (BitVec n)} {v : V}, mpIdx xs k = none → mpPut xs k v = xs ++ [(k, v)]
  | [], _, _, h => rfl
  | p :: r, k, v, h => by
    unfold mpIdx at h
    unfold mpPut
    by_cases e : k = p.1
    · rw [decide_eq_true e, cond_true] at h; cases h
    · rw [decide_eq_false e, cond_false] at h
      have h1 : mpIdx r k = none := by
        cases hh : mpIdx r k with
        | none => rfl
        | some j => rw [hh] at h; cases h
      rw [decide_eq_false e, cond_false, mpPut_none h1]; rfl
theorem mpGet_idx {n : Nat} {V : Type} : ∀ (xs : List (List (BitVec n) × V)) (k : List (BitVec n)), mpGet xs k = (mpIdx xs k).bind fun i => xs[i]?.map (·.2)
  | [], _ => rfl
  | p :: r, k => by
    unfold mpIdx mpGet
    by_cases e : k = p.1
    · rw [decide_eq_true e, cond_true, cond_true]; rfl
    · rw [decide_eq_false e, cond_false, cond_false, mpGet_idx r k]
      cases mpIdx r k <;> rfl

section
variable {P : Program} {E : Env} {N : Nat} {Z : Base} {own : Own} {β : Conc} {σ : S} {a : Act} {w : World} {o : Oper}

/-! ### keys -/
theorem key_part (hE : EnvOk P E) {t n : Nat} {x : List (BitVec 8)} {u : Value} (ht : E.ty t = some (.arr n (.int .u8))) (hu : RepV own w (.arr n (.int .u8)) u x) :
    ∃ te i, P.underlying t = some (.array n te) ∧ P.underlying te = some (.int .u8) ∧ P.info? te = some i ∧ x.length = n ∧ ∃ cs : List Value, u = .agg cs.toArray ∧ cs.length = n ∧
      (∀ j (h : j < x.length), cs[j]? = some (.int .u8 (toI .u8 x[j]))) ∧ ∀ j, j < n → ∃ v, (part te cs.toArray (j * P.cellsOf te)).run P w = .ok (.int .u8 v) w := by
  obtain ⟨cs, rfl, hx1, hx2, hx3⟩ := (RepV.agg rfl).1 hu
  obtain ⟨te, q1, q2⟩ := (hE.ty t _ ht).desc
  have hT := hE.ty te _ q2
  obtain ⟨i, g1, _⟩ := hT.info
  have hcell : P.cellsOf te = 1 := by
    have h1 := hT.cells (P := P) w
    rw [run_sizeOf w g1] at h1
    have : P.cellsOf te = Ty.size (.int .u8) := by injection h1
    exact this
  have hs1 : Ty.size (.int .u8) = 1 := rfl
  refine ⟨te, i, q1, hT.desc, g1, hx1, cs, rfl, by rw [hx2, hs1, Nat.mul_one], fun j hj => ?_, fun j hj => ?_⟩
  · have a1 := hx3 j hj
    rw [hs1, Nat.mul_one] at a1
    have : (cs.drop j).take 1 = [.int .u8 (toI .u8 x[j])] := a1.1
    have h0 : ((cs.drop j).take 1)[0]? = some (.int .u8 (toI .u8 x[j])) := by rw [this]; rfl
    rw [List.getElem?_take, if_pos (by omega), List.getElem?_drop] at h0
    exact h0
  · have a1 := hx3 j (by omega)
    have e1 := hT.partRun (w := w) (own := own) (cs := cs) (off := j * 1) a1 (by rw [hx2, hs1]; omega)
    have v1 := RepV.int.1 (RepV.mk (τ := .int .u8) rfl a1)
    simp only [hs1] at e1 v1
    rw [v1.1] at e1
    exact ⟨_, by rw [hcell]; exact e1⟩

theorem check_u8 {te : Nat} (h : P.underlying te = some (.int .u8)) (em : Bool) (m : Nat) (v : Int) : (Instr.checkKey em (m + 1) te (.int .u8 v)).run P w = .ok () w := by
  simp [Instr.checkKey, run_underlying h]
theorem same_int (m : Nat) (i : Int) : Instr.sameBits (m + 1) (.int .u8 i) (.int .u8 i) = true := by
  simp [Instr.sameBits]

theorem check_key (hE : EnvOk P E) {t n : Nat} {x : List (BitVec 8)} {u : Value} (ht : E.ty t = some (.arr n (.int .u8))) (hu : RepV own w (.arr n (.int .u8)) u x) (em : Bool) :
    (Instr.checkKey em 10000 t u).run P w = .ok () w := by
  obtain ⟨te, i, q1, q2, q3, hx, cs, rfl, hl, hc, hp⟩ := key_part hE ht hu
  rw [show (10000 : Nat) = 9999 + 1 from rfl, Instr.checkKey]
  simp only [Sem.run_bind, run_underlying q1, Result.andThen_ok]
  simp only [Std.Legacy.Range.forIn_eq_forIn_range', Std.Legacy.Range.size, Nat.sub_zero, Nat.add_one_sub_one, Nat.div_one]
  have each : ∀ j ∈ List.range' 0 n, j < n := fun j hj => by
    have := List.mem_range'_1.1 hj; omega
  generalize List.range' 0 n = is at each
  induction is with
  | nil => simp
  | cons j is ih =>
    obtain ⟨v, p1⟩ := hp j (each j (by simp))
    have p2 : (Instr.checkKey em 9999 te (.int .u8 v)).run P w = .ok () w := check_u8 q2 em 9998 v
    simp only [List.forIn_cons, Sem.run_bind, run_sizeOf w q3, Result.andThen_ok, p1, p2, Sem.run_pure]
    exact ih (fun y hy => each y (by simp [hy]))

/-- One datum, one value. -/
theorem key_same (hE : EnvOk P E) {t n : Nat} {x : List (BitVec 8)} {u v : Value} (ht : E.ty t = some (.arr n (.int .u8))) (hu : RepV own w (.arr n (.int .u8)) u x) (hv : RepV own w (.arr n (.int .u8)) v x) :
    u = v ∧ Instr.sameBits 10000 u v = true := by
  obtain ⟨_, _, _, _, _, hx, cs, rfl, hl, hc, hz1⟩ := key_part hE ht hu
  obtain ⟨_, _, _, _, _, hy, ds, rfl, hm, hd, hz2⟩ := key_part hE ht hv
  have : cs = ds := by
    apply List.ext_getElem?
    intro j
    by_cases hj : j < x.length
    · rw [hc j hj, hd j hj]
    · rw [List.getElem?_eq_none (by omega), List.getElem?_eq_none (by omega)]
  subst this
  refine ⟨rfl, ?_⟩
  rw [show (10000 : Nat) = 9999 + 1 from rfl, Instr.sameBits]
  have hall : ∀ c ∈ cs, ∃ i, c = .int .u8 i := by
    intro c hcm
    obtain ⟨j, hj, rfl⟩ := List.getElem_of_mem hcm
    have := hc j (by omega)
    rw [List.getElem?_eq_getElem hj] at this
    injection this with this
    exact ⟨_, this⟩
  simp only [beq_self_eq_true, Bool.true_and]
  clear hc hd hl hm hu hv hz1 hz2
  induction cs with
  | nil => rfl
  | cons c cs ih =>
    obtain ⟨i, rfl⟩ := hall c (by simp)
    simp only [List.zip_cons_cons, List.all_cons, Bool.and_eq_true]
    exact ⟨same_int 9998 i, ih fun c hcm => hall c (by simp [hcm])⟩

/-- How a key is looked for. -/
theorem find_asking (hE : EnvOk P E) {t n : Nat} {V : Ty} {k : List (BitVec 8)} {u : Value} (ht : E.ty t = some (.arr n (.int .u8))) (hu : RepV own w (.arr n (.int .u8)) u k) :
    ∀ (es : List MapEntry) (xs : List (List (BitVec 8) × V.D)) (i : Nat), es.length = xs.length → (∀ j (h : j < xs.length), ∃ e, es[j]? = some e ∧ RepV own w (.arr n (.int .u8)) e.key xs[j].1) →
      (Instr.findAsking t u es i).run P w = .ok ((mpIdx xs k).bind fun j => es[j]?.map fun e => (i + j, e.val)) w
  | [], [], i, _, _ => by simp [Instr.findAsking, mpIdx]
  | [], _ :: _, _, h, _ => by cases h
  | _ :: _, [], _, h, _ => by cases h
  | e :: es, x :: xs, i, hl, hr => by
    obtain ⟨e', h1, h2⟩ := hr 0 (by simp)
    cases h1
    have heq := eqArr_run (own := own) (w := w) (d := 9998) hE ht hu h2
    have heq' : (Op.equal t u e.key).run P w = .ok (decide (k = x.1)) w := heq
    have ih := find_asking hE (V := V) ht hu es xs (i + 1) (by simpa using hl) fun j hj => by
      obtain ⟨e', g1, g2⟩ := hr (j + 1) (by simpa using hj)
      exact ⟨e', by simpa using g1, by simpa using g2⟩
    unfold Instr.findAsking mpIdx
    simp only [Sem.run_bind, heq', Result.andThen_ok]
    by_cases hk : k = x.1
    · simp [decide_eq_true hk]
    · rw [decide_eq_false hk]
      simp only [Bool.false_eq_true, if_false, ih, cond_false]
      congr 1
      cases mpIdx xs k with
      | none => rfl
      | some j =>
        simp only [Option.map_some, Option.bind_some, List.getElem?_cons_succ]
        rw [show i + 1 + j = i + (j + 1) by omega]

theorem find_key (hE : EnvOk P E) {t n : Nat} {V : Ty} {k : List (BitVec 8)} {u : Value} (ht : E.ty t = some (.arr n (.int .u8))) (hu : RepV own w (.arr n (.int .u8)) u k) {es : Array MapEntry} {xs : List (List (BitVec 8) × V.D)}
    (hm : MapC own w (.arr n (.int .u8)) V es xs) : (Instr.findKey t u es.toList).run P w = .ok ((mpIdx xs k).bind fun j => es[j]?.map fun e => (j, e.val)) w := by
  obtain ⟨te, q1, _⟩ := (hE.ty t _ ht).desc
  rw [run_findKey_eq w (by rw [q1]), find_asking hE (V := V) ht hu es.toList xs 0 (by simpa using hm.1) fun j hj => by
    obtain ⟨e, h1, h2, _⟩ := hm.2.2 j hj
    exact ⟨e, by simpa using h1, h2⟩]
  congr 1
  cases mpIdx xs k with
  | none => rfl
  | some j => simp

/-! ### the operations -/
theorem mpLook_did (hE : EnvOk P E) (h : St N Z own β σ a w) {t n : Nat} {V : Ty} {vm vk : Re.V} {um uk : Value} {ok : Bool} (ht : E.mpt t = some (.arr n (.int .u8), V)) (hm : RepS own w β σ.mem vm um) (hk : RepS own w β σ.mem vk uk)
    (he : execOp a.eval o = (do pure (.value (← Instr.lookup t um uk ok)))) {r : Re.V × S} (hr : (mpLook n V vm vk ok).run σ = some r) : Did P N Z o a w r.2 r.1 := by
  obtain ⟨tk, tv, q1, q2, q3, _⟩ := hE.mpt t _ _ ht
  have hTV := hE.ty tv V q3
  unfold mpLook at hr
  split at hr
  case h_2 => cases hr
  rename_i s ver τk k
  simp only [M.run] at hr
  split at hr
  case h_2 => cases hr
  rename_i ver' e' xs hen
  split at hr
  case isFalse => cases hr
  rename_i hver
  subst hver
  split at hr
  case h_2 => cases hr
  rename_i xs' k' hxs hkk
  obtain ⟨e1, hxs⟩ := cast?_some hxs
  obtain ⟨e2, hkk⟩ := cast?_some hkk
  cases e1; subst e2
  have hxs : xs = xs' := hxs
  have hkk : k = k' := hkk
  subst hxs; subst hkk
  have hmm := h.mems s
  rw [hen] at hmm
  obtain ⟨rr, es, c, m1, m2, m3, m4, m5⟩ := hmm
  have hum : um = .map (some rr) := (hm.2 _ _ _ hen).trans m1
  have hf := find_key hE (V := V) q2 hk m5
  rw [ret_run hr]
  cases hi : mpIdx xs k with
  | none =>
    rw [hi] at hf
    have hg : mpGet xs k = none := by rw [mpGet_idx, hi]; rfl
    have hz : RepV own w V (mkV V (zeroC V)) V.zero := RepV.mk hTV.isVal (zero_rep hTV.good)
    have hl : (Instr.lookup t um uk ok).run P w = .ok (if ok then .tuple #[mkV V (zeroC V), .bool false] else mkV V (zeroC V)) w := by
      unfold Instr.lookup
      simp only [hum, Sem.run_bind, run_underlying q1, MapKept.run_getObj_map m4, Sem.run_pure, Result.andThen_ok, check_key hE q2 hk, hf, Option.bind_none, hTV.zeroRun w]
    refine did_value (exec_v he hl) h ?_
    rw [hg]
    cases ok with
    | true => exact ⟨_, [_], rfl, hz, _, [], rfl, RepV.bool.2 rfl, rfl⟩
    | false => exact hz
  | some j =>
    rw [hi] at hf
    obtain ⟨v, hv⟩ := mpIdx_lt hi
    have hj : j < xs.length := (List.getElem?_eq_some_iff.1 hv).1
    have hvj : xs[j] = (k, v) := (List.getElem?_eq_some_iff.1 hv).2
    obtain ⟨e, g1, g2, g3⟩ := m5.2.2 j hj
    rw [hvj] at g3
    have hg : mpGet xs k = some v := by rw [mpGet_idx, hi]; simp [hv]
    have hl : (Instr.lookup t um uk ok).run P w = .ok (if ok then .tuple #[e.val, .bool true] else e.val) w := by
      unfold Instr.lookup
      simp only [hum, Sem.run_bind, run_underlying q1, MapKept.run_getObj_map m4, Sem.run_pure, Result.andThen_ok, check_key hE q2 hk, hf, Option.bind_some, g1, Option.map_some]
    refine did_value (exec_v he hl) h ?_
    rw [hg]
    cases ok with
    | true => exact ⟨_, [_], rfl, g3, _, [], rfl, RepV.bool.2 rfl, rfl⟩
    | false => exact g3

theorem mpLen_did (hE : EnvOk P E) (h : St N Z own β σ a w) {t ty : Nat} {K V : Ty} {vm : Re.V} {um : Value} (ht : E.mpt t = some (K, V)) (hm : RepS own w β σ.mem vm um)
    (he : execOp a.eval o = (do pure (.value (← Builtin.len_ #[t] ty #[um])))) {r : Re.V × S} (hr : (mpLen vm).run σ = some r) : Did P N Z o a w r.2 r.1 := by
  obtain ⟨tk, tv, q1, q2, q3, _⟩ := hE.mpt t _ _ ht
  unfold mpLen at hr
  split at hr
  case h_2 => cases hr
  rename_i s ver
  simp only [M.run] at hr
  split at hr
  case h_2 => cases hr
  rename_i ver' e' xs hen
  split at hr
  case isFalse => cases hr
  rename_i hver
  subst hver
  have hmm := h.mems s
  rw [hen] at hmm
  have hmm : MapR _ _ _ _ _ _ _ := hmm
  have key : ∃ rr es c, um = .map (some rr) ∧ w.heap[rr]? = some (.map es c) ∧ es.size = xs.length ∧ xs.length ≤ lim := by
    have hum := hm.2 _ _ _ hen
    cases e' with
    | pair A B =>
      obtain ⟨rr, es, c, m1, m2, m3, m4, m5⟩ := hmm
      exact ⟨rr, es, c, hum.trans m1, m4, m5.1, m5.2.1⟩
    | _ => exact hmm.elim
  obtain ⟨rr, es, c, m1, m4, m5, m6⟩ := key
  have m6 : xs.length ≤ 2147483648 := m6
  rw [ret_run hr]
  refine did_value (exec_v he (u := .int .i64 (xs.length : Int)) (w' := w) ?_) h (RepV.int.2 ⟨rfl, ?_⟩)
  · rw [m1]
    simp [Builtin.len_, run_underlying q1, MapKept.run_getObj_map m4, goInt, m5]
  · show (-9223372036854775808 : Int) ≤ (xs.length : Int) ∧ (xs.length : Int) < 9223372036854775808
    omega

/-- A block more that is no row. -/
theorem mpMake_did (hE : EnvOk P E) (h : St N Z own β σ a w) {d t : Nat} {K V : Ty} {rs : Option Value} (ht : E.mpt t = some (K, V)) (hrs : rs = none ∨ ∃ k n, rs = some (.int k n))
    (he : execOp a.eval o = (do pure (.value (← Instr.makeMap t rs)))) {r : Re.V × S} (hr : (mpMake d K V).run σ = some r) : Did P N Z o a w r.2 r.1 := by
  obtain ⟨tk, tv, q1, q2, q3, _⟩ := hE.mpt t _ _ ht
  unfold mpMake at hr
  simp only [M.run] at hr
  obtain ⟨_, _, h9⟩ := Option.map_eq_some_iff.1 hr
  subst h9
  let w' : World := { w with heap := w.heap.push (.map #[] 0) }
  have hB := h.base
  have hblk : ∀ b, b < w.heap.size → w'.heap[b]? = w.heap[b]? := fun b hb => by
    show (w.heap.push _)[b]? = _
    rw [Array.getElem?_push]; simp; omega
  have hrun : (Instr.makeMap t rs).run P w = .ok (.map (some w.heap.size)) w' := by
    rcases hrs with rfl | ⟨k, n, rfl⟩
    · simp [Instr.makeMap]; rfl
    · simp [Instr.makeMap, run_underlying q1, asInt]; rfl
  have hk : Keeps own (allocOwn own w.heap.size (site d 0)) w w' := by
    refine ⟨?_, ?_⟩
    · intro b j v e1 e2
      have hlt := cell?_lt e2
      refine ⟨?_, by rw [cell?_of_heap (hblk b hlt)]; exact e2⟩
      unfold allocOwn; rw [if_neg (by omega)]; exact e1
    · intro b es c e1 e2
      have hlt := map_lt e2
      refine ⟨?_, by rw [hblk b hlt]; exact e2⟩
      unfold allocOwn; rw [if_neg (by omega)]; exact e1
  have hks : ∀ s', OwnKeeps s' own (allocOwn own w.heap.size (site d 0)) w w' := by
    intro s'
    refine ⟨?_, ?_⟩
    · intro b j v e1 e2
      have hlt := cell?_lt e2
      refine ⟨?_, by rw [cell?_of_heap (hblk b hlt)]; exact e2, frozen?_of_heap (hblk b hlt)⟩
      unfold allocOwn; rw [if_neg (by omega)]; exact e1
    · intro b es c e1 e2
      have hlt := map_lt e2
      refine ⟨?_, by rw [hblk b hlt]; exact e2⟩
      unfold allocOwn; rw [if_neg (by omega)]; exact e1
  have hst := h.newSite (s := site d 0) (e' := .own (nextVer (σ.mem (site d 0))) (.pair K V) [] .mp) (c := .map (some w.heap.size)) (w' := w') (own' := allocOwn own w.heap.size (site d 0))
    ⟨rfl, rfl, rfl, by show w.heap.size ≤ (w.heap.push _).size; simp, fun b j hb _ => cell?_of_heap (hblk b (by omega)), fun b j v hb hv => ⟨⟨v, by rw [cell?_of_heap (hblk b (by omega))]; exact hv⟩, frozen?_of_heap (hblk b (by omega))⟩,
      fun b k hb ⟨x, fz, e1, e2⟩ => ⟨x, fz, by rw [shp_of_heap (hblk b (by omega))]; exact e1, e2⟩, fun b hb _ => hblk b (by omega)⟩
    (fun b j hlt _ => by unfold allocOwn; rw [if_neg (by omega)]) hk (fun s' _ => hks s') (fun b _ ⟨x, fz, e1, e2⟩ => ⟨x, fz, by rw [shp_of_heap (hblk b (shp_lt e1))]; exact e1, e2⟩) (fun β' => Evo.newOwn _ _ _ _)
    ⟨w.heap.size, #[], 0, by rw [upd_eq, if_pos rfl], hB, by simp [allocOwn], by show (w.heap.push _)[w.heap.size]? = _; simp, rfl, by simp, fun i hi => by simp at hi⟩
  exact did_value (exec_v he hrun) hst (ref_new _ _ _ _ _ _ _ _ _ _)

theorem mpUpd_did (hE : EnvOk P E) (h : St N Z own β σ a w) {t n : Nat} {V : Ty} {vm vk vx : Re.V} {um uk ux : Value} (ht : E.mpt t = some (.arr n (.int .u8), V)) (hm : RepS own w β σ.mem vm um) (hk : RepS own w β σ.mem vk uk)
    (hx : RepS own w β σ.mem vx ux) (he : execOp a.eval o = (do Instr.mapUpdate t um uk ux; pure .skip)) {r : Re.V × S} (hr : (mpUpd n V vm vk vx).run σ = some r) : Did P N Z o a w r.2 r.1 := by
  obtain ⟨tk, tv, q1, q2, q3, _⟩ := hE.mpt t _ _ ht
  unfold mpUpd at hr
  split at hr
  case h_2 => cases hr
  rename_i s ver τk k τx x
  simp only [M.run] at hr
  split at hr
  case h_2 => cases hr
  rename_i ver' e' xs hen
  split at hr
  case isFalse => cases hr
  rename_i hver
  subst hver
  split at hr
  case h_2 => cases hr
  rename_i xs' k' x' hxs hkk hxx
  obtain ⟨e1, hxs⟩ := cast?_some hxs
  obtain ⟨e2, hkk⟩ := cast?_some hkk
  obtain ⟨e3, hxx⟩ := cast?_some hxx
  cases e1; subst e2; subst e3
  have hxs : xs = xs' := hxs
  have hkk : k = k' := hkk
  have hxx : x = x' := hxx
  subst hxs; subst hkk; subst hxx
  obtain ⟨_, hc, h9⟩ := Option.map_eq_some_iff.1 hr
  subst h9
  have hlen : xs.length + 1 ≤ lim := of_decide_eq_true (chk_some hc)
  have hmm := h.mems s
  rw [hen] at hmm
  obtain ⟨rr, es, c, m1, m2, m3, m4, m5⟩ := hmm
  have hum : um = .map (some rr) := (hm.2 _ _ _ hen).trans m1
  have hlt := map_lt m4
  have hf := find_key hE (V := τx) q2 hk m5
  -- a world in which the map's block is another map
  have fin : ∀ (es' : Array MapEntry) (c' : Nat), (Instr.mapUpdate t um uk ux).run P w = .ok () { w with heap := w.heap.setIfInBounds rr (.map es' c') } →
      MapC own w (.arr n (.int .u8)) τx es' (mpPut xs k x) → Did P N Z o a w (σ.set s (.own ver (.pair (.arr n (.int .u8)) τx) (mpPut xs k x) .mp)) .dead := by
    intro es' c' hrun hmc
    let w' : World := { w with heap := w.heap.setIfInBounds rr (.map es' c') }
    have hother : ∀ b, b ≠ rr → w'.heap[b]? = w.heap[b]? := fun b hb => by
      show (w.heap.setIfInBounds rr _)[b]? = _
      rw [Array.getElem?_setIfInBounds_ne (Ne.symm hb)]
    have hself : w'.heap[rr]? = some (.map es' c') := by
      show (w.heap.setIfInBounds rr _)[rr]? = _
      rw [Array.getElem?_setIfInBounds_self_of_lt hlt]
    have hcell : ∀ b j, w'.cell? ⟨b, j, none⟩ = w.cell? ⟨b, j, none⟩ := fun b j => by
      by_cases hb : b = rr
      · subst hb; rw [map_no_cell hself, map_no_cell m4]
      · exact cell?_of_heap (hother b hb)
    have hfroz : ∀ b j v, w.cell? ⟨b, j, none⟩ = some v → w'.frozen? ⟨b, j, none⟩ = w.frozen? ⟨b, j, none⟩ := fun b j v hv => by
      by_cases hb : b = rr
      · subst hb; rw [map_no_cell m4] at hv; cases hv
      · exact frozen?_of_heap (hother b hb)
    have hshp : ∀ b kk, Free w b kk → Free w' b kk := by
      rintro b kk ⟨y, fz, e1, e2⟩
      by_cases hb : b = rr
      · subst hb
        unfold shp at e1; rw [m4] at e1; cases e1
      · exact ⟨y, fz, by rw [shp_of_heap (hother b hb)]; exact e1, e2⟩
    have hk' : Keeps own own w w' := ⟨fun b j v e1 e2 => ⟨e1, by rw [hcell]; exact e2⟩, fun b es0 c0 e1 e2 => ⟨e1, by rw [hother b (fun e => by rw [e, m3] at e1; cases e1)]; exact e2⟩⟩
    have hks : ∀ s', s' ≠ s → OwnKeeps s' own own w w' := fun s' hs' => ⟨fun b j v e1 e2 => ⟨e1, by rw [hcell]; exact e2, hfroz b j v e2⟩, fun b es0 c0 e1 e2 => ⟨e1, by
      rw [hother b (fun e => by rw [e, m3] at e1; cases e1; exact hs' rfl)]; exact e2⟩⟩
    have hle : xs.length ≤ (mpPut xs k x).length := by
      cases hi : mpIdx xs k with
      | none => rw [mpPut_none hi]; simp
      | some j => rw [mpPut_some hi]; simp
    have hst : St N Z own β (σ.set s (.own ver (.pair (.arr n (.int .u8)) τx) (mpPut xs k x) .mp)) a w' := by
      refine h.go ⟨rfl, rfl, rfl, by show w.heap.size ≤ (w.heap.setIfInBounds rr _).size; simp, fun b j _ _ => hcell b j, fun b j v _ hv => ⟨⟨v, by rw [hcell]; exact hv⟩, hfroz b j v hv⟩, fun b kk _ => hshp b kk,
        fun b hb _ => hother b (by omega)⟩ (fun _ _ _ _ => rfl) hk' ?_ rfl ?_
      · intro s'
        show Evo β β s' (σ.mem s') (upd σ.mem s _ s')
        rw [upd_eq]; split
        · rename_i e; subst e; rw [hen]; exact Evo.setMp rfl hle
        · exact Evo.same _ rfl
      · intro s'
        show RepE Z own w' β s' (upd σ.mem s _ s')
        rw [upd_eq]; split
        · rename_i e; subst e
          exact ⟨rr, es', c', m1, m2, m3, hself, hmc.keeps hk'⟩
        · rename_i e; exact (h.mems s').keeps hk' (hks s' e) hshp rfl
    refine did_skip ?_ hst
    rw [he]
    simp only [Sem.run_bind, hrun, Result.andThen_ok, Sem.run_pure]
    rfl
  show Did P N Z o a w (σ.set s _) .dead
  cases hi : mpIdx xs k with
  | none =>
    rw [hi] at hf
    refine fin (es.push { key := uk, val := ux, born := c }) (c + 1) ?_ ?_
    · unfold Instr.mapUpdate
      simp only [hum, Sem.run_bind, run_underlying q1, MapKept.run_getObj_map m4, Sem.run_pure, Result.andThen_ok, check_key hE q2 hk, hf, Option.bind_none, MapKept.run_setObj_map _ m4]
    · rw [mpPut_none hi]
      refine ⟨by simp [m5.1], by simpa using hlen, fun i hil => ?_⟩
      by_cases hil2 : i < xs.length
      · obtain ⟨e, g1, g2, g3⟩ := m5.2.2 i hil2
        refine ⟨e, ?_, ?_, ?_⟩
        · rw [Array.getElem?_push, if_neg (by have := m5.1; omega)]; exact g1
        · rw [List.getElem_append_left hil2]; exact g2
        · rw [List.getElem_append_left hil2]; exact g3
      · have hie : i = xs.length := by simp at hil; omega
        subst hie
        refine ⟨{ key := uk, val := ux, born := c }, ?_, ?_, ?_⟩
        · rw [← m5.1]; simp
        · simp only [List.getElem_append_right (Nat.le_refl _), Nat.sub_self, List.getElem_cons_zero]; exact hk
        · simp only [List.getElem_append_right (Nat.le_refl _), Nat.sub_self, List.getElem_cons_zero]; exact hx
  | some j =>
    rw [hi] at hf
    obtain ⟨v, hv⟩ := mpIdx_lt hi
    have hj : j < xs.length := (List.getElem?_eq_some_iff.1 hv).1
    have hvj : xs[j] = (k, v) := (List.getElem?_eq_some_iff.1 hv).2
    obtain ⟨e, g1, g2, g3⟩ := m5.2.2 j hj
    rw [hvj] at g2
    obtain ⟨s1, s2⟩ := key_same hE q2 g2 hk
    refine fin (es.modify j fun e => { e with key := uk, val := ux }) c ?_ ?_
    · unfold Instr.mapUpdate
      simp only [hum, Sem.run_bind, run_underlying q1, MapKept.run_getObj_map m4, Sem.run_pure, Result.andThen_ok, check_key hE q2 hk, hf, Option.bind_some, g1, Option.map_some, Option.getD_some, Instr.keyThatStays, s2, if_true, MapKept.run_setObj_map _ m4]
    · rw [mpPut_some hi]
      refine ⟨by simp [m5.1], by simp; omega, fun i hil => ?_⟩
      rw [List.length_set] at hil
      obtain ⟨e0, f1, f2, f3⟩ := m5.2.2 i hil
      by_cases hij : j = i
      · subst hij
        refine ⟨{ e with key := uk, val := ux }, ?_, ?_, ?_⟩
        · rw [Array.getElem?_modify, if_pos rfl, g1]; rfl
        · rw [List.getElem_set_self]; exact hk
        · rw [List.getElem_set_self]; exact hx
      · refine ⟨e0, ?_, ?_, ?_⟩
        · rw [Array.getElem?_modify, if_neg hij]; exact f1
        · rw [List.getElem_set_ne hij]; exact f2
        · rw [List.getElem_set_ne hij]; exact f3

/-! ### rows that are lent -/
theorem RepC.flat {own own' : Own} {w w' : World} : ∀ {τ : Ty} {cs : List Value} {x : τ.D}, τ.flat = true → RepC own w τ cs x → RepC own' w' τ cs x
  | .bool, _, _, _, h => h
  | .str, _, _, _, h => h
  | .unit, _, _, _, h => h
  | .int _, _, _, _, h => h
  | .pair a b, _, _, hf, ⟨c, d, e, h1, h2⟩ => by
    have hf : (a.flat && b.flat) = true := hf
    simp only [Bool.and_eq_true] at hf
    exact ⟨c, d, e, RepC.flat (τ := a) hf.1 h1, RepC.flat (τ := b) hf.2 h2⟩
  | .st b, _, _, hf, h => RepC.flat (τ := b) hf h
  | .arr n e, _, _, hf, ⟨h1, h2, h3⟩ => ⟨h1, h2, fun i hi => RepC.flat (τ := e) hf (h3 i hi)⟩
  | .sl e, _, _, hf, _ => by cases hf
  | .mp _ _, _, _, hf, _ => by cases hf
theorem RepV.flat {own own' : Own} {w w' : World} {τ : Ty} {v : Value} {x : τ.D} (hf : τ.flat = true) (h : RepV own w τ v x) : RepV own' w' τ v x :=
  ⟨h.1, let ⟨cs, h1, h2⟩ := h.2; ⟨cs, h1, h2.flat hf⟩⟩

theorem ioSites_in : ∀ {ps : List Par} {io : Io ps}, ps.all Par.isIn = true → ioSites ps io = []
  | [], _, _ => rfl
  | .val _ :: r, io, h => ioSites_in (ps := r) (by simpa [Par.isIn] using h)
  | .nils _ :: r, io, h => ioSites_in (ps := r) (by simpa [Par.isIn] using h)
  | .pv _ :: r, io, h => ioSites_in (ps := r) (by simpa [Par.isIn] using h)
  | .box _ :: r, io, h => by simp [Par.isIn] at h
  | .row _ :: r, io, h => by simp [Par.isIn] at h
  | .take _ :: r, io, h => by simp [Par.isIn] at h

theorem lend_did (hE : EnvOk P E) (h : St N Z own β σ a w) {f : Nat} {F : Fun} {args : Array Operand} {ats : Array TypeId} (hF : E.fn f = some F) (ho : o.op = .call { callee := .value (.func f), args, argTypes := ats })
    {r : Re.V × S} {d : Nat} (hr : (lendM d F (args.toList.map .inl)).run σ = some r) : Did P N Z o a w r.2 r.1 := by
  have hX := Xs.ops own w β σ.mem a args.toList [] [] rfl
  rw [List.append_nil, List.append_nil] at hX
  have hC := hE.fn f F hF
  have hexec : (execOp a.eval o).run P w = .ok (.enter f (args.toList.map a.eval).toArray) w := by
    rw [call_exec ho hC.fn]
    congr 2
    apply Array.ext'; simp
  unfold lendM at hr
  obtain ⟨x, fr, io, hf, hA, h3⟩ := argsM_run h _ _ _ hX hr
  cases hcond : F.args.all Par.isIn && flatRes F.res with
  | false => rw [hcond] at h3; cases h3
  | true =>
  rw [hcond, cond_true] at h3
  simp only [Bool.and_eq_true] at hcond
  obtain ⟨hin, hflat⟩ := hcond
  obtain ⟨res, hres1, hr1⟩ := fin_run h3
  obtain ⟨own1, s1, k1, v1⟩ := h.freeze hf
  have hno : ioSites F.args io = [] := ioSites_in hin
  have hA1 := hA.froz hf k1 v1 (by rw [hno]; intro s hs; cases hs)
  obtain ⟨ids, regs, a1, a2, a3, a4, a5⟩ := ArgReps.open s1 F.args 0 hA1 (by rw [hno]; exact List.nodup_nil)
  have hreg : ∀ k b j, ¬ inReg (regs k) b j := by
    rintro k b j ⟨_, c1, c2⟩
    have := (a2 k (by omega)).1
    rw [hno] at this; cases this
  have hcall := hC.calls w own1 ids (fun k => site d k) regs _ x res a1 a4 hres1
  intro Q
  unfold Oper.wp
  rw [hexec, Oper.upon_enter]
  refine hcall.mono ?_
  rintro e w' ⟨own2, us, rfl, hfr, hold, hret, hout⟩
  have hno2 : ∀ b j, ¬ ∃ i, inReg (regs i) b j := fun b j ⟨i, hi⟩ => hreg i b j hi
  have hk : Keeps own own w w' := ⟨fun b j v e1 e2 => ⟨e1, by rw [hfr.cell b j (cell?_lt e2) (hno2 b j)]; exact e2⟩, fun b es c e1 e2 => ⟨e1, by rw [hfr.block b (map_lt e2) (hno2 b)]; exact e2⟩⟩
  have hks : ∀ s, OwnKeeps s own own w w' := fun s => ⟨fun b j v e1 e2 => ⟨e1, by rw [hfr.cell b j (cell?_lt e2) (hno2 b j)]; exact e2, (hfr.live b j v (cell?_lt e2) e2).2⟩,
    fun b es c e1 e2 => ⟨e1, by rw [hfr.block b (map_lt e2) (hno2 b)]; exact e2⟩⟩
  have hshp : ShpKeeps w w' := fun b k hfree => hfr.shape b k (by obtain ⟨_, _, e1, _⟩ := hfree; exact shp_lt e1) hfree
  have hst : St N Z own β σ a w' := by
    refine h.go ⟨hfr.os, hfr.tape, hfr.output, hfr.size, fun b j hb _ => hfr.cell b j (Nat.lt_of_lt_of_le hb h.base) (hno2 b j), fun b j v hb hv => hfr.live b j v (Nat.lt_of_lt_of_le hb h.base) hv,
      fun b k hb => hfr.shape b k (Nat.lt_of_lt_of_le hb h.base), fun b hb _ => hfr.block b (Nat.lt_of_lt_of_le hb h.base) (hno2 b)⟩ (fun _ _ _ _ => rfl) hk (fun s => Evo.same _ rfl) rfl (fun s => (h.mems s).keeps hk (hks s) hshp rfl)
  refine ⟨retV us, rfl, own, β, ?_, ?_⟩
  · rw [hr1]; exact hst
  · rw [hr1]
    have one : ∀ (τ : Ty) (m : Mode) (y : τ.D) (i : Nat) (u : Value) (rid : Nat), τ.flat = true → RetC own2 w' w.heap.size rid (τ, m) u y → RepS own w' β σ.mem (resV (site d i) 0 (τ, m) y) u := by
      intro τ m y i u rid h1 e2
      cases τ with
      | sl e => cases h1
      | mp k v => cases h1
      | bool => cases m <;> exact RepV.flat h1 e2
      | str => cases m <;> exact RepV.flat h1 e2
      | unit => cases m <;> exact RepV.flat h1 e2
      | int k => cases m <;> exact RepV.flat h1 e2
      | pair p q => cases m <;> exact RepV.flat h1 e2
      | st b => cases m <;> exact RepV.flat h1 e2
      | arr n e => cases m <;> exact RepV.flat h1 e2
    have many : ∀ (ps : List (Ty × Mode)) (i : Nat) (us : List Value) (y : Ds (ps.map (·.1))), flatRes ps = true → RetAll own2 w' w.heap.size (fun k => site d k) i ps us y →
        RepS own w' β σ.mem (resVs d (fun _ => 0) i ps y) (.tuple us.toArray) := by
      intro ps
      induction ps with
      | nil => intro i us y _ h2; obtain rfl : us = [] := h2; rfl
      | cons p r ih =>
        intro i us y h1 h2
        simp only [flatRes, Bool.and_eq_true] at h1
        cases r with
        | nil =>
          obtain ⟨u, e1, e2⟩ := h2
          subst e1
          exact ⟨u, [], rfl, one p.1 p.2 y i u _ h1.1 e2, rfl⟩
        | cons q r =>
          obtain ⟨u, us', e1, e2, e3⟩ := h2
          subst e1
          exact ⟨u, us', rfl, one p.1 p.2 y.1 i u _ h1.1 e2, ih (i + 1) us' y.2 h1.2 e3⟩
    have key : ∀ (ps : List (Ty × Mode)) (y : Ds (ps.map (·.1))), flatRes ps = true → RetAll own2 w' w.heap.size (fun k => site d k) 0 ps us y → RepS own w' β σ.mem (resTop d (fun _ => 0) ps y) (retV us) := by
      intro ps y h1 h2
      match ps, y, h1, h2 with
      | [], y, h1, h2 => obtain rfl : us = [] := h2; rfl
      | [(τ, m)], y, h1, h2 =>
        obtain ⟨u, e1, e2⟩ := h2
        subst e1
        simp only [flatRes, Bool.and_eq_true] at h1
        exact one τ m y 0 u _ h1.1 e2
      | p :: q :: r, y, h1, h2 =>
        have h3 := h2
        obtain ⟨u, us', e1, e2, e3⟩ := h2
        have : us'.length ≠ 0 := by
          intro e0
          have e0 := List.length_eq_zero_iff.1 e0
          subst e0
          cases r with
          | nil => obtain ⟨u, e, _⟩ := e3; cases e
          | cons _ _ => obtain ⟨u, _, e, _⟩ := e3; cases e
        obtain ⟨u2, us2, rfl⟩ : ∃ u2 us2, us' = u2 :: us2 := by
          cases us' with
          | nil => simp at this
          | cons a b => exact ⟨a, b, rfl⟩
        subst e1
        exact many (p :: q :: r) 0 _ y h1 h3
    exact key _ _ hflat hret

/-! ### the rest of a row is set to nothing -/
theorem zeroCells_elems {own : Own} {w : World} {e : Ty} (hv : e.isVal = true) (hg : e.good = true) (k : Nat) : ElemsC own w e (Builtin.zeroCells (mkV e (zeroC e)).cells k).toList (List.replicate k e.zero) := by
  have hz : RepC own w e (zeroC e) e.zero := zero_rep hg
  have hl := hz.length
  have hc : (mkV e (zeroC e)).cells = (zeroC e).toArray := by
    have := mkV_cells hv hz
    exact Array.ext' (by simpa using this)
  have hlen := zeroCells_length hv hg k
  refine ⟨by rw [List.length_replicate, hlen]; exact Nat.le_refl _, fun i hi => ?_⟩
  have hi' : i < k := by simpa using hi
  have : ((Builtin.zeroCells (mkV e (zeroC e)).cells k).toList.drop (i * e.size)).take e.size = zeroC e := by
    apply List.ext_getElem?
    intro j
    rw [List.getElem?_take]
    have hik : i * e.size + e.size ≤ k * e.size := by rw [← Nat.succ_mul]; exact Nat.mul_le_mul_right _ hi'
    split
    · rename_i hj
      rw [List.getElem?_drop, hc]
      simp only [Builtin.zeroCells, Array.toList_map, Array.toList_range, List.getElem?_map, List.size_toArray, hl]
      rw [List.getElem?_range (by omega)]
      have hm : (i * e.size + j) % e.size = j := by rw [Nat.add_comm, Nat.add_mul_mod_self_right]; exact Nat.mod_eq_of_lt hj
      simp only [Option.map_some, hm]
      rw [List.getElem?_eq_getElem (by omega)]
      congr 1
      rw [getElem!_pos _ _ (by simpa using (by omega : j < (zeroC e).length))]
      simp
    · rw [List.getElem?_eq_none (by omega)]
  rw [this]
  simp only [List.getElem_replicate]
  exact hz

theorem clear_did (hE : EnvOk P E) (h : St N Z own β σ a w) {t ty : Nat} {v : Re.V} {u : Value} (hu : RepS own w β σ.mem v u)
    (he : execOp a.eval o = (do pure (.value (← Builtin.clear_ #[t] ty #[u])))) {r : Re.V × S} (hr : (clearM E t v).run σ = some r) : Did P N Z o a w r.2 r.1 := by
  unfold clearM at hr
  split at hr
  case h_2 => cases hr
  rename_i s ver lo
  simp only [M.run] at hr
  split at hr
  case h_2 => cases hr
  rename_i ver' e xs hm
  split at hr
  case isFalse => cases hr
  rename_i hc
  obtain ⟨rfl, ht⟩ := hc
  obtain ⟨_, _, h9⟩ := Option.map_eq_some_iff.1 hr
  subst h9
  obtain ⟨q1, ad, cap, q2, q3⟩ := hu.2 e xs .full hm rfl
  obtain ⟨te, hd, hte⟩ := (hE.ty t _ ht).desc
  have hT := hE.ty te e hte
  subst q3
  have hmm := h.mems s
  rw [hm] at hmm
  obtain ⟨ad', cap', f1, f2, f3, f4, f5⟩ := hmm
  rw [q2] at f1; cases f1
  have hk : min (List.replicate (xs.length - lo) e.zero).length (xs.length - lo) = xs.length - lo := by simp
  have hzl := zeroCells_length hT.isVal hT.good (xs.length - lo)
  show Did P N Z o a w (σ.set s _) .dead
  refine winCore (yc := (Builtin.zeroCells (mkV e (zeroC e)).cells (xs.length - lo)).toList) (u := .tuple #[]) hE h ht hm q1 q2 (by rw [hzl]; simp) (zeroCells_elems hT.isVal hT.good _) ?_ (fun _ _ _ _ => trivial) hk ?_
  · intro c hcm
    have hzc : (mkV e (zeroC e)).cells = (zeroC e).toArray := by
      have := mkV_cells (own := own) (w := w) hT.isVal (zero_rep hT.good)
      exact Array.ext' (by simpa using this)
    have hel := (zeroCells_elems (own := own) (w := w) hT.isVal hT.good (xs.length - lo))
    obtain ⟨i, hi, hmem⟩ := chunk_mem hzl hcm
    exact RepC.one (hel.2 i (by simpa using hi)) c hmem
  · intro A w' hA hst
    rw [← hzl, List.take_length] at hst
    rw [← hA] at he
    refine exec_v he ?_
    cases A with
    | none =>
      obtain ⟨rfl, _⟩ := hst
      simp [Builtin.clear_, run_underlying hd]
    | some b =>
      cases hn : xs.length - lo with
      | zero =>
        rw [hn] at hst
        have : (Builtin.zeroCells (mkV e (zeroC e)).cells 0).toList = [] := by simp [Builtin.zeroCells]
        rw [this] at hst
        have hst : w = w' := by simpa [storeCells] using hst
        subst hst
        simp [Builtin.clear_, run_underlying hd, hn]
      | succ n =>
        rw [hn] at hst
        simp only [Builtin.clear_, List.getElem?_toArray, List.getElem?_cons_zero, Sem.run_bind, run_underlying hd, Result.andThen_ok, Sem.run_pure, hT.zeroRun w, hst]

end
end Go.Re
/- Reflection, part Wb: variables in which rows grow. -/
namespace Go.Re
set_option linter.unusedVariables false
set_option linter.unusedSimpArgs false
open Go.RowKit (Below)

/-- Cells change their owner. -/
def giveOwn (own : Own) (r : Nat × Nat × Nat) (d : Nat) : Own := fun b j => if b = r.1 ∧ r.2.1 ≤ j ∧ j < r.2.2 then some d else own b j

section
variable {P : Program} {E : Env} {N : Nat} {Z : Base} {own : Own} {β : Conc} {σ : S} {a : Act} {w w' : World} {o : Oper} {r : Nat × Nat × Nat} {d q s b lo hi off : Nat} {l : List (Nat × Nat)} {ds : List Value}

theorem giveOwn_out {j : Nat} (h : ¬ (b = r.1 ∧ r.2.1 ≤ j ∧ j < r.2.2)) : giveOwn own r d b j = own b j := if_neg h
theorem giveOwn_in {j : Nat} (h1 : r.2.1 ≤ j) (h2 : j < r.2.2) : giveOwn own r d r.1 j = some d := if_pos ⟨rfl, h1, h2⟩

theorem give_keeps (hr : ∀ j, r.2.1 ≤ j → j < r.2.2 → own r.1 j = some q) : Keeps own (giveOwn own r d) w w := by
  suffices hk0 : ∀ b o, own b o = none → giveOwn own r d b o = none from ⟨fun b' o' v h1 h2 => ⟨hk0 _ _ h1, h2⟩, fun r es c h1 h2 => ⟨hk0 _ _ h1, h2⟩⟩
  intro b o h1
  rw [giveOwn_out]
  · exact h1
  · rintro ⟨rfl, h3, h4⟩
    rw [hr o h3 h4] at h1; cases h1

theorem give_ownKeeps (hr : ∀ j, r.2.1 ≤ j → j < r.2.2 → own r.1 j = some q) {s' : Nat} (hs : s' ≠ q) : OwnKeeps s' own (giveOwn own r d) w w := by
  have key : ∀ b o, own b o = some s' → giveOwn own r d b o = some s' := by
    intro b o h1
    rw [giveOwn_out]
    · exact h1
    · rintro ⟨rfl, h3, h4⟩
      rw [hr o h3 h4] at h1; cases h1; exact hs rfl
  exact ⟨fun b o v h1 h2 => ⟨key _ _ h1, h2, rfl⟩, fun r es c h1 h2 => ⟨key _ _ h1, h2⟩⟩

theorem TailR.give (h : TailR Z own w s b lo hi) (ha : Apart (b, lo, hi) r) : TailR Z (giveOwn own r d) w s b lo hi := by
  intro j h1 h2
  obtain ⟨h3, h4⟩ := h j h1 h2
  refine ⟨?_, h4⟩
  rw [giveOwn_out]
  · exact h3
  · rintro ⟨e, h5, h6⟩
    exact ha j e h1 h2 h5 h6

theorem TailR.giveSame (h : TailR Z own w s b lo hi) : TailR Z (giveOwn own r s) w s b lo hi := by
  intro j h1 h2
  obtain ⟨h3, h4⟩ := h j h1 h2
  refine ⟨?_, h4⟩
  unfold giveOwn; split
  · rfl
  · exact h3

theorem TailR.got (h : TailR Z own w s r.1 r.2.1 r.2.2) : TailR Z (giveOwn own r d) w d r.1 r.2.1 r.2.2 :=
  fun j h1 h2 => ⟨giveOwn_in h1 h2, (h j h1 h2).2⟩

theorem TailR.wrote {b' : Nat} (h : TailR Z own w s b lo hi) (hw : Wrote b' off ds w w') : TailR Z own w' s b lo hi := by
  intro j h1 h2
  obtain ⟨h3, h4, ⟨v, h5⟩, h6⟩ := h j h1 h2
  refine ⟨h3, h4, ?_, ?_⟩
  · by_cases hb : b = b'
    · subst hb
      rw [hw.cell]; split
      · rename_i hc; exact ⟨_, List.getElem?_eq_getElem (by omega)⟩
      · exact ⟨v, h5⟩
    · exact ⟨v, by rw [cell?_of_heap (hw.block b hb)]; exact h5⟩
  · by_cases hb : b = b'
    · subst hb; rw [hw.frozen]; exact h6
    · rw [frozen?_of_heap (hw.block b hb)]; exact h6

theorem mem_cutG {n : Nat} {q : Nat × Nat} : q ∈ cutG off n l ↔ q ∈ l ∧ (q.1 < off ∨ off + n ≤ q.1) := by
  unfold cutG
  rw [List.mem_filter]
  have h1 : Nat.ble off q.1 = decide (off ≤ q.1) := by
    rw [Bool.eq_iff_iff, decide_eq_true_eq]; exact iff_of_eq Nat.ble_eq
  have h2 : Nat.ble (q.1 + 1) (off + n) = decide (q.1 + 1 ≤ off + n) := by
    rw [Bool.eq_iff_iff, decide_eq_true_eq]; exact iff_of_eq Nat.ble_eq
  rw [h1, h2]
  simp only [Bool.not_eq_true', Bool.and_eq_false_iff, decide_eq_false_iff_not]
  constructor
  · rintro ⟨h, h' | h'⟩
    · exact ⟨h, by omega⟩
    · exact ⟨h, by omega⟩
  · rintro ⟨h, h'⟩
    exact ⟨h, by omega⟩

theorem hasG_some {sz : Nat} (h : hasG off sz l = true) : ∃ q ∈ l, q.1 = off ∧ q.2 = sz := by
  unfold hasG at h
  obtain ⟨q, hq, h⟩ := List.any_eq_true.1 h
  simp only [Bool.and_eq_true] at h
  exact ⟨q, hq, Nat.eq_of_beq_eq_true h.1, Nat.eq_of_beq_eq_true h.2⟩

theorem one?_some {α : Type} {xs : List α} {x : α} (h : one? xs = some x) : xs = [x] := by
  unfold one? at h
  split at h
  · cases h; rfl
  · cases h

theorem GrowR.wrote (h : GrowR Z own w s b lo hi l) (hw : Wrote b (lo + off) ds w w') : GrowR Z own w' s b lo hi (cutG off ds.length l) := by
  obtain ⟨reg, h⟩ := h
  refine ⟨reg, fun q hq => ?_⟩
  obtain ⟨hq, ho⟩ := mem_cutG.1 hq
  obtain ⟨h0, ⟨a, n, c, h1, h2⟩, h3, h4, h5⟩ := h q hq
  refine ⟨h0, ⟨a, n, c, ?_, h2⟩, h3.wrote hw, h4, fun q' hq' => h5 q' (mem_cutG.1 hq').1⟩
  rw [hw.cell, if_neg (by omega)]; exact h1

/-- A row of one's own becomes such a variable. -/
theorem St.toGb (h : St N Z own β σ a w) {ver : Nat} {τ : Ty} {xs : List τ.D} (hm : σ.mem s = .own ver τ xs .full)
    (hg : ∀ b o n c, β s = .slice (some ⟨b, o, none⟩) n c → GrowR Z own w s b o (o + c * τ.size) l ∧ c = 1) : St N Z own β (σ.set s (.own ver τ xs (.gb l))) a w := by
  have hE := h.mems s
  rw [hm] at hE
  obtain ⟨ad, cap, h1, h2, h3, h4, h5⟩ := hE
  refine h.go (Frm.refl _ _ _) (fun _ _ _ _ => rfl) (Keeps.refl _ _) ?_ rfl ?_
  · intro s'
    show Evo β β s' (σ.mem s') (upd σ.mem s _ s')
    rw [upd_eq]; split
    · rename_i e; subst e; rw [hm]; exact Evo.setOwn rfl rfl
    · exact Evo.same _ rfl
  · intro s'
    show RepE Z own w β s' (upd σ.mem s _ s')
    rw [upd_eq]; split
    · rename_i e; subst e
      exact ⟨ad, cap, h1, h2, h3, h4, h5.imp (fun h => ⟨h.1, fun h => by cases h⟩) fun ⟨b, o, e1, e2, e3⟩ => ⟨b, o, e1, e2, e3, hg b o _ cap (by rw [h1, e1])⟩⟩
    · exact h.mems s'

theorem gbox_did (h : St N Z own β σ a w) {d : Nat} {τ : Ty} (hv : τ.isVal = true) (hgd : τ.good = true) {t : Nat}
    (hrun : ∀ w, (execOp a.eval o).run P w = .ok (.value (.pointer (some ⟨w.heap.size, 0, none⟩))) { w with heap := w.heap.push (.cells (mkV τ (zeroC τ)).cells t (0, 0)) })
    {r : V × S} (hr : (gboxM d τ l).run σ = some r) : Did P N Z o a w r.2 r.1 := by
  unfold gboxM at hr
  cases hc : l.all fun q => isNil0 (zeroC τ)[q.1]? with
  | false => rw [hc] at hr; cases hr
  | true =>
  rw [hc] at hr
  simp only [cond_true, M.run] at hr
  obtain ⟨_, h1, h2⟩ := Option.map_eq_some_iff.1 hr
  subst h2
  have hu : RepV own w τ (mkV τ (zeroC τ)) τ.zero := RepV.mk hv (zero_rep hgd)
  have hrep := hu.cells
  have hl := hrep.length
  have hcs : (mkV τ (zeroC τ)).cells.toList = zeroC τ := mkV_cells hv (zero_rep (own := own) (w := w) hgd)
  have hel : ElemsC own w τ (mkV τ (zeroC τ)).cells.toList [τ.zero] := by
    refine ⟨by rw [hl, List.length_singleton, Nat.one_mul]; exact Nat.le_refl _, fun i hi => ?_⟩
    obtain rfl : i = 0 := by simpa using hi
    rw [Nat.zero_mul, List.drop_zero, ← hl, List.take_length]
    exact hrep
  have ha := alloc1_var (mkV τ (zeroC τ)) t w
  have s2 := h.newRow ha (site d 0) hel 1 (by simp) (by omega) (by simp [big]) (by rw [hl, Nat.one_mul])
  have s3 := s2.toGb (s := site d 0) (l := l) (ver := nextVer (σ.mem (site d 0))) (τ := τ) (xs := [τ.zero]) (by show upd σ.mem _ _ _ = _; rw [upd_eq, if_pos rfl]) (by
    intro b o n c hb
    rw [upd_eq, if_pos rfl] at hb
    cases hb
    refine ⟨⟨fun _ => (0, 0, 0), fun q hq => ?_⟩, rfl⟩
    have hq1 := List.all_eq_true.1 hc q hq
    have hq2 : (zeroC τ)[q.1]? = some (.slice none 0 0) := by
      revert hq1
      generalize (zeroC τ)[q.1]? = z
      intro hz
      unfold isNil0 at hz
      split at hz
      · rfl
      · cases hz
    have hq3 : q.1 < (zeroC τ).length := (List.getElem?_eq_some_iff.1 hq2).1
    rw [hcs] at hl
    refine ⟨by omega, ⟨none, 0, 0, ?_, .inl ⟨rfl, rfl⟩⟩, fun j c1 c2 => ?_, fun j _ _ c2 => ?_, fun _ _ _ j _ _ c2 => ?_⟩
    · rw [Nat.zero_add, ha.cell, hcs]; exact hq2
    · exact absurd c2 (Nat.not_lt_zero _)
    · exact absurd c2 (Nat.not_lt_zero _)
    · exact absurd c2 (Nat.not_lt_zero _))
  rw [set_set] at s3
  refine did_value (hrun w) s3 ?_
  refine ⟨by show _ < nextVer (upd σ.mem _ _ _); rw [upd_eq, if_pos rfl]; simp [nextVer], fun τ' xs m e => ?_⟩
  have e : upd σ.mem (site d 0) (Entry.own (nextVer (σ.mem (site d 0))) τ [τ.zero] (.gb l)) (site d 0) = _ := e
  rw [upd_eq, if_pos rfl] at e
  cases e
  exact ⟨by simp, w.heap.size, 0, 1, 1, by rw [upd_eq, if_pos rfl]; rfl, by rw [offP_nil, Nat.zero_mul]⟩

/-- A growing row is taken out. -/
theorem gld_did (hE : EnvOk P E) (h : St N Z own β σ a w) {t d : Nat} {τ : Ty} {v : V} {u : Value} {r : V × S} (ht : E.ty t = some τ) (hu : RepS own w β σ.mem v u)
    (he : execOp a.eval o = (do pure (.value (← Instr.loadAt t u)))) (hr : (gldM d τ v).run σ = some r) : Did P N Z o a w r.2 r.1 := by
  have hT := hE.ty t τ ht
  unfold gldM at hr
  split at hr
  · rename_i e
    split at hr
    · rename_i s ver i p
      simp only [M.run] at hr
      split at hr
      · rename_i ver' τe xs l hm
        split at hr
        · rename_i x hx
          split at hr
          · rename_i hc
            obtain ⟨rfl, rfl, hds, hg⟩ := hc
            obtain ⟨y, h1, h2⟩ := fin_run hr
            have hxs := one?_some hx
            subst hxs
            obtain ⟨hi, b, off, nn, cc, h3, rfl⟩ := hu.2 τe [x] _ hm
            have hmm := h.mems s
            rw [hm] at hmm
            obtain ⟨ad, cap, h4, h5, h6, h7, h8⟩ := (RepE.rowV h3 hmm).2
            rw [h3] at h4; cases h4
            rcases h8 with ⟨h8, _⟩ | ⟨b', off', h8, h9, ⟨h10, h11⟩, h12, hc1⟩
            · rw [h8] at h5; simp at h5
            cases h8
            obtain ⟨es, g1, g2, g3⟩ := h9 0 (by simp)
            have g3 : RepC own w τe es x := g3
            obtain ⟨k1, k2⟩ := getP_rep τe x es p (.sl e) y g3 h1
            have hld := hT.load (w := w) (b := b) (off := off + 0 * τe.size + offP τe p) k2 (fun j v hj => by
              rw [List.getElem?_take] at hj
              split at hj
              · rw [List.getElem?_drop] at hj
                have := (g2 _ _ hj).2
                rwa [← Nat.add_assoc] at this
              · cases hj)
            obtain ⟨A, C, k3, k4, k5, k6, k7⟩ := k2
            rw [k3] at hld
            have k8 : es[offP τe p]? = some (.slice A y.length C) := by
              have h0 : ((es.drop (offP τe p)).take 1)[0]? = some (.slice A y.length C) := by
                rw [show (es.drop (offP τe p)).take 1 = _ from k3]; rfl
              rw [List.getElem?_take, if_pos (by omega), List.getElem?_drop] at h0
              exact h0
            have k9 := (g2 _ _ k8).2
            rw [Nat.zero_mul, Nat.add_zero] at k9
            obtain ⟨reg, hreg⟩ := h12
            obtain ⟨q, hq, hq1, hq2⟩ := hasG_some hg
            obtain ⟨r0, ⟨A', n', C', r1, r2⟩, r3, r4, r5⟩ := hreg q hq
            rw [hq1, k9] at r1; cases r1
            have hin : ∀ j, (reg q.1).2.1 ≤ j → j < (reg q.1).2.2 → own (reg q.1).1 j = some s := fun j c1 c2 => (r3 j c1 c2).1
            have hk : Keeps own (giveOwn own (reg q.1) (site d 0)) w w := give_keeps hin
            have hks : ∀ s', s' ≠ s → OwnKeeps s' own (giveOwn own (reg q.1) (site d 0)) w w := fun s' hs => give_ownKeeps hin hs
            have r4' : Apart (b, off, off + cc * τe.size) (reg q.1) := fun j e c1 c2 c3 c4 => r4 j e.symm c3 c4 c1 c2
            rw [h2]
            have hmem : ∀ s', (upd (upd σ.mem s (Entry.own ver τe [x] (.gb (cutG (offP τe p) 1 l)))) (site d 0) (.own (nextVer (σ.mem (site d 0))) e y .tail)) s' =
                if s' = site d 0 then Entry.own (nextVer (σ.mem (site d 0))) e y .tail else if s' = s then Entry.own ver τe [x] (.gb (cutG (offP τe p) 1 l)) else σ.mem s' := fun s' => by rw [upd_eq, upd_eq]
            have hβ : ∀ s', upd β (site d 0) (.slice A y.length C) s' = if s' = site d 0 then .slice A y.length C else β s' := fun s' => upd_eq _ _ _ _
            refine did_value (own' := giveOwn own (reg q.1) (site d 0)) (β' := upd β (site d 0) (.slice A y.length C)) (u := .slice A y.length C) (w' := w) (exec_v he ?_) ?_ ?_
            · simp only [Instr.loadAt, Instr.sureAddr, Sem.run_bind, Sem.run_pure, Result.andThen_ok]
              exact hld
            · refine h.go (Frm.refl _ _ _) ?_ hk ?_ rfl ?_
              · intro b' o' hlt hio
                rw [giveOwn_out]
                rintro ⟨rfl, c1, c2⟩
                rcases (r3 _ c1 c2).2.1 with c | c
                · omega
                · exact hio c
              · intro s'
                show Evo β _ s' (σ.mem s') (upd (upd σ.mem s _) (site d 0) _ s')
                rw [hmem]
                split
                · rename_i e; subst e; exact Evo.newOwn _ _ _ _
                · rename_i e
                  split
                  · rename_i e'; subst e'; rw [hm]; exact Evo.setOwn (by rw [hβ, if_neg e]) rfl
                  · exact Evo.same _ (by rw [hβ, if_neg e])
              · intro s'
                show RepE Z _ w _ s' (upd (upd σ.mem s _) (site d 0) _ s')
                rw [hmem]
                split
                · rename_i e'; subst e'
                  refine ⟨A, C, by rw [hβ, if_pos rfl], k4, k5, k6, ?_⟩
                  rcases r2 with ⟨r2, _⟩ | ⟨b1, o1, r2, r2'⟩
                  · exact .inl ⟨r2, fun h => by cases h⟩
                  refine k7.imp (fun h => ⟨h, fun h => by cases h⟩) fun ⟨bb, oo, p1, p2⟩ => ?_
                  rw [r2] at p1; cases p1
                  refine ⟨b1, o1, r2, fun i hi => ?_, ?_⟩
                  · obtain ⟨fs, f1, f2, f3⟩ := p2 i hi
                    exact ⟨fs, f1, fun j v hj => ⟨(hk _ _ _ (f2 j v hj).1 (f2 j v hj).2).1, (f2 j v hj).2⟩, f3.keeps hk⟩
                  · have := TailR.got (d := site d 0) r3
                    rw [r2', hq2] at this
                    rw [r2', hq2]
                    exact this
                · rename_i ne
                  split
                  · rename_i e'; subst e'
                    refine ⟨_, cc, by rw [hβ, if_neg ne]; exact h3, h5, h6, h7, .inr ⟨b, off, rfl, fun i hi => ?_, ⟨h10, h11.give r4'⟩, ⟨reg, fun q' hq' => ?_⟩, hc1⟩⟩
                    · obtain rfl : i = 0 := by simpa using hi
                      refine ⟨es, g1, fun j v hj => ⟨?_, (g2 j v hj).2⟩, g3.keeps hk⟩
                      rw [giveOwn_out]
                      · exact (g2 j v hj).1
                      · rintro ⟨e1, e2, e3⟩
                        have hj' : j < es.length := (List.getElem?_eq_some_iff.1 hj).1
                        have hcc : 1 * τe.size ≤ cc * τe.size := Nat.mul_le_mul_right _ h5
                        exact r4' _ e1 (by show off ≤ off + 0 * τe.size + j; omega) (by show off + 0 * τe.size + j < off + cc * τe.size; omega) e2 e3
                    · obtain ⟨hq', ho'⟩ := mem_cutG.1 hq'
                      obtain ⟨m0, m1, m2, m3, m4⟩ := hreg q' hq'
                      refine ⟨m0, m1, m2.give (m4 q hq (by omega)), m3, fun q2 hq2' => m4 q2 (mem_cutG.1 hq2').1⟩
                  · rename_i ne'
                    exact (h.mems s').keeps hk (hks s' ne') (fun _ _ e => e) (by rw [hβ, if_neg ne])
            · exact ref_new _ _ _ _ _ _ _ _ _ _
          · cases hr
        · cases hr
      · cases hr
    · cases hr
  · cases hr

/-- Some cells of such a variable are written. -/
theorem gb_write {t : Nat} {τ τe : Ty} (hT : TyOk P E.ty t τ) {x x' : τe.D} {y : τ.D} {p : List Stp} {u' : Value} {cc : Nat} (h9 : RowR own w (some s) τe b off [x])
    (h11 : TailR Z own w s b off (off + cc * τe.size)) (hcc : 1 ≤ cc) (hz : setP τe x p τ y = some x') (hV : RepV own w τ u' y) :
    ∃ w', (storeVar t ⟨b, off + 0 * τe.size + offP τe p, none⟩ u').run P w = .ok () w' ∧ Wrote b (off + offP τe p) u'.cells.toList w w' ∧ u'.cells.toList.length = τ.size ∧ offP τe p + τ.size ≤ τe.size ∧
      RowR own w' (some s) τe b off [x'] ∧ Keeps own own w w' ∧ (∀ s', s' ≠ s → OwnKeeps s' own own w w') ∧ Frm Z.w.heap.size Z.io w w' := by
  have hds := hV.cells
  have hdl := hds.length
  have h1c : 1 * τe.size ≤ cc * τe.size := Nat.mul_le_mul_right _ hcc
  rw [Nat.one_mul] at h1c
  obtain ⟨es, q1, q2, q3⟩ := h9 0 (by simp)
  obtain ⟨g1, g2, g3⟩ := setP_rep τe x es p τ y _ x' q3 hds hz
  have hin : ∀ j, j < τ.size → ∃ v, es[offP τe p + j]? = some v := fun j hj => ⟨_, List.getElem?_eq_getElem (by omega)⟩
  rw [Nat.zero_mul, Nat.add_zero] at q2 ⊢
  obtain ⟨w', h15, h16⟩ := hT.store (w := w) (b := b) (off := off + offP τe p) hV (fun j hj => by
    obtain ⟨v, hv⟩ := hin j hj
    have e3 := (q2 _ v hv).2
    have e4 := (h11 (off + offP τe p + j) (by omega) (by omega)).2.2.2
    rw [← Nat.add_assoc] at e3
    exact ⟨⟨v, e3⟩, e4⟩)
  have hown : ∀ j, j < u'.cells.toList.length → own b (off + offP τe p + j) = some s := fun j hj => (h11 _ (by omega) (by omega)).1
  have hwr : ∀ j, j < u'.cells.toList.length → Z.wr b (off + offP τe p + j) := fun j hj => (h11 _ (by omega) (by omega)).2.1
  refine ⟨w', h15, h16, hdl, g2, ?_, h16.keeps hown, fun s' hs => h16.ownKeeps hown hs, h16.frame hwr⟩
  intro i hi
  obtain rfl : i = 0 := by simpa using hi
  rw [Nat.zero_mul, Nat.add_zero]
  refine ⟨splice es (offP τe p) u'.cells.toList, by rw [splice_length (by omega)]; exact q1, ?_, g3.keeps (h16.keeps hown)⟩
  intro j v hj
  have hjl : j < es.length := by
    have := (List.getElem?_eq_some_iff.1 hj).1
    rwa [splice_length (by omega)] at this
  obtain ⟨e1, e2⟩ := q2 j es[j] (List.getElem?_eq_getElem hjl)
  refine ⟨e1, ?_⟩
  rw [h16.cell]
  rw [getElem?_splice (by omega)] at hj
  by_cases hc : offP τe p ≤ j ∧ j < offP τe p + u'.cells.toList.length
  · rw [if_pos hc] at hj
    rw [if_pos (by omega), show off + j - (off + offP τe p) = j - offP τe p by omega]; exact hj
  · rw [if_neg hc] at hj
    rw [if_neg (by omega), e2, ← hj, List.getElem?_eq_getElem hjl]

/-- A datum is stored in such a variable. -/
theorem gst_did (hE : EnvOk P E) (h : St N Z own β σ a w) {t : Nat} {τ : Ty} {v v' : V} {u u' : Value} {r : V × S} (ht : E.ty t = some τ) (hu : RepS own w β σ.mem v u) (hu' : RepS own w β σ.mem v' u')
    (he : execOp a.eval o = (do Instr.storeAt t u u'; pure .skip)) (hr : (gstM τ v v').run σ = some r) : Did P N Z o a w r.2 r.1 := by
  have hT := hE.ty t τ ht
  unfold gstM at hr
  obtain ⟨y, fr, hf, hA, _, h2⟩ := asD_run h hu' hr
  obtain ⟨own1, s1, k1, v1⟩ := h.freeze hf
  have hV := v1 _ _ _ hA
  split at h2
  · rename_i s ver i p
    simp only [M.run] at h2
    split at h2
    · rename_i ver' τe xs l hm
      split at h2
      · rename_i x hx
        split at h2
        · rename_i hc
          obtain ⟨rfl, rfl, hfr⟩ := hc
          obtain ⟨x', h3, h4⟩ := fin_run h2
          have hxs := one?_some hx
          subst hxs
          obtain ⟨hi, b, off, nn, cc, h5, rfl⟩ := hu.2 τe [x] _ hm
          have hnot : ∀ q ∈ fr, q.1 ≠ s := by
            intro q hq e
            have := List.all_eq_true.1 hfr q hq
            rw [e] at this
            simp at this
          have hm1 : (sets σ fr).mem s = .own ver τe [x] (.gb l) := by rw [sets_mem_other fr hnot]; exact hm
          have hmm := s1.mems s
          rw [hm1] at hmm
          obtain ⟨ad, cap, h6, h7, h8, h9, h10⟩ := (RepE.rowV h5 hmm).2
          rw [h5] at h6; cases h6
          rcases h10 with ⟨h11, _⟩ | ⟨b', off', h11, h12, ⟨h13, h14⟩, hG, hc1⟩
          · rw [h11] at h7; simp at h7
          cases h11
          obtain ⟨w', e1, e2, e3, e4, e5, e6, e7, e8⟩ := gb_write (P := P) hT h12 h14 h7 h3 hV
          rw [h4]
          simp only [writes_fixed_snoc]
          refine did_skip (β' := β) (own' := own1) (w' := w') ?_ ?_
          · rw [he]; exact run_u (by simp only [Instr.storeAt, Instr.sureAddr, Sem.run_bind, Sem.run_pure, Result.andThen_ok]; exact e1)
          · refine s1.go e8 (fun _ _ _ _ => rfl) e6 ?_ rfl ?_
            · intro s'
              show Evo β β s' _ (upd (sets σ fr).mem s _ s')
              rw [upd_eq]; split
              · rename_i e; subst e; rw [hm1]; exact Evo.setOwn rfl rfl
              · exact Evo.same _ rfl
            · intro s'
              show RepE Z own1 w' β s' (upd (sets σ fr).mem s _ s')
              rw [upd_eq]; split
              · rename_i e; subst e
                exact ⟨_, cc, h5, h7, h8, h9, .inr ⟨b, off, rfl, e5, ⟨e2.shps _ _ h13, h14.wrote e2⟩, by rw [← e3]; exact hG.wrote e2, hc1⟩⟩
              · rename_i e
                exact (s1.mems s').keeps e6 (e7 s' e) e2.shps rfl
        · cases h2
      · cases h2
    · cases h2
  · cases h2

/-- A row is put in. -/
theorem gin_did (hE : EnvOk P E) (h : St N Z own β σ a w) {t : Nat} {τ : Ty} {s ver i s2 ver2 : Nat} {p : List Stp} {u u' : Value} {r : V × S} (ht : E.ty t = some τ) (hu : RepS own w β σ.mem (.elp s ver i p) u)
    (hu' : RepS own w β σ.mem (.ref s2 ver2) u') (he : execOp a.eval o = (do Instr.storeAt t u u'; pure .skip)) (hr : (ginM τ s ver i p s2 ver2).run σ = some r) : Did P N Z o a w r.2 r.1 := by
  have hT := hE.ty t τ ht
  unfold ginM at hr
  simp only [M.run] at hr
  split at hr
  · rename_i v1 τe xs l v2 e ys hm hm2
    split at hr
    · rename_i hc
      obtain ⟨rfl, rfl, rfl, hne⟩ := hc
      split at hr
      · rename_i x y hx hy
        obtain ⟨rfl, hy⟩ := cast?_some hy
        have hy : ys = y := hy
        subst hy
        obtain ⟨x', h3, h4⟩ := fin_run hr
        have hxs := one?_some hx
        subst hxs
        obtain ⟨hi, b, off, nn, cc, h5, rfl⟩ := hu.2 τe [x] _ hm
        have hmm := h.mems s
        rw [hm] at hmm
        obtain ⟨ad, cap, h6, h7, h8, h9, h10⟩ := (RepE.rowV h5 hmm).2
        rw [h5] at h6; cases h6
        rcases h10 with ⟨h11, _⟩ | ⟨b', off', h11, h12, ⟨h13, h14⟩, hG, hc1⟩
        · rw [h11] at h7; simp at h7
        cases h11
        -- the row that is put in
        have hu2 := hu'.2 e ys .tail hm2
        have hm2' := h.mems s2
        rw [hm2] at hm2'
        obtain ⟨A, C, f1, f2, f3, f4, f5⟩ := hm2'
        have hV : RepV own w (.sl e) u' ys := by
          rw [hu2, f1]
          exact RowR.frozen f2 f3 f4 (f5.imp (·.1) fun ⟨b, o, e6, e7, _⟩ => ⟨b, o, e6, e7⟩)
        obtain ⟨w', e1, e2, e3, e4, e5, e6, e7, e8⟩ := gb_write (P := P) hT h12 h14 h7 h3 hV
        have hcell : u'.cells.toList = [.slice A ys.length C] := by rw [hu2, f1]; rfl
        -- the room behind it
        obtain ⟨R, hR1, hR2⟩ : ∃ R : Nat × Nat × Nat, TailR Z own w s2 R.1 R.2.1 R.2.2 ∧ ((C = 0 ∧ R = (0, 0, 0)) ∨ ∃ b' o', A = some ⟨b', o', none⟩ ∧ R = (b', o' + ys.length * e.size, o' + C * e.size)) := by
          rcases f5 with ⟨f5, _⟩ | ⟨b', o', f5, f6, f7⟩
          · exact ⟨(0, 0, 0), fun j _ c2 => absurd c2 (Nat.not_lt_zero _), .inl ⟨f5, rfl⟩⟩
          · exact ⟨(b', o' + ys.length * e.size, o' + C * e.size), f7, .inr ⟨b', o', f5, rfl⟩⟩
        have hin : ∀ j, R.2.1 ≤ j → j < R.2.2 → own R.1 j = some s2 := fun j c1 c2 => (hR1 j c1 c2).1
        have hk : Keeps own (giveOwn own R s) w w' := e6.trans (give_keeps hin)
        have hks : ∀ s', s' ≠ s → s' ≠ s2 → OwnKeeps s' own (giveOwn own R s) w w' := fun s' c1 c2 => by
          have k1 := e7 s' c1
          have k2 : OwnKeeps s' own (giveOwn own R s) w' w' := give_ownKeeps hin c2
          exact ⟨fun b o v q1 q2 => let ⟨q3, q4, q5⟩ := k1.1 b o v q1 q2; let ⟨q6, q7, q8⟩ := k2.1 b o v q3 q4; ⟨q6, q7, q8.trans q5⟩, fun r es c q1 q2 => let ⟨q3, q4⟩ := k1.2 r es c q1 q2; k2.2 r es c q3 q4⟩
        have hst : ∀ b j, own b j = some s → giveOwn own R s b j = some s := fun b j c1 => by
          unfold giveOwn; split
          · rfl
          · exact c1
        rw [h4]
        have hmem : ∀ s', (upd (upd σ.mem s2 (Entry.own ver2 e ys .view)) s (Entry.own ver τe [x'] (.gb ((offP τe p, e.size) :: cutG (offP τe p) 1 l)))) s' =
            if s' = s then Entry.own ver τe [x'] (.gb ((offP τe p, e.size) :: cutG (offP τe p) 1 l)) else if s' = s2 then Entry.own ver2 e ys .view else σ.mem s' := fun s' => by rw [upd_eq, upd_eq]
        refine did_skip (β' := β) (own' := giveOwn own R s) (w' := w') ?_ ?_
        · rw [he]; exact run_u (by simp only [Instr.storeAt, Instr.sureAddr, Sem.run_bind, Sem.run_pure, Result.andThen_ok]; exact e1)
        · refine h.go e8 ?_ hk ?_ rfl ?_
          · intro b' o' hlt hio
            rw [giveOwn_out]
            rintro ⟨rfl, c1, c2⟩
            rcases (hR1 _ c1 c2).2.1 with c | c
            · omega
            · exact hio c
          · intro s'
            show Evo β β s' (σ.mem s') (upd (upd σ.mem s2 _) s _ s')
            rw [hmem]
            split
            · rename_i c; subst c; rw [hm]; exact Evo.setOwn rfl rfl
            · split
              · rename_i c; subst c; rw [hm2]; exact Evo.setOwn rfl rfl
              · exact Evo.same _ rfl
          · intro s'
            show RepE Z _ w' β s' (upd (upd σ.mem s2 _) s _ s')
            rw [hmem]
            split
            · rename_i c; subst c
              refine ⟨_, cc, h5, h7, h8, h9, .inr ⟨b, off, rfl, fun i hi => ?_, ⟨e2.shps _ _ h13, (h14.wrote e2).giveSame⟩, ?_, hc1⟩⟩
              · obtain ⟨es, q1, q2, q3⟩ := e5 i hi
                exact ⟨es, q1, fun j v hj => ⟨hst _ _ (q2 j v hj).1, (q2 j v hj).2⟩, q3.keeps (give_keeps hin)⟩
              · have hG' := hG.wrote e2
                rw [e3] at hG'
                obtain ⟨reg, hreg⟩ := hG'
                have hcs : 1 * τe.size ≤ cc * τe.size := Nat.mul_le_mul_right _ h7
                have hsz : (Ty.sl e).size = 1 := rfl
                have ap : ∀ b1 lo1 hi1, TailR Z own w' s' b1 lo1 hi1 → Apart R (b1, lo1, hi1) := fun b1 lo1 hi1 hta j c0 c1 c2 c3 c4 => by
                  have d1 := hin j c1 c2
                  have d2 := (hta j c3 c4).1
                  have c0 : R.1 = b1 := c0
                  rw [c0] at d1
                  rw [d1] at d2
                  cases d2; exact hne rfl
                have apb : Apart R (b, off, off + cc * τe.size) := ap _ _ _ (h14.wrote e2)
                have sym : ∀ {r r' : Nat × Nat × Nat}, Apart r r' → Apart r' r := fun h j c0 c1 c2 c3 c4 => h j c0.symm c3 c4 c1 c2
                refine ⟨fun k => if k = offP τe p then R else reg k, fun q hq => ?_⟩
                rcases List.mem_cons.1 hq with hq | hq
                · subst hq
                  refine ⟨by show off + offP τe p < _; omega, ⟨A, ys.length, C, ?_, ?_⟩, ?_, ?_, ?_⟩
                  · show w'.cell? ⟨b, off + offP τe p, none⟩ = _
                    have := e2.inside 0 (.slice A ys.length C) (by rw [hcell]; rfl)
                    rwa [Nat.add_zero] at this
                  · simp only [if_pos]
                    exact hR2
                  · simp only [if_pos]
                    exact TailR.got (hR1.wrote e2)
                  · simp only [if_pos]; exact apb
                  · intro q' hq' hne'
                    rcases List.mem_cons.1 hq' with hq' | hq'
                    · exact absurd (by rw [hq']) hne'
                    · simp only [if_pos, if_neg hne']
                      exact ap _ _ _ (hreg q' hq').2.2.1
                · obtain ⟨_, ho⟩ := mem_cutG.1 hq
                  have hqn : q.1 ≠ offP τe p := by omega
                  obtain ⟨m0, m1, m2, m3, m4⟩ := hreg q hq
                  refine ⟨m0, ?_, ?_, ?_, ?_⟩
                  · simp only [if_neg hqn]; exact m1
                  · simp only [if_neg hqn]; exact m2.giveSame
                  · simp only [if_neg hqn]; exact m3
                  · intro q' hq' hne'
                    rcases List.mem_cons.1 hq' with hq' | hq'
                    · subst hq'
                      simp only [if_pos, if_neg hqn]
                      exact sym (ap _ _ _ m2)
                    · have hqn' : q'.1 ≠ offP τe p := by
                        have := (mem_cutG.1 hq').2
                        omega
                      simp only [if_neg hqn, if_neg hqn']
                      exact m4 q' hq' hne'
            · rename_i ne
              split
              · rename_i c; subst c
                refine ⟨A, C, f1, f2, f3, f4, f5.imp (fun h => ⟨h.1, fun h => by cases h⟩) fun ⟨b', o', q1, q2, q3⟩ => ⟨b', o', q1, ?_, trivial⟩⟩
                exact q2.keeps hk (fun b o v c1 c2 => hk b o v c1 c2)
              · rename_i ne'
                exact (h.mems s').keeps hk (hks s' ne ne') e2.shps rfl
      · cases hr
    · cases hr
  · cases hr

/-- A datum with nil slices is stored. -/
theorem gsz_did (hE : EnvOk P E) (h : St N Z own β σ a w) {t : Nat} {τ τ' : Ty} {xx : τ'.D} {z : List (Nat × Nat)} {s ver i : Nat} {p : List Stp} {u u' : Value} {r : V × S} (ht : E.ty t = some τ) (hu : RepS own w β σ.mem (.elp s ver i p) u)
    (hu' : RepS own w β σ.mem (.zval τ' xx z) u') (he : execOp a.eval o = (do Instr.storeAt t u u'; pure .skip)) (hr : (gszM τ s ver i p τ' xx z).run σ = some r) : Did P N Z o a w r.2 r.1 := by
  have hT := hE.ty t τ ht
  unfold gszM at hr
  simp only [M.run] at hr
  split at hr
  · rename_i ver' τe xs l hm
    split at hr
    · rename_i x y hx hy
      obtain ⟨eq, hy⟩ := cast?_some hy
      subst eq
      have hy : xx = y := hy
      subst hy
      split at hr
      · rename_i hc
        obtain ⟨rfl, rfl⟩ := hc
        obtain ⟨x', h3, h4⟩ := fin_run hr
        have hxs := one?_some hx
        subst hxs
        obtain ⟨hi, b, off, nn, cc, h5, rfl⟩ := hu.2 τe [x] _ hm
        have hmm := h.mems s
        rw [hm] at hmm
        obtain ⟨ad, cap, h6, h7, h8, h9, h10⟩ := (RepE.rowV h5 hmm).2
        rw [h5] at h6; cases h6
        rcases h10 with ⟨h11, _⟩ | ⟨b', off', h11, h12, ⟨h13, h14⟩, hG, hc1⟩
        · rw [h11] at h7; simp at h7
        cases h11
        obtain ⟨hV, hzz⟩ := hu'
        obtain ⟨w', e1, e2, e3, e4, e5, e6, e7, e8⟩ := gb_write (P := P) hT h12 h14 h7 h3 hV
        rw [h4]
        refine did_skip (β' := β) (own' := own) (w' := w') ?_ ?_
        · rw [he]; exact run_u (by simp only [Instr.storeAt, Instr.sureAddr, Sem.run_bind, Sem.run_pure, Result.andThen_ok]; exact e1)
        · refine h.go e8 (fun _ _ _ _ => rfl) e6 ?_ rfl ?_
          · intro s'
            show Evo β β s' _ (upd σ.mem s _ s')
            rw [upd_eq]; split
            · rename_i e; subst e; rw [hm]; exact Evo.setOwn rfl rfl
            · exact Evo.same _ rfl
          · intro s'
            show RepE Z own w' β s' (upd σ.mem s _ s')
            rw [upd_eq]; split
            · rename_i e; subst e
              refine ⟨_, cc, h5, h7, h8, h9, .inr ⟨b, off, rfl, e5, ⟨e2.shps _ _ h13, h14.wrote e2⟩, ?_, hc1⟩⟩
              have hG' := hG.wrote e2
              rw [e3] at hG'
              obtain ⟨reg, hreg⟩ := hG'
              have hcs : 1 * τe.size ≤ cc * τe.size := Nat.mul_le_mul_right _ h7
              have none0 : ∀ r : Nat × Nat × Nat, Apart (0, 0, 0) r := fun r j _ _ c2 => absurd c2 (Nat.not_lt_zero _)
              have sym : ∀ {r r' : Nat × Nat × Nat}, Apart r r' → Apart r' r := fun h j c0 c1 c2 c3 c4 => h j c0.symm c3 c4 c1 c2
              refine ⟨fun k => if offP τe p ≤ k ∧ k < offP τe p + τ'.size then (0, 0, 0) else reg k, fun q hq => ?_⟩
              have inz : ∀ q ∈ z, q.1 < τ'.size := fun q hq => by
                have := (List.getElem?_eq_some_iff.1 (hzz q hq)).1
                omega
              rcases List.mem_append.1 hq with hq | hq
              · obtain ⟨q0, hq0, rfl⟩ := List.mem_map.1 hq
                have hlt := inz q0 hq0
                have hif : offP τe p ≤ offP τe p + q0.1 ∧ offP τe p + q0.1 < offP τe p + τ'.size := ⟨by omega, by omega⟩
                refine ⟨by show off + (offP τe p + q0.1) < _; omega, ⟨none, 0, 0, ?_, .inl ⟨rfl, ?_⟩⟩, ?_, ?_, ?_⟩
                · show w'.cell? ⟨b, off + (offP τe p + q0.1), none⟩ = _
                  rw [← Nat.add_assoc]
                  exact e2.inside _ _ (hzz q0 hq0)
                · simp only [if_pos hif]
                · simp only [if_pos hif]
                  exact fun j _ c2 => absurd c2 (Nat.not_lt_zero _)
                · simp only [if_pos hif]; exact none0 _
                · intro q' hq' hne'
                  simp only [if_pos hif]; exact none0 _
              · obtain ⟨_, ho⟩ := mem_cutG.1 hq
                have hif : ¬ (offP τe p ≤ q.1 ∧ q.1 < offP τe p + τ'.size) := by omega
                obtain ⟨m0, m1, m2, m3, m4⟩ := hreg q hq
                refine ⟨m0, ?_, ?_, ?_, ?_⟩
                · simp only [if_neg hif]; exact m1
                · simp only [if_neg hif]; exact m2
                · simp only [if_neg hif]; exact m3
                · intro q' hq' hne'
                  simp only [if_neg hif]
                  rcases List.mem_append.1 hq' with hq' | hq'
                  · obtain ⟨q0, hq0, rfl⟩ := List.mem_map.1 hq'
                    have hlt := inz q0 hq0
                    have hif' : offP τe p ≤ offP τe p + q0.1 ∧ offP τe p + q0.1 < offP τe p + τ'.size := ⟨by omega, by omega⟩
                    simp only [if_pos hif']
                    exact sym (none0 _)
                  · have hif' : ¬ (offP τe p ≤ q'.1 ∧ q'.1 < offP τe p + τ'.size) := by
                      have := (mem_cutG.1 hq').2
                      omega
                    simp only [if_neg hif']
                    exact m4 q' hq' hne'
            · rename_i e
              exact (h.mems s').keeps e6 (e7 s' e) e2.shps rfl
      · cases hr
    · cases hr
  · cases hr

theorem gstore_did (hE : EnvOk P E) (h : St N Z own β σ a w) {t : Nat} {τ : Ty} {v v' : V} {u u' : Value} {r : V × S} (ht : E.ty t = some τ) (hu : RepS own w β σ.mem v u) (hu' : RepS own w β σ.mem v' u')
    (he : execOp a.eval o = (do Instr.storeAt t u u'; pure .skip)) (hr : (gstoreM E τ v v').run σ = some r) : Did P N Z o a w r.2 r.1 := by
  unfold gstoreM at hr
  split at hr
  · rename_i s ver i p s2 ver2
    cases hg : E.gst s2 with
    | true => rw [hg] at hr; exact gin_did hE h ht hu hu' he hr
    | false => rw [hg] at hr; exact gst_did hE h ht hu hu' he hr
  · exact gsz_did hE h ht hu hu' he hr
  · exact gst_did hE h ht hu hu' he hr

end
end Go.Re
/- Reflection, part Wc: maps as bags; what goes through them. -/
namespace Go.Re
set_option linter.unusedVariables false
set_option linter.unusedSimpArgs false
open Go.RowKit (Below)

/-! ### data that are laid out in one way -/
theorem RepC.enc {own : Own} {w : World} : ∀ {τ : Ty} {cs : List Value} {x : τ.D}, τ.plain = true → RepC own w τ cs x → cs = encC τ x ∧ Re.okD τ x
  | .bool, _, _, _, h => ⟨h, trivial⟩
  | .unit, _, _, _, h => ⟨h, trivial⟩
  | .int _, _, _, _, h => h
  | .pair a b, _, x, hp, ⟨c, d, e, h1, h2⟩ => by
    have hp : (a.plain && b.plain) = true := hp
    simp only [Bool.and_eq_true] at hp
    obtain ⟨g1, g2⟩ := RepC.enc (τ := a) hp.1 h1
    obtain ⟨g3, g4⟩ := RepC.enc (τ := b) hp.2 h2
    exact ⟨by rw [e, g1, g3]; rfl, g2, g4⟩
  | .st b, _, _, hp, h => RepC.enc (τ := b) hp h
  | .str, _, _, hp, _ => by cases hp
  | .sl _, _, _, hp, _ => by cases hp
  | .arr _ _, _, _, hp, _ => by cases hp
  | .mp _ _, _, _, hp, _ => by cases hp
theorem RepC.ofEnc {own : Own} {w : World} : ∀ {τ : Ty} {x : τ.D}, τ.plain = true → Re.okD τ x → RepC own w τ (encC τ x) x
  | .bool, _, _, _ => rfl
  | .unit, _, _, _ => rfl
  | .int _, _, _, h => ⟨rfl, h⟩
  | .pair a b, x, hp, h => by
    have hp : (a.plain && b.plain) = true := hp
    simp only [Bool.and_eq_true] at hp
    exact ⟨_, _, rfl, RepC.ofEnc (τ := a) hp.1 h.1, RepC.ofEnc (τ := b) hp.2 h.2⟩
  | .st b, _, hp, h => RepC.ofEnc (τ := b) hp h
  | .str, _, hp, _ => by cases hp
  | .sl _, _, hp, _ => by cases hp
  | .arr _ _, _, hp, _ => by cases hp
  | .mp _ _, _, hp, _ => by cases hp
theorem RepV.enc {own : Own} {w : World} {τ : Ty} {u : Value} {x : τ.D} (hp : τ.plain = true) (h : RepV own w τ u x) : u = encV τ x ∧ Re.okD τ x := by
  obtain ⟨_, cs, rfl, h2⟩ := h
  obtain ⟨h3, h4⟩ := h2.enc hp
  exact ⟨by rw [h3]; rfl, h4⟩
theorem RepV.ofEnc {own : Own} {w : World} {τ : Ty} {x : τ.D} (hp : τ.plain = true) (hv : τ.isVal = true) (h : Re.okD τ x) : RepV own w τ (encV τ x) x := ⟨hv, _, rfl, RepC.ofEnc hp h⟩

theorem ints_plain : ∀ {b : Ty}, b.ints = true → b.plain = true
  | .unit, _ => rfl
  | .pair (.int k) r, h => by
    have h : r.ints = true := h
    show (true && r.plain) = true
    rw [ints_plain h]; rfl
  | .pair .bool _, h => by cases h
  | .pair .str _, h => by cases h
  | .pair .unit _, h => by cases h
  | .pair (.pair _ _) _, h => by cases h
  | .pair (.st _) _, h => by cases h
  | .pair (.sl _) _, h => by cases h
  | .pair (.arr _ _) _, h => by cases h
  | .pair (.mp _ _) _, h => by cases h
  | .bool, h => by cases h
  | .str, h => by cases h
  | .int _, h => by cases h
  | .st _, h => by cases h
  | .sl _, h => by cases h
  | .arr _ _, h => by cases h
  | .mp _ _, h => by cases h
theorem ints_dep : ∀ {b : Ty}, b.ints = true → b.dep ≤ 1
  | .unit, _ => Nat.le_refl _
  | .pair (.int k) r, h => by
    have h : r.ints = true := h
    have := ints_dep h
    show max 1 r.dep ≤ 1
    omega
  | .pair .bool _, h => by cases h
  | .pair .str _, h => by cases h
  | .pair .unit _, h => by cases h
  | .pair (.pair _ _) _, h => by cases h
  | .pair (.st _) _, h => by cases h
  | .pair (.sl _) _, h => by cases h
  | .pair (.arr _ _) _, h => by cases h
  | .pair (.mp _ _) _, h => by cases h
  | .bool, h => by cases h
  | .str, h => by cases h
  | .int _, h => by cases h
  | .st _, h => by cases h
  | .sl _, h => by cases h
  | .arr _ _, h => by cases h
  | .mp _ _, h => by cases h
theorem keyTy_st {K : Ty} (h : keyTy K = true) : ∃ b, K = .st b ∧ b.ints = true := by
  unfold keyTy at h
  split at h
  · exact ⟨_, rfl, h⟩
  · cases h
theorem keyTy_plain {K : Ty} (h : keyTy K = true) : K.plain = true ∧ K.isVal = true := by
  obtain ⟨b, rfl, hb⟩ := keyTy_st h
  exact ⟨ints_plain (b := b) hb, rfl⟩
theorem valTy_plain {V : Ty} (h : valTy V = true) : V.plain = true ∧ V.isVal = true := by
  unfold valTy at h
  split at h
  · exact ⟨rfl, rfl⟩
  · cases h

theorem toI_inj : ∀ {k : IntKind} {x y : IntT k}, toI k x = toI k y → x = y
  | .u8, x, y, h => BitVec.eq_of_toNat_eq (Int.ofNat.inj h)
  | .u16, x, y, h => BitVec.eq_of_toNat_eq (Int.ofNat.inj h)
  | .u32, x, y, h => BitVec.eq_of_toNat_eq (Int.ofNat.inj h)
  | .u64, x, y, h => BitVec.eq_of_toNat_eq (Int.ofNat.inj h)
  | .i8, _, _, h => h
  | .i16, _, _, h => h
  | .i32, _, _, h => h
  | .i64, _, _, h => h

theorem encC_len : ∀ {b : Ty} {x y : b.D}, b.ints = true → (encC b x).length = (encC b y).length
  | .unit, _, _, _ => rfl
  | .pair (.int k) r, x, y, h => by
    have h : r.ints = true := h
    show (encC r x.2).length + 1 = (encC r y.2).length + 1
    rw [encC_len (b := r) h]
  | .pair .bool _, _, _, h => by cases h
  | .pair .str _, _, _, h => by cases h
  | .pair .unit _, _, _, h => by cases h
  | .pair (.pair _ _) _, _, _, h => by cases h
  | .pair (.st _) _, _, _, h => by cases h
  | .pair (.sl _) _, _, _, h => by cases h
  | .pair (.arr _ _) _, _, _, h => by cases h
  | .pair (.mp _ _) _, _, _, h => by cases h
  | .bool, _, _, h => by cases h
  | .str, _, _, h => by cases h
  | .int _, _, _, h => by cases h
  | .st _, _, _, h => by cases h
  | .sl _, _, _, h => by cases h
  | .arr _ _, _, _, h => by cases h
  | .mp _ _, _, _, h => by cases h
theorem encC_inj : ∀ {b : Ty} {x y : b.D}, b.ints = true → encC b x = encC b y → x = y
  | .unit, _, _, _, _ => rfl
  | .pair (.int k) r, x, y, h, e => by
    have h : r.ints = true := h
    have e : Value.int k (toI k x.1) :: encC r x.2 = Value.int k (toI k y.1) :: encC r y.2 := e
    injection e with e1 e2
    injection e1 with _ e1
    exact Prod.ext (toI_inj e1) (encC_inj (b := r) h e2)
  | .pair .bool _, _, _, h, _ => by cases h
  | .pair .str _, _, _, h, _ => by cases h
  | .pair .unit _, _, _, h, _ => by cases h
  | .pair (.pair _ _) _, _, _, h, _ => by cases h
  | .pair (.st _) _, _, _, h, _ => by cases h
  | .pair (.sl _) _, _, _, h, _ => by cases h
  | .pair (.arr _ _) _, _, _, h, _ => by cases h
  | .pair (.mp _ _) _, _, _, h, _ => by cases h
  | .bool, _, _, h, _ => by cases h
  | .str, _, _, h, _ => by cases h
  | .int _, _, _, h, _ => by cases h
  | .st _, _, _, h, _ => by cases h
  | .sl _, _, _, h, _ => by cases h
  | .arr _ _, _, _, h, _ => by cases h
  | .mp _ _, _, _, h, _ => by cases h
theorem key_inj {K : Ty} {x y : K.D} (h : keyTy K = true) (e : encV K x = encV K y) : x = y := by
  obtain ⟨b, rfl, hb⟩ := keyTy_st h
  have e : Value.agg (encC b x).toArray = Value.agg (encC b y).toArray := e
  injection e with e
  exact encC_inj (b := b) hb (by simpa using e)
theorem same_bits : ∀ (m : Nat) {b : Ty} {x : b.D}, b.ints = true → ((encC b x).zip (encC b x)).all (fun p => Instr.sameBits (m + 1) p.1 p.2) = true
  | _, .unit, _, _ => rfl
  | m, .pair (.int k) r, x, h => by
    have h : r.ints = true := h
    show (List.all ((Value.int k (toI k x.1), Value.int k (toI k x.1)) :: (encC r x.2).zip (encC r x.2)) _) = true
    rw [List.all_cons, same_bits m (b := r) h, Bool.and_true]
    simp [Instr.sameBits]
  | _, .pair .bool _, _, h => by cases h
  | _, .pair .str _, _, h => by cases h
  | _, .pair .unit _, _, h => by cases h
  | _, .pair (.pair _ _) _, _, h => by cases h
  | _, .pair (.st _) _, _, h => by cases h
  | _, .pair (.sl _) _, _, h => by cases h
  | _, .pair (.arr _ _) _, _, h => by cases h
  | _, .pair (.mp _ _) _, _, h => by cases h
  | _, .bool, _, h => by cases h
  | _, .str, _, h => by cases h
  | _, .int _, _, h => by cases h
  | _, .st _, _, h => by cases h
  | _, .sl _, _, h => by cases h
  | _, .arr _ _, _, h => by cases h
  | _, .mp _ _, _, h => by cases h
theorem key_bits {K : Ty} {x : K.D} (h : keyTy K = true) : Instr.sameBits 10000 (encV K x) (encV K x) = true := by
  obtain ⟨b, rfl, hb⟩ := keyTy_st h
  show Instr.sameBits (9999 + 1) (.agg (encC b x).toArray) (.agg (encC b x).toArray) = true
  rw [Instr.sameBits]
  simp only [beq_self_eq_true, Bool.true_and]
  exact same_bits 9998 (b := b) (x := x) hb
end Go.Re
/- Reflection, part Wd: maps as bags: the operations. -/
namespace Go.Re
set_option linter.unusedVariables false
set_option linter.unusedSimpArgs false
open Go.RowKit (Below)

section
variable {P : Program} {E : Env} {N : Nat} {Z : Base} {own : Own} {β : Conc} {σ : S} {a : Act} {w : World} {o : Oper}

theorem check_int {te : Nat} {kd : IntKind} (h : P.underlying te = some (.int kd)) (em : Bool) (m : Nat) (v : Int) : (Instr.checkKey em (m + 1) te (.int kd v)).run P w = .ok () w := by
  simp [Instr.checkKey, run_underlying h]

/-- Keys can be hashed. -/
theorem bg_check (hE : EnvOk P E) {t : Nat} {K : Ty} {k : K.D} (ht : E.ty t = some K) (hK : keyTy K = true) (hk : Re.okD K k) (em : Bool) : (Instr.checkKey em 10000 t (encV K k)).run P w = .ok () w := by
  obtain ⟨b, rfl, hb⟩ := keyTy_st hK
  obtain ⟨fs, h1, h2⟩ := (hE.ty t _ ht).desc
  have hr : RepC (fun _ _ => none) w b (encC b k) k := RepC.ofEnc (ints_plain hb) hk
  show (Instr.checkKey em (9999 + 1) t (.agg (encC b k).toArray)).run P w = _
  rw [Instr.checkKey]
  simp only [Sem.run_bind, run_underlying h1, Result.andThen_ok]
  rw [← Array.forIn_toList]
  have key : ∀ (fs : List Field) (c : Ty) (off : Nat) (x : c.D) (cs : List Value), c.ints = true → fieldsOk E.ty off fs c → RepC (fun _ _ => none) w c ((cs.drop off).take c.size) x → off + c.size ≤ cs.length →
      (forIn fs PUnit.unit (fun f r => (do
        if f.name ≠ "_" then do
            Instr.checkKey em 9999 f.type (← part f.type cs.toArray f.offset)
            pure (ForInStep.yield PUnit.unit)
          else pure (ForInStep.yield PUnit.unit) : Sem (ForInStep PUnit)))).run P w = .ok PUnit.unit w := by
    intro fs
    induction fs with
    | nil => intro c off x cs _ _ _ _; simp
    | cons f fs ih =>
      intro c off x cs hc hf hx hl
      cases c with
      | pair p q =>
        cases p with
        | int kd =>
          obtain ⟨e1, e2, e3, e4⟩ := hf
          obtain ⟨c1, c2, e5, e6, e7⟩ := hx
          have hT := hE.ty f.type _ e2
          have hc : q.ints = true := hc
          have hs : (Ty.pair (.int kd) q).size = 1 + q.size := rfl
          have hl1 := e6.length
          have hl2 := e7.length
          have h1s : (Ty.int kd).size = 1 := rfl
          have hd1 : (cs.drop off).take 1 = c1 := by
            have : ((cs.drop off).take (1 + q.size)).take 1 = c1 := by
              rw [← hs, e5, List.take_left' (by omega)]
            rw [List.take_take] at this
            rwa [show min 1 (1 + q.size) = 1 by omega] at this
          have hd2 : (cs.drop (off + 1)).take q.size = c2 := by
            have : ((cs.drop off).take (1 + q.size)).drop 1 = c2 := by
              rw [← hs, e5, List.drop_left' (by omega)]
            rw [List.drop_take, List.drop_drop] at this
            rwa [show 1 + q.size - 1 = q.size by omega] at this
          have hp := hT.partRun (P := P) (w := w) (own := fun _ _ => none) (cs := cs) (off := off) (y := x.1) (by rw [h1s, hd1]; exact e6) (by rw [h1s]; omega)
          have hck : ∀ v, (Instr.checkKey em 9999 f.type (.int kd v)).run P w = .ok () w := fun v => check_int hT.desc em 9998 v
          have hval : mkV (.int kd) ((cs.drop off).take (Ty.int kd).size) = .int kd (toI kd x.1) := by
            rw [h1s, hd1]
            have := e6.1
            rw [this]; rfl
          rw [hval] at hp
          have ih' := ih q (off + 1) x.2 cs hc (by rw [← h1s]; exact e4) (by rw [hd2]; exact e7) (by omega)
          rw [List.forIn_cons]
          by_cases hn : f.name ≠ "_"
          · simp only [if_pos hn, Sem.run_bind, e1, hp, Result.andThen_ok, hck, Sem.run_pure]
            exact ih'
          · simp only [if_neg hn, Sem.run_bind, Sem.run_pure, Result.andThen_ok]
            exact ih'
        | _ => cases hc
      | unit => exact hf.elim
      | _ => cases hc
  have hl := hr.length
  have := key fs.toList b 0 k (encC b k) hb h2 (by rw [List.drop_zero, ← hl, List.take_length]; exact hr) (by rw [hl]; omega)
  refine (congrArg (fun z => Result.andThen z _) this).trans ?_
  simp

theorem eqD_ints : ∀ {b : Ty} {f : b.D → b.D → Bool} {x y : b.D}, b.ints = true → eqD b = some f → (f x y = true ↔ x = y) := by
  intro b
  induction b with
  | unit => intro f x y _ h; cases h; exact ⟨fun _ => rfl, fun _ => rfl⟩
  | pair p q _ ihq =>
    intro f x y hb h
    cases p with
    | int kd =>
      have hb : q.ints = true := hb
      have hp : ∃ g : (Ty.int kd).D → (Ty.int kd).D → Bool, eqD (.int kd) = some g ∧ ∀ x y, g x y = true ↔ x = y := by
        cases kd with
        | u8 => exact ⟨_, rfl, fun x y => decide_eq_true_iff⟩
        | u16 => exact ⟨_, rfl, fun x y => decide_eq_true_iff⟩
        | u32 => exact ⟨_, rfl, fun x y => decide_eq_true_iff⟩
        | u64 => exact ⟨_, rfl, fun x y => decide_eq_true_iff⟩
        | i64 => exact ⟨_, rfl, fun x y => decide_eq_true_iff⟩
        | i8 => simp [eqD] at h
        | i16 => simp [eqD] at h
        | i32 => simp [eqD] at h
      obtain ⟨g, hg, hg2⟩ := hp
      simp only [eqD, hg] at h
      cases hq : eqD q with
      | none => rw [hq] at h; simp at h
      | some f2 =>
        rw [hq] at h
        simp only [Option.some.injEq] at h
        subst h
        rw [Bool.and_eq_true, hg2, ihq hb hq]
        exact ⟨fun h => Prod.ext h.1 h.2, fun h => by rw [h]; exact ⟨rfl, rfl⟩⟩
    | _ => cases hb
  | _ => intro f x y hb _; cases hb
theorem eqD_key {K : Ty} {f : K.D → K.D → Bool} {x y : K.D} (hK : keyTy K = true) (h : eqD K = some f) : f x y = true ↔ x = y := by
  obtain ⟨b, rfl, hb⟩ := keyTy_st hK
  exact eqD_ints (b := b) hb h

/-- How a key is looked for. -/
theorem bg_find (hE : EnvOk P E) {t : Nat} {K : Ty} {k : K.D} {f : K.D → K.D → Bool} (hf : eqD K = some f) (ht : E.ty t = some K) (he : E.eq t = true) (hK : keyTy K = true) (hk : Re.okD K k) : ∀ (es : List MapEntry) (i : Nat), (∀ e ∈ es, ∃ p : K.D, e.key = encV K p ∧ Re.okD K p) →
    ((∀ e ∈ es, e.key ≠ encV K k) ∧ (Instr.findAsking t (encV K k) es i).run P w = .ok none w) ∨
    ∃ j e, es[j]? = some e ∧ e.key = encV K k ∧ (Instr.findAsking t (encV K k) es i).run P w = .ok (some (i + j, e.val)) w
  | [], i, _ => .inl ⟨fun e h => (by cases h), by simp [Instr.findAsking]⟩
  | e :: es, i, h => by
    obtain ⟨p, h1, h2⟩ := h e (by simp)
    have ih := bg_find hE hf ht he hK hk es (i + 1) fun e he => h e (by simp [he])
    have hpl := keyTy_plain hK
    have hk1 : RepV (fun _ _ => none) w K (encV K k) k := RepV.ofEnc hpl.1 hpl.2 hk
    have hk2 : RepV (fun _ _ => none) w K e.key p := by rw [h1]; exact RepV.ofEnc hpl.1 hpl.2 h2
    have heq : (Op.equal t (encV K k) e.key).run P w = .ok (f k p) w := by
      obtain ⟨b, rfl, hb⟩ := keyTy_st hK
      exact (eq_run hE (.st b)).1 t 10000 f k p _ _ ht hf he (by have := ints_dep hb; simp only [Ty.dep]; omega) hk1 hk2
    unfold Instr.findAsking
    simp only [Sem.run_bind, heq, Result.andThen_ok]
    cases hfk : f k p with
    | true =>
      right
      have := (eqD_key hK hf).1 hfk
      subst this
      exact ⟨0, e, rfl, h1, by simp⟩
    | false =>
      have hne : k ≠ p := fun e => by rw [(eqD_key hK hf).2 e] at hfk; cases hfk
      simp only [Bool.false_eq_true, if_false]
      rcases ih with ⟨g1, g2⟩ | ⟨j, e', g1, g2, g3⟩
      · left
        refine ⟨fun e' he' => ?_, g2⟩
        rcases List.mem_cons.1 he' with rfl | he'
        · rw [h1]; exact fun e => hne (key_inj hK e).symm
        · exact g1 e' he'
      · right
        refine ⟨j + 1, e', by simpa using g1, g2, ?_⟩
        rw [g3, show i + 1 + j = i + (j + 1) by omega]

end
end Go.Re
/- Reflection, part We: maps as bags: what the operations do. -/
namespace Go.Re
set_option linter.unusedVariables false
set_option linter.unusedSimpArgs false
open Go.RowKit (Below)

/-! ### worlds in which an object is new, or another one -/
/-- An object that has no cells has become another one; the tape may have been asked. -/
structure ObjSet (r : Nat) (ob : Obj) (w w' : World) : Prop where
  os : w'.os = w.os
  tape : w'.tape = w.tape
  output : w'.output = w.output
  size : w'.heap.size = w.heap.size
  was : ∃ ob0, objB ob0 = true ∧ w.heap[r]? = some ob0
  obj : objB ob = true
  self : w'.heap[r]? = some ob
  other : ∀ b, b ≠ r → w'.heap[b]? = w.heap[b]?

section
variable {own : Own} {w w' : World} {r s : Nat} {ob : Obj}
theorem ObjSet.cell (h : ObjSet r ob w w') (b j : Nat) : w'.cell? ⟨b, j, none⟩ = w.cell? ⟨b, j, none⟩ := by
  by_cases hb : b = r
  · subst hb
    obtain ⟨ob0, h1, h2⟩ := h.was
    rw [obj_no_cell h.obj h.self, obj_no_cell h1 h2]
  · exact cell?_of_heap (h.other b hb)
theorem ObjSet.froz (h : ObjSet r ob w w') {b j : Nat} {v : Value} (hv : w.cell? ⟨b, j, none⟩ = some v) : w'.frozen? ⟨b, j, none⟩ = w.frozen? ⟨b, j, none⟩ := by
  by_cases hb : b = r
  · subst hb
    obtain ⟨ob0, h1, h2⟩ := h.was
    rw [obj_no_cell h1 h2] at hv; cases hv
  · exact frozen?_of_heap (h.other b hb)
theorem ObjSet.shps (h : ObjSet r ob w w') : ShpKeeps w w' := by
  rintro b kk ⟨y, fz, e1, e2⟩
  by_cases hb : b = r
  · subst hb
    obtain ⟨ob0, h1, h2⟩ := h.was
    have e0 : shp w b = none := by
      unfold shp; rw [h2]
      cases ob0 <;> first | rfl | cases h1
    rw [e0] at e1; cases e1
  · exact ⟨y, fz, by rw [shp_of_heap (h.other b hb)]; exact e1, e2⟩
theorem ObjSet.keeps (h : ObjSet r ob w w') (ho : own r 0 = some s) : Keeps own own w w' :=
  ⟨fun b j v e1 e2 => ⟨e1, by rw [h.cell]; exact e2⟩, fun b es c e1 e2 => ⟨e1, by rw [h.other b (fun e => by rw [e, ho] at e1; cases e1)]; exact e2⟩⟩
theorem ObjSet.ownKeeps (h : ObjSet r ob w w') (ho : own r 0 = some s) {s' : Nat} (hs : s' ≠ s) : OwnKeeps s' own own w w' :=
  ⟨fun b j v e1 e2 => ⟨e1, by rw [h.cell]; exact e2, h.froz e2⟩, fun b ob' hob e1 e2 => ⟨e1, by rw [h.other b (fun e => by rw [e, ho] at e1; cases e1; exact hs rfl)]; exact e2⟩⟩
theorem ObjSet.frame (h : ObjSet r ob w w') {n : Nat} {io : Nat → Nat → Prop} (hn : n ≤ r) : Frm n io w w' where
  os := h.os
  tape := h.tape
  output := h.output
  size := by rw [h.size]; exact Nat.le_refl _
  cell b o _ _ := h.cell b o
  live b o v _ hv := ⟨⟨v, by rw [h.cell]; exact hv⟩, h.froz hv⟩
  shape b k _ hf := h.shps b k hf
  block b hb _ := h.other b (by omega)

/-- A new object. -/
structure ObjNew (ob : Obj) (w w' : World) : Prop where
  os : w'.os = w.os
  tape : w'.tape = w.tape
  output : w'.output = w.output
  size : w'.heap.size = w.heap.size + 1
  obj : objB ob = true
  self : w'.heap[w.heap.size]? = some ob
  old : ∀ b, b < w.heap.size → w'.heap[b]? = w.heap[b]?
theorem objNew_push (w : World) (ob : Obj) (ho : objB ob = true) : ObjNew ob w { w with heap := w.heap.push ob } where
  os := rfl
  tape := rfl
  output := rfl
  size := by simp
  obj := ho
  self := by simp
  old b hb := by simp [Array.getElem?_push]; omega
theorem ObjNew.keeps (h : ObjNew ob w w') (own : Own) (s : Nat) : Keeps own (allocOwn own w.heap.size s) w w' := by
  refine ⟨?_, ?_⟩
  · intro b j v e1 e2
    have hlt := cell?_lt e2
    refine ⟨?_, by rw [cell?_of_heap (h.old b hlt)]; exact e2⟩
    unfold allocOwn; rw [if_neg (by omega)]; exact e1
  · intro b es c e1 e2
    have hlt := map_lt e2
    refine ⟨?_, by rw [h.old b hlt]; exact e2⟩
    unfold allocOwn; rw [if_neg (by omega)]; exact e1
theorem ObjNew.ownKeeps (h : ObjNew ob w w') (own : Own) (s s' : Nat) : OwnKeeps s' own (allocOwn own w.heap.size s) w w' := by
  refine ⟨?_, ?_⟩
  · intro b j v e1 e2
    have hlt := cell?_lt e2
    refine ⟨?_, by rw [cell?_of_heap (h.old b hlt)]; exact e2, frozen?_of_heap (h.old b hlt)⟩
    unfold allocOwn; rw [if_neg (by omega)]; exact e1
  · intro b ob' hob e1 e2
    have hlt := map_lt e2
    refine ⟨?_, by rw [h.old b hlt]; exact e2⟩
    unfold allocOwn; rw [if_neg (by omega)]; exact e1
theorem ObjNew.shps (h : ObjNew ob w w') : ShpKeeps w w' := fun b _ ⟨x, fz, e1, e2⟩ => ⟨x, fz, by rw [shp_of_heap (h.old b (shp_lt e1))]; exact e1, e2⟩
theorem ObjNew.frame (h : ObjNew ob w w') {n : Nat} {io : Nat → Nat → Prop} (hn : n ≤ w.heap.size) : Frm n io w w' where
  os := h.os
  tape := h.tape
  output := h.output
  size := by rw [h.size]; omega
  cell b o hb _ := cell?_of_heap (h.old b (by omega))
  live b o v hb hv := ⟨⟨v, by rw [cell?_of_heap (h.old b (by omega))]; exact hv⟩, frozen?_of_heap (h.old b (by omega))⟩
  shape b k hb := fun ⟨x, fz, e1, e2⟩ => ⟨x, fz, by rw [shp_of_heap (h.old b (by omega))]; exact e1, e2⟩
  block b hb _ := h.old b (by omega)
end

section
variable {P : Program} {E : Env} {N : Nat} {Z : Base} {own : Own} {β : Conc} {σ : S} {a : Act} {w : World} {o : Oper}

/-- A new object at a site. -/
theorem St.newObj (h : St N Z own β σ a w) {w' : World} {ob : Obj} (hn : ObjNew ob w w') (s : Nat) (e' : Entry) (c : Value) (hev : ∀ β', Evo β β' s (σ.mem s) e')
    (he : RepE Z (allocOwn own w.heap.size s) w' (upd β s c) s e') : St N Z (allocOwn own w.heap.size s) (upd β s c) (σ.set s e') a w' :=
  h.newSite (hn.frame h.base) (fun b o hlt _ => by unfold allocOwn; have := h.base; rw [if_neg (by omega)]) (hn.keeps own s) (fun s' _ => hn.ownKeeps own s s') hn.shps hev he

/-- An object of a site becomes another one. -/
theorem St.setObj (h : St N Z own β σ a w) {w' : World} {ob : Obj} {r s : Nat} (hn : ObjSet r ob w w') (hr : Z.w.heap.size ≤ r) (ho : own r 0 = some s) (e' : Entry) (hev : Evo β β s (σ.mem s) e') (he : RepE Z own w' β s e') :
    St N Z own β (σ.set s e') a w' := by
  refine h.go (hn.frame hr) (fun _ _ _ _ => rfl) (hn.keeps ho) ?_ rfl ?_
  · intro s'
    show Evo β β s' (σ.mem s') (upd σ.mem s e' s')
    rw [upd_eq]; split
    · rename_i e; subst e; exact hev
    · exact Evo.same _ rfl
  · intro s'
    show RepE Z own w' β s' (upd σ.mem s e' s')
    rw [upd_eq]; split
    · rename_i e; subst e; exact he
    · rename_i e; exact (h.mems s').keeps (hn.keeps ho) (hn.ownKeeps ho e) hn.shps rfl

theorem bgMake_did (hE : EnvOk P E) (h : St N Z own β σ a w) {d t : Nat} {K V : Ty} {rs : Option Value} (ht : E.mpt t = some (K, V)) (hrs : rs = none ∨ ∃ k n, rs = some (.int k n))
    (he : execOp a.eval o = (do pure (.value (← Instr.makeMap t rs)))) {r : Re.V × S} (hr : (bgMake d K V).run σ = some r) : Did P N Z o a w r.2 r.1 := by
  obtain ⟨tk, tv, q1, q2, q3, _⟩ := hE.mpt t _ _ ht
  unfold bgMake at hr
  split at hr
  · rename_i hkv
    simp only [M.run] at hr
    obtain ⟨_, _, h9⟩ := Option.map_eq_some_iff.1 hr
    subst h9
    have hn := objNew_push w (.map #[] 0) rfl
    have hrun : (Instr.makeMap t rs).run P w = .ok (.map (some w.heap.size)) { w with heap := w.heap.push (.map #[] 0) } := by
      rcases hrs with rfl | ⟨k, n, rfl⟩
      · simp [Instr.makeMap]
      · simp [Instr.makeMap, run_underlying q1, asInt]; rfl
    have hst := h.newObj hn (site d 0) (.own (nextVer (σ.mem (site d 0))) (.pair K V) [] .bg) (.map (some w.heap.size)) (fun β' => Evo.newOwn _ _ _ _)
      ⟨w.heap.size, #[], 0, by rw [upd_eq, if_pos rfl], h.base, by simp [allocOwn], hn.self,
        ⟨⟨(keyTy_plain hkv.1).1, (valTy_plain hkv.2).1, (keyTy_plain hkv.1).2, (valTy_plain hkv.2).2⟩, by simp, by simp, by simp, by simp, by simp, by simp⟩⟩
    exact did_value (exec_v he hrun) hst (ref_new _ _ _ _ _ _ _ _ _ _)
  · cases hr

theorem bgUpd_did (hE : EnvOk P E) (h : St N Z own β σ a w) {t : Nat} {K V : Ty} {vm vk vx : Re.V} {um uk ux : Value} (ht : E.mpt t = some (K, V)) (hm : RepS own w β σ.mem vm um) (hk : RepS own w β σ.mem vk uk)
    (hx : RepS own w β σ.mem vx ux) (he : execOp a.eval o = (do Instr.mapUpdate t um uk ux; pure .skip)) {r : Re.V × S} (hr : (bgUpd K V vm vk vx).run σ = some r) : Did P N Z o a w r.2 r.1 := by
  obtain ⟨tk, tv, q1, q2, q3, q4⟩ := hE.mpt t _ _ ht
  unfold bgUpd at hr
  split at hr
  case h_2 => cases hr
  rename_i s ver τk k τx x
  simp only [M.run] at hr
  split at hr
  case h_2 => cases hr
  rename_i ver' e' xs hen
  split at hr
  case isFalse => cases hr
  rename_i hver
  obtain ⟨hver, hK, heqd⟩ := hver
  subst hver
  split at hr
  case h_2 => cases hr
  rename_i xs' k' x' hxs hkk hxx
  obtain ⟨e1, hxs⟩ := cast?_some hxs
  obtain ⟨e2, hkk⟩ := cast?_some hkk
  obtain ⟨e3, hxx⟩ := cast?_some hxx
  cases e1; subst e2; subst e3
  have hxs : xs = xs' := hxs
  have hkk : k = k' := hkk
  have hxx : x = x' := hxx
  subst hxs; subst hkk; subst hxx
  obtain ⟨_, hc, h9⟩ := Option.map_eq_some_iff.1 hr
  subst h9
  obtain ⟨f, hf⟩ := Option.isSome_iff_exists.1 heqd
  have hmm := h.mems s
  rw [hen] at hmm
  obtain ⟨rr, es, c, m1, m2, m3, m4, m5⟩ := hmm
  have hum : um = .map (some rr) := (hm.2 _ _ _ hen).trans m1
  have hkv : RepV own w τk uk k := hk
  have hxv : RepV own w τx ux x := hx
  obtain ⟨k1, k2⟩ := hkv.enc m5.plain.1
  obtain ⟨x1, x2⟩ := hxv.enc m5.plain.2.1
  have hwide : (match P.underlying tk with | some (.array _ _) | some (.struct _) => true | _ => false) = true := by
    obtain ⟨b, rfl, hb⟩ := keyTy_st hK
    obtain ⟨fs, g1, _⟩ := (hE.ty tk _ q2).desc
    rw [g1]
  have hfind := run_findKey_eq (P := P) w hwide uk es.toList
  have hrange : ∀ e ∈ es.toList, ∃ p : τk.D, e.key = encV τk p ∧ Re.okD τk p := fun e he => by
    obtain ⟨p, p1, p2, _⟩ := m5.mem e he
    exact ⟨p.1, p2, (m5.ok p p1).1⟩
  -- a world in which the map's block is another map
  have fin : ∀ (es' : Array MapEntry) (c' : Nat), (Instr.mapUpdate t um uk ux).run P w = .ok () { w with heap := w.heap.setIfInBounds rr (.map es' c') } →
      BagR τk τx es' c' (xs ++ [(k, x)]) → Did P N Z o a w (σ.set s (.own ver (.pair τk τx) (xs ++ [(k, x)]) .bg)) .dead := by
    intro es' c' hrun hb
    have hset : ObjSet rr (.map es' c') w { w with heap := w.heap.setIfInBounds rr (.map es' c') } :=
      ⟨rfl, rfl, rfl, by simp, ⟨_, rfl, m4⟩, rfl, by
        show (w.heap.setIfInBounds rr _)[rr]? = _
        rw [Array.getElem?_setIfInBounds_self_of_lt (map_lt m4)], fun b hb => by
        show (w.heap.setIfInBounds rr _)[b]? = _
        rw [Array.getElem?_setIfInBounds_ne (Ne.symm hb)]⟩
    refine did_skip (by rw [he]; exact run_u hrun) (h.setObj hset m2 m3 _ (by rw [hen]; exact ⟨Nat.le_refl _, fun _ _ _ he _ => by (cases he), fun _ _ _ _ he _ => by
      cases he; exact ⟨rfl, _, _, rfl, by simp, rfl, fun h => by cases h⟩⟩) ?_)
    exact ⟨rr, es', c', m1, m2, m3, hset.self, hb⟩
  have hmem : ∀ {q : τk.D × τx.D}, q ∈ xs → q ∈ xs ++ [(k, x)] := fun h => List.mem_append_left _ h
  have hlast : (k, x) ∈ xs ++ [(k, x)] := by simp
  have hok : ∀ p ∈ xs ++ [(k, x)], Re.okD τk p.1 ∧ Re.okD τx p.2 := fun p hp => by
    rcases List.mem_append.1 hp with hp | hp
    · exact m5.ok p hp
    · rw [List.mem_singleton] at hp; subst hp; exact ⟨k2, x2⟩
  have hchk := bg_check (w := w) hE q2 hK k2 false
  rw [← k1] at hchk
  rcases bg_find (w := w) hE hf q2 (q4 hK) hK k2 es.toList 0 hrange with ⟨g1, g2⟩ | ⟨j, e, g1, g2, g3⟩
  · rw [← k1] at g2
    rw [g2] at hfind
    refine fin (es.push { key := uk, val := ux, born := c }) (c + 1) ?_ ⟨m5.plain, ?_, ?_, ?_, ?_, ?_, hok⟩
    · unfold Instr.mapUpdate
      simp only [hum, Sem.run_bind, run_underlying q1, MapKept.run_getObj_map m4, Result.andThen_ok, hchk, hfind]
      exact MapKept.run_setObj_map _ m4
    · intro e he
      rw [Array.toList_push] at he
      rcases List.mem_append.1 he with he | he
      · have := m5.old e he; omega
      · rw [List.mem_singleton] at he; subst he; exact Nat.lt_succ_self c
    · rw [Array.toList_push, List.map_append, List.nodup_append]
      refine ⟨m5.born, by simp, fun b hb b' hb' e => ?_⟩
      obtain ⟨e1, he1, rfl⟩ := List.mem_map.1 hb
      have : b' = c := by simpa using hb'
      have := m5.old e1 he1
      omega
    · rw [Array.toList_push, List.map_append, List.nodup_append]
      refine ⟨m5.keys, by simp, fun b hb b' hb' e => ?_⟩
      obtain ⟨e1, he1, rfl⟩ := List.mem_map.1 hb
      have : b' = uk := by simpa using hb'
      exact g1 e1 he1 (by rw [e, this, k1])
    · intro e he
      rw [Array.toList_push] at he
      rcases List.mem_append.1 he with he | he
      · obtain ⟨p, p1, p2⟩ := m5.mem e he; exact ⟨p, hmem p1, p2⟩
      · rw [List.mem_singleton] at he; subst he; exact ⟨(k, x), hlast, k1, x1⟩
    · intro p hp
      rw [Array.toList_push]
      rcases List.mem_append.1 hp with hp | hp
      · obtain ⟨e, e1, e2⟩ := m5.dom p hp; exact ⟨e, List.mem_append_left _ e1, e2⟩
      · rw [List.mem_singleton] at hp; subst hp; exact ⟨_, List.mem_append_right _ (List.mem_singleton.2 rfl), k1⟩
  · rw [← k1] at g3 g2
    rw [g3, Nat.zero_add] at hfind
    have hj : j < es.size := by
      have := (List.getElem?_eq_some_iff.1 g1).1; simpa using this
    have hje : es[j] = e := by
      have := (List.getElem?_eq_some_iff.1 g1).2; simpa using this
    have hmod : ∀ i (hi : i < es.size), (es.modify j fun e => { e with key := uk, val := ux })[i]? = some (if j = i then { es[i] with key := uk, val := ux } else es[i]) := by
      intro i hi
      rw [Array.getElem?_modify]
      split <;> simp [hi]
    have hmsz : (es.modify j fun e => { e with key := uk, val := ux }).size = es.size := by simp
    have hmem' : ∀ e' ∈ (es.modify j fun e => { e with key := uk, val := ux }).toList, ∃ i, ∃ hi : i < es.size, e' = if j = i then { es[i] with key := uk, val := ux } else es[i] := by
      intro e' he'
      obtain ⟨i, hi, hx⟩ := List.getElem_of_mem he'
      have hi' : i < es.size := by simpa using hi
      have := hmod i hi'
      rw [Array.getElem?_eq_getElem (by simpa using hi)] at this
      injection this with this
      exact ⟨i, hi', by rw [← hx, Array.getElem_toList]; exact this⟩
    have hkeys : (es.modify j fun e => { e with key := uk, val := ux }).toList.map (·.key) = es.toList.map (·.key) := by
      apply List.ext_getElem?
      intro i
      rw [List.getElem?_map, List.getElem?_map]
      by_cases hi : i < es.size
      · rw [← Array.getElem?_toList] at *
        have := hmod i hi
        rw [← Array.getElem?_toList] at this
        rw [this, List.getElem?_eq_getElem (by simpa using hi)]
        simp only [Option.map_some, Array.getElem_toList]
        split
        · rename_i hji; subst hji; rw [hje, g2]
        · rfl
      · rw [List.getElem?_eq_none (by simpa using hi), List.getElem?_eq_none (by simpa using hi)]
    have hborn : (es.modify j fun e => { e with key := uk, val := ux }).toList.map (·.born) = es.toList.map (·.born) := by
      apply List.ext_getElem?
      intro i
      rw [List.getElem?_map, List.getElem?_map]
      by_cases hi : i < es.size
      · have := hmod i hi
        rw [← Array.getElem?_toList] at this
        rw [this, List.getElem?_eq_getElem (by simpa using hi)]
        simp only [Option.map_some, Array.getElem_toList]
        split <;> rfl
      · rw [List.getElem?_eq_none (by simpa using hi), List.getElem?_eq_none (by simpa using hi)]
    refine fin (es.modify j fun e => { e with key := uk, val := ux }) c ?_ ⟨m5.plain, ?_, by rw [hborn]; exact m5.born, by rw [hkeys]; exact m5.keys, ?_, ?_, hok⟩
    · unfold Instr.mapUpdate
      have hstay : (Instr.keyThatStays (((es[j]?).map (·.key)).getD uk) uk).run P w = .ok uk w := by
        rw [Array.getElem?_eq_getElem hj, hje]
        unfold Instr.keyThatStays
        simp only [Option.map_some, Option.getD_some, g2]
        rw [k1, key_bits hK]
        simp
      simp only [hum, Sem.run_bind, run_underlying q1, MapKept.run_getObj_map m4, Result.andThen_ok, hchk, hfind, hstay]
      exact MapKept.run_setObj_map _ m4
    · intro e' he'
      obtain ⟨i, hi, rfl⟩ := hmem' e' he'
      have := m5.old es[i] (by simp)
      split <;> exact this
    · intro e' he'
      obtain ⟨i, hi, rfl⟩ := hmem' e' he'
      split
      · exact ⟨(k, x), hlast, k1, x1⟩
      · obtain ⟨p, p1, p2⟩ := m5.mem es[i] (by simp); exact ⟨p, hmem p1, p2⟩
    · intro p hp
      have : ∃ key ∈ es.toList.map (·.key), key = encV τk p.1 := by
        rcases List.mem_append.1 hp with hp | hp
        · obtain ⟨e1, e2, e3⟩ := m5.dom p hp; exact ⟨_, List.mem_map.2 ⟨e1, e2, rfl⟩, e3⟩
        · rw [List.mem_singleton] at hp; subst hp
          exact ⟨e.key, List.mem_map.2 ⟨e, by rw [← hje]; simp, rfl⟩, by rw [g2, k1]⟩
      obtain ⟨key, h1, h2⟩ := this
      rw [← hkeys] at h1
      obtain ⟨e1, e2, e3⟩ := List.mem_map.1 h1
      exact ⟨e1, e2, by rw [e3, h2]⟩

end
end Go.Re
/- Reflection, part Wf: what goes through a map. -/
namespace Go.Re
set_option linter.unusedVariables false
set_option linter.unusedSimpArgs false
open Go.RowKit (Below)

section
variable {P : Program} {E : Env} {N : Nat} {Z : Base} {own : Own} {β : Conc} {σ : S} {a : Act} {w : World} {o : Oper}

/-- A map is only read from now on. -/
theorem mfz_did (h : St N Z own β σ a w) {v : Re.V} {u : Value} (hu : RepS own w β σ.mem v u) (he : execOp a.eval o = pure (.value u)) {r : Re.V × S} (hr : (mfzM v).run σ = some r) : Did P N Z o a w r.2 r.1 := by
  unfold mfzM at hr
  split at hr
  case h_2 => cases hr
  rename_i s ver
  simp only [M.run] at hr
  split at hr
  case h_2 => cases hr
  rename_i ver' K V xs hen
  split at hr
  case isFalse => cases hr
  rename_i hver
  subst hver
  obtain ⟨_, _, h9⟩ := Option.map_eq_some_iff.1 hr
  subst h9
  have hmm := h.mems s
  rw [hen] at hmm
  obtain ⟨rr, es, c, m1, m2, m3, m4, m5⟩ := hmm
  have hum : u = .map (some rr) := (hu.2 _ _ _ hen).trans m1
  have hk0 : ∀ b j, own b j = none → (if b = rr then none else own b j) = none := fun b j e => by split <;> first | rfl | exact e
  have hk : Keeps own (fun b j => if b = rr then none else own b j) w w := ⟨fun b j v e1 e2 => ⟨hk0 b j e1, e2⟩, fun b es c e1 e2 => ⟨hk0 b 0 e1, e2⟩⟩
  have hks : ∀ s', s' ≠ s → OwnKeeps s' own (fun b j => if b = rr then none else own b j) w w := fun s' hs => by
    refine ⟨fun b j v e1 e2 => ⟨?_, e2, rfl⟩, fun b ob hob e1 e2 => ⟨?_, e2⟩⟩
    · show (if b = rr then none else own b j) = _
      rw [if_neg (fun e => by rw [e, map_no_cell m4] at e2; cases e2)]; exact e1
    · show (if b = rr then none else own b 0) = _
      rw [if_neg (fun e => by rw [e, m3] at e1; cases e1; exact hs rfl)]; exact e1
  refine did_value (own' := fun b j => if b = rr then none else own b j) (β' := β) (u := u) (w' := w) (by rw [he]; rfl) ?_ ?_
  · refine h.go (Frm.refl _ _ _) (fun b j hlt _ => by show (if b = rr then none else own b j) = _; rw [if_neg (by have := h.base; omega)]) hk ?_ rfl ?_
    · intro s'
      show Evo β β s' (σ.mem s') (upd σ.mem s _ s')
      rw [upd_eq]; split
      · rename_i e; subst e; rw [hen]; exact Evo.gone
      · exact Evo.same _ rfl
    · intro s'
      show RepE Z _ w β s' (upd σ.mem s _ s')
      rw [upd_eq]; split
      · trivial
      · rename_i e; exact (h.mems s').keeps hk (hks s' e) (fun _ _ e => e) rfl
  · rw [hum]
    exact ⟨rfl, [.map (some rr)], rfl, .inr ⟨rr, es, c, rfl, by simp, m4, m5⟩⟩

theorem rng_did (hE : EnvOk P E) (h : St N Z own β σ a w) {d t : Nat} {K V : Ty} {v : Re.V} {u : Value} (ht : E.ty t = some (.mp K V)) (hu : RepS own w β σ.mem v u)
    (he : execOp a.eval o = (do pure (.value (← Instr.range t u)))) {r : Re.V × S} (hr : (rngM d K V v).run σ = some r) : Did P N Z o a w r.2 r.1 := by
  obtain ⟨tk, tv, q1, q2, q3⟩ := (hE.ty t _ ht).desc
  unfold rngM at hr
  split at hr
  case h_2 => cases hr
  rename_i τ xs0
  split at hr
  case h_2 => cases hr
  rename_i xs hxs
  obtain ⟨e1, hxs⟩ := cast?_some hxs
  subst e1
  have hxs : xs0 = xs := hxs
  subst hxs
  simp only [M.run] at hr
  obtain ⟨_, _, h9⟩ := Option.map_eq_some_iff.1 hr
  subst h9
  have hv : RepV own w (.mp K V) u xs0 := hu
  obtain ⟨_, cs, hcs, hrep⟩ := hv
  have hB := h.base
  rcases hrep with ⟨rfl, rfl⟩ | ⟨m, es, c, rfl, m1, m2, m3⟩
  · have hu : u = .map none := hcs
    have hn := objNew_push w (.mapIter none 0 #[] 0) rfl
    have hrun : (Instr.range t u).run P w = .ok (.pointer (some ⟨w.heap.size, 0, none⟩)) { w with heap := w.heap.push (.mapIter none 0 #[] 0) } := by
      rw [hu]; exact run_range_nilMap w t tk tv q1
    have hst := h.newObj hn (site d 0) (.own (nextVer (σ.mem (site d 0))) (.pair K V) [(K.zero, V.zero)] (.it false)) (.pointer (some ⟨w.heap.size, 0, none⟩)) (fun β' => Evo.newOwn _ _ _ _)
      ⟨w.heap.size, by rw [upd_eq, if_pos rfl], hB, by simp [allocOwn], .inl ⟨_, _, _, hn.self, rfl, rfl⟩⟩
    exact did_value (exec_v he hrun) hst (ref_new _ _ _ _ _ _ _ _ _ _)
  · have hu : u = .map (some m) := hcs
    have hn := objNew_push w (.mapIter (some m) c #[] c) rfl
    have hrun : (Instr.range t u).run P w = .ok (.pointer (some ⟨w.heap.size, 0, none⟩)) { w with heap := w.heap.push (.mapIter (some m) c #[] c) } := by
      rw [hu]; exact run_range_map w t tk tv m es c q1 m2
    have hlt := map_lt m2
    have hst := h.newObj hn (site d 0) (.own (nextVer (σ.mem (site d 0))) (.pair K V) ((K.zero, V.zero) :: xs0) (.it false)) (.pointer (some ⟨w.heap.size, 0, none⟩)) (fun β' => Evo.newOwn _ _ _ _)
      ⟨w.heap.size, by rw [upd_eq, if_pos rfl], hB, by simp [allocOwn], .inr ⟨m, es, c, #[], xs0, hn.self, by unfold allocOwn; rw [if_neg (by omega)]; exact m1, by rw [hn.old m hlt]; exact m2, m3,
        fun hb => (by cases hb), fun e he _ => m3.mem e he, fun p hp => (by obtain ⟨e, e1, e2⟩ := m3.dom p hp; exact ⟨e, e1, by simp, e2⟩), m3.ok⟩⟩
    exact did_value (exec_v he hrun) hst (ref_new _ _ _ _ _ _ _ _ _ _)

theorem run_getObj_at {r : Nat} {ob : Obj} (ho : objB ob = true) (hb : w.heap[r]? = some ob) : (getObj r).run P w = .ok ob w := by
  simp only [getObj, Sem.run, hb]
  cases ob <;> first | rfl | cases ho
theorem run_setObj_at {r : Nat} {ob0 ob : Obj} (ho : objB ob0 = true) (hb : w.heap[r]? = some ob0) : (setObj r ob).run P w = .ok () { w with heap := w.heap.setIfInBounds r ob } := by
  simp only [setObj, Sem.run, hb]
  cases ob0 <;> first | rfl | cases ho

theorem ent_did (h : St N Z own β σ a w) {v : Re.V} {u : Value} (hu : RepS own w β σ.mem v u) (he : execOp a.eval o = (do pure (.value (← Instr.entry u)))) {r : Re.V × S} (hr : (entM v).run σ = some r) : Did P N Z o a w r.2 r.1 := by
  unfold entM at hr
  split at hr
  case h_2 => cases hr
  rename_i s ver
  simp only [M.run] at hr
  split at hr
  case h_2 => cases hr
  rename_i ver' K V xs hen
  split at hr
  case isFalse => cases hr
  rename_i hver
  subst hver
  obtain ⟨p, h1, h2⟩ := fin_run hr
  rw [h2]
  have hmm := h.mems s
  rw [hen] at hmm
  obtain ⟨rr, m1, m2, m3, m4⟩ := hmm
  have hum : u = .pointer (some ⟨rr, 0, none⟩) := (hu.2 _ _ _ hen).trans m1
  rcases m4 with ⟨_, _, _, _, hf, _⟩ | ⟨m, es, c, seen, bag, g1, g2, g3, g4, g5, _⟩
  · cases hf
  obtain ⟨e, e1, e2, p', e3, e4, e5, e6, e7⟩ := g5 rfl
  rw [h1] at e3; cases e3
  have hrun : (Instr.entry u).run P w = .ok (.tuple #[e.key, e.val]) w := by
    rw [hum]
    unfold Instr.entry
    have hfind : es.find? (fun x => x.born == e.born) = some e := by rw [← Array.find?_toList]; exact find_born e es.toList g4.born e1
    simp only [Sem.run_bind, run_getObj_at rfl g1, Result.andThen_ok, e2, run_getObj_at rfl g3, bne_self_eq_false, Bool.false_eq_true, if_false, hfind, Sem.run_pure]
  refine did_value (exec_v he hrun) h ⟨e.key, [e.val], rfl, ?_, e.val, [], rfl, ?_, rfl⟩
  · show RepV own w K e.key p.1
    rw [e4]; exact RepV.ofEnc g4.plain.1 g4.plain.2.2.1 e6
  · show RepV own w V e.val p.2
    rw [e5]; exact RepV.ofEnc g4.plain.2.1 g4.plain.2.2.2 e7

/-- 'next', wherever the iterator lies. -/
theorem run_next_at (ty : TypeId) {r m c : Nat} {seen : Array Nat} {es : Array MapEntry} (hr : w.heap[r]? = some (.mapIter (some m) c seen c)) (hm : w.heap[m]? = some (.map es c)) (hold : ∀ x ∈ es.toList, x.born < c) :
    ((leftOf es seen).size = 0 ∧ (Instr.next (.pointer (some ⟨r, 0, none⟩)) false ty).run P w = .ok (.tuple #[.bool false]) w) ∨
    ∃ e ∈ (leftOf es seen).toList, ∃ w1 : World, ObjSet r (.mapIter (some m) c (seen.push e.born) c) w w1 ∧ (Instr.next (.pointer (some ⟨r, 0, none⟩)) false ty).run P w = .ok (.tuple #[.bool true, e.key, e.val]) w1 := by
  simp only [Instr.next, Sem.run_bind, run_getObj_at rfl hr, run_getObj_at rfl hm, Result.andThen_ok, next_test_false seen es c c hold (Nat.le_refl _), Bool.false_eq_true, if_false]
  unfold leftOf
  have hmem : ∀ x ∈ (Array.filter (fun e => !seen.contains e.born) es).toList, x.born < c := fun x hx => hold x (by simp at hx ⊢; exact hx.1)
  generalize Array.filter (fun e => !seen.contains e.born) es = L at hmem ⊢
  have e1 : L.filter (fun x => decide (x.born < c)) = L := Array.filter_eq_self.2 (fun x hx => by simpa using hmem x (by simpa using hx))
  have e2 : L.filter (fun x => decide (x.born ≥ c)) = #[] := by
    rw [Array.filter_eq_empty_iff]
    intro x hx
    have := hmem x (by simpa using hx)
    simp
    omega
  simp only [e1, e2, Array.append_empty]
  by_cases h0 : L.size = 0
  · left
    have : L = #[] := Array.eq_empty_of_size_eq_zero h0
    subst this
    refine ⟨rfl, ?_⟩
    simp [choose, Sem.run, Question.forced]
  · right
    have hne : L.isEmpty = false := by simp [Array.isEmpty, h0]
    simp only [hne, Bool.false_eq_true, if_false, Array.empty_append, Array.size_map]
    have hch : ∃ (j : Nat) (w1 : World), j < L.size ∧ w1.heap = w.heap ∧ w1.os = w.os ∧ w1.tape = w.tape ∧ w1.output = w.output ∧ (choose (Question.mapNext L.size)).run P w = .ok j w1 := by
      by_cases hf : L.size ≤ 1
      · exact ⟨0, w, by omega, rfl, rfl, rfl, rfl, by simp [choose, Sem.run, Question.forced, hf]⟩
      · exact ⟨_, w.drew, Nat.mod_lt _ (by omega), rfl, rfl, rfl, rfl, by
          simp only [choose, Sem.run, Question.forced, decide_eq_true_eq, hf, if_false, Question.cut]
          rfl⟩
    obtain ⟨j, w1, hj, f1, f2, f3, f4, hrun⟩ := hch
    have hr1 : w1.heap[r]? = some (.mapIter (some m) c seen c) := by rw [f1]; exact hr
    refine ⟨L[j], by simp, { w1 with heap := w1.heap.setIfInBounds r (.mapIter (some m) c (seen.push L[j].born) c) }, ?_, ?_⟩
    · refine ⟨f2, f3, f4, by simp [f1], ⟨_, rfl, hr⟩, rfl, ?_, fun b hb => ?_⟩
      · show (w1.heap.setIfInBounds r _)[r]? = _
        rw [Array.getElem?_setIfInBounds_self_of_lt (map_lt hr1)]
      · show (w1.heap.setIfInBounds r _)[b]? = _
        rw [Array.getElem?_setIfInBounds_ne (Ne.symm hb), f1]
    · have hset := run_setObj_at (P := P) (ob := .mapIter (some m) c (seen.push L[j].born) c) rfl hr1
      simp only [hrun, Result.andThen_ok, Array.getElem?_map, Array.getElem?_eq_getElem hj, Option.map_some, Sem.run_bind, hset, Sem.run_pure]

end
end Go.Re
/- Reflection, part X: every operation. -/
namespace Go.Re
set_option linter.unusedVariables false
set_option linter.unusedSimpArgs false
open Go.RowKit (Below)

section
variable {P : Program} {E : Env} {N : Nat} {Z : Base} {own : Own} {β : Conc} {σ : S} {a : Act} {w : World} {o : Oper}

theorem ret_did (h : St N Z own β σ a w) {u : Value} {v : V} {r : V × S} (he : execOp a.eval o = pure (.value u)) (hu : RepS own w β σ.mem v u) (hr : (M.ret v).run σ = some r) : Did P N Z o a w r.2 r.1 := by
  rw [ret_run hr]
  exact did_value (by rw [he]; rfl) h hu

theorem nth_rep : ∀ (i : Nat) {v x : V} {vs : List Value}, nth v i = some x → RepS own w β σ.mem v (.tuple vs.toArray) → ∃ u, vs[i]? = some u ∧ RepS own w β σ.mem x u
  | 0, .tcons _ _, _, vs, h, ⟨u, us, h1, h2, h3⟩ => by
    cases h
    have e : vs = u :: us := by simpa using h1
    subst e
    exact ⟨u, rfl, h2⟩
  | i + 1, .tcons _ _, _, vs, h, ⟨u, us, h1, h2, h3⟩ => by
    have e : vs = u :: us := by simpa using h1
    subst e
    exact nth_rep i h h3
  | 0, .dead, _, _, h, _ => by cases h
  | 0, .val _ _, _, _, h, _ => by cases h
  | 0, .nil, _, _, h, _ => by cases h
  | 0, .ptr _ _ _, _, _, h, _ => by cases h
  | 0, .ref _ _, _, _, h, _ => by cases h
  | 0, .elp _ _ _ _, _, _, h, _ => by cases h
  | 0, .rpt _ _, _, _, h, _ => by cases h
  | 0, .nilq _ _, _, _, h, _ => by cases h
  | 0, .pre _ _ _, _, _, h, _ => by cases h
  | 0, .plist _, _, _, h, _ => by cases h
  | 0, .pel _, _, _, h, _ => by cases h
  | 0, .clo _ _, _, _, h, _ => by cases h
  | 0, .zval _ _ _, _, _, h, _ => by cases h
  | 0, .tnil, _, _, h, _ => by cases h
  | _ + 1, .dead, _, _, h, _ => by cases h
  | _ + 1, .val _ _, _, _, h, _ => by cases h
  | _ + 1, .nil, _, _, h, _ => by cases h
  | _ + 1, .ptr _ _ _, _, _, h, _ => by cases h
  | _ + 1, .ref _ _, _, _, h, _ => by cases h
  | _ + 1, .elp _ _ _ _, _, _, h, _ => by cases h
  | _ + 1, .rpt _ _, _, _, h, _ => by cases h
  | _ + 1, .nilq _ _, _, _, h, _ => by cases h
  | _ + 1, .pre _ _ _, _, _, h, _ => by cases h
  | _ + 1, .plist _, _, _, h, _ => by cases h
  | _ + 1, .pel _, _, _, h, _ => by cases h
  | _ + 1, .clo _ _, _, _, h, _ => by cases h
  | _ + 1, .zval _ _ _, _, _, h, _ => by cases h
  | _ + 1, .tnil, _, _, h, _ => by cases h

theorem chain_len : ∀ {c : V} {n : Nat} {us : List Value}, chainLen c = some n → RepS own w β σ.mem c (.tuple us.toArray) → n = us.length
  | .tnil, _, us, h, hr => by
    cases h
    have hr : Value.tuple us.toArray = .tuple #[] := hr
    have : us = [] := by simpa using hr
    rw [this]; rfl
  | .tcons x r, _, us, h, hr => by
    obtain ⟨m, h1, rfl⟩ := Option.map_eq_some_iff.1 h
    obtain ⟨u, us', h2, h3, h4⟩ := hr
    have e : us = u :: us' := by simpa using h2
    subst e
    rw [chain_len h1 h4]; rfl
  | .dead, _, _, h, _ => by cases h
  | .val _ _, _, _, h, _ => by cases h
  | .nil, _, _, h, _ => by cases h
  | .ptr _ _ _, _, _, h, _ => by cases h
  | .ref _ _, _, _, h, _ => by cases h
  | .elp _ _ _ _, _, _, h, _ => by cases h
  | .rpt _ _, _, _, h, _ => by cases h
  | .nilq _ _, _, _, h, _ => by cases h
  | .win _ _ _, _, _, h, _ => by cases h
  | .pre _ _ _, _, _, h, _ => by cases h
  | .plist _, _, _, h, _ => by cases h
  | .pel _, _, _, h, _ => by cases h
  | .clo _ _, _, _, h, _ => by cases h
  | .zval _ _ _, _, _, h, _ => by cases h

theorem plM_run (h : St N Z own β σ a w) : ∀ (ps : List (Nat × Operand)) (j : Nat) (cells : List Value) {k : V → M V} {r : V × S}, (plM ps j k).run σ = some r → cells.length = j + ps.length →
    ∃ c us, us.length = ps.length ∧ RepS own w β σ.mem c (.tuple (List.toArray us)) ∧ (k c).run σ = some r ∧
      Instr.fill (fun i => some (i * 1, 1)) cells.toArray (ps.map fun p => (p.1, a.eval p.2)) = some (cells.take j ++ us).toArray
  | [], j, cells, k, r, hr, hl => by
    refine ⟨.tnil, [], rfl, rfl, hr, ?_⟩
    rw [List.append_nil, List.take_of_length_le (by simp at hl; omega)]; rfl
  | (i, o) :: ps, j, cells, k, r, hr, hl => by
    unfold plM at hr
    cases hb : Nat.beq i j with
    | false => rw [hb] at hr; cases hr
    | true =>
      rw [hb] at hr
      have hb := Nat.eq_of_beq_eq_true hb
      subst hb
      simp only [cond_true] at hr
      obtain ⟨v, h1, h2⟩ := rd_run h hr
      split at h2
      · rename_i s ver p
        simp only [M.run] at h2
        split at h2
        · rename_i ver' τ x hm
          cases hv : Nat.beq ver ver' with
          | false => rw [hv] at h2; cases h2
          | true =>
            rw [hv] at h2
            have hv := Nat.eq_of_beq_eq_true hv
            subst hv
            simp only [cond_true] at h2
            obtain ⟨b, off, e1, e2⟩ := h1.2 τ x hm
            simp only [List.length_cons] at hl
            obtain ⟨c, us, g1, g2, g3, g4⟩ := plM_run h ps (i + 1) (cells.set i (a.eval o)) h2 (by simp; omega)
            refine ⟨.tcons (.ptr s ver p) c, a.eval o :: us, by simp [g1], ⟨_, _, rfl, h1, g2⟩, g3, ?_⟩
            have hcell : (a.eval o).cells = #[a.eval o] := by rw [e2]; rfl
            simp only [List.map_cons, Instr.fill, hcell]
            have hsz : i * 1 + 1 ≤ cells.length := by omega
            have hset : (#[a.eval o].zipIdx.foldl (fun cs (p : Value × Nat) => cs.setIfInBounds (i * 1 + p.2) p.1) cells.toArray) = (cells.set i (a.eval o)).toArray := by
              simp
            have hcond : ¬ ((decide ((#[a.eval o] : Array Value).size ≠ 1) || decide (i * 1 + (#[a.eval o] : Array Value).size > cells.toArray.size)) = true) := by
              simp; omega
            rw [if_neg (by simpa using hcond)]
            refine Eq.trans (congrArg (fun z => Instr.fill (fun i => some (i * 1, 1)) z (ps.map fun p => (p.1, a.eval p.2))) hset) ?_
            rw [g4]
            congr 2
            rw [List.take_add_one, List.getElem?_set_self (by omega), List.take_set_of_le (Nat.le_refl _)]
            simp
        · cases h2
      · cases h2

theorem plist_did (hE : EnvOk P E) (h : St N Z own β σ a w) {t n : Nat} {ps : Array (Nat × Operand)} (ht : E.psl t = true) (hn : ps.toList.length = n) (hn2 : n ≤ 65536)
    (he : execOp a.eval o = (do pure (.value (← Instr.buildSlice t n (ps.map fun (i, x) => (i, a.eval x)))))) {r : V × S} (hr : (plM ps.toList 0 fun c => .ret (.plist c)).run σ = some r) : Did P N Z o a w r.2 r.1 := by
  obtain ⟨te, ta, i, q1, q2, q3, q4, q5⟩ := hE.psl t ht
  obtain ⟨c, us, g1, g2, g3, g4⟩ := plM_run h ps.toList 0 (List.replicate n (.pointer none)) hr (by simp [hn])
  rw [List.take_zero, List.nil_append] at g4
  rw [ret_run g3]
  have hul : us.length = n := by omega
  obtain ⟨own', s1, k1, hc⟩ := h.newRead (alloc1_push w us te w.drawn)
  refine did_value (exec_v he (u := .slice (some ⟨w.heap.size, 0, none⟩) n n) (w' := { w with heap := w.heap.push (.cells us.toArray te (0, 0)) }) ?_) s1 ⟨us, w.heap.size, 0, by rw [hul], by omega, hc, RepS.go k1 (fun s => Evo.same _ rfl) g2⟩
  have hps : (Array.map (fun x => match x with | (i, x) => (i, a.eval x)) ps).toList = ps.toList.map fun p => (p.1, a.eval p.2) := by simp
  have hsize : (sizeOf te).run P w = .ok 1 w := by simp [sizeOf, typeInfo, q3, q4]
  have hzero : (zeroValue te).run P w = .ok (.pointer none) w := by simp [zeroValue, typeInfo, q3, q5]
  have hbig : ¬ (n * 1 > 2 ^ 24) := by omega
  simp only [Instr.buildSlice, Sem.run_bind, run_underlying q1, Result.andThen_ok, Sem.run_pure, hsize]
  rw [if_neg hbig]
  simp only [Sem.run_pure, Result.andThen_ok, Sem.run_bind, Sem.run_ite]
  by_cases hz0 : n * 1 = 0
  · have hn0 : n = 0 := by omega
    subst hn0
    have hus : us = [] := List.eq_nil_of_length_eq_zero hul
    subst hus
    rw [if_pos hz0]
    simp only [Result.andThen_ok, hz0, Array.range_zero', Array.map_empty, hps]
    have g4' : Instr.fill (fun i => some (i * 1, 1)) #[] (ps.toList.map fun p => (p.1, a.eval p.2)) = some #[] := g4
    rw [g4']
    simp [newRow]
  · rw [if_neg hz0]
    have hcells : ((Array.range (n * 1)).map fun i => (Value.cells (.pointer none))[i % (Value.cells (.pointer none)).size]!) = (List.replicate n (Value.pointer none)).toArray := by
      apply Array.ext'
      apply List.ext_getElem
      · simp
      · intro j h1 h2
        simp [Value.cells, Nat.mod_one]
    simp only [Sem.run_bind, hzero, Result.andThen_ok, Sem.run_pure, hps]
    rw [hcells, g4]
    simp [newRow]

theorem plIx_did (hE : EnvOk P E) (h : St N Z own β σ a w) {t : Nat} {v vi : V} {u ui : Value} {r : V × S} (ht : E.psl t = true) (hu : RepS own w β σ.mem v u) (hi : RepS own w β σ.mem vi ui)
    (he : execOp a.eval o = (do pure (.value (← Instr.indexAt t u ui)))) (hr : (plIx v vi).run σ = some r) : Did P N Z o a w r.2 r.1 := by
  obtain ⟨te, ta, i, q1, q2, q3, q4, q5⟩ := hE.psl t ht
  unfold plIx at hr
  split at hr
  · rename_i c k j
    obtain ⟨e1, e2⟩ := RepS.int hi
    obtain ⟨us, b, off, f1, f0, f2, f3⟩ := hu
    split at hr
    · rename_i y hy
      obtain ⟨_, h1, h2⟩ := fin_run hr
      have h1 := of_decide_eq_true (chk_some h1)
      obtain ⟨uy, g1, g2⟩ := nth_rep _ hy f3
      have hlt : (toI k j).toNat < us.length := (List.getElem?_eq_some_iff.1 g1).1
      obtain ⟨g3, g4⟩ := f2 _ _ g1
      have hsize : ∀ w, (sizeOf te).run P w = .ok 1 w := fun w => by simp [sizeOf, typeInfo, q3, q4]
      rw [h2]
      refine did_value (exec_v he (u := .pointer (some ⟨b, off + (toI k j).toNat, none⟩)) (w' := w) ?_) h ⟨b, _, uy, rfl, g3, g4, g2⟩
      have hlt' : toI k j < (us.length : Int) := by omega
      rw [f1, e1]
      simp [Instr.indexAt, run_underlying q1, asIntOf, h1, hlt', hsize, addr_add]
    · cases hr
  · cases hr

theorem tcons_tuple {v : V} {i : Nat} {x : V} {u : Value} (h : nth v i = some x) (hr : RepS own w β σ.mem v u) : ∃ vs : List Value, u = .tuple vs.toArray := by
  cases v with
  | tcons a r => obtain ⟨u', us, h1, _⟩ := hr; exact ⟨_, h1⟩
  | _ => cases i <;> cases h

theorem builtin_exec {b : Builtin} {args : Array Operand} {ats : Array TypeId} (ho : o.op = .call { callee := .builtin b, args, argTypes := ats }) :
    execOp a.eval o = builtin b ats o.type (args.map fun | .const _ => true | _ => false) (args.map a.eval) := by
  unfold execOp; rw [ho]; rfl

theorem enc_small {n : Int} (h1 : 0 ≤ n) (h2 : n < 128) : (Utf8.encode n).data.toList.map UInt8.toBitVec = [BitVec.ofInt 8 n] := by
  obtain ⟨m, rfl⟩ : ∃ m : Nat, n = (m : Int) := ⟨n.toNat, by omega⟩
  have hv : Utf8.valid (m : Int) = true := by
    unfold Utf8.valid
    simp only [Bool.or_eq_true, Bool.and_eq_true, decide_eq_true_eq]; omega
  have hm : m < 128 := by omega
  unfold Utf8.encode
  simp [hv, hm]
  rfl

theorem opM_did (hE : EnvOk P E) (h : St N Z own β σ a w) {r : V × S} (hr : (opM E o).run σ = some r) : Did P N Z o a w r.2 r.1 := by
  have hx : ∀ {s : Sem Value}, (execOp a.eval o = (do pure (.value (← s)))) → execOp a.eval o = (do pure (.value (← s))) := fun h => h
  unfold opM at hr
  split at hr
  · -- move
    rename_i x ho
    obtain ⟨v, h1, h2⟩ := rd_run h hr
    cases hmz : E.mfz (o.dst.getD 0) with
    | true =>
      rw [hmz, cond_true] at h2
      exact mfz_did h h1 (by unfold execOp; rw [ho]) h2
    | false =>
      rw [hmz, cond_false] at h2
      exact ret_did h (by unfold execOp; rw [ho]) h1 h2
  · -- assign
    rename_i x ho
    obtain ⟨v, h1, h2⟩ := rd_run h hr
    have he : execOp a.eval o = pure (.value (a.eval x)) := by unfold execOp; rw [ho]
    split at h2
    · split at h2
      · rename_i e ht
        have h1 : a.eval x = .slice none 0 0 := h1
        unfold ownM at h2
        simp only [M.run] at h2
        obtain ⟨_, _, h5⟩ := Option.map_eq_some_iff.1 h2
        subst h5
        exact did_value (u := .slice none 0 0) (w' := w) (by rw [he, h1]; rfl) (h.newNil _ e) (ref_new _ _ _ σ.mem _ _ (σ.mem _) e [] .full)
      · cases h2
    · exact ret_did h he h1 h2
  · -- pick
    rename_i c x y ho
    obtain ⟨vc, h1, h2⟩ := rd_run h hr
    obtain ⟨vx, h3, h4⟩ := rd_run h h2
    obtain ⟨vy, h5, h6⟩ := rd_run h h4
    split at h6
    · rename_i b
      have hc : a.eval c = .bool b := RepV.bool.1 h1
      have he : execOp a.eval o = pure (.value (if b then a.eval x else a.eval y)) := by
        unfold execOp; rw [ho]; simp [hc, asBool]
      split at h6
      · rename_i τ p τ' q
        split at h6
        · rename_i q' hq
          obtain ⟨e, hq⟩ := cast?_some hq
          subst e; subst hq
          refine ret_did h he ?_ h6
          cases b
          · exact h5
          · exact h3
        · cases h6
      · obtain ⟨_, h7, h8⟩ := fin_run h6
        have h7 := chk_some h7
        rw [h8]
        cases b with
        | false => exact did_value (by rw [he]; rfl) h h5
        | true => cases h7
      · obtain ⟨_, h7, h8⟩ := fin_run h6
        have h7 := chk_some h7
        rw [h8]
        cases b with
        | false => exact did_value (by rw [he]; rfl) h h5
        | true => cases h7
      · obtain ⟨_, h7, h8⟩ := fin_run h6
        have h7 := chk_some h7
        rw [h8]
        cases b with
        | true => exact did_value (by rw [he]; rfl) h h3
        | false => cases h7
      · obtain ⟨_, h7, h8⟩ := fin_run h6
        have h7 := chk_some h7
        rw [h8]
        cases b with
        | true => exact did_value (by rw [he]; rfl) h h3
        | false => cases h7
      · cases h6
    · cases h6
  · -- alloc
    rename_i t ho
    split at hr
    · rename_i τ ht
      have hT := hE.ty t τ ht
      have hrun : ∀ w, (execOp a.eval o).run P w = .ok (.value (.pointer (some ⟨w.heap.size, 0, none⟩))) { w with heap := w.heap.push (.cells (mkV τ (zeroC τ)).cells t (0, 0)) } := by
        intro w
        unfold execOp; rw [ho]
        simp only [Sem.run_bind, Instr.alloc, hT.zeroRun, Result.andThen_ok, newVar_run, Sem.run_pure]
      cases hgal : E.gal (o.dst.getD 0) with
      | cons q l =>
        dsimp only at hr
        rw [hgal] at hr
        exact gbox_did h hT.isVal hT.good (t := t) hrun hr
      | nil =>
      dsimp only at hr
      rw [hgal] at hr
      cases h1 : E.one (o.dst.getD 0) with
      | true =>
        dsimp only at hr
        rw [h1, cond_true] at hr
        exact one_did h (RepV.mk hT.isVal (zero_rep hT.good)) (t := t) hrun hr
      | false =>
        dsimp only at hr
        rw [h1, cond_false] at hr
        exact box_did h (fr := []) (by simp [Frz]) hT.isVal (.inl (RepV.mk hT.isVal (zero_rep hT.good))) (t := t) hrun hr
    · cases hr
  · -- box
    rename_i t x ho
    split at hr
    · rename_i τ ht
      have hT := hE.ty t τ ht
      obtain ⟨v, h1, h2⟩ := rd_run h hr
      obtain ⟨y, fr, hf, hA, _, h3⟩ := asD_run h h1 h2
      have hrun : ∀ w, (execOp a.eval o).run P w = .ok (.value (.pointer (some ⟨w.heap.size, 0, none⟩))) { w with heap := w.heap.push (.cells (a.eval x).cells t (0, 0)) } := by
        intro w
        unfold execOp; rw [ho]
        simp only [Sem.run_bind, Instr.box, Result.andThen_ok, newVar_run, Sem.run_pure]
      cases h4 : E.one (o.dst.getD 0) with
      | true =>
        rw [h4, cond_true] at h3
        exact rbox_did h hf hT.isVal hA (t := t) hrun h3
      | false =>
        rw [h4, cond_false] at h3
        exact box_did h hf hT.isVal hA (t := t) hrun h3
    · cases hr
  · -- build
    rename_i t ps ho
    split at hr
    · rename_i b ht
      cases hgb : E.gbd (o.dst.getD 0) with
      | nil =>
        dsimp only at hr
        rw [hgb] at hr
        exact build_did hE h ht (by unfold execOp; rw [ho]) hr
      | cons q z =>
        dsimp only at hr
        rw [hgb] at hr
        cases hz : zOk b ps.toList (q :: z) with
        | false => dsimp only at hr; rw [hz] at hr; cases hr
        | true =>
          dsimp only at hr
          rw [hz, cond_true] at hr
          exact zbuild_did hE h hz ht (by unfold execOp; rw [ho]) hr
    · rename_i n e ht
      exact buildArr_did hE h ht (by unfold execOp; rw [ho]) hr
    · cases hr
  · -- buildSlice
    rename_i t n ps ho
    split at hr
    · rename_i e ht
      split at hr
      · rename_i hc
        exact buildSlice_did hE h ht hc.1 hc.2 (by unfold execOp; rw [ho]) hr
      · cases hr
    · cases hp : E.psl t && (Nat.beq ps.toList.length n && Nat.ble n 65536) with
      | false => rw [hp] at hr; cases hr
      | true =>
        rw [hp] at hr
        simp only [Bool.and_eq_true] at hp
        exact plist_did hE h hp.1 (Nat.eq_of_beq_eq_true hp.2.1) (Nat.le_of_ble_eq_true hp.2.2) (by unfold execOp; rw [ho]) hr
  · -- load
    rename_i t x ho
    split at hr
    · rename_i τ ht
      obtain ⟨v, h1, h2⟩ := rd_run h hr
      cases hgl : E.gld (o.dst.getD 0) with
      | true =>
        rw [hgl, cond_true] at h2
        exact gld_did hE h ht h1 (by unfold execOp; rw [ho]) h2
      | false =>
        rw [hgl, cond_false] at h2
        exact (load_pure hE h ht h1 h2).did h (by unfold execOp; rw [ho])
    · cases hp : E.ptr t with
      | false => rw [hp] at hr; cases hr
      | true =>
        rw [hp] at hr
        simp only [cond_true] at hr
        obtain ⟨v, h1, h2⟩ := rd_run h hr
        split at h2
        · obtain ⟨b, off, u, e1, e2, e3, e4⟩ := h1
          obtain ⟨ta, hd⟩ := hE.ptr t hp
          rw [ret_run h2]
          refine did_value (exec_v (s := Instr.loadAt t (a.eval x)) (by unfold execOp; rw [ho]) (u := u) (w' := w) ?_) h e4
          rw [e1]
          simp [Instr.loadAt, Instr.sureAddr, loadVar, isAgg, run_underlying hd, run_load, e3]
        · cases h2
  · -- store
    rename_i t x y ho
    split at hr
    · rename_i τ ht
      obtain ⟨v, h1, h2⟩ := rd_run h hr
      obtain ⟨u, h3, h4⟩ := rd_run h h2
      cases h5 : isOnc E v with
      | true =>
        rw [h5, cond_true] at h4
        exact once_did hE h ht h1 h3 (by unfold execOp; rw [ho]) h4
      | false =>
        rw [h5, cond_false] at h4
        cases h6 : isGb E v with
        | true =>
          rw [h6, cond_true] at h4
          exact gstore_did hE h ht h1 h3 (by unfold execOp; rw [ho]) h4
        | false =>
          rw [h6, cond_false] at h4
          exact store_did hE h ht h1 h3 (by unfold execOp; rw [ho]) h4
    · cases hr
  · -- nilCheck
    rename_i x ho
    obtain ⟨v, h1, h2⟩ := rd_run h hr
    have go : ∀ {ad : Addr}, a.eval x = .pointer (some ad) → execOp a.eval o = pure (.value (a.eval x)) := by
      intro ad e
      unfold execOp; rw [ho]; simp only [e]
    split at h2
    · rename_i s ver p
      simp only [M.run] at h2
      split at h2
      · rename_i ver' τb y hm
        split at h2
        · rename_i e; subst e
          obtain ⟨b, off, _, e2⟩ := h1.2 τb y hm
          exact ret_did h (go e2) h1 h2
        · cases h2
      · cases h2
    · rename_i s ver i p
      simp only [M.run] at h2
      split at h2
      · rename_i ver' τe xs m hm
        split at h2
        · rename_i e; subst e
          obtain ⟨_, b, off, _, _, _, e2⟩ := h1.2 τe xs m hm
          exact ret_did h (go e2) h1 h2
        · cases h2
      · cases h2
    · have h1' := h1
      obtain ⟨_, b, off, cs, e2, _⟩ := h1'
      exact ret_did h (go e2) h1 h2
    · cases h2
  · -- binOp
    rename_i op t x y yt ho
    obtain ⟨v, h1, h2⟩ := rd_run h hr
    obtain ⟨u, h3, h4⟩ := rd_run h h2
    exact (bin_pure hE h1 h3 h4).did h (by unfold execOp; rw [ho])
  · -- unOp
    rename_i op t x ho
    obtain ⟨v, h1, h2⟩ := rd_run h hr
    exact (un_pure h1 h2).did h (by unfold execOp; rw [ho])
  · -- convert
    rename_i s t x ho
    obtain ⟨v, h1, h2⟩ := rd_run h hr
    have he : execOp a.eval o = (do pure (.value (← convert s t (a.eval x)))) := by unfold execOp; rw [ho]
    unfold convM at h2
    split at h2
    · rename_i k k' τ y hs ht
      split at h2
      · rename_i y' hy
        obtain ⟨e, hy⟩ := cast?_some hy
        subst e; subst hy
        obtain ⟨e1, e2⟩ := RepS.int h1
        refine Pure.did h he (fin_pure (τ := .int k') h2 fun z hz => ⟨_, ?_, RepV.int.2 ⟨rfl, (convI_ok e2 hz).2⟩⟩)
        rw [e1]
        exact conv_int hE hs ht e2 hz
      · cases h2
    · rename_i k τ y hs ht
      split at h2
      · rename_i y' hy
        obtain ⟨e, hy⟩ := cast?_some hy
        subst e; subst hy
        obtain ⟨e1, e2⟩ := RepS.int h1
        obtain ⟨_, h5, h6⟩ := fin_run h2
        have h5 := chk_some h5
        simp only [Bool.and_eq_true, decide_eq_true_eq] at h5
        have q1 : P.underlying s = some (.int k) := (hE.ty s _ hs).desc
        have q2 : P.underlying t = some .string := (hE.ty t _ ht).desc
        rw [h6]
        refine did_value (exec_v he (u := .string (Utf8.encode (toI k y))) (w' := w) ?_) h (RepV.str.2 ⟨_, rfl, ?_, by simp [big]⟩)
        · rw [e1]
          simp [convert, run_underlying q1, run_underlying q2, Conv.intToString]
        · exact enc_small h5.1 h5.2
      · cases h2
    · rename_i y hs ht
      obtain ⟨b, e1, e2, e3⟩ := RepV.str.1 h1
      rw [ret_run h2]
      refine did_value (exec_v he (u := a.eval x) (w' := w) ?_) h h1
      rw [e1]
      have q1 : P.underlying s = some .string := (hE.ty s _ hs).desc
      have q2 : P.underlying t = some .string := (hE.ty t _ ht).desc
      simp [convert, run_underlying q1, run_underlying q2]
    · rename_i y hs ht
      obtain ⟨b, e1, e2, e3⟩ := RepV.str.1 h1
      simp only [M.run] at h2
      obtain ⟨_, h4, h5⟩ := Option.map_eq_some_iff.1 h2
      have h6 := of_decide_eq_true (chk_some h4)
      subst h5
      subst e2
      refine toBytes_did hE h hs ht ?_ (by rw [he, e1])
      simpa using h6
    · rename_i v0 hs ht
      obtain ⟨y, h3, h4⟩ := asDr_run h h1 h2
      obtain ⟨_, h5, h6⟩ := fin_run h4
      have h7 := of_decide_eq_true (chk_some h5)
      obtain ⟨b, q1, q2⟩ := conv_str (w := w) hE hs ht h3.q
      rw [h6]
      refine did_value (exec_v he q1) h (RepV.str.2 ⟨b, rfl, q2, ?_⟩)
      simp only [lim] at h7
      simp only [big]; omega
    · rename_i s' ver hs ht
      split at h2
      · rename_i e; subst e
        simp only [M.run] at h2
        split at h2
        · rename_i ver' τe xs hm
          split at h2
          · rename_i e
            obtain ⟨e, e'⟩ := e
            subst e; subst e'
            obtain ⟨_, h4, h5⟩ := fin_run h2
            rw [h5]
            exact mark_did hE h hs hm (of_decide_eq_true (chk_some h4)) h1 he
          · cases h2
        · cases h2
      · cases h2
    · cases h2
  · -- sliceToArrayPointer
    rename_i t x ho
    split at hr
    · rename_i n e ht
      split at hr
      · rename_i hn
        obtain ⟨v, h1, h2⟩ := rd_run h hr
        obtain ⟨y, fr, hf, hA, _, h3⟩ := asD_run h h1 h2
        exact toArr_did hE h ht hn hf hA (by unfold execOp; rw [ho]) h3
      · cases hr
    · cases hr
  · -- makeSlice
    rename_i t x y ho
    split at hr
    · rename_i e ht
      obtain ⟨v, h1, h2⟩ := rd_run h hr
      obtain ⟨u, h3, h4⟩ := rd_run h h2
      split at h4
      · rename_i k n k' c
        obtain ⟨e1, e2⟩ := RepS.int h1
        obtain ⟨e3, e4⟩ := RepS.int h3
        simp only [M.run] at h4
        obtain ⟨_, h5, h6⟩ := Option.map_eq_some_iff.1 h4
        subst h6
        exact make_did (k := k) (k' := k') hE h ht (chk_some h5) (by unfold execOp; rw [ho]; simp only [e1, e3])
      · cases h4
    · cases hr
  · -- slice
    rename_i t x lo hi ho
    obtain ⟨v, h1, h2⟩ := rd_run h hr
    have he : execOp a.eval o = (do pure (.value (← Instr.sliceAt t (a.eval x) (lo.map a.eval) (hi.map a.eval) none))) := by unfold execOp; rw [ho]; rfl
    rcases bound_run h h2 with ⟨e1, h3⟩ | ⟨op1, kd1, i1, e1, e2, h3⟩
    all_goals
      rcases bound_run h h3 with ⟨e3, h4⟩ | ⟨op2, kd2, i2, e3, e4, h4⟩
      all_goals
        refine sliceOp_did hE h h1 (bound_val ?_) (bound_val ?_) he h4
        · first | exact .inl ⟨e1, rfl⟩ | exact .inr ⟨op1, kd1, i1, e1, e2, rfl⟩
        · first | exact .inl ⟨e3, rfl⟩ | exact .inr ⟨op2, kd2, i2, e3, e4, rfl⟩
  · -- slice, three bounds
    rename_i t x lo hi mx ho
    obtain ⟨v, h1, h2⟩ := rd_run h hr
    have he : execOp a.eval o = (do pure (.value (← Instr.sliceAt t (a.eval x) (lo.map a.eval) (hi.map a.eval) (some (a.eval mx))))) := by unfold execOp; rw [ho]; rfl
    rcases bound_run h h2 with ⟨e1, h3⟩ | ⟨op1, kd1, i1, e1, e2, h3⟩
    all_goals
      rcases bound_run h h3 with ⟨e3, h4⟩ | ⟨op2, kd2, i2, e3, e4, h4⟩
      all_goals
        rcases bound_run h h4 with ⟨e5, h6⟩ | ⟨op3, kd3, i3, e5, e6, h6⟩
        · cases e5
        · first
          | cases h6
          | cases e5
            subst e1; subst e3
            refine slice3_did hE h h1 (bound_val ?_) e4 e6 he h6
            first | exact .inl ⟨rfl, rfl⟩ | exact .inr ⟨op1, kd1, i1, rfl, e2, rfl⟩
  · -- fieldAddr
    rename_i t x f ho
    split at hr
    · rename_i b ht
      split at hr
      · rename_i hf
        obtain ⟨v, h1, h2⟩ := rd_run h hr
        exact (fieldAddr_pure hE h ht hf h1 h2).did h (by unfold execOp; rw [ho])
      · cases hr
    · cases hr
  · -- field
    rename_i t x f ho
    split at hr
    · rename_i b ht
      obtain ⟨v, h1, h2⟩ := rd_run h hr
      exact (field_pure hE ht h1 h2).did h (by unfold execOp; rw [ho])
    · cases hr
  · -- makeMap
    rename_i t r0 ho
    split at hr
    · rename_i K V ht
      split at hr
      · dsimp only at hr
        cases hk : keyTy K with
        | true => rw [hk] at hr; exact bgMake_did hE h ht (.inl rfl) (by unfold execOp; rw [ho]; rfl) hr
        | false => rw [hk] at hr; exact mpMake_did hE h ht (.inl rfl) (by unfold execOp; rw [ho]; rfl) hr
      · rename_i x
        obtain ⟨v, h1, h2⟩ := rd_run h hr
        split at h2
        · rename_i k y
          cases hk : keyTy K with
          | true => rw [hk] at h2; exact bgMake_did hE h ht (.inr ⟨k, _, congrArg some (RepV.int.1 h1).1⟩) (by unfold execOp; rw [ho]; rfl) h2
          | false => rw [hk] at h2; exact mpMake_did hE h ht (.inr ⟨k, _, congrArg some (RepV.int.1 h1).1⟩) (by unfold execOp; rw [ho]; rfl) h2
        · cases h2
    · cases hr
  · -- mapUpdate
    rename_i t m k x ho
    split at hr
    · rename_i n V ht
      obtain ⟨vm, h1, h2⟩ := rd_run h hr
      obtain ⟨vk, h3, h4⟩ := rd_run h h2
      obtain ⟨vx, h5, h6⟩ := rd_run h h4
      exact mpUpd_did hE h ht h1 h3 h5 (by unfold execOp; rw [ho]) h6
    · rename_i b V ht
      obtain ⟨vm, h1, h2⟩ := rd_run h hr
      obtain ⟨vk, h3, h4⟩ := rd_run h h2
      obtain ⟨vx, h5, h6⟩ := rd_run h h4
      exact bgUpd_did hE h ht h1 h3 h5 (by unfold execOp; rw [ho]) h6
    · cases hr
  · -- insert
    rename_i t m k x ho
    split at hr
    · rename_i b V ht
      obtain ⟨vm, h1, h2⟩ := rd_run h hr
      obtain ⟨vk, h3, h4⟩ := rd_run h h2
      obtain ⟨vx, h5, h6⟩ := rd_run h h4
      exact bgUpd_did hE h ht h1 h3 h5 (by unfold execOp; rw [ho]) h6
    · cases hr
  · -- range
    rename_i t x ho
    split at hr
    · rename_i K V ht
      obtain ⟨v, h1, h2⟩ := rd_run h hr
      exact rng_did hE h ht h1 (by unfold execOp; rw [ho]) h2
    · cases hr
  · -- entry
    rename_i x ho
    obtain ⟨v, h1, h2⟩ := rd_run h hr
    exact ent_did h h1 (by unfold execOp; rw [ho]) h2
  · -- lookup
    rename_i t m k ok ho
    split at hr
    · rename_i n V ht
      obtain ⟨vm, h1, h2⟩ := rd_run h hr
      obtain ⟨vk, h3, h4⟩ := rd_run h h2
      exact mpLook_did hE h ht h1 h3 (by unfold execOp; rw [ho]) h4
    · cases hr
  · -- indexAddr
    rename_i t x i ho
    obtain ⟨v, h1, h2⟩ := rd_run h hr
    obtain ⟨u, h3, h4⟩ := rd_run h h2
    cases hp : E.psl t with
    | false =>
      rw [hp] at h4
      exact (indexAddr_pure hE h h1 h3 h4).did h (by unfold execOp; rw [ho])
    | true =>
      rw [hp] at h4
      exact plIx_did hE h hp h1 h3 (by unfold execOp; rw [ho]) h4
  · -- index
    rename_i t x i ho
    obtain ⟨v, h1, h2⟩ := rd_run h hr
    obtain ⟨u, h3, h4⟩ := rd_run h h2
    exact (index_pure hE h1 h3 h4).did h (by unfold execOp; rw [ho])
  · -- extract
    rename_i x i ho
    obtain ⟨v, h1, h2⟩ := rd_run h hr
    split at h2
    · rename_i y hy
      obtain ⟨vs, e1⟩ := tcons_tuple hy h1
      rw [e1] at h1
      obtain ⟨u, e2, e3⟩ := nth_rep i hy h1
      rw [ret_run h2]
      refine did_value (u := u) (w' := w) ?_ h e3
      unfold execOp; rw [ho]
      have e4 : vs.toArray[i]? = some u := by simpa using e2
      simp only [e1, Instr.extract, e4]
      rfl
    · cases h2
  · -- makeFunc
    rename_i g first cap ho
    split at hr
    · rename_i x h1 h2
      obtain rfl : first = #[] := Array.ext' (by simpa using h1)
      obtain rfl : cap = #[x] := Array.ext' (by simpa using h2)
      obtain ⟨v, h3, h4⟩ := rd_run h hr
      split at h4
      · rename_i τ y
        rw [ret_run h4]
        refine did_value (u := .func (.func g) #[] #[a.eval x]) (w' := w) ?_ h ⟨[a.eval x], rfl, _, [], rfl, h3, rfl⟩
        unfold execOp; rw [ho]
        simp [Instr.makeFunc]
      · cases h4
    · cases hr
  · -- call
    rename_i c ho
    obtain ⟨callee, args, ats⟩ := c
    dsimp only at hr
    split at hr
    · rename_i f hc
      split at hr
      · rename_i F hF
        cases hl : E.lnd (o.dst.getD 0) with
        | true => rw [hl] at hr; exact lend_did hE h hF ho hr
        | false => rw [hl] at hr; exact call_did hE h hF ho hr
      · cases hr
    · -- of a function that is a value
      rename_i t hc
      simp only [M.run] at hr
      split at hr
      · rename_i g x hs
        split at hr
        · rename_i F hF
          exact clo_did hE h hF ho hs hr
        · cases hr
      · cases hr
    · -- len
      rename_i x hargs
      split at hr
      · rename_i t hats
        obtain rfl : args = #[x] := Array.ext' (by simpa using hargs)
        obtain rfl : ats = #[t] := Array.ext' (by simpa using hats)
        obtain ⟨v, h1, h2⟩ := rd_run h hr
        cases hp : E.psl t with
        | false =>
          rw [hp, cond_false] at h2
          have hex : execOp a.eval o = (do pure (.value (← Builtin.len_ #[t] o.type #[a.eval x]))) := by
            rw [builtin_exec ho, show Array.map a.eval #[x] = #[a.eval x] by simp]; rfl
          cases hmt : E.mpt t with
          | some KV =>
            rw [hmt] at h2
            obtain ⟨K, V⟩ := KV
            exact mpLen_did hE h hmt h1 hex h2
          | none =>
            rw [hmt] at h2
            exact (len_pure (ty := o.type) hE h h1 h2).did h hex
        | true =>
          rw [hp] at h2
          simp only [cond_true] at h2
          split at h2
          · rename_i c
            obtain ⟨us, b, off, e1, e0, e2, e3⟩ := h1
            obtain ⟨te, ta, i, hd, _⟩ := hE.psl t hp
            split at h2
            case h_2 => cases h2
            rename_i n hn
            have hl := chain_len hn e3
            rw [ret_run h2]
            refine did_value (u := .int .i64 (us.length : Int)) (w' := w) ?_ h (RepV.int.2 ⟨by rw [← hl]; rfl, ?_⟩)
            · rw [builtin_exec ho, show Array.map a.eval #[x] = #[a.eval x] by simp, e1]
              show (do pure (.value (← Builtin.len_ #[t] o.type #[.slice (some ⟨b, off, none⟩) us.length us.length])) : Sem Next).run P w = _
              simp [Builtin.len_, run_underlying hd, goInt]
            · show (-9223372036854775808 : Int) ≤ (n : Int) ∧ (n : Int) < 9223372036854775808
              omega
          · cases h2
      · cases hr
    · -- clear
      rename_i x hargs
      split at hr
      · rename_i t hats
        obtain rfl : args = #[x] := Array.ext' (by simpa using hargs)
        obtain rfl : ats = #[t] := Array.ext' (by simpa using hats)
        obtain ⟨v, h1, h2⟩ := rd_run h hr
        refine clear_did (ty := o.type) hE h h1 ?_ h2
        rw [builtin_exec ho, show Array.map a.eval #[x] = #[a.eval x] by simp]; rfl
      · cases hr
    · -- cap
      rename_i x hargs
      split at hr
      · rename_i t hats
        split at hr
        · rename_i e ht
          obtain rfl : args = #[x] := Array.ext' (by simpa using hargs)
          obtain rfl : ats = #[t] := Array.ext' (by simpa using hats)
          obtain ⟨v, h1, h2⟩ := rd_run h hr
          obtain ⟨te, hd, hte⟩ := (hE.ty t _ ht).desc
          split at h2
          · have h1 : a.eval x = .slice none 0 0 := h1
            rw [ret_run h2]
            refine did_value (u := .int .i64 0) (w' := w) ?_ h (RepV.int.2 ⟨rfl, by simp [okI]⟩)
            rw [builtin_exec ho, show Array.map a.eval #[x] = #[a.eval x] by simp, h1]
            show (do pure (.value (← Builtin.cap_ #[t] o.type #[.slice none 0 0])) : Sem Next).run P w = _
            simp [Builtin.cap_, run_underlying hd, goInt]
          · cases h2
        · cases hr
      · cases hr
    · -- append
      rename_i x y hargs
      split at hr
      · rename_i t t' hats
        obtain rfl : args = #[x, y] := Array.ext' (by simpa using hargs)
        obtain rfl : ats = #[t, t'] := Array.ext' (by simpa using hats)
        obtain ⟨v, h1, h2⟩ := rd_run h hr
        obtain ⟨u, h3, h4⟩ := rd_run h h2
        have he : execOp a.eval o = (do pure (.value (← Builtin.append_ #[t, t'] o.type #[a.eval x, a.eval y]))) := by rw [builtin_exec ho, show Array.map a.eval #[x, y] = #[a.eval x, a.eval y] by simp]; rfl
        have core : ∀ {e : Ty} {ys : List e.D} {c : Bool} {rr : V × S}, E.ty t = some (.sl e) → (c = true → AppOk P E own w t t' o.type e (a.eval y) ys) → (appM (o.dst.getD 0) e v ys c).run σ = some rr → Did P N Z o a w rr.2 rr.1 := by
          intro e ys c rr ht hsrc h7
          unfold appM at h7
          split at h7
          · -- to nil
            have h1 : a.eval x = .slice none 0 0 := h1
            simp only [M.run] at h7
            obtain ⟨_, h8, h9⟩ := Option.map_eq_some_iff.1 h7
            subst h9
            rw [h1] at he
            have h8 := chk_some h8
            simp only [Bool.and_eq_true, decide_eq_true_eq] at h8
            exact appendNil_did hE h ht (hsrc h8.1) h8.2 he
          · rename_i s ver
            simp only [M.run] at h7
            split at h7
            · rename_i ver' e' xs m hm
              split at h7
              · rename_i eq; subst eq
                split at h7
                · rename_i xs' hx'
                  obtain ⟨eq, hx'⟩ := cast?_some hx'
                  cases eq
                  have hx' : xs = xs' := hx'
                  subst hx'
                  rw [h1.2 _ xs m hm] at he
                  split at h7
                  · simp only [M.run] at h7
                    obtain ⟨_, h8, h9⟩ := Option.map_eq_some_iff.1 h7
                    subst h9
                    have h8 := chk_some h8
                    simp only [Bool.and_eq_true, decide_eq_true_eq] at h8
                    exact append_did hE h ht hm (.inl rfl) (hsrc h8.1) h8.2 he
                  · simp only [M.run] at h7
                    obtain ⟨_, h8, h9⟩ := Option.map_eq_some_iff.1 h7
                    subst h9
                    have h8 := chk_some h8
                    simp only [Bool.and_eq_true, decide_eq_true_eq] at h8
                    exact append_did hE h ht hm (.inr rfl) (hsrc h8.1) h8.2 he
                  · cases h7
                · cases h7
              · cases h7
            · cases h7
          · cases h7
        unfold appendM at h4
        split at h4
        · rename_i e ht
          cases hi : isI64 (E.ty t') with
          | true =>
            rw [hi] at h4
            simp only [cond_true] at h4
            have hi : E.ty t' = some (.int .i64) := by
              unfold isI64 at hi
              split at hi
              · assumption
              · cases hi
            split at h4
            · rename_i n
              obtain ⟨e1, e2⟩ := RepS.int h3
              refine core ht (fun hc => ?_) h4
              simp only [Bool.and_eq_true, decide_eq_true_eq] at hc
              obtain ⟨te, hd, hte⟩ := (hE.ty t _ ht).desc
              have hT := hE.ty te e hte
              have hc1 : (0 : Int) ≤ (n : Int) := hc.1
              have hc2 : (n : Int) ≤ ((lim : Nat) : Int) := hc.2
              have hm : ((Int.toNat n : Nat) : Int) = n := Int.toNat_of_nonneg hc1
              have hml : Int.toNat n ≤ lim := by
                have h0 : ((Int.toNat n : Nat) : Int) ≤ ((lim : Nat) : Int) := by rw [hm]; exact hc2
                exact Int.ofNat_le.1 h0
              rw [e1]
              have := zero_app (own := own) (w := w) (t := t) (ty := o.type) (m := Int.toNat n) hE hi hml hT.isVal hT.good
              rw [hm] at this
              exact this
            · cases h4
          | false =>
            rw [hi] at h4
            obtain ⟨ys, h5, h6, h7⟩ := more_run hE h h3 h4
            exact core ht (fun _ => h5.app hE h6) h7
        · cases h4
      · cases hr
    · -- copy
      rename_i x y hargs
      split at hr
      · rename_i t t' hats
        obtain rfl : args = #[x, y] := Array.ext' (by simpa using hargs)
        obtain rfl : ats = #[t, t'] := Array.ext' (by simpa using hats)
        obtain ⟨v, h1, h2⟩ := rd_run h hr
        obtain ⟨u, h3, h4⟩ := rd_run h h2
        have he : execOp a.eval o = (do pure (.value (← Builtin.copy_ #[t, t'] o.type #[a.eval x, a.eval y]))) := by rw [builtin_exec ho, show Array.map a.eval #[x, y] = #[a.eval x, a.eval y] by simp]; rfl
        unfold copyM at h4
        split at h4
        · rename_i e ht
          obtain ⟨ys, h5, h6, h7⟩ := more_run hE h h3 h4
          split at h7
          · rename_i s ver
            simp only [M.run] at h7
            split at h7
            · rename_i ver' e' xs hm
              split at h7
              · rename_i eq; subst eq
                split at h7
                · rename_i ys' hy'
                  obtain ⟨eq, hy'⟩ := cast?_some hy'
                  cases eq
                  have hy' : ys = ys' := hy'
                  subst hy'
                  rw [h1.2 e xs .full hm] at he
                  obtain ⟨_, _, h9⟩ := fin_run h7
                  rw [h9]
                  exact copy_did hE h ht hm h5 he
                · cases h7
              · cases h7
            · cases h7
          · rename_i s ver lo
            simp only [M.run] at h7
            split at h7
            · rename_i ver' e' xs hm
              split at h7
              · rename_i eq; subst eq
                split at h7
                · rename_i ys' hy'
                  obtain ⟨eq, hy'⟩ := cast?_some hy'
                  cases eq
                  have hy' : ys = ys' := hy'
                  subst hy'
                  obtain ⟨q1, ad, cap, q2, q3⟩ := h1.2 e xs .full hm rfl
                  rw [q3] at he
                  obtain ⟨_, _, h9⟩ := fin_run h7
                  rw [h9]
                  exact copyWin_did hE h ht hm q1 q2 h5 he
                · cases h7
              · cases h7
            · cases h7
          · cases h7
        · cases h4
      · cases hr
    · -- min
      rename_i x y hargs
      obtain rfl : args = #[x, y] := Array.ext' (by simpa using hargs)
      obtain ⟨v, h1, h2⟩ := rd_run h hr
      obtain ⟨u, h3, h4⟩ := rd_run h h2
      refine (mm_pure (g := Builtin.min2) mnI_ok h1 h3 h4).did h ?_
      rw [builtin_exec ho, show Array.map a.eval #[x, y] = #[a.eval x, a.eval y] by simp]
      show (do pure (.value (← Builtin.min_ ats o.type #[a.eval x, a.eval y])) : Sem Next) = _
      simp [Builtin.min_]
    · -- max
      rename_i x y hargs
      obtain rfl : args = #[x, y] := Array.ext' (by simpa using hargs)
      obtain ⟨v, h1, h2⟩ := rd_run h hr
      obtain ⟨u, h3, h4⟩ := rd_run h h2
      refine (mm_pure (g := Builtin.max2) mxI_ok h1 h3 h4).did h ?_
      rw [builtin_exec ho, show Array.map a.eval #[x, y] = #[a.eval x, a.eval y] by simp]
      show (do pure (.value (← Builtin.max_ ats o.type #[a.eval x, a.eval y])) : Sem Next) = _
      simp [Builtin.max_]
    · cases hr
  · cases hr

end
end Go.Re
/- Reflection, part Y: the evaluator of regions, of code, of functions (definitions). -/
namespace Go.Re
set_option linter.unusedVariables false
set_option linter.unusedSimpArgs false

/-! ### lists of numbers -/
def memB (n : Nat) : List Nat → Bool
  | [] => false
  | m :: r => bif Nat.beq m n then true else memB n r
def subB : List Nat → List Nat → Bool
  | [], _ => true
  | a :: r, l => bif memB a l then subB r l else false
def disB : List Nat → List Nat → Bool
  | [], _ => true
  | a :: r, l => bif memB a l then false else disB r l

def minus : List Nat → List Nat → List Nat
  | [], _ => []
  | a :: r, l => bif memB a l then minus r l else a :: minus r l

/-! ### an operation of a region -/
def dstAt : List Oper → Nat → Option Nat
  | [], _ => none
  | o :: _, 0 => o.dst
  | _ :: r, j + 1 => dstAt r j

def S.putO (σ : S) (d : Option Nat) (v : V) : S :=
  match d with
  | some d => σ.put d v
  | none => σ

/-- With its guard. -/
def gopM (E : Env) (all : List Oper) (o : Oper) : M V :=
  match o.guard with
  | none => opM E o
  | some (j, want) => match dstAt all j with
    | some t => .slot t fun v => match v with
      | .val .bool b => match b, want with
        | true, true => opM E o
        | false, false => opM E o
        | _, _ => .ret .tnil
      | .tnil => .ret .tnil
      | _ => .fail
    | none => .fail

/-- A region in lexical order, nothing checked. -/
def evP (E : Env) (all : List Oper) {R : Type} : List Oper → S → (S → Option R) → Option R
  | [], σ, K => K σ
  | o :: os, σ, K => (gopM E all o).runK σ fun v σ' => evP E all os (σ'.putO o.dst v) K

/-! ### with joins behind guards, and any order -/
structure Dec where
  rm : List Nat
  wm : List Nat

inductive Seg where
  | done
  | op (d : Dec) (r : Seg)
  | split (g : Nat) (J : List (Nat × Ty)) (body rest : Seg)

def Seg.decs : Seg → List Dec
  | .done => []
  | .op d r => d :: r.decs
  | .split _ _ b r => b.decs ++ r.decs

def tmpsOf : List Operand → List Nat
  | [] => []
  | .tmp t :: r => t :: tmpsOf r
  | _ :: r => tmpsOf r

def looksL (all : List Oper) (o : Oper) : List Nat :=
  match o.guard with
  | none => tmpsOf o.op.operands.toList
  | some (j, _) => match dstAt all j with
    | some t => t :: tmpsOf o.op.operands.toList
    | none => tmpsOf o.op.operands.toList

def footOk (f : Foot) (ls : List Nat) (d : Dec) : Bool := subB f.rs ls && (subB f.rm d.rm && subB f.wm d.wm)

structure Drop where
  s : List Nat
  m : List Nat

def dstsOf : List Oper → List Nat
  | [] => []
  | o :: r => match o.dst with
    | some d => d :: dstsOf r
    | none => dstsOf r

def wmsOf : List Dec → List Nat
  | [] => []
  | d :: r => d.wm ++ wmsOf r

def rdV (τ : Ty) (v : V) : Option τ.D :=
  match v with
  | .val τ' x => cast? τ' τ x
  | _ => none

def rdS : (J : List (Nat × Ty)) → S → Option (Ds (J.map (·.2)))
  | [], _ => some ()
  | [p], σ => rdV p.2 (σ.slots p.1)
  | p :: q :: r, σ => (rdV p.2 (σ.slots p.1)).bind fun x => (rdS (q :: r) σ).bind fun y => some (x, y)

def wrS : (J : List (Nat × Ty)) → Ds (J.map (·.2)) → S → S
  | [], _, σ => σ
  | [p], x, σ => σ.put p.1 (.val p.2 x)
  | p :: q :: r, x, σ => wrS (q :: r) x.2 (σ.put p.1 (.val p.2 x.1))

def rdJ (J : List (Nat × Ty)) (ms : List Nat) (σ0 σ : S) : Option (Ds (J.map (·.2))) :=
  bif ms.all (fun s => Nat.ble (nextVer (σ.mem s)) (nextVer (σ0.mem s) + 1)) then rdS J σ else none

def dropS (ds ms : List Nat) (σ : S) : S :=
  { slots := fun t => bif memB t ds then .dead else σ.slots t, mem := fun s => bif memB s ms then .gone (nextVer (σ.mem s)) else σ.mem s }

def evC (E : Env) (all : List Oper) : Seg → List Oper → Drop → S → {R : Type} → (Drop → S → Option R) → Option R
  | .done, _, D, σ, _, K => K D σ
  | .op _ _, [], _, _, _, _ => none
  | .op d r, o :: os, D, σ, _, K =>
    bif footOk ((gopM E all o).foot σ) (looksL all o) d && (disB (looksL all o) D.s && disB d.rm D.m) then
      (gopM E all o).runK σ fun v σ' => evC E all r os D (σ'.putO o.dst v) K
    else none
  | .split g J b r, os, D, σ, _, K => match σ.slots g with
    | .val .bool c =>
      (bif c then evC E all b os D (σ.put g (.val .bool true)) (fun _ => rdJ J (wmsOf b.decs) σ) else evC E all b os D (σ.put g (.val .bool false)) (fun _ => rdJ J (wmsOf b.decs) σ)).bind fun j =>
        evC E all r (os.drop b.decs.length) ⟨minus (dstsOf (os.take b.decs.length) ++ D.s) (J.map (·.1)), wmsOf b.decs ++ D.m⟩
          (wrS J j (dropS (dstsOf (os.take b.decs.length)) (wmsOf b.decs) σ)) K
    | .tnil => evC E all b os D σ fun D' σ' => evC E all r (os.drop b.decs.length) D' σ' K
    | _ => none

/-! ### which order does not matter -/
/-- For each operation the set of those that come ahead of it, in bits. -/
def ancs : List Oper → List Nat → List Nat
  | [], t => t
  | o :: r, t => ancs r (t ++ [o.after.toList.foldl (fun b e => bif Region.binds .any e then Nat.lor b (Nat.lor (Nat.shiftLeft 1 e.on) (t.getD e.on 0)) else b) 0])

/-- Edges go back. -/
def backB : Nat → List Oper → Bool
  | _, [] => true
  | i, o :: r => o.after.toList.all (fun e => !Region.binds .any e || Nat.blt e.on i) && backB (i + 1) r

/-- Neither writes what the other looks at or writes. -/
def apartB (all : List Oper) (o o' : Oper) (d d' : Dec) : Bool :=
  (match o.dst with
   | some t => !memB t (looksL all o') && (match o'.dst with | some t' => !Nat.beq t t' | none => true)
   | none => true) &&
  ((match o'.dst with
   | some t => !memB t (looksL all o)
   | none => true) &&
  (disB d.wm d'.rm && (disB d.wm d'.wm && disB d.rm d'.wm)))

/-- Does it lay a pair into a map, and nothing else? -/
def isIns (o : Oper) (d : Dec) : Bool :=
  match o.op, d.rm, d.wm with
  | .insert _ _ _ _, [s], [s'] => o.dst.isNone && (o.guard.isNone && Nat.beq s s')
  | _, _, _ => false

/-- Of each two operations: either one waits for the other, or they are apart, or both lay a pair into a map. -/
def looseB (all : List Oper) (o : Oper) (d : Dec) : Nat → Nat → List Oper → List Dec → Bool
  | i, j, o' :: os, d' :: ds => bif Nat.testBit ((ancs all []).getD j 0) i then looseB all o d i (j + 1) os ds else bif apartB all o o' d d' || (isIns o d && isIns o' d') then looseB all o d i (j + 1) os ds else false
  | _, _, _, _ => true

def anyB (all : List Oper) : Nat → List Oper → List Dec → Bool
  | i, o :: os, d :: ds => looseB all o d i (i + 1) os ds && anyB all (i + 1) os ds
  | _, _, _ => true

/-! ### joins -/
inductive JI where
  | val (t : Nat) (τ : Ty)
  | row (t : Nat) (e : Ty) (m : Mode)
  | box (t : Nat) (τ : Ty)
  /-- what the function was given to write -/
  | prow (t : Nat) (e : Ty)
  | pbox (t : Nat) (τ : Ty)
  /-- a variable that is only read -/
  | rpt (t : Nat) (τ : Ty)
  | pv (t : Nat) (k : PK)
  /-- a variable in which rows grow -/
  | gbx (t : Nat) (τ : Ty) (l : List (Nat × Nat))

@[reducible] def JI.ty : JI → Ty
  | .val _ τ => τ | .row _ e _ => .sl e | .box _ τ => τ | .prow _ e => .sl e | .pbox _ τ => τ | .rpt _ τ => τ | .pv _ k => k.ty | .gbx _ τ _ => τ
def JI.t : JI → Nat
  | .val t _ => t | .row t _ _ => t | .box t _ => t | .prow t _ => t | .pbox t _ => t | .rpt t _ => t | .pv t _ => t | .gbx t _ _ => t

@[reducible] def JD (J : List JI) : Type := Ds (J.map JI.ty)

def Mode.le : Mode → Mode → Bool
  | .full, .full => true | .full, .tail => true | .tail, .tail => true | .mp, .mp => true | .bg, .bg => true | .it a, .it b => a || !b
  | _, _ => false

/-- A value that may be read: one of its own is read from now on. -/
def rdA (τ : Ty) (v : V) (σ : S) : Option τ.D :=
  match v with
  | .val τ' x => cast? τ' τ x
  | .nil => match τ with
    | .sl _ => some []
    | _ => none
  | .ref s ver => match σ.mem s with
    | .own ver' e xs m => bif Nat.beq ver ver' && !m.noRd then cast? (.sl e) τ xs else none
    | _ => none
  | _ => none

def rdRow (e : Ty) (m : Mode) (v : V) (σ : S) : Option (List e.D) :=
  match v with
  | .nil => bif m.isMp then none else some []
  | .ref s ver => match σ.mem s with
    | .own ver' e' xs m' => bif Nat.beq ver ver' && m'.le m then cast? (.sl e') (.sl e) xs else none
    | _ => none
  | _ => none

def rdBox (τ : Ty) (v : V) (σ : S) : Option τ.D :=
  match v with
  | .ptr s ver [] => match σ.mem s with
    | .box ver' τ' x => bif Nat.beq ver ver' then cast? τ' τ x else none
    | _ => none
  | _ => none

def rdPRow (e : Ty) (t : Nat) (v : V) (σ : S) : Option (List e.D) :=
  match v with
  | .ref s 0 => bif Nat.beq s (site t 0) then match σ.mem s with
    | .own 0 e' xs .full => cast? (.sl e') (.sl e) xs
    | _ => none
    else none
  | _ => none

def rdPBox (τ : Ty) (t : Nat) (v : V) (σ : S) : Option τ.D :=
  match v with
  | .ptr s 0 [] => bif Nat.beq s (site t 0) then match σ.mem s with
    | .box 0 τ' x => cast? τ' τ x
    | _ => none
    else none
  | _ => none

def rdRpt (τ : Ty) (v : V) (σ : S) : Option τ.D :=
  match v with
  | .rpt τ' x => cast? τ' τ x
  | .elp s ver i [] => match σ.mem s with
    | .own ver' e xs .tail => bif Nat.beq ver ver' && e.isVal then (xs[i]?).bind fun y => cast? e τ y else none
    | _ => none
  | _ => none

/-- Are all these among those? -/
def subG (l l' : List (Nat × Nat)) : Bool := l.all fun q => hasG q.1 q.2 l'
def rdGbx (τ : Ty) (l : List (Nat × Nat)) (v : V) (σ : S) : Option τ.D :=
  match v with
  | .elp s ver 0 [] => match σ.mem s with
    | .own ver' τ' xs (.gb l') => bif Nat.beq ver ver' && subG l l' then (one? xs).bind fun x => cast? τ' τ x else none
    | _ => none
  | _ => none

/-! ### bags in an order of their own -/
def encL : (τ : Ty) → τ.D → List Int
  | .int k, x => [toI k x]
  | .pair a b, x => encL a x.1 ++ encL b x.2
  | .st b, x => encL b x
  | _, _ => []
def leL : List Int → List Int → Bool
  | [], _ => true
  | _ :: _, [] => false
  | a :: r, b :: s => bif decide (a < b) then true else bif decide (b < a) then false else leL r s
def insD (τ : Ty) (x : τ.D) : List τ.D → List τ.D
  | [] => [x]
  | y :: r => bif leL (encL τ x) (encL τ y) then x :: y :: r else y :: insD τ x r
def srtD (τ : Ty) : List τ.D → List τ.D
  | [] => []
  | x :: r => insD τ x (srtD τ r)
def canoM (e : Ty) (m : Mode) (xs : List e.D) : List e.D :=
  match m with
  | .bg => srtD e xs
  | _ => xs

def JI.read (j : JI) (σ : S) : Option j.ty.D :=
  match j with
  | .val t τ => rdA τ (σ.slots t) σ
  | .row t e m => (rdRow e m (σ.slots t) σ).map (canoM e m)
  | .box t τ => rdBox τ (σ.slots t) σ
  | .prow t e => rdPRow e t (σ.slots t) σ
  | .pbox t τ => rdPBox τ t (σ.slots t) σ
  | .rpt t τ => rdRpt τ (σ.slots t) σ
  | .pv t k => k.read (σ.slots t)
  | .gbx t τ l => rdGbx τ l (σ.slots t) σ

/-- The old memory that goes on in it. -/
def JI.kept (j : JI) (σ : S) : List Nat :=
  match j with
  | .val _ _ => []
  | .row t _ _ => match σ.slots t with
    | .ref s _ => [s]
    | _ => []
  | .box t _ => match σ.slots t with
    | .ptr s _ _ => [s]
    | _ => []
  | .prow t _ => [site t 0]
  | .pbox t _ => [site t 0]
  | .rpt _ _ => []
  | .pv _ _ => []
  | .gbx t _ _ => match σ.slots t with
    | .elp s _ _ _ => [s]
    | _ => []

def keptAll : List JI → S → List Nat
  | [], _ => []
  | j :: r, σ => j.kept σ ++ keptAll r σ

def rdJs : (J : List JI) → S → Option (JD J)
  | [], _ => some ()
  | [j], σ => j.read σ
  | j :: q :: r, σ => (j.read σ).bind fun x => (rdJs (q :: r) σ).bind fun y => some (x, y)

/-- Rows of its own that are read from now on. -/
def JI.loose (j : JI) (σ : S) : List Nat :=
  match j with
  | .val t _ => match σ.slots t with
    | .ref s _ => match σ.mem s with
      | .own _ _ _ .full => [s]
      | _ => []
    | _ => []
  | _ => []
def looseAll : List JI → S → List Nat
  | [], _ => []
  | j :: r, σ => j.loose σ ++ looseAll r σ

def readJ (J : List JI) (σ : S) : Option (JD J) := bif nodupB (keptAll J σ) && disB (looseAll J σ) (keptAll J σ) then rdJs J σ else none

def JI.write (j : JI) (x : j.ty.D) (σ : S) : S :=
  match j, x with
  | .val t τ, x => σ.put t (.val τ x)
  | .row t e m, x => (σ.put t (.ref (site t 0) 1)).set (site t 0) (.own 1 e x m)
  | .box t τ, x => (σ.put t (.ptr (site t 0) 1 [])).set (site t 0) (.box 1 τ x)
  | .prow t e, x => (σ.put t (.ref (site t 0) 0)).set (site t 0) (.own 0 e x .full)
  | .pbox t τ, x => (σ.put t (.ptr (site t 0) 0 [])).set (site t 0) (.box 0 τ x)
  | .rpt t τ, x => σ.put t (.rpt τ x)
  | .pv t k, x => σ.put t (k.V x)
  | .gbx t τ l, x => (σ.put t (.elp (site t 1) 1 0 [])).set (site t 1) (.own 1 τ [x] (.gb l))

def wrJs : (J : List JI) → JD J → S → S
  | [], _, σ => σ
  | [j], x, σ => j.write x σ
  | j :: q :: r, x, σ => wrJs (q :: r) x.2 (j.write x.1 σ)

def S.bare : S := ⟨fun _ => .dead, fun _ => .none⟩
def writeJ (J : List JI) (x : JD J) : S := wrJs J x .bare

/-- Rows of one's own that are only read from now on. -/
def frOf (σ : S) : List Nat → List (Nat × Entry)
  | [] => []
  | s :: r => match σ.mem s with
    | .own v τ xs .full => (s, .own v τ xs .tail) :: frOf σ r
    | _ => frOf σ r
def freezeS (fz : List Nat) (σ : S) : S := sets σ (frOf σ fz)

/-! ### code -/
inductive An : Type → Type 1 where
  | leaf {R : Type} : An R
  | rg {R : Type} (fz : List Nat) (c : Option Seg) : An R
  /-- a region that begins with the next pair of a map -/
  | nx {R : Type} : An R
  | seq {R : Type} (a b : An R) : An R
  | join {R : Type} (J : List JI) (a : An (JD J ⊕ R)) (b : An R) : An R
  | cond {R : Type} (a b : An R) : An R
  | block {R : Type} (a : An R) : An R
  /-- a loop that is gone through so often at most, step by step -/
  | unroll {R : Type} (n : Nat) (a : An R) : An R
  | loop {R : Type} (Ji Jo : List JI) (L : Nat → JD Ji → Option (JD Jo ⊕ R)) (a : An (JD Jo ⊕ R)) : An R

/-- How often a loop may go round. -/
def Big : Nat := 18446744073709551616

def jn {A R : Type} (x : Option (A ⊕ R)) (k : A → Option R) : Option R :=
  match x with
  | some (.inl a) => k a
  | some (.inr r) => some r
  | none => none

open Classical in
/-- Two roads that come to the same. -/
noncomputable def both {R : Type} (a b : Option R) : Option R := if a = b then a else none

theorem both_self {R : Type} (a : Option R) : both a a = a := by unfold both; rw [if_pos rfl]
theorem both_some {R : Type} {a b : Option R} {r : R} (h : both a b = some r) : a = some r ∧ b = some r := by
  unfold both at h
  split at h
  · rename_i e; exact ⟨h, e ▸ h⟩
  · cases h

/-- So often at most. -/
def iter {R : Type} (F : (S → Option R) → S → Option R) : Nat → S → Option R
  | 0, _ => none
  | n + 1, σ => F (iter F n) σ

def okDst (N : Nat) : List Oper → Bool
  | [] => true
  | o :: r => (match o.dst with | some d => Nat.blt d N | none => true) && okDst N r

def evR (E : Env) (N : Nat) (ops : List Oper) (draw : Bool) (fz : List Nat) (c : Option Seg) (σ : S) {R : Type} (K : S → Option R) : Option R :=
  bif okDst N ops then
    match c with
    | none => bif draw then none else evP E ops ops (freezeS fz σ) K
    | some sg => bif Nat.beq sg.decs.length ops.length && (!draw || (backB 0 ops && anyB ops 0 ops sg.decs)) then evC E ops sg ops ⟨[], []⟩ (freezeS fz σ) (fun _ => K) else none
  else none

open Classical in
/-- What comes of it, whichever it is. -/
noncomputable def agreeL {α R : Type} (l : List α) (f : α → Option R) : Option R :=
  if h : ∃ r, (∃ a, a ∈ l) ∧ ∀ a ∈ l, f a = some r then some h.choose else none
theorem agreeL_some {α R : Type} {l : List α} {f : α → Option R} {r : R} (h : agreeL l f = some r) : ∀ a ∈ l, f a = some r := by
  unfold agreeL at h
  split at h
  · rename_i hx
    cases h
    exact hx.choose_spec.2
  · cases h
theorem agreeL_intro {α R : Type} {l : List α} {f : α → Option R} {r : R} (hne : ∃ a, a ∈ l) (h : ∀ a ∈ l, f a = some r) : agreeL l f = some r := by
  unfold agreeL
  have hx : ∃ r, (∃ a, a ∈ l) ∧ ∀ a ∈ l, f a = some r := ⟨r, hne, h⟩
  rw [dif_pos hx]
  obtain ⟨a, ha⟩ := hne
  have := hx.choose_spec.2 a ha
  rw [h a ha] at this
  exact this.symm

/-- What is left behind a pair. -/
def rmKey {K V : Ty} (f : K.D → K.D → Bool) (k : K.D) (l : List (K.D × V.D)) : List (K.D × V.D) := l.filter fun q => !f q.1 k

/-- The next pair, whichever it is, and the operations behind it. -/
noncomputable def nxE (E : Env) (all : List Oper) (ops : List Oper) (σ : S) {R : Type} (K : S → Option R) : Option R :=
  match ops with
  | o :: rest => match o.op, o.guard, o.dst with
    | .next (.tmp t) false, none, some d => match σ.slots t with
      | .ref s ver => match σ.mem s with
        | .own ver' (.pair KT VT) xs (.it _) => bif Nat.beq ver ver' && keyTy KT then match eqD KT with
            | some f => bif List.isEmpty xs.tail then evP E all rest (σ.put d (.tcons (.val .bool false) .tnil)) K
                else agreeL xs.tail fun p => evP E all rest (((σ.set s (.own (ver' + 1) (.pair KT VT) (p :: rmKey f p.1 xs.tail) (.it true))).put t (.ref s (ver' + 1))).put d (.tcons (.val .bool true) .dead)) K
            | none => none
          else none
        | _ => none
      | _ => none
    | _, _, _ => none
  | _ => none

noncomputable def ev (E : Env) (N : Nat) : Code → {R : Type} → An R → S → (S → Option R) → (Nat → S → Option R) → (S → Option R) → Option R
  | .skip, _, _, σ, Kn, _, _ => Kn σ
  | .region _ ops draw, _, .rg fz c, σ, Kn, _, _ => evR E N ops.toList draw fz c σ Kn
  | .region _ ops draw, _, .nx, σ, Kn, _, _ => bif okDst N ops.toList && !draw then nxE E ops.toList ops.toList σ Kn else none
  | .seq x y, _, .seq a b, σ, Kn, Ke, Kr => ev E N x a σ (fun σ' => ev E N y b σ' Kn Ke Kr) Ke Kr
  | .seq x y, _, .join J a b, σ, Kn, Ke, Kr =>
    jn (ev E N x a σ (fun σ' => (readJ J σ').map .inl) (fun i σ' => (Ke i σ').map .inr) (fun σ' => (Kr σ').map .inr)) fun j => ev E N y b (writeJ J j) Kn Ke Kr
  | .cond c x y, _, .cond a b, σ, Kn, Ke, Kr => match c with
    | .tmp t => match σ.slots t with
      | .val .bool q => bif q then ev E N x a σ Kn Ke Kr else ev E N y b σ Kn Ke Kr
      | .nilq emp neg => bif emp then both (ev E N x a σ Kn Ke Kr) (ev E N y b σ Kn Ke Kr) else (bif neg then ev E N x a σ Kn Ke Kr else ev E N y b σ Kn Ke Kr)
      | _ => none
    | .const (.bool q) => bif q then ev E N x a σ Kn Ke Kr else ev E N y b σ Kn Ke Kr
    | _ => none
  | .block id x, _, .block a, σ, Kn, Ke, Kr => ev E N x a σ Kn (fun i σ' => bif Nat.beq i id then Kn σ' else Ke i σ') Kr
  | .block _ (.loop _), _, .loop Ji Jo L _, σ, Kn, _, _ => (readJ Ji σ).bind fun j => jn (L Big j) fun q => Kn (writeJ Jo q)
  | .block id (.loop x), _, .unroll n a, σ, Kn, Ke, Kr => iter (fun K σ' => ev E N x a σ' K (fun i σ'' => bif Nat.beq i id then Kn σ'' else Ke i σ'') Kr) n σ
  | .exit i, _, _, σ, _, Ke, _ => Ke i σ
  | .ret, _, _, σ, _, _, Kr => Kr σ
  | _, _, _, _, _, _, _ => none

/-- What the loops' functions must be. -/
def ob (E : Env) (N : Nat) : Code → {R : Type} → An R → (S → Option R) → (Nat → S → Option R) → (S → Option R) → Prop
  | .seq x y, _, .seq a b, Kn, Ke, Kr => ob E N x a (fun σ' => ev E N y b σ' Kn Ke Kr) Ke Kr ∧ ob E N y b Kn Ke Kr
  | .seq x y, _, .join J a b, Kn, Ke, Kr =>
    ob E N x a (fun σ' => (readJ J σ').map .inl) (fun i σ' => (Ke i σ').map .inr) (fun σ' => (Kr σ').map .inr) ∧ ob E N y b Kn Ke Kr
  | .cond _ x y, _, .cond a b, Kn, Ke, Kr => ob E N x a Kn Ke Kr ∧ ob E N y b Kn Ke Kr
  | .block id x, _, .block a, Kn, Ke, Kr => ob E N x a Kn (fun i σ' => bif Nat.beq i id then Kn σ' else Ke i σ') Kr
  | .block id (.loop x), _, .loop Ji Jo L a, _, Ke, Kr => (∀ j, L 0 j = none) ∧
    (∀ n j, L (n + 1) j = ev E N x a (writeJ Ji j) (fun σ' => (readJ Ji σ').bind (L n))
      (fun i σ' => bif Nat.beq i id then (readJ Jo σ').map .inl else (Ke i σ').map .inr) (fun σ' => (Kr σ').map .inr)) ∧
    ∀ n, ob E N x a (fun σ' => (readJ Ji σ').bind (L n)) (fun i σ' => bif Nat.beq i id then (readJ Jo σ').map .inl else (Ke i σ').map .inr) (fun σ' => (Kr σ').map .inr)
  | .block id (.loop x), _, .unroll _ a, Kn, Ke, Kr => ∀ K, ob E N x a K (fun i σ' => bif Nat.beq i id then Kn σ' else Ke i σ') Kr
  | _, _, _, _, _, _ => True

/-! ### functions -/
inductive RV where
  | tmp (t : Nat) (p : Ty × Mode)
  | cell (t : Nat) (τ : Ty)

@[reducible] def RV.pm : RV → Ty × Mode
  | .tmp _ p => p | .cell _ τ => (τ, .view)

/-- A result as it's read. -/
def rdRes (p : Ty × Mode) (v : V) (σ : S) : Option p.1.D :=
  match p with
  | (.sl e, .full) => rdRow e .full v σ
  | (.sl e, .tail) => rdRow e .tail v σ
  | (.sl e, .mp) => rdRow e .mp v σ
  | (τ, _) => rdA τ v σ

def RV.read (r : RV) (σ : S) : Option r.pm.1.D :=
  match r with
  | .tmp t p => rdRes p (σ.slots t) σ
  | .cell t τ => rdBox τ (σ.slots t) σ

def RV.ji (r : RV) : JI :=
  match r with
  | .tmp t (.sl e, .full) => .row t e .full
  | .tmp t (.sl e, .tail) => .row t e .tail
  | .tmp t (.sl e, .mp) => .row t e .mp
  | .tmp t (τ, _) => .val t τ
  | .cell t τ => .val t τ

def rdRVs : (rs : List RV) → S → Option (Ds ((rs.map RV.pm).map (·.1)))
  | [], _ => some ()
  | [r], σ => r.read σ
  | r :: q :: l, σ => (r.read σ).bind fun x => (rdRVs (q :: l) σ).bind fun y => some (x, y)

/-- What has become of what may be written. -/
def rdIo : Nat → (ps : List Par) → S → Option (Ds (ioTys ps))
  | _, [], _ => some ()
  | i, .val _ :: r, σ => rdIo (i + 1) r σ
  | i, .nils _ :: r, σ => rdIo (i + 1) r σ
  | i, .pv _ :: r, σ => rdIo (i + 1) r σ
  | i, .box τ :: r, σ => match σ.mem (site i 0) with
    | .box 0 τ' x => (cast? τ' τ x).bind fun x => (rdIo (i + 1) r σ).bind fun y => some (dsC τ (ioTys r) x y)
    | _ => none
  | i, .row e :: r, σ => match σ.mem (site i 0) with
    | .own 0 e' xs .full => (cast? (.sl e') (.sl e) xs).bind fun x => (rdIo (i + 1) r σ).bind fun y => some (dsC (.sl e) (ioTys r) x y)
    | _ => none
  | i, .take _ :: r, σ => rdIo (i + 1) r σ
where
  dsC (a : Ty) : (r : List Ty) → a.D → Ds r → Ds (a :: r)
    | [], x, _ => x
    | _ :: _, x, y => (x, y)

def dsApp : (xs ys : List Ty) → Ds xs → Ds ys → Ds (xs ++ ys)
  | [], _, _, y => y
  | [_], [], x, _ => x
  | [_], _ :: _, x, y => (x, y)
  | _ :: b :: r, ys, x, y => (x.1, dsApp (b :: r) ys x.2 y)

/-- Where what may be written lies. -/
def ioS : Nat → List Par → List Nat
  | _, [] => []
  | i, .val _ :: r => ioS (i + 1) r
  | i, .nils _ :: r => ioS (i + 1) r
  | i, .pv _ :: r => ioS (i + 1) r
  | i, .box _ :: r => site i 0 :: ioS (i + 1) r
  | i, .row _ :: r => site i 0 :: ioS (i + 1) r
  | i, .take _ :: r => ioS (i + 1) r

def finF (ps : List Par) (rs : List RV) (σ : S) : Option (Ds ((rs.map RV.pm).map (·.1) ++ ioTys ps)) :=
  bif nodupB (keptAll (rs.map RV.ji) σ ++ ioS 0 ps) && (disB (looseAll (rs.map RV.ji) σ) (keptAll (rs.map RV.ji) σ ++ ioS 0 ps) && (!(ps.any Par.isTake) || (keptAll (rs.map RV.ji) σ).isEmpty)) then (rdRVs rs σ).bind fun x => (rdIo 0 ps σ).bind fun y => some (dsApp _ _ x y) else none

def entryS : Nat → (ps : List Par) → Ds (ps.map Par.ty) → S → S
  | _, [], _, σ => σ
  | i, [p], x, σ => ent i p x σ
  | i, p :: q :: r, x, σ => entryS (i + 1) (q :: r) x.2 (ent i p x.1 σ)
where
  ent (i : Nat) (p : Par) (x : p.ty.D) (σ : S) : S :=
    match p, x with
    | .val τ, x => (JI.val i τ).write x σ
    | .nils _, _ => σ.put i .nil
    | .pv k, x => σ.put i (k.V x)
    | .box τ, x => (JI.pbox i τ).write x σ
    | .row e, x => (JI.prow i e).write x σ
    | .take e, x => (JI.prow i e).write x σ

noncomputable def evF (E : Env) (N : Nat) (c : Code) (ps : List Par) (rs : List RV) (an : An (Ds ((rs.map RV.pm).map (·.1) ++ ioTys ps))) (x : Ds (ps.map Par.ty)) :
    Option (Ds ((rs.map RV.pm).map (·.1) ++ ioTys ps)) :=
  ev E N c an (entryS 0 ps x .bare) (finF ps rs) (fun _ _ => none) (finF ps rs)
def obF (E : Env) (N : Nat) (c : Code) (ps : List Par) (rs : List RV) (an : An (Ds ((rs.map RV.pm).map (·.1) ++ ioTys ps))) : Prop :=
  ob E N c an (finF ps rs) (fun _ _ => none) (finF ps rs)

end Go.Re
/- Reflection, part Z: runs of a region, what they read and write, joins behind guards. -/
namespace Go.Re
set_option linter.unusedVariables false
set_option linter.unusedSimpArgs false
open Go.RowKit (Below)

theorem memB_iff {n : Nat} : ∀ {l : List Nat}, memB n l = true ↔ n ∈ l
  | [] => by simp [memB]
  | m :: r => by
    unfold memB
    by_cases h : m = n
    · subst h; simp
    · have : Nat.beq m n = false := by
        cases hh : Nat.beq m n with
        | true => exact absurd (Nat.eq_of_beq_eq_true hh) h
        | false => rfl
      rw [this]
      simp [memB_iff (l := r), show n ≠ m from fun e => h e.symm]
theorem memB_false {n : Nat} {l : List Nat} : memB n l = false ↔ n ∉ l := by
  rw [← memB_iff]; simp
theorem subB_iff : ∀ {a b : List Nat}, subB a b = true ↔ ∀ x ∈ a, x ∈ b
  | [], b => by simp [subB]
  | x :: a, b => by
    unfold subB
    cases h : memB x b with
    | true => simp [subB_iff (a := a), memB_iff.1 h]
    | false => simp [memB_false.1 h]
theorem disB_iff : ∀ {a b : List Nat}, disB a b = true ↔ ∀ x ∈ a, x ∉ b
  | [], b => by simp [disB]
  | x :: a, b => by
    unfold disB
    cases h : memB x b with
    | true => simp [memB_iff.1 h]
    | false => simp [disB_iff (a := a), memB_false.1 h]
theorem minus_iff {x : Nat} : ∀ {a b : List Nat}, x ∈ minus a b ↔ x ∈ a ∧ x ∉ b
  | [], b => by simp [minus]
  | y :: a, b => by
    unfold minus
    cases h : memB y b with
    | true =>
      have h := memB_iff.1 h
      simp only [cond_true, minus_iff (a := a), List.mem_cons]
      constructor
      · rintro ⟨h1, h2⟩; exact ⟨.inr h1, h2⟩
      · rintro ⟨h1 | h1, h2⟩
        · subst h1; exact absurd h h2
        · exact ⟨h1, h2⟩
    | false =>
      have h := memB_false.1 h
      simp only [cond_false, List.mem_cons, minus_iff (a := a)]
      constructor
      · rintro (h1 | ⟨h1, h2⟩)
        · subst h1; exact ⟨.inl rfl, h⟩
        · exact ⟨.inr h1, h2⟩
      · rintro ⟨h1 | h1, h2⟩
        · exact .inl h1
        · exact .inr ⟨h1, h2⟩

theorem dstAt_eq : ∀ (l : List Oper) (j : Nat), dstAt l j = (l[j]?).bind (·.dst)
  | [], _ => by simp [dstAt]
  | o :: r, 0 => by simp [dstAt]
  | o :: r, j + 1 => by simp [dstAt, dstAt_eq r j]

section
variable {P : Program} {E : Env} {N : Nat} {Z : Base} {own : Own} {β : Conc} {σ : S} {a : Act} {w : World} {o : Oper}

theorem St.putO (h : St N Z own β σ a w) {d : Option Nat} (hd : ∀ t, d = some t → t < N) {v : V} {u : Value} (hv : RepS own w β σ.mem v u) :
    St N Z own β (σ.putO d v) (a.put d u) w := by
  cases d with
  | none => exact h
  | some t => exact h.put (hd t rfl) hv

theorem tmps_bool {t : Nat} {b : Bool} (h : a.tmps.getD t undef = .bool b) : a.tmps[t]? = some (.bool b) := by
  rw [Array.getD_eq_getD_getElem?] at h
  cases h1 : a.tmps[t]? with
  | none => rw [h1] at h; cases h
  | some v => rw [h1] at h; exact congrArg some h

theorem gop_did {l : List Oper} {i : Nat} (hE : EnvOk P E) (h : St N Z own β σ a w) (ho : l[i]? = some o) (hd : ∀ t, o.dst = some t → t < N) {r : V × S}
    (hr : (gopM E l o).run σ = some r) {Q : Exit → Act → World → Prop} {K : Act → World → Prop} (hK : ∀ a' w' own β, St N Z own β (r.2.putO o.dst r.1) a' w' → K a' w') :
    wpOp P l.toArray Q i K a w := by
  unfold wpOp
  have ho' : l.toArray[i]? = some o := by simpa using ho
  simp only [ho']
  have hop : ∀ {r : V × S}, (opM E o).run σ = some r → (∀ a' w' own β, St N Z own β (r.2.putO o.dst r.1) a' w' → K a' w') → o.wp P a w K Q := by
    intro r hr hK
    refine Oper.wp_mono ?_ (opM_did hE h hr Q)
    rintro a' w' ⟨u, rfl, own', β', hs, hv⟩
    exact hK _ _ _ _ (hs.putO hd hv)
  unfold gopM at hr
  split at hr
  · rename_i hg
    simp only [Region.wanted, hg, if_true]
    exact .inl (hop hr hK)
  · rename_i j want hg
    rw [dstAt_eq] at hr
    split at hr
    · rename_i t ht
      simp only [M.run] at hr
      have hsl := h.slots t
      have hy : yielded l.toArray a.tmps j = match a.tmps[t]? with | some (.bool b) => some b | _ => none := by
        unfold yielded
        have : (l.toArray[j]?).bind (·.dst) = some t := by simpa using ht
        rw [this]; rfl
      split at hr
      · rename_i b hv
        rw [hv] at hsl
        have hb := tmps_bool (RepV.bool.1 hsl)
        rw [hb] at hy
        have hy : yielded l.toArray a.tmps j = some b := hy
        split at hr
        · simp only [Region.wanted, hg, hy, beq_self_eq_true, if_true]
          exact .inl (hop hr hK)
        · simp only [Region.wanted, hg, hy, beq_self_eq_true, if_true]
          exact .inl (hop hr hK)
        · rename_i n1 n2
          have : (some b == some want) = false := by
            cases b <;> cases want <;> first | rfl | exact (n1 rfl rfl).elim | exact (n2 rfl rfl).elim
          simp only [Region.wanted, hg, hy, this, Bool.false_eq_true, if_false]
          rw [ret_run hr] at hK
          exact hK _ _ _ _ (h.putO hd (v := .tnil) rfl)
      · rename_i hv
        rw [hv] at hsl
        have hsl : a.tmps.getD t undef = .tuple #[] := hsl
        have hy : yielded l.toArray a.tmps j = none := by
          rw [hy]
          rw [Array.getD_eq_getD_getElem?] at hsl
          cases h1 : a.tmps[t]? with
          | none => rfl
          | some v => rw [h1] at hsl; have hsl : v = .tuple #[] := hsl; subst hsl; rfl
        have : ((none : Option Bool) == some want) = false := rfl
        simp only [Region.wanted, hg, hy, this, Bool.false_eq_true, if_false]
        rw [ret_run hr] at hK
        exact hK _ _ _ _ (h.putO hd (v := .tnil) rfl)
      · cases hr
    · cases hr
end

/-! ### what an operation's run reads and writes -/
theorem writes_slots {β : Type} (b : β) : ∀ (ws : Ws β) (σ : S), (writes σ b ws).slots = σ.slots
  | [], _ => rfl
  | p :: ws, σ => writes_slots b ws (σ.set p.1 (p.2 b))

theorem writes_mem {β : Type} (b : β) : ∀ (ws : Ws β) (σ τ : S) (s : Nat),
    (s ∈ ws.map (·.1) → (writes τ b ws).mem s = (writes σ b ws).mem s) ∧ (s ∉ ws.map (·.1) → (writes σ b ws).mem s = σ.mem s)
  | [], σ, τ, s => ⟨by simp, fun _ => rfl⟩
  | p :: ws, σ, τ, s => by
    have ih := writes_mem b ws (σ.set p.1 (p.2 b)) (τ.set p.1 (p.2 b)) s
    refine ⟨fun h => ?_, fun h => ?_⟩
    · show (writes (τ.set p.1 (p.2 b)) b ws).mem s = (writes (σ.set p.1 (p.2 b)) b ws).mem s
      by_cases hs : s ∈ ws.map (·.1)
      · exact ih.1 hs
      · have ih' := (writes_mem b ws (τ.set p.1 (p.2 b)) (τ.set p.1 (p.2 b)) s).2 hs
        rw [ih', ih.2 hs]
        simp only [List.map_cons, List.mem_cons] at h
        have : s = p.1 := h.resolve_right hs
        subst this
        show upd τ.mem _ _ _ = upd σ.mem _ _ _
        rw [upd_eq, upd_eq, if_pos rfl, if_pos rfl]
    · simp only [List.map_cons, List.mem_cons, not_or] at h
      show (writes (σ.set p.1 (p.2 b)) b ws).mem s = σ.mem s
      rw [ih.2 h.2]
      show upd σ.mem _ _ _ = _
      rw [upd_eq, if_neg h.1]

theorem M.run_local {α : Type} (m : M α) : ∀ {σ τ : S}, (∀ t ∈ (m.foot σ).rs, τ.slots t = σ.slots t) → (∀ s ∈ (m.foot σ).rm, τ.mem s = σ.mem s) →
    m.foot τ = m.foot σ ∧ ∀ v σ', m.run σ = some (v, σ') → σ'.slots = σ.slots ∧ (∀ s, s ∉ (m.foot σ).wm → σ'.mem s = σ.mem s) ∧
      ∃ τ', m.run τ = some (v, τ') ∧ τ'.slots = τ.slots ∧ (∀ s, s ∈ (m.foot σ).wm → τ'.mem s = σ'.mem s) ∧ (∀ s, s ∉ (m.foot σ).wm → τ'.mem s = τ.mem s) := by
  induction m with
  | fail => intro σ τ _ _; exact ⟨rfl, fun v σ' h => by cases h⟩
  | slot n k ih =>
    intro σ τ hs hm
    have e : τ.slots n = σ.slots n := hs n (by simp [M.foot])
    have := @ih (σ.slots n) σ τ (fun t ht => hs t (by simp [M.foot, ht])) (fun s h => hm s (by simpa [M.foot] using h))
    refine ⟨?_, ?_⟩
    · simp only [M.foot, e, this.1]
    · intro v σ' hr
      obtain ⟨h1, h2, h3⟩ := this.2 v σ' hr
      refine ⟨h1, h2, ?_⟩
      simp only [M.run, e]
      exact h3
  | mem n k ih =>
    intro σ τ hs hm
    have e : τ.mem n = σ.mem n := hm n (by simp [M.foot])
    have := @ih (σ.mem n) σ τ (fun t ht => hs t (by simpa [M.foot] using ht)) (fun s h => hm s (by simp [M.foot, h]))
    refine ⟨?_, ?_⟩
    · simp only [M.foot, e, this.1]
    · intro v σ' hr
      obtain ⟨h1, h2, h3⟩ := this.2 v σ' hr
      refine ⟨h1, h2, ?_⟩
      simp only [M.run, e]
      exact h3
  | fin β o g ws =>
    intro σ τ _ _
    refine ⟨rfl, ?_⟩
    intro v σ' hr
    simp only [M.run] at hr ⊢
    obtain ⟨b, hb, h2⟩ := Option.map_eq_some_iff.1 hr
    cases h2
    refine ⟨writes_slots b ws σ, fun s hs => (writes_mem b ws σ σ s).2 hs, writes τ b ws, by rw [hb]; rfl, writes_slots b ws τ, fun s hs => (writes_mem b ws σ τ s).1 hs,
      fun s hs => (writes_mem b ws τ τ s).2 hs⟩

/-! ### runs -/
/-- A run in lexical order: each operation reads and writes what is told of it. -/
inductive Run (E : Env) (all : List Oper) : List Oper → List Dec → S → S → Prop
  | nil (σ : S) : Run E all [] [] σ σ
  | cons {o : Oper} {os : List Oper} {d : Dec} {ds : List Dec} {σ σ' : S} {r : V × S} (hr : (gopM E all o).run σ = some r)
      (hf : footOk ((gopM E all o).foot σ) (looksL all o) d = true) (h : Run E all os ds (r.2.putO o.dst r.1) σ') : Run E all (o :: os) (d :: ds) σ σ'

theorem footOk_iff {f : Foot} {ls : List Nat} {d : Dec} : footOk f ls d = true ↔ (∀ x ∈ f.rs, x ∈ ls) ∧ (∀ x ∈ f.rm, x ∈ d.rm) ∧ (∀ x ∈ f.wm, x ∈ d.wm) := by
  simp [footOk, subB_iff]

theorem putO_slots (σ : S) (d : Option Nat) (v : V) (t : Nat) : (σ.putO d v).slots t = if d = some t then v else σ.slots t := by
  cases d with
  | none => simp [S.putO]
  | some d =>
    show upd σ.slots d v t = _
    rw [upd_eq]
    by_cases h : t = d
    · subst h; simp
    · simp [h, show d ≠ t from fun e => h e.symm]
theorem putO_mem (σ : S) (d : Option Nat) (v : V) : (σ.putO d v).mem = σ.mem := by cases d <;> rfl

theorem gop_frame {E : Env} {all : List Oper} {o : Oper} {d : Dec} {σ : S} {r : V × S} (hr : (gopM E all o).run σ = some r)
    (hf : footOk ((gopM E all o).foot σ) (looksL all o) d = true) : r.2.slots = σ.slots ∧ ∀ s, s ∉ d.wm → r.2.mem s = σ.mem s := by
  obtain ⟨h1, h2, _⟩ := (M.run_local (gopM E all o) (σ := σ) (τ := σ) (fun _ _ => rfl) (fun _ _ => rfl)).2 r.1 r.2 hr
  exact ⟨h1, fun s hs => h2 s fun h => hs ((footOk_iff.1 hf).2.2 s h)⟩

theorem Run.append {E : Env} {all : List Oper} {os : List Oper} {ds : List Dec} {σ σ1 : S} (h : Run E all os ds σ σ1) :
    ∀ {os' : List Oper} {ds' : List Dec} {σ' : S}, Run E all os' ds' σ1 σ' → Run E all (os ++ os') (ds ++ ds') σ σ' := by
  induction h with
  | nil σ => intro _ _ _ h; exact h
  | cons hr hf _ ih => intro _ _ _ h; exact .cons hr hf (ih h)

theorem Run.frame {E : Env} {all : List Oper} {os : List Oper} {ds : List Dec} {σ σ' : S} (h : Run E all os ds σ σ') :
    (∀ t, t ∉ dstsOf os → σ'.slots t = σ.slots t) ∧ (∀ s, s ∉ wmsOf ds → σ'.mem s = σ.mem s) := by
  induction h with
  | nil σ => exact ⟨fun _ _ => rfl, fun _ _ => rfl⟩
  | @cons o os d ds σ σ' r hr hf _ ih =>
    obtain ⟨h1, h2⟩ := gop_frame hr hf
    refine ⟨fun t ht => ?_, fun s hs => ?_⟩
    · have hd : o.dst ≠ some t ∧ t ∉ dstsOf os := by
        unfold dstsOf at ht
        split at ht
        · rename_i d hd
          simp only [List.mem_cons, not_or] at ht
          exact ⟨by (rw [hd]; intro e; cases e; exact ht.1 rfl), ht.2⟩
        · rename_i hd; exact ⟨by (rw [hd]; intro e; cases e), ht⟩
      rw [ih.1 t hd.2, putO_slots, if_neg hd.1, h1]
    · simp only [wmsOf, List.mem_append, not_or] at hs
      rw [ih.2 s hs.2, putO_mem, h2 s hs.1]

/-- One state is another, but for what has been given up. -/
def Ag (D : Drop) (τ σ : S) : Prop :=
  (∀ t, τ.slots t = σ.slots t ∨ (t ∈ D.s ∧ σ.slots t = .dead)) ∧ (∀ s, τ.mem s = σ.mem s ∨ (s ∈ D.m ∧ ∃ v, σ.mem s = .gone v ∧ nextVer (τ.mem s) ≤ v + 1))

theorem Ag.refl (D : Drop) (σ : S) : Ag D σ σ := ⟨fun _ => .inl rfl, fun _ => .inl rfl⟩

theorem Ag.op {E : Env} {all : List Oper} {o : Oper} {d : Dec} {D : Drop} {σ τ : S} {r : V × S} (h : Ag D τ σ) (hr : (gopM E all o).run σ = some r)
    (hf : footOk ((gopM E all o).foot σ) (looksL all o) d = true) (h1 : disB (looksL all o) D.s = true) (h2 : disB d.rm D.m = true) :
    ∃ r', (gopM E all o).run τ = some r' ∧ footOk ((gopM E all o).foot τ) (looksL all o) d = true ∧ Ag D (r'.2.putO o.dst r'.1) (r.2.putO o.dst r.1) := by
  have hf' := footOk_iff.1 hf
  obtain ⟨e1, e2⟩ := M.run_local (gopM E all o) (σ := σ) (τ := τ) (fun t ht => (h.1 t).resolve_right fun hd => disB_iff.1 h1 t (hf'.1 t ht) hd.1)
    (fun s hs => (h.2 s).resolve_right fun hd => disB_iff.1 h2 s (hf'.2.1 s hs) hd.1)
  obtain ⟨h3, h4, τ', h5, h6, h7, h8⟩ := e2 r.1 r.2 hr
  refine ⟨(r.1, τ'), h5, by rw [e1]; exact hf, fun t => ?_, fun s => ?_⟩
  · rw [putO_slots, putO_slots]
    split
    · exact .inl rfl
    · show τ'.slots t = r.2.slots t ∨ _
      rw [h6, h3]; exact h.1 t
  · rw [putO_mem, putO_mem]
    show τ'.mem s = r.2.mem s ∨ (_ ∧ ∃ v, r.2.mem s = .gone v ∧ nextVer (τ'.mem s) ≤ v + 1)
    by_cases hs : s ∈ ((gopM E all o).foot σ).wm
    · exact .inl (h7 s hs)
    · rw [h8 s hs, h4 s hs]; exact h.2 s

theorem rdV_some {τ : Ty} {v : V} {x : τ.D} (h : rdV τ v = some x) : v = .val τ x := by
  unfold rdV at h
  split at h
  · obtain ⟨e, h⟩ := cast?_some h
    subst e; subst h; rfl
  · cases h

theorem wrS_mem : ∀ (J : List (Nat × Ty)) (x : Ds (J.map (·.2))) (σ : S), (wrS J x σ).mem = σ.mem
  | [], _, _ => rfl
  | [_], _, _ => rfl
  | p :: q :: r, x, σ => wrS_mem (q :: r) x.2 (σ.put p.1 (.val p.2 x.1))

theorem wrS_other : ∀ (J : List (Nat × Ty)) (x : Ds (J.map (·.2))) (σ : S) (t : Nat), t ∉ J.map (·.1) → (wrS J x σ).slots t = σ.slots t
  | [], _, _, _, _ => rfl
  | [p], _, σ, t, h => by
    simp at h
    show upd σ.slots p.1 _ t = _
    rw [upd_eq, if_neg h]
  | p :: q :: r, x, σ, t, h => by
    simp only [List.map_cons, List.mem_cons, not_or] at h
    have := wrS_other (q :: r) x.2 (σ.put p.1 (.val p.2 x.1)) t (by simpa using h.2)
    show (wrS (q :: r) x.2 (σ.put p.1 (.val p.2 x.1))).slots t = _
    rw [this]
    show upd σ.slots p.1 _ t = _
    rw [upd_eq, if_neg h.1]

theorem wrS_in : ∀ (J : List (Nat × Ty)) (x : Ds (J.map (·.2))) (σ0 σ : S), rdS J σ = some x → ∀ t ∈ J.map (·.1), (wrS J x σ0).slots t = σ.slots t
  | [], _, _, _, _, t, ht => by simp at ht
  | [p], x, σ0, σ, h, t, ht => by
    simp at ht; subst ht
    show upd σ0.slots p.1 _ p.1 = _
    rw [upd_eq, if_pos rfl]
    exact (rdV_some h).symm
  | p :: q :: r, x, σ0, σ, h, t, ht => by
    obtain ⟨x1, h1, h2⟩ := Option.bind_eq_some_iff.1 h
    obtain ⟨x2, h3, h4⟩ := Option.bind_eq_some_iff.1 h2
    cases h4
    show (wrS (q :: r) x2 (σ0.put p.1 (.val p.2 x1))).slots t = _
    by_cases hq : t ∈ (q :: r).map (·.1)
    · exact wrS_in (q :: r) x2 _ σ h3 t hq
    · rw [wrS_other (q :: r) x2 _ t hq]
      have ht : t = p.1 := by
        simp only [List.map_cons, List.mem_cons] at ht hq
        exact ht.resolve_right hq
      subst ht
      show upd σ0.slots p.1 _ p.1 = _
      rw [upd_eq, if_pos rfl]
      exact (rdV_some h1).symm

theorem put_same (σ : S) (g : Nat) (v : V) (h : σ.slots g = v) : σ.put g v = σ := by
  have : upd σ.slots g v = σ.slots := by
    funext t; rw [upd_eq]; split
    · rename_i e; subst e; exact h.symm
    · rfl
  show ({ σ with slots := upd σ.slots g v } : S) = σ
  rw [this]

theorem Ag.join {J : List (Nat × Ty)} {D D' : Drop} {E : Env} {all os : List Oper} {ds : List Dec} {σ τ σ' τ' : S} {x : Ds (J.map (·.2))} (h : Ag D τ σ) (hr : Run E all os ds τ τ')
    (h' : Ag D' τ' σ') (hx : rdJ J (wmsOf ds) σ σ' = some x) :
    Ag ⟨minus (dstsOf os ++ D.s) (J.map (·.1)), wmsOf ds ++ D.m⟩ τ' (wrS J x (dropS (dstsOf os) (wmsOf ds) σ)) := by
  unfold rdJ at hx
  cases hv : (wmsOf ds).all (fun s => Nat.ble (nextVer (σ'.mem s)) (nextVer (σ.mem s) + 1)) with
  | false => rw [hv] at hx; cases hx
  | true =>
    rw [hv] at hx
    have hx : rdS J σ' = some x := hx
    refine ⟨fun t => ?_, fun s => ?_⟩
    · by_cases ht : t ∈ J.map (·.1)
      · rw [wrS_in J x _ σ' hx t ht]
        rcases h'.1 t with e | ⟨_, e⟩
        · exact .inl e
        · exfalso
          have := wrS_in J x S.bare σ' hx t ht
          rw [e] at this
          -- a value is not dead
          revert this
          have : ∀ (J : List (Nat × Ty)) (x : Ds (J.map (·.2))) (σ0 : S), t ∈ J.map (·.1) → (wrS J x σ0).slots t ≠ .dead := by
            intro J
            induction J with
            | nil => intro _ _ h; simp at h
            | cons p r ih =>
              intro x σ0 h
              cases r with
              | nil =>
                simp at h; subst h
                show upd σ0.slots p.1 _ p.1 ≠ _
                rw [upd_eq, if_pos rfl]; intro e; cases e
              | cons q r =>
                show (wrS (q :: r) x.2 (σ0.put p.1 (.val p.2 x.1))).slots t ≠ _
                by_cases hq : t ∈ (q :: r).map (·.1)
                · exact ih x.2 _ hq
                · rw [wrS_other (q :: r) x.2 _ t hq]
                  have ht : t = p.1 := by
                    simp only [List.map_cons, List.mem_cons] at h hq
                    exact h.resolve_right hq
                  subst ht
                  show upd σ0.slots p.1 _ p.1 ≠ _
                  rw [upd_eq, if_pos rfl]; intro e; cases e
          exact this J x S.bare ht
      · rw [wrS_other J x _ t ht]
        show τ'.slots t = (bif memB t (dstsOf os) then V.dead else σ.slots t) ∨ (_ ∧ (bif memB t (dstsOf os) then V.dead else σ.slots t) = .dead)
        cases hm : memB t (dstsOf os) with
        | true => exact .inr ⟨minus_iff.2 ⟨List.mem_append_left _ (memB_iff.1 hm), ht⟩, rfl⟩
        | false =>
          rw [hr.frame.1 t (memB_false.1 hm)]
          exact (h.1 t).imp id fun ⟨h1, h2⟩ => ⟨minus_iff.2 ⟨List.mem_append_right _ h1, ht⟩, h2⟩
    · rw [wrS_mem]
      show τ'.mem s = (bif memB s (wmsOf ds) then Entry.gone (nextVer (σ.mem s)) else σ.mem s) ∨
        (_ ∧ ∃ v, (bif memB s (wmsOf ds) then Entry.gone (nextVer (σ.mem s)) else σ.mem s) = .gone v ∧ nextVer (τ'.mem s) ≤ v + 1)
      cases hm : memB s (wmsOf ds) with
      | true =>
        have hm := memB_iff.1 hm
        refine .inr ⟨List.mem_append_left _ hm, _, rfl, ?_⟩
        have h1 : nextVer (σ'.mem s) ≤ nextVer (σ.mem s) + 1 := Nat.le_of_ble_eq_true (List.all_eq_true.1 hv s hm)
        rcases h'.2 s with e | ⟨_, v, e1, e2⟩
        · rw [e]; exact h1
        · rw [e1] at h1; exact Nat.le_trans e2 h1
      | false =>
        rw [hr.frame.2 s (memB_false.1 hm)]
        exact (h.2 s).imp id fun ⟨h1, h2⟩ => ⟨List.mem_append_right _ h1, h2⟩

theorem evC_exact {E : Env} {all : List Oper} : ∀ (seg : Seg) (os : List Oper) (D : Drop) (σ : S) {R : Type} (K : Drop → S → Option R) (r : R) (τ : S), evC E all seg os D σ K = some r → Ag D τ σ →
    ∃ σ' τ' D', K D' σ' = some r ∧ seg.decs.length ≤ os.length ∧ Run E all (os.take seg.decs.length) seg.decs τ τ' ∧ Ag D' τ' σ'
  | .done, os, D, σ, R, K, r, τ, h, ha => ⟨σ, τ, D, by simpa [evC] using h, by simp [Seg.decs], by simpa [Seg.decs] using Run.nil τ, ha⟩
  | .op d s, [], D, σ, R, K, r, τ, h, ha => by simp [evC] at h
  | .op d s, o :: os, D, σ, R, K, r, τ, h, ha => by
    unfold evC at h
    cases hc : footOk ((gopM E all o).foot σ) (looksL all o) d && (disB (looksL all o) D.s && disB d.rm D.m) with
    | false => rw [hc] at h; cases h
    | true =>
      rw [hc] at h
      simp only [Bool.and_eq_true] at hc
      obtain ⟨h1, h2, h3⟩ := hc
      simp only [cond_true, M.runK_eq] at h
      obtain ⟨q, h4, h5⟩ := Option.bind_eq_some_iff.1 h
      obtain ⟨q', h6, h7, h8⟩ := ha.op h4 h1 h2 h3
      obtain ⟨σ', τ', D', e1, e2, e3, e4⟩ := evC_exact s os D _ K r _ h5 h8
      refine ⟨σ', τ', D', e1, by simpa [Seg.decs] using e2, ?_, e4⟩
      simp only [Seg.decs, List.length_cons, List.take_succ_cons]
      exact .cons h6 h7 e3
  | .split g J b s, os, D, σ, R, K, r, τ, h, ha => by
    have fin : ∀ {σ1 τ1 : S} {D1 : Drop}, b.decs.length ≤ os.length → Run E all (os.take b.decs.length) b.decs τ τ1 → Ag D1 τ1 σ1 → evC E all s (os.drop b.decs.length) D1 σ1 K = some r →
        ∃ σ' τ' D', K D' σ' = some r ∧ (Seg.split g J b s).decs.length ≤ os.length ∧ Run E all (os.take (Seg.split g J b s).decs.length) (Seg.split g J b s).decs τ τ' ∧ Ag D' τ' σ' := by
      intro σ1 τ1 D1 e2 e3 e4 h2
      obtain ⟨σ', τ', D', f1, f2, f3, f4⟩ := evC_exact s _ _ _ K r τ1 h2 e4
      refine ⟨σ', τ', D', f1, ?_, ?_, f4⟩
      · simp only [Seg.decs, List.length_append, List.length_drop] at f2 ⊢; omega
      · simp only [Seg.decs, List.length_append]
        rw [List.take_add]
        exact e3.append f3
    unfold evC at h
    split at h
    · rename_i c hc
      obtain ⟨x, h1, h2⟩ := Option.bind_eq_some_iff.1 h
      have h1 : evC E all b os D σ (fun _ => rdJ J (wmsOf b.decs) σ) = some x := by
        cases c
        · simpa [put_same σ g _ hc] using h1
        · simpa [put_same σ g _ hc] using h1
      obtain ⟨σ1, τ1, D1, e1, e2, e3, e4⟩ := evC_exact b os D σ _ x τ h1 ha
      exact fin e2 e3 (ha.join e3 e4 e1) h2
    · obtain ⟨σ1, τ1, D1, e1, e2, e3, e4⟩ := evC_exact b os D σ _ r τ h ha
      exact fin e2 e3 e4 e1
    · cases h

end Go.Re
/- Reflection, part Za: pairs that are laid into one map, in any order. -/
namespace Go.Re
set_option linter.unusedVariables false
set_option linter.unusedSimpArgs false

/-! ### what lies in a bag, in the order of the text -/
def addE (e e1 : Entry) : Entry :=
  match e, e1 with
  | .own v τ xs m, .own _ τ' ys _ => if h : τ' = τ then .own v τ (xs ++ ((h ▸ ys : List τ.D).getLast?).toList) m else e
  | _, _ => e

theorem addE_own {v v' : Nat} {τ : Ty} {xs ys : List τ.D} {p : τ.D} {m m' : Mode} : addE (.own v τ xs m) (.own v' τ (ys ++ [p]) m') = .own v τ (xs ++ [p]) m := by
  simp [addE]

open Classical in
/-- L: what has been done; W: who writes; I: who adds. -/
noncomputable def canon (L W I : Nat → Prop) (h : Nat → Entry) : Nat → Entry
  | 0 => h 0
  | i + 1 => if L i ∧ W i then (if I i then addE (canon L W I h i) (h (i + 1)) else h (i + 1)) else canon L W I h i

/-- What is known of a run at a place. -/
structure AddsR (n : Nat) (W I : Nat → Prop) (h : Nat → Entry) : Prop where
  keep : ∀ i, i < n → ¬ W i → h (i + 1) = h i
  wr : ∀ i, I i → W i
  add : ∀ i, i < n → I i → ∃ v τ xs p, h i = .own v τ xs .bg ∧ h (i + 1) = .own v τ (xs ++ [p]) .bg

section
variable {n : Nat} {L L' W I : Nat → Prop} {h : Nat → Entry}

open Classical in
theorem canon_full (hA : AddsR n W I h) : ∀ (m : Nat), m ≤ n → (∀ i, i < m → W i → L i) → canon L W I h m = h m
  | 0, _, _ => rfl
  | m + 1, hm, h1 => by
    unfold canon
    have ih := canon_full hA m (by omega) fun i hi => h1 i (by omega)
    by_cases hw : W m
    · rw [if_pos ⟨h1 m (by omega) hw, hw⟩]
      by_cases hi : I m
      · rw [if_pos hi, ih]
        obtain ⟨v, τ, xs, p, e1, e2⟩ := hA.add m (by omega) hi
        rw [e1, e2, addE_own]
      · rw [if_neg hi]
    · rw [if_neg (fun e => hw e.2), ih, hA.keep m (by omega) hw]

open Classical in
theorem canon_stop {j : Nat} : ∀ (m : Nat), j ≤ m → (∀ i, j ≤ i → i < m → W i → ¬ L i) → canon L W I h m = canon L W I h j
  | 0, hj, _ => by have : j = 0 := by omega
                   subst this; rfl
  | m + 1, hj, h1 => by
    by_cases e : j = m + 1
    · subst e; rfl
    · show (if L m ∧ W m then _ else canon L W I h m) = _
      rw [if_neg (fun e' => h1 m (by omega) (by omega) e'.2 e'.1)]
      exact canon_stop m (by omega) fun i h2 h3 => h1 i h2 (by omega)

open Classical in
theorem canon_congr : ∀ (m : Nat), (∀ i, i < m → W i → (L i ↔ L' i)) → canon L W I h m = canon L' W I h m
  | 0, _ => rfl
  | m + 1, h1 => by
    unfold canon
    rw [canon_congr m fun i hi => h1 i (by omega)]
    by_cases hw : W m
    · by_cases hl : L m
      · have hl' := (h1 m (by omega) hw).1 hl
        simp only [hl, hw, hl', and_self, if_true]
      · have hl' : ¬ L' m := fun h => hl ((h1 m (by omega) hw).2 h)
        simp only [hl, hl', false_and, if_false]
    · simp only [hw, and_false, if_false]

open Classical in
theorem canon_write {j m : Nat} (hj : j < m) (h1 : L j) (h2 : W j) (h4 : ¬ I j) (h3 : ∀ i, j < i → i < m → W i → ¬ L i) : canon L W I h m = h (j + 1) := by
  rw [canon_stop (j := j + 1) m hj fun i hi => h3 i hi]
  unfold canon
  rw [if_pos ⟨h1, h2⟩, if_neg h4]

theorem addE_shape {v : Nat} {τ : Ty} {xs : List τ.D} (e1 : Entry) : ∃ ys, addE (.own v τ xs .bg) e1 = .own v τ ys .bg := by
  cases e1 with
  | own v' τ' ys m =>
    unfold addE
    by_cases h : τ' = τ
    · subst h; exact ⟨xs ++ ys.getLast?.toList, by simp only [dif_pos]⟩
    · exact ⟨xs, by simp only [dif_neg h]⟩
  | _ => exact ⟨xs, rfl⟩

open Classical in
/-- All that wrote and did not add is done: the same kind of entry. -/
theorem canon_shape (hA : AddsR n W I h) : ∀ (m : Nat), m ≤ n → (∀ i, i < m → W i → ¬ I i → L i) → ∀ {v τ xs}, h m = .own v τ xs .bg → ∃ ys, canon L W I h m = .own v τ ys .bg
  | 0, _, _, v, τ, xs, e => ⟨xs, e⟩
  | m + 1, hm, h1, v, τ, xs, e => by
    unfold canon
    by_cases hw : W m
    · by_cases hi : I m
      · obtain ⟨v', τ', xs', p, e1, e2⟩ := hA.add m (by omega) hi
        rw [e] at e2
        cases e2
        obtain ⟨ys, h2⟩ := canon_shape hA m (by omega) (fun i hi => h1 i (by omega)) e1
        by_cases hl : L m
        · rw [if_pos ⟨hl, hw⟩, if_pos hi, h2]
          exact addE_shape _
        · rw [if_neg (fun e => hl e.1)]; exact ⟨ys, h2⟩
      · rw [if_pos ⟨h1 m (by omega) hw hi, hw⟩, if_neg hi]; exact ⟨xs, e⟩
    · rw [if_neg (fun e => hw e.2)]
      rw [hA.keep m (by omega) hw] at e
      exact canon_shape hA m (by omega) (fun i hi => h1 i (by omega)) e

theorem perm_swap_last {α : Type} {zs zs' : List α} {p q : α} (h : zs'.Perm (zs ++ [p])) : (zs' ++ [q]).Perm ((zs ++ [q]) ++ [p]) := by
  refine (h.append_right [q]).trans ?_
  rw [List.append_assoc, List.append_assoc]
  exact List.Perm.append_left _ (List.Perm.swap _ _ _)

open Classical in
/-- One more adds: the same, but for the order. -/
theorem canon_add (hA : AddsR n W I h) {i : Nat} (hi : i < n) (hI : I i) (hn : ¬ L i) (hL : ∀ k, L' k ↔ L k ∨ k = i) (h1 : ∀ k, i < k → k < n → W k → L k → I k)
    {v : Nat} {τ : Ty} {xs : List τ.D} {p : τ.D} (hp : h (i + 1) = .own v τ (xs ++ [p]) .bg) (hs : ∃ ys, canon L W I h i = .own v τ ys .bg) :
    ∀ (m : Nat), i < m → m ≤ n → ∃ zs zs', canon L W I h m = .own v τ zs .bg ∧ canon L' W I h m = .own v τ zs' .bg ∧ zs'.Perm (zs ++ [p])
  | 0, hm, _ => by omega
  | m + 1, hm, hmn => by
    have hst : ∀ (k : Nat), canon L W I h (k + 1) = if L k ∧ W k then (if I k then addE (canon L W I h k) (h (k + 1)) else h (k + 1)) else canon L W I h k := fun _ => rfl
    have hst' : ∀ (k : Nat), canon L' W I h (k + 1) = if L' k ∧ W k then (if I k then addE (canon L' W I h k) (h (k + 1)) else h (k + 1)) else canon L' W I h k := fun _ => rfl
    rcases Nat.eq_or_lt_of_le (Nat.lt_succ_iff.1 hm) with e | hlt
    · subst e
      obtain ⟨ys, hy⟩ := hs
      have e' : canon L' W I h i = canon L W I h i := canon_congr i fun k hk _ => by
        rw [hL]; constructor
        · rintro (h | h)
          · exact h
          · omega
        · exact .inl
      refine ⟨ys, ys ++ [p], ?_, ?_, List.Perm.refl _⟩
      · rw [hst, if_neg (fun e => hn e.1), hy]
      · rw [hst', if_pos ⟨(hL i).2 (.inr rfl), hA.wr i hI⟩, if_pos hI, e', hy, hp, addE_own]
    · obtain ⟨zs, zs', q1, q2, q3⟩ := canon_add hA hi hI hn hL h1 hp hs m hlt (by omega)
      by_cases hlw : L m ∧ W m
      · have hIm := h1 m hlt (by omega) hlw.2 hlw.1
        obtain ⟨v2, τ2, ys2, p2, e1, e2⟩ := hA.add m (by omega) hIm
        have hlw' : L' m ∧ W m := ⟨(hL m).2 (.inl hlw.1), hlw.2⟩
        rw [hst, hst', if_pos hlw, if_pos hlw', if_pos hIm, if_pos hIm, q1, q2, e2]
        by_cases ht : τ2 = τ
        · subst ht
          rw [addE_own, addE_own]
          exact ⟨_, _, rfl, rfl, perm_swap_last q3⟩
        · refine ⟨zs, zs', ?_, ?_, q3⟩ <;> simp only [addE, dif_neg ht]
      · have hlw' : ¬ (L' m ∧ W m) := fun e => by
          rcases (hL m).1 e.1 with h2 | h2
          · exact hlw ⟨h2, e.2⟩
          · omega
        rw [hst, hst', if_neg hlw, if_neg hlw']
        exact ⟨zs, zs', q1, q2, q3⟩
end

/-! ### bags in another order -/
def PermE (e e' : Entry) : Prop := e = e' ∨ ∃ v τ xs ys, e = .own v τ xs .bg ∧ e' = .own v τ ys .bg ∧ xs.Perm ys
def PermS (σ σ' : S) : Prop := σ.slots = σ'.slots ∧ ∀ s, PermE (σ.mem s) (σ'.mem s)
theorem PermS.refl (σ : S) : PermS σ σ := ⟨rfl, fun _ => .inl rfl⟩

theorem PermE.nextVer {e e' : Entry} (h : PermE e e') : nextVer e = nextVer e' := by
  rcases h with h | ⟨v, τ, xs, ys, rfl, rfl, _⟩
  · rw [h]
  · rfl
theorem PermE.box {e e' : Entry} (h : PermE e e') {v : Nat} {τ : Ty} {x : τ.D} (he : e' = .box v τ x) : e = .box v τ x := by
  rcases h with h | ⟨v, τ, xs, ys, rfl, rfl, _⟩
  · rw [h, he]
  · cases he
theorem PermE.own {e e' : Entry} (h : PermE e e') {v : Nat} {τ : Ty} {xs : List τ.D} {m : Mode} (he : e' = .own v τ xs m) : ∃ ys, e = .own v τ ys m ∧ ys.length = xs.length ∧ (m.isMp = false → ys = xs) := by
  rcases h with h | ⟨v', τ', xs', ys', rfl, rfl, hp⟩
  · exact ⟨xs, by rw [h, he], rfl, fun _ => rfl⟩
  · cases he; exact ⟨xs', rfl, hp.length_eq, fun h => by cases h⟩

section
variable {P : Program} {E : Env} {N : Nat} {Z : Base} {own : Own} {β : Conc} {σ σ' : S} {a : Act} {w : World}

theorem RepS.perm {mem mem' : Nat → Entry} (hm : ∀ s, PermE (mem s) (mem' s)) : ∀ {v : V} {u : Value}, RepS own w β mem v u → RepS own w β mem' v u
  | .dead, _, _ => trivial
  | .val τ x, _, h => h
  | .nil, _, h => h
  | .ptr s ver p, _, ⟨h1, h2⟩ => ⟨(hm s).nextVer ▸ h1, fun τ x h => h2 τ x ((hm s).box h)⟩
  | .ref s ver, _, ⟨h1, h2⟩ => ⟨(hm s).nextVer ▸ h1, fun τ xs m h => let ⟨ys, e, _⟩ := (hm s).own h; h2 τ ys m e⟩
  | .elp s ver i p, _, ⟨h1, h2⟩ => ⟨(hm s).nextVer ▸ h1, fun τ xs m h => let ⟨ys, e, e', _⟩ := (hm s).own h; e' ▸ h2 τ ys m e⟩
  | .rpt τ x, _, h => h
  | .nilq _ _, _, h => h
  | .win s ver lo, _, ⟨h1, h2⟩ => ⟨(hm s).nextVer ▸ h1, fun τ xs m h hmp => let ⟨ys, e, e', _⟩ := (hm s).own h; e' ▸ h2 τ ys m e hmp⟩
  | .pre s ver hi, _, ⟨h1, h2⟩ => ⟨(hm s).nextVer ▸ h1, fun τ xs m h hmp => let ⟨ys, e, e', _⟩ := (hm s).own h; e' ▸ h2 τ ys m e hmp⟩
  | .plist t, _, ⟨us, b, o, h1, h0, h2, h3⟩ => ⟨us, b, o, h1, h0, h2, RepS.perm hm h3⟩
  | .pel x, _, ⟨b, o, u, h1, h2, h3, h4⟩ => ⟨b, o, u, h1, h2, h3, RepS.perm hm h4⟩
  | .clo g t, _, ⟨us, h1, h2⟩ => ⟨us, h1, RepS.perm hm h2⟩
  | .zval τ x z, _, h => h
  | .tnil, _, h => h
  | .tcons x r, _, ⟨u, us, h1, h2, h3⟩ => ⟨u, us, h1, RepS.perm hm h2, RepS.perm hm h3⟩

theorem BagR.perm {K V : Ty} {es : Array MapEntry} {c : Nat} {xs ys : List (K.D × V.D)} (hp : xs.Perm ys) (h : BagR K V es c xs) : BagR K V es c ys where
  plain := h.plain
  old := h.old
  born := h.born
  keys := h.keys
  mem e he := let ⟨p, h1, h2⟩ := h.mem e he; ⟨p, hp.mem_iff.1 h1, h2⟩
  dom p h1 := h.dom p (hp.mem_iff.2 h1)
  ok p h1 := h.ok p (hp.mem_iff.2 h1)

theorem RepE.perm {s : Nat} {e e' : Entry} (hp : PermE e e') (h : RepE Z own w β s e) : RepE Z own w β s e' := by
  rcases hp with hp | ⟨v, τ, xs, ys, rfl, rfl, hp⟩
  · exact hp ▸ h
  · cases τ with
    | pair K V =>
      obtain ⟨r, es, c, h1, h2, h3, h4, h5⟩ := h
      exact ⟨r, es, c, h1, h2, h3, h4, BagR.perm (K := K) (V := V) hp h5⟩
    | _ => exact h.elim

theorem insD_perm (τ : Ty) (x : τ.D) : ∀ (l : List τ.D), (x :: l).Perm (insD τ x l)
  | [] => List.Perm.refl _
  | y :: r => by
    unfold insD
    cases leL (encL τ x) (encL τ y) with
    | true => exact List.Perm.refl _
    | false => exact (List.Perm.swap y x r).trans ((insD_perm τ x r).cons y)
theorem srtD_perm (τ : Ty) : ∀ (l : List τ.D), l.Perm (srtD τ l)
  | [] => List.Perm.refl _
  | x :: r => ((srtD_perm τ r).cons x).trans (insD_perm τ x _)
theorem canoM_nil (e : Ty) (m : Mode) : canoM e m [] = [] := by cases m <;> rfl
theorem RepE.cano {s v : Nat} {e : Ty} {m : Mode} {xs : List e.D} (h : RepE Z own w β s (.own v e xs m)) : RepE Z own w β s (.own v e (canoM e m xs) m) := by
  cases m with
  | bg => exact h.perm (.inr ⟨v, e, xs, _, rfl, rfl, srtD_perm e xs⟩)
  | _ => exact h

theorem St.perm (h : St N Z own β σ a w) (hp : PermS σ σ') : St N Z own β σ' a w where
  frame := h.frame
  old := h.old
  size := h.size
  defers := h.defers
  slots t := by rw [← hp.1]; exact (h.slots t).perm hp.2
  mems s := (h.mems s).perm (hp.2 s)
  pins s u hu h0 := by
    refine h.pins s u hu ?_
    rcases hp.2 s with e | ⟨v, τ, xs, ys, e1, e2, _⟩
    · rw [e]; exact h0
    · rw [e2] at h0
      rw [e1]
      cases v with
      | zero => rfl
      | succ v => cases h0

/-! ### an operation that lays a pair into a map -/
def opV (σ : S) : Operand → Option V
  | .tmp t => some (σ.slots t)
  | .const v => some (constV v)
  | _ => none
theorem rdv_run {α : Type} (x : Operand) (k : V → M α) (σ : S) : (rd x k).run σ = (opV σ x).bind fun v => (k v).run σ := by
  cases x <;> rfl
theorem rdv_foot {α : Type} {x : Operand} {k : V → M α} {σ : S} {v : V} (h : opV σ x = some v) : ((rd x k).foot σ).rm = ((k v).foot σ).rm ∧ ((rd x k).foot σ).wm = ((k v).foot σ).wm := by
  cases x <;> first | (cases h; exact ⟨rfl, rfl⟩) | cases h
theorem opV_eq {σ τ : S} {x : Operand} {l : List Nat} (hl : ∀ t, x = .tmp t → t ∈ l) (h : ∀ t ∈ l, τ.slots t = σ.slots t) : opV τ x = opV σ x := by
  cases x with
  | tmp t => simp [opV, h t (hl t rfl)]
  | _ => rfl

theorem bgUpd_spec {K V : Ty} {vm vk vx : Re.V} {σ : S} {r : Re.V × S} (h : (bgUpd K V vm vk vx).run σ = some r) :
    ∃ s ver xs p, σ.mem s = .own ver (.pair K V) xs .bg ∧ r = (.dead, σ.set s (.own ver (.pair K V) (xs ++ [p]) .bg)) ∧ s ∈ ((bgUpd K V vm vk vx).foot σ).rm ∧
      ∀ (τ : S) (zs : List (Ty.pair K V).D), τ.mem s = .own ver (.pair K V) zs .bg → (bgUpd K V vm vk vx).run τ = some (.dead, τ.set s (.own ver (.pair K V) (zs ++ [p]) .bg)) := by
  unfold bgUpd at h
  split at h
  case h_2 => cases h
  rename_i s ver τk k τx x
  simp only [M.run] at h
  split at h
  case h_2 => cases h
  rename_i ver' e' xs hen
  split at h
  case isFalse => cases h
  rename_i hver
  split at h
  case h_2 => cases h
  rename_i xs' k' x' hxs hkk hxx
  obtain ⟨e1, hxs'⟩ := cast?_some hxs
  cases e1
  have hxs' : xs = xs' := hxs'
  subst hxs'
  obtain ⟨_, hc, h9⟩ := Option.map_eq_some_iff.1 h
  subst h9
  obtain ⟨hv, hK, he⟩ := hver
  subst hv
  refine ⟨s, ver, xs, (k', x'), hen, rfl, List.mem_cons_self, fun τ zs hz => ?_⟩
  unfold bgUpd
  have hz' : cast? (.sl (.pair K V)) (.sl (.pair K V)) zs = some zs := by unfold cast?; rw [dif_pos rfl]
  simp only [M.run, hz, hz', hkk, hxx, hK, he, and_self, if_true]
  rfl

theorem ins_run {all : List Oper} {o : Oper} {d : Dec} {σ : S} {r : V × S} (hi : isIns o d = true) (hr : (gopM E all o).run σ = some r) (hf : footOk ((gopM E all o).foot σ) (looksL all o) d = true) :
    o.dst = none ∧ ∃ s ver τ xs p, d.rm = [s] ∧ d.wm = [s] ∧ σ.mem s = .own ver τ xs .bg ∧ r = (.dead, σ.set s (.own ver τ (xs ++ [p]) .bg)) ∧
      ∀ (ρ : S) (zs : List τ.D), (∀ t ∈ looksL all o, ρ.slots t = σ.slots t) → ρ.mem s = .own ver τ zs .bg → (gopM E all o).run ρ = some (.dead, ρ.set s (.own ver τ (zs ++ [p]) .bg)) := by
  unfold isIns at hi
  split at hi
  case h_2 => cases hi
  rename_i t m k x s s' ho hrm hwm
  simp only [Bool.and_eq_true, Option.isNone_iff_eq_none] at hi
  obtain ⟨hd, hg, hs⟩ := hi
  have hs := Nat.eq_of_beq_eq_true hs
  subst hs
  refine ⟨hd, ?_⟩
  have hgo : ∀ ρ : S, gopM E all o = opM E o := fun ρ => by unfold gopM; rw [hg]
  rw [hgo σ] at hr hf
  have hlk : looksL all o = tmpsOf o.op.operands.toList := by unfold looksL; rw [hg]
  have hops : ∀ y, y = m ∨ y = k ∨ y = x → ∀ t', y = .tmp t' → t' ∈ looksL all o := by
    intro y hy t' ht'
    rw [hlk, ho]
    subst ht'
    have : Operand.tmp t' ∈ (Op.insert t m k x).operands.toList := by
      simp only [Op.operands]
      simp
      rcases hy with h | h | h <;> simp [h]
    have key : ∀ (l : List Operand), Operand.tmp t' ∈ l → t' ∈ tmpsOf l := by
      intro l
      induction l with
      | nil => simp
      | cons a l ih =>
        intro hm
        cases a with
        | tmp u =>
          simp only [tmpsOf, List.mem_cons]
          rcases List.mem_cons.1 hm with h | h
          · cases h; exact .inl rfl
          · exact .inr (ih h)
        | _ =>
          simp only [tmpsOf]
          rcases List.mem_cons.1 hm with h | h
          · cases h
          · exact ih h
    exact key _ this
  cases hmt : E.mpt t with
  | none =>
    unfold opM at hr
    simp only [ho, hmt, M.run] at hr
    cases hr
  | some KV =>
    obtain ⟨K, V⟩ := KV
    cases K with
    | st b =>
      have hop : opM E o = (rd m fun vm => rd k fun vk => rd x fun vx => bgUpd (.st b) V vm vk vx) := by
        unfold opM
        simp only [ho, hmt]
      rw [hop] at hr hf
      rw [rdv_run] at hr
      obtain ⟨vm, hvm, hr⟩ := Option.bind_eq_some_iff.1 hr
      rw [rdv_run] at hr
      obtain ⟨vk, hvk, hr⟩ := Option.bind_eq_some_iff.1 hr
      rw [rdv_run] at hr
      obtain ⟨vx, hvx, hr⟩ := Option.bind_eq_some_iff.1 hr
      obtain ⟨s1, ver, xs, p, q1, q2, q3, q4⟩ := bgUpd_spec hr
      have hfo := (footOk_iff.1 hf).2.1
      rw [(rdv_foot hvm).1, (rdv_foot hvk).1, (rdv_foot hvx).1, hrm] at hfo
      have : s1 = s := by simpa using hfo s1 q3
      subst this
      refine ⟨s1, ver, _, xs, p, hrm, hwm, q1, q2, fun ρ zs h1 h2 => ?_⟩
      rw [hgo ρ, hop, rdv_run, opV_eq (hops m (.inl rfl)) h1, hvm, Option.bind_some, rdv_run, opV_eq (hops k (.inr (.inl rfl))) h1, hvk, Option.bind_some, rdv_run, opV_eq (hops x (.inr (.inr rfl))) h1, hvx, Option.bind_some]
      exact q4 ρ zs h2
    | _ =>
      unfold opM at hr
      simp only [ho, hmt, M.run] at hr
      cases hr
end
end Go.Re
