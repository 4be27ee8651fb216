/- Reflection, part Wa: maps of one's own. -/
import Derived.Test.YtgceolpeegfkkaaReW
import Derived.WideKeyRuns
namespace Go.Re
set_option linter.unusedVariables false
set_option linter.unusedSimpArgs false
open Go.RowKit (Below)

/-! ### pairs -/
def mpIdx {n : Nat} {V : Type} : List (List (BitVec n) × V) → List (BitVec n) → Option Nat
  | [], _ => none
  | p :: r, k => bif decide (k = p.1) then some 0 else (mpIdx r k).map (· + 1)
theorem mpIdx_lt {n : Nat} {V : Type} : ∀ {xs : List (List (BitVec n) × V)} {k : List (BitVec n)} {i : Nat}, mpIdx xs k = some i → ∃ v, xs[i]? = some (k, v)
  | [], _, _, h => by cases h
  | p :: r, k, i, h => by
    unfold mpIdx at h
    by_cases e : k = p.1
    · rw [decide_eq_true e, cond_true] at h
      cases h
      exact ⟨p.2, by rw [List.getElem?_cons_zero, e]⟩
    · rw [decide_eq_false e, cond_false] at h
      obtain ⟨j, h1, rfl⟩ := Option.map_eq_some_iff.1 h
      obtain ⟨v, h2⟩ := mpIdx_lt h1
      exact ⟨v, by rw [List.getElem?_cons_succ]; exact h2⟩
theorem mpPut_some {n : Nat} {V : Type} : ∀ {xs : List (List (BitVec n) × V)} {k : List (BitVec n)} {v : V} {i : Nat}, mpIdx xs k = some i → mpPut xs k v = xs.set i (k, v)
  | [], _, _, _, h => by cases h
  | p :: r, k, v, i, h => by
    unfold mpIdx at h
    unfold mpPut
    by_cases e : k = p.1
    · rw [decide_eq_true e, cond_true] at h
      cases h
      rw [decide_eq_true e, cond_true]; rfl
    · rw [decide_eq_false e, cond_false] at h
      obtain ⟨j, h1, rfl⟩ := Option.map_eq_some_iff.1 h
      rw [decide_eq_false e, cond_false, mpPut_some h1]; rfl
theorem mpPut_none {n : Nat} {V : Type} : ∀ {xs : List (List (BitVec n) × V)} {k : List (BitVec n)} {v : V}, mpIdx xs k = none → mpPut xs k v = xs ++ [(k, v)]
  | [], _, _, h => rfl
  | p :: r, k, v, h => by
    unfold mpIdx at h
    unfold mpPut
    by_cases e : k = p.1
    · rw [decide_eq_true e, cond_true] at h; cases h
    · rw [decide_eq_false e, cond_false] at h
      have h1 : mpIdx r k = none := by
        cases hh : mpIdx r k with
        | none => rfl
        | some j => rw [hh] at h; cases h
      rw [decide_eq_false e, cond_false, mpPut_none h1]; rfl
theorem mpGet_idx {n : Nat} {V : Type} : ∀ (xs : List (List (BitVec n) × V)) (k : List (BitVec n)), mpGet xs k = (mpIdx xs k).bind fun i => xs[i]?.map (·.2)
  | [], _ => rfl
  | p :: r, k => by
    unfold mpIdx mpGet
    by_cases e : k = p.1
    · rw [decide_eq_true e, cond_true, cond_true]; rfl
    · rw [decide_eq_false e, cond_false, cond_false, mpGet_idx r k]
      cases mpIdx r k <;> rfl

section
variable {P : Program} {E : Env} {N : Nat} {Z : Base} {own : Own} {β : Conc} {σ : S} {a : Act} {w : World} {o : Oper}

/-! ### keys -/
theorem key_part (hE : EnvOk P E) {t n : Nat} {x : List (BitVec 8)} {u : Value} (ht : E.ty t = some (.arr n (.int .u8))) (hu : RepV own w (.arr n (.int .u8)) u x) :
    ∃ te i, P.underlying t = some (.array n te) ∧ P.underlying te = some (.int .u8) ∧ P.info? te = some i ∧ x.length = n ∧ ∃ cs : List Value, u = .agg cs.toArray ∧ cs.length = n ∧
      (∀ j (h : j < x.length), cs[j]? = some (.int .u8 (toI .u8 x[j]))) ∧ ∀ j, j < n → ∃ v, (part te cs.toArray (j * P.cellsOf te)).run P w = .ok (.int .u8 v) w := by
  obtain ⟨cs, rfl, hx1, hx2, hx3⟩ := (RepV.agg rfl).1 hu
  obtain ⟨te, q1, q2⟩ := (hE.ty t _ ht).desc
  have hT := hE.ty te _ q2
  obtain ⟨i, g1, _⟩ := hT.info
  have hcell : P.cellsOf te = 1 := by
    have h1 := hT.cells (P := P) w
    rw [run_sizeOf w g1] at h1
    have : P.cellsOf te = Ty.size (.int .u8) := by injection h1
    exact this
  have hs1 : Ty.size (.int .u8) = 1 := rfl
  refine ⟨te, i, q1, hT.desc, g1, hx1, cs, rfl, by rw [hx2, hs1, Nat.mul_one], fun j hj => ?_, fun j hj => ?_⟩
  · have a1 := hx3 j hj
    rw [hs1, Nat.mul_one] at a1
    have : (cs.drop j).take 1 = [.int .u8 (toI .u8 x[j])] := a1.1
    have h0 : ((cs.drop j).take 1)[0]? = some (.int .u8 (toI .u8 x[j])) := by rw [this]; rfl
    rw [List.getElem?_take, if_pos (by omega), List.getElem?_drop] at h0
    exact h0
  · have a1 := hx3 j (by omega)
    have e1 := hT.partRun (w := w) (own := own) (cs := cs) (off := j * 1) a1 (by rw [hx2, hs1]; omega)
    have v1 := RepV.int.1 (RepV.mk (τ := .int .u8) rfl a1)
    simp only [hs1] at e1 v1
    rw [v1.1] at e1
    exact ⟨_, by rw [hcell]; exact e1⟩

theorem check_u8 {te : Nat} (h : P.underlying te = some (.int .u8)) (em : Bool) (m : Nat) (v : Int) : (Instr.checkKey em (m + 1) te (.int .u8 v)).run P w = .ok () w := by
  simp [Instr.checkKey, run_underlying h]
theorem same_int (m : Nat) (i : Int) : Instr.sameBits (m + 1) (.int .u8 i) (.int .u8 i) = true := by
  simp [Instr.sameBits]

theorem check_key (hE : EnvOk P E) {t n : Nat} {x : List (BitVec 8)} {u : Value} (ht : E.ty t = some (.arr n (.int .u8))) (hu : RepV own w (.arr n (.int .u8)) u x) (em : Bool) :
    (Instr.checkKey em 10000 t u).run P w = .ok () w := by
  obtain ⟨te, i, q1, q2, q3, hx, cs, rfl, hl, hc, hp⟩ := key_part hE ht hu
  rw [show (10000 : Nat) = 9999 + 1 from rfl, Instr.checkKey]
  simp only [Sem.run_bind, run_underlying q1, Result.andThen_ok]
  simp only [Std.Legacy.Range.forIn_eq_forIn_range', Std.Legacy.Range.size, Nat.sub_zero, Nat.add_one_sub_one, Nat.div_one]
  have each : ∀ j ∈ List.range' 0 n, j < n := fun j hj => by
    have := List.mem_range'_1.1 hj; omega
  generalize List.range' 0 n = is at each
  induction is with
  | nil => simp
  | cons j is ih =>
    obtain ⟨v, p1⟩ := hp j (each j (by simp))
    have p2 : (Instr.checkKey em 9999 te (.int .u8 v)).run P w = .ok () w := check_u8 q2 em 9998 v
    simp only [List.forIn_cons, Sem.run_bind, run_sizeOf w q3, Result.andThen_ok, p1, p2, Sem.run_pure]
    exact ih (fun y hy => each y (by simp [hy]))

/-- One datum, one value. -/
theorem key_same (hE : EnvOk P E) {t n : Nat} {x : List (BitVec 8)} {u v : Value} (ht : E.ty t = some (.arr n (.int .u8))) (hu : RepV own w (.arr n (.int .u8)) u x) (hv : RepV own w (.arr n (.int .u8)) v x) :
    u = v ∧ Instr.sameBits 10000 u v = true := by
  obtain ⟨_, _, _, _, _, hx, cs, rfl, hl, hc, hz1⟩ := key_part hE ht hu
  obtain ⟨_, _, _, _, _, hy, ds, rfl, hm, hd, hz2⟩ := key_part hE ht hv
  have : cs = ds := by
    apply List.ext_getElem?
    intro j
    by_cases hj : j < x.length
    · rw [hc j hj, hd j hj]
    · rw [List.getElem?_eq_none (by omega), List.getElem?_eq_none (by omega)]
  subst this
  refine ⟨rfl, ?_⟩
  rw [show (10000 : Nat) = 9999 + 1 from rfl, Instr.sameBits]
  have hall : ∀ c ∈ cs, ∃ i, c = .int .u8 i := by
    intro c hcm
    obtain ⟨j, hj, rfl⟩ := List.getElem_of_mem hcm
    have := hc j (by omega)
    rw [List.getElem?_eq_getElem hj] at this
    injection this with this
    exact ⟨_, this⟩
  simp only [beq_self_eq_true, Bool.true_and]
  clear hc hd hl hm hu hv hz1 hz2
  induction cs with
  | nil => rfl
  | cons c cs ih =>
    obtain ⟨i, rfl⟩ := hall c (by simp)
    simp only [List.zip_cons_cons, List.all_cons, Bool.and_eq_true]
    exact ⟨same_int 9998 i, ih fun c hcm => hall c (by simp [hcm])⟩

/-- How a key is looked for. -/
theorem find_asking (hE : EnvOk P E) {t n : Nat} {V : Ty} {k : List (BitVec 8)} {u : Value} (ht : E.ty t = some (.arr n (.int .u8))) (hu : RepV own w (.arr n (.int .u8)) u k) :
    ∀ (es : List MapEntry) (xs : List (List (BitVec 8) × V.D)) (i : Nat), es.length = xs.length → (∀ j (h : j < xs.length), ∃ e, es[j]? = some e ∧ RepV own w (.arr n (.int .u8)) e.key xs[j].1) →
      (Instr.findAsking t u es i).run P w = .ok ((mpIdx xs k).bind fun j => es[j]?.map fun e => (i + j, e.val)) w
  | [], [], i, _, _ => by simp [Instr.findAsking, mpIdx]
  | [], _ :: _, _, h, _ => by cases h
  | _ :: _, [], _, h, _ => by cases h
  | e :: es, x :: xs, i, hl, hr => by
    obtain ⟨e', h1, h2⟩ := hr 0 (by simp)
    cases h1
    have heq := eqArr_run (own := own) (w := w) (d := 9998) hE ht hu h2
    have heq' : (Op.equal t u e.key).run P w = .ok (decide (k = x.1)) w := heq
    have ih := find_asking hE (V := V) ht hu es xs (i + 1) (by simpa using hl) fun j hj => by
      obtain ⟨e', g1, g2⟩ := hr (j + 1) (by simpa using hj)
      exact ⟨e', by simpa using g1, by simpa using g2⟩
    unfold Instr.findAsking mpIdx
    simp only [Sem.run_bind, heq', Result.andThen_ok]
    by_cases hk : k = x.1
    · simp [decide_eq_true hk]
    · rw [decide_eq_false hk]
      simp only [Bool.false_eq_true, if_false, ih, cond_false]
      congr 1
      cases mpIdx xs k with
      | none => rfl
      | some j =>
        simp only [Option.map_some, Option.bind_some, List.getElem?_cons_succ]
        rw [show i + 1 + j = i + (j + 1) by omega]

theorem find_key (hE : EnvOk P E) {t n : Nat} {V : Ty} {k : List (BitVec 8)} {u : Value} (ht : E.ty t = some (.arr n (.int .u8))) (hu : RepV own w (.arr n (.int .u8)) u k) {es : Array MapEntry} {xs : List (List (BitVec 8) × V.D)}
    (hm : MapC own w (.arr n (.int .u8)) V es xs) : (Instr.findKey t u es.toList).run P w = .ok ((mpIdx xs k).bind fun j => es[j]?.map fun e => (j, e.val)) w := by
  obtain ⟨te, q1, _⟩ := (hE.ty t _ ht).desc
  rw [run_findKey_eq w (by rw [q1]), find_asking hE (V := V) ht hu es.toList xs 0 (by simpa using hm.1) fun j hj => by
    obtain ⟨e, h1, h2, _⟩ := hm.2.2 j hj
    exact ⟨e, by simpa using h1, h2⟩]
  congr 1
  cases mpIdx xs k with
  | none => rfl
  | some j => simp

/-! ### the operations -/
theorem mpLook_did (hE : EnvOk P E) (h : St N Z own β σ a w) {t n : Nat} {V : Ty} {vm vk : Re.V} {um uk : Value} {ok : Bool} (ht : E.mpt t = some (.arr n (.int .u8), V)) (hm : RepS own w β σ.mem vm um) (hk : RepS own w β σ.mem vk uk)
    (he : execOp a.eval o = (do pure (.value (← Instr.lookup t um uk ok)))) {r : Re.V × S} (hr : (mpLook n V vm vk ok).run σ = some r) : Did P N Z o a w r.2 r.1 := by
  obtain ⟨tk, tv, q1, q2, q3⟩ := hE.mpt t _ _ ht
  have hTV := hE.ty tv V q3
  unfold mpLook at hr
  split at hr
  case h_2 => cases hr
  rename_i s ver τk k
  simp only [M.run] at hr
  split at hr
  case h_2 => cases hr
  rename_i ver' e' xs hen
  split at hr
  case isFalse => cases hr
  rename_i hver
  subst hver
  split at hr
  case h_2 => cases hr
  rename_i xs' k' hxs hkk
  obtain ⟨e1, hxs⟩ := cast?_some hxs
  obtain ⟨e2, hkk⟩ := cast?_some hkk
  cases e1; subst e2
  have hxs : xs = xs' := hxs
  have hkk : k = k' := hkk
  subst hxs; subst hkk
  have hmm := h.mems s
  rw [hen] at hmm
  obtain ⟨rr, es, c, m1, m2, m3, m4, m5⟩ := hmm
  have hum : um = .map (some rr) := (hm.2 _ _ _ hen).trans m1
  have hf := find_key hE (V := V) q2 hk m5
  rw [ret_run hr]
  cases hi : mpIdx xs k with
  | none =>
    rw [hi] at hf
    have hg : mpGet xs k = none := by rw [mpGet_idx, hi]; rfl
    have hz : RepV own w V (mkV V (zeroC V)) V.zero := RepV.mk hTV.isVal (zero_rep hTV.good)
    have hl : (Instr.lookup t um uk ok).run P w = .ok (if ok then .tuple #[mkV V (zeroC V), .bool false] else mkV V (zeroC V)) w := by
      unfold Instr.lookup
      simp only [hum, Sem.run_bind, run_underlying q1, MapKept.run_getObj_map m4, Sem.run_pure, Result.andThen_ok, check_key hE q2 hk, hf, Option.bind_none, hTV.zeroRun w]
    refine did_value (exec_v he hl) h ?_
    rw [hg]
    cases ok with
    | true => exact ⟨_, [_], rfl, hz, _, [], rfl, RepV.bool.2 rfl, rfl⟩
    | false => exact hz
  | some j =>
    rw [hi] at hf
    obtain ⟨v, hv⟩ := mpIdx_lt hi
    have hj : j < xs.length := (List.getElem?_eq_some_iff.1 hv).1
    have hvj : xs[j] = (k, v) := (List.getElem?_eq_some_iff.1 hv).2
    obtain ⟨e, g1, g2, g3⟩ := m5.2.2 j hj
    rw [hvj] at g3
    have hg : mpGet xs k = some v := by rw [mpGet_idx, hi]; simp [hv]
    have hl : (Instr.lookup t um uk ok).run P w = .ok (if ok then .tuple #[e.val, .bool true] else e.val) w := by
      unfold Instr.lookup
      simp only [hum, Sem.run_bind, run_underlying q1, MapKept.run_getObj_map m4, Sem.run_pure, Result.andThen_ok, check_key hE q2 hk, hf, Option.bind_some, g1, Option.map_some]
    refine did_value (exec_v he hl) h ?_
    rw [hg]
    cases ok with
    | true => exact ⟨_, [_], rfl, g3, _, [], rfl, RepV.bool.2 rfl, rfl⟩
    | false => exact g3

theorem mpLen_did (hE : EnvOk P E) (h : St N Z own β σ a w) {t ty : Nat} {K V : Ty} {vm : Re.V} {um : Value} (ht : E.mpt t = some (K, V)) (hm : RepS own w β σ.mem vm um)
    (he : execOp a.eval o = (do pure (.value (← Builtin.len_ #[t] ty #[um])))) {r : Re.V × S} (hr : (mpLen vm).run σ = some r) : Did P N Z o a w r.2 r.1 := by
  obtain ⟨tk, tv, q1, q2, q3⟩ := hE.mpt t _ _ ht
  unfold mpLen at hr
  split at hr
  case h_2 => cases hr
  rename_i s ver
  simp only [M.run] at hr
  split at hr
  case h_2 => cases hr
  rename_i ver' e' xs hen
  split at hr
  case isFalse => cases hr
  rename_i hver
  subst hver
  have hmm := h.mems s
  rw [hen] at hmm
  have hmm : MapR _ _ _ _ _ _ _ := hmm
  have key : ∃ rr es c, um = .map (some rr) ∧ w.heap[rr]? = some (.map es c) ∧ es.size = xs.length ∧ xs.length ≤ lim := by
    have hum := hm.2 _ _ _ hen
    cases e' with
    | pair A B =>
      obtain ⟨rr, es, c, m1, m2, m3, m4, m5⟩ := hmm
      exact ⟨rr, es, c, hum.trans m1, m4, m5.1, m5.2.1⟩
    | _ => exact hmm.elim
  obtain ⟨rr, es, c, m1, m4, m5, m6⟩ := key
  have m6 : xs.length ≤ 2147483648 := m6
  rw [ret_run hr]
  refine did_value (exec_v he (u := .int .i64 (xs.length : Int)) (w' := w) ?_) h (RepV.int.2 ⟨rfl, ?_⟩)
  · rw [m1]
    simp [Builtin.len_, run_underlying q1, MapKept.run_getObj_map m4, goInt, m5]
  · show (-9223372036854775808 : Int) ≤ (xs.length : Int) ∧ (xs.length : Int) < 9223372036854775808
    omega

/-- A block more that is no row. -/
theorem mpMake_did (hE : EnvOk P E) (h : St N Z own β σ a w) {d t : Nat} {K V : Ty} {rs : Option Value} (ht : E.mpt t = some (K, V)) (hrs : rs = none ∨ ∃ k n, rs = some (.int k n))
    (he : execOp a.eval o = (do pure (.value (← Instr.makeMap t rs)))) {r : Re.V × S} (hr : (mpMake d K V).run σ = some r) : Did P N Z o a w r.2 r.1 := by
  obtain ⟨tk, tv, q1, q2, q3⟩ := hE.mpt t _ _ ht
  unfold mpMake at hr
  simp only [M.run] at hr
  obtain ⟨_, _, h9⟩ := Option.map_eq_some_iff.1 hr
  subst h9
  let w' : World := { w with heap := w.heap.push (.map #[] 0) }
  have hB := h.base
  have hblk : ∀ b, b < w.heap.size → w'.heap[b]? = w.heap[b]? := fun b hb => by
    show (w.heap.push _)[b]? = _
    rw [Array.getElem?_push]; simp; omega
  have hrun : (Instr.makeMap t rs).run P w = .ok (.map (some w.heap.size)) w' := by
    rcases hrs with rfl | ⟨k, n, rfl⟩
    · simp [Instr.makeMap]; rfl
    · simp [Instr.makeMap, run_underlying q1, asInt]; rfl
  have hk : Keeps own (allocOwn own w.heap.size (site d 0)) w w' := by
    intro b j v e1 e2
    have hlt := cell?_lt e2
    refine ⟨?_, by rw [cell?_of_heap (hblk b hlt)]; exact e2⟩
    unfold allocOwn; rw [if_neg (by omega)]; exact e1
  have hks : ∀ s', OwnKeeps s' own (allocOwn own w.heap.size (site d 0)) w w' := by
    intro s'
    refine ⟨?_, ?_⟩
    · intro b j v e1 e2
      have hlt := cell?_lt e2
      refine ⟨?_, by rw [cell?_of_heap (hblk b hlt)]; exact e2, frozen?_of_heap (hblk b hlt)⟩
      unfold allocOwn; rw [if_neg (by omega)]; exact e1
    · intro b es c e1 e2
      have hlt := map_lt e2
      refine ⟨?_, by rw [hblk b hlt]; exact e2⟩
      unfold allocOwn; rw [if_neg (by omega)]; exact e1
  have hst := h.newSite (s := site d 0) (e' := .own (nextVer (σ.mem (site d 0))) (.pair K V) [] .mp) (c := .map (some w.heap.size)) (w' := w') (own' := allocOwn own w.heap.size (site d 0))
    ⟨rfl, rfl, rfl, by show w.heap.size ≤ (w.heap.push _).size; simp, fun b j hb _ => cell?_of_heap (hblk b (by omega)), fun b j v hb hv => ⟨⟨v, by rw [cell?_of_heap (hblk b (by omega))]; exact hv⟩, frozen?_of_heap (hblk b (by omega))⟩,
      fun b k hb ⟨x, fz, e1, e2⟩ => ⟨x, fz, by rw [shp_of_heap (hblk b (by omega))]; exact e1, e2⟩, fun b hb _ => hblk b (by omega)⟩
    (fun b j hlt _ => by unfold allocOwn; rw [if_neg (by omega)]) hk (fun s' _ => hks s') (fun b _ ⟨x, fz, e1, e2⟩ => ⟨x, fz, by rw [shp_of_heap (hblk b (shp_lt e1))]; exact e1, e2⟩) (fun β' => Evo.newOwn _ _ _ _)
    ⟨w.heap.size, #[], 0, by rw [upd_eq, if_pos rfl], hB, by simp [allocOwn], by show (w.heap.push _)[w.heap.size]? = _; simp, rfl, by simp, fun i hi => by simp at hi⟩
  exact did_value (exec_v he hrun) hst (ref_new _ _ _ _ _ _ _ _ _ _)

theorem mpUpd_did (hE : EnvOk P E) (h : St N Z own β σ a w) {t n : Nat} {V : Ty} {vm vk vx : Re.V} {um uk ux : Value} (ht : E.mpt t = some (.arr n (.int .u8), V)) (hm : RepS own w β σ.mem vm um) (hk : RepS own w β σ.mem vk uk)
    (hx : RepS own w β σ.mem vx ux) (he : execOp a.eval o = (do Instr.mapUpdate t um uk ux; pure .skip)) {r : Re.V × S} (hr : (mpUpd n V vm vk vx).run σ = some r) : Did P N Z o a w r.2 r.1 := by
  obtain ⟨tk, tv, q1, q2, q3⟩ := hE.mpt t _ _ ht
  unfold mpUpd at hr
  split at hr
  case h_2 => cases hr
  rename_i s ver τk k τx x
  simp only [M.run] at hr
  split at hr
  case h_2 => cases hr
  rename_i ver' e' xs hen
  split at hr
  case isFalse => cases hr
  rename_i hver
  subst hver
  split at hr
  case h_2 => cases hr
  rename_i xs' k' x' hxs hkk hxx
  obtain ⟨e1, hxs⟩ := cast?_some hxs
  obtain ⟨e2, hkk⟩ := cast?_some hkk
  obtain ⟨e3, hxx⟩ := cast?_some hxx
  cases e1; subst e2; subst e3
  have hxs : xs = xs' := hxs
  have hkk : k = k' := hkk
  have hxx : x = x' := hxx
  subst hxs; subst hkk; subst hxx
  obtain ⟨_, hc, h9⟩ := Option.map_eq_some_iff.1 hr
  subst h9
  have hlen : xs.length + 1 ≤ lim := of_decide_eq_true (chk_some hc)
  have hmm := h.mems s
  rw [hen] at hmm
  obtain ⟨rr, es, c, m1, m2, m3, m4, m5⟩ := hmm
  have hum : um = .map (some rr) := (hm.2 _ _ _ hen).trans m1
  have hlt := map_lt m4
  have hf := find_key hE (V := τx) q2 hk m5
  -- a world in which the map's block is another map
  have fin : ∀ (es' : Array MapEntry) (c' : Nat), (Instr.mapUpdate t um uk ux).run P w = .ok () { w with heap := w.heap.setIfInBounds rr (.map es' c') } →
      MapC own w (.arr n (.int .u8)) τx es' (mpPut xs k x) → Did P N Z o a w (σ.set s (.own ver (.pair (.arr n (.int .u8)) τx) (mpPut xs k x) .mp)) .dead := by
    intro es' c' hrun hmc
    let w' : World := { w with heap := w.heap.setIfInBounds rr (.map es' c') }
    have hother : ∀ b, b ≠ rr → w'.heap[b]? = w.heap[b]? := fun b hb => by
      show (w.heap.setIfInBounds rr _)[b]? = _
      rw [Array.getElem?_setIfInBounds_ne (Ne.symm hb)]
    have hself : w'.heap[rr]? = some (.map es' c') := by
      show (w.heap.setIfInBounds rr _)[rr]? = _
      rw [Array.getElem?_setIfInBounds_self_of_lt hlt]
    have hcell : ∀ b j, w'.cell? ⟨b, j, none⟩ = w.cell? ⟨b, j, none⟩ := fun b j => by
      by_cases hb : b = rr
      · subst hb; rw [map_no_cell hself, map_no_cell m4]
      · exact cell?_of_heap (hother b hb)
    have hfroz : ∀ b j v, w.cell? ⟨b, j, none⟩ = some v → w'.frozen? ⟨b, j, none⟩ = w.frozen? ⟨b, j, none⟩ := fun b j v hv => by
      by_cases hb : b = rr
      · subst hb; rw [map_no_cell m4] at hv; cases hv
      · exact frozen?_of_heap (hother b hb)
    have hshp : ∀ b kk, Free w b kk → Free w' b kk := by
      rintro b kk ⟨y, fz, e1, e2⟩
      by_cases hb : b = rr
      · subst hb
        unfold shp at e1; rw [m4] at e1; cases e1
      · exact ⟨y, fz, by rw [shp_of_heap (hother b hb)]; exact e1, e2⟩
    have hk' : Keeps own own w w' := fun b j v e1 e2 => ⟨e1, by rw [hcell]; exact e2⟩
    have hks : ∀ s', s' ≠ s → OwnKeeps s' own own w w' := fun s' hs' => ⟨fun b j v e1 e2 => ⟨e1, by rw [hcell]; exact e2, hfroz b j v e2⟩, fun b es0 c0 e1 e2 => ⟨e1, by
      rw [hother b (fun e => by rw [e, m3] at e1; cases e1; exact hs' rfl)]; exact e2⟩⟩
    have hle : xs.length ≤ (mpPut xs k x).length := by
      cases hi : mpIdx xs k with
      | none => rw [mpPut_none hi]; simp
      | some j => rw [mpPut_some hi]; simp
    have hst : St N Z own β (σ.set s (.own ver (.pair (.arr n (.int .u8)) τx) (mpPut xs k x) .mp)) a w' := by
      refine h.go ⟨rfl, rfl, rfl, by show w.heap.size ≤ (w.heap.setIfInBounds rr _).size; simp, fun b j _ _ => hcell b j, fun b j v _ hv => ⟨⟨v, by rw [hcell]; exact hv⟩, hfroz b j v hv⟩, fun b kk _ => hshp b kk,
        fun b hb _ => hother b (by omega)⟩ (fun _ _ _ _ => rfl) hk' ?_ rfl ?_
      · intro s'
        show Evo β β s' (σ.mem s') (upd σ.mem s _ s')
        rw [upd_eq]; split
        · rename_i e; subst e; rw [hen]; exact Evo.setMp rfl hle
        · exact Evo.same _ rfl
      · intro s'
        show RepE Z own w' β s' (upd σ.mem s _ s')
        rw [upd_eq]; split
        · rename_i e; subst e
          exact ⟨rr, es', c', m1, m2, m3, hself, hmc.keeps hk'⟩
        · rename_i e; exact (h.mems s').keeps hk' (hks s' e) hshp rfl
    refine did_skip ?_ hst
    rw [he]
    simp only [Sem.run_bind, hrun, Result.andThen_ok, Sem.run_pure]
    rfl
  show Did P N Z o a w (σ.set s _) .dead
  cases hi : mpIdx xs k with
  | none =>
    rw [hi] at hf
    refine fin (es.push { key := uk, val := ux, born := c }) (c + 1) ?_ ?_
    · unfold Instr.mapUpdate
      simp only [hum, Sem.run_bind, run_underlying q1, MapKept.run_getObj_map m4, Sem.run_pure, Result.andThen_ok, check_key hE q2 hk, hf, Option.bind_none, MapKept.run_setObj_map _ m4]
    · rw [mpPut_none hi]
      refine ⟨by simp [m5.1], by simpa using hlen, fun i hil => ?_⟩
      by_cases hil2 : i < xs.length
      · obtain ⟨e, g1, g2, g3⟩ := m5.2.2 i hil2
        refine ⟨e, ?_, ?_, ?_⟩
        · rw [Array.getElem?_push, if_neg (by have := m5.1; omega)]; exact g1
        · rw [List.getElem_append_left hil2]; exact g2
        · rw [List.getElem_append_left hil2]; exact g3
      · have hie : i = xs.length := by simp at hil; omega
        subst hie
        refine ⟨{ key := uk, val := ux, born := c }, ?_, ?_, ?_⟩
        · rw [← m5.1]; simp
        · simp only [List.getElem_append_right (Nat.le_refl _), Nat.sub_self, List.getElem_cons_zero]; exact hk
        · simp only [List.getElem_append_right (Nat.le_refl _), Nat.sub_self, List.getElem_cons_zero]; exact hx
  | some j =>
    rw [hi] at hf
    obtain ⟨v, hv⟩ := mpIdx_lt hi
    have hj : j < xs.length := (List.getElem?_eq_some_iff.1 hv).1
    have hvj : xs[j] = (k, v) := (List.getElem?_eq_some_iff.1 hv).2
    obtain ⟨e, g1, g2, g3⟩ := m5.2.2 j hj
    rw [hvj] at g2
    obtain ⟨s1, s2⟩ := key_same hE q2 g2 hk
    refine fin (es.modify j fun e => { e with key := uk, val := ux }) c ?_ ?_
    · unfold Instr.mapUpdate
      simp only [hum, Sem.run_bind, run_underlying q1, MapKept.run_getObj_map m4, Sem.run_pure, Result.andThen_ok, check_key hE q2 hk, hf, Option.bind_some, g1, Option.map_some, Option.getD_some, Instr.keyThatStays, s2, if_true, MapKept.run_setObj_map _ m4]
    · rw [mpPut_some hi]
      refine ⟨by simp [m5.1], by simp; omega, fun i hil => ?_⟩
      rw [List.length_set] at hil
      obtain ⟨e0, f1, f2, f3⟩ := m5.2.2 i hil
      by_cases hij : j = i
      · subst hij
        refine ⟨{ e with key := uk, val := ux }, ?_, ?_, ?_⟩
        · rw [Array.getElem?_modify, if_pos rfl, g1]; rfl
        · rw [List.getElem_set_self]; exact hk
        · rw [List.getElem_set_self]; exact hx
      · refine ⟨e0, ?_, ?_, ?_⟩
        · rw [Array.getElem?_modify, if_neg hij]; exact f1
        · rw [List.getElem_set_ne hij]; exact f2
        · rw [List.getElem_set_ne hij]; exact f3

/-! ### rows that are lent -/
theorem RepC.flat {own own' : Own} {w w' : World} : ∀ {τ : Ty} {cs : List Value} {x : τ.D}, τ.flat = true → RepC own w τ cs x → RepC own' w' τ cs x
  | .bool, _, _, _, h => h
  | .str, _, _, _, h => h
  | .unit, _, _, _, h => h
  | .int _, _, _, _, h => h
  | .pair a b, _, _, hf, ⟨c, d, e, h1, h2⟩ => by
    have hf : (a.flat && b.flat) = true := hf
    simp only [Bool.and_eq_true] at hf
    exact ⟨c, d, e, RepC.flat (τ := a) hf.1 h1, RepC.flat (τ := b) hf.2 h2⟩
  | .st b, _, _, hf, h => RepC.flat (τ := b) hf h
  | .arr n e, _, _, hf, ⟨h1, h2, h3⟩ => ⟨h1, h2, fun i hi => RepC.flat (τ := e) hf (h3 i hi)⟩
  | .sl e, _, _, hf, _ => by cases hf
theorem RepV.flat {own own' : Own} {w w' : World} {τ : Ty} {v : Value} {x : τ.D} (hf : τ.flat = true) (h : RepV own w τ v x) : RepV own' w' τ v x :=
  ⟨h.1, let ⟨cs, h1, h2⟩ := h.2; ⟨cs, h1, h2.flat hf⟩⟩

theorem ioSites_in : ∀ {ps : List Par} {io : Io ps}, ps.all Par.isIn = true → ioSites ps io = []
  | [], _, _ => rfl
  | .val _ :: r, io, h => ioSites_in (ps := r) (by simpa [Par.isIn] using h)
  | .nils _ :: r, io, h => ioSites_in (ps := r) (by simpa [Par.isIn] using h)
  | .pv _ :: r, io, h => ioSites_in (ps := r) (by simpa [Par.isIn] using h)
  | .box _ :: r, io, h => by simp [Par.isIn] at h
  | .row _ :: r, io, h => by simp [Par.isIn] at h
  | .take _ :: r, io, h => by simp [Par.isIn] at h

theorem lend_did (hE : EnvOk P E) (h : St N Z own β σ a w) {f : Nat} {F : Fun} {args : Array Operand} {ats : Array TypeId} (hF : E.fn f = some F) (ho : o.op = .call { callee := .value (.func f), args, argTypes := ats })
    {r : Re.V × S} {d : Nat} (hr : (lendM d F (args.toList.map .inl)).run σ = some r) : Did P N Z o a w r.2 r.1 := by
  have hX := Xs.ops own w β σ.mem a args.toList [] [] rfl
  rw [List.append_nil, List.append_nil] at hX
  have hC := hE.fn f F hF
  have hexec : (execOp a.eval o).run P w = .ok (.enter f (args.toList.map a.eval).toArray) w := by
    rw [call_exec ho hC.fn]
    congr 2
    apply Array.ext'; simp
  unfold lendM at hr
  obtain ⟨x, fr, io, hf, hA, h3⟩ := argsM_run h _ _ _ hX hr
  cases hcond : F.args.all Par.isIn && flatRes F.res with
  | false => rw [hcond] at h3; cases h3
  | true =>
  rw [hcond, cond_true] at h3
  simp only [Bool.and_eq_true] at hcond
  obtain ⟨hin, hflat⟩ := hcond
  obtain ⟨res, hres1, hr1⟩ := fin_run h3
  obtain ⟨own1, s1, k1, v1⟩ := h.freeze hf
  have hno : ioSites F.args io = [] := ioSites_in hin
  have hA1 := hA.froz hf k1 v1 (by rw [hno]; intro s hs; cases hs)
  obtain ⟨ids, regs, a1, a2, a3, a4, a5⟩ := ArgReps.open s1 F.args 0 hA1 (by rw [hno]; exact List.nodup_nil)
  have hreg : ∀ k b j, ¬ inReg (regs k) b j := by
    rintro k b j ⟨_, c1, c2⟩
    have := (a2 k (by omega)).1
    rw [hno] at this; cases this
  have hcall := hC.calls w own1 ids (fun k => site d k) regs _ x res a1 a4 hres1
  intro Q
  unfold Oper.wp
  rw [hexec, Oper.upon_enter]
  refine hcall.mono ?_
  rintro e w' ⟨own2, us, rfl, hfr, hold, hret, hout⟩
  have hno2 : ∀ b j, ¬ ∃ i, inReg (regs i) b j := fun b j ⟨i, hi⟩ => hreg i b j hi
  have hk : Keeps own own w w' := fun b j v e1 e2 => ⟨e1, by rw [hfr.cell b j (cell?_lt e2) (hno2 b j)]; exact e2⟩
  have hks : ∀ s, OwnKeeps s own own w w' := fun s => ⟨fun b j v e1 e2 => ⟨e1, by rw [hfr.cell b j (cell?_lt e2) (hno2 b j)]; exact e2, (hfr.live b j v (cell?_lt e2) e2).2⟩,
    fun b es c e1 e2 => ⟨e1, by rw [hfr.block b (map_lt e2) (hno2 b)]; exact e2⟩⟩
  have hshp : ShpKeeps w w' := fun b k hfree => hfr.shape b k (by obtain ⟨_, _, e1, _⟩ := hfree; exact shp_lt e1) hfree
  have hst : St N Z own β σ a w' := by
    refine h.go ⟨hfr.os, hfr.tape, hfr.output, hfr.size, fun b j hb _ => hfr.cell b j (Nat.lt_of_lt_of_le hb h.base) (hno2 b j), fun b j v hb hv => hfr.live b j v (Nat.lt_of_lt_of_le hb h.base) hv,
      fun b k hb => hfr.shape b k (Nat.lt_of_lt_of_le hb h.base), fun b hb _ => hfr.block b (Nat.lt_of_lt_of_le hb h.base) (hno2 b)⟩ (fun _ _ _ _ => rfl) hk (fun s => Evo.same _ rfl) rfl (fun s => (h.mems s).keeps hk (hks s) hshp rfl)
  refine ⟨retV us, rfl, own, β, ?_, ?_⟩
  · rw [hr1]; exact hst
  · rw [hr1]
    have key : ∀ (ps : List (Ty × Mode)) (y : Ds (ps.map (·.1))), flatRes ps = true → RetAll own2 w' w.heap.size (fun k => site d k) 0 ps us y → RepS own w' β σ.mem (resTop d (fun _ => 0) ps y) (retV us) := by
      intro ps y h1 h2
      match ps, y, h1, h2 with
      | [(τ, m)], y, h1, h2 =>
        obtain ⟨u, e1, e2⟩ := h2
        subst e1
        have h1 : τ.flat = true := h1
        cases τ with
        | sl e => cases h1
        | bool => cases m <;> exact RepV.flat h1 e2
        | str => cases m <;> exact RepV.flat h1 e2
        | unit => cases m <;> exact RepV.flat h1 e2
        | int k => cases m <;> exact RepV.flat h1 e2
        | pair p q => cases m <;> exact RepV.flat h1 e2
        | st b => cases m <;> exact RepV.flat h1 e2
        | arr n e => cases m <;> exact RepV.flat h1 e2
    exact key _ _ hflat hret

/-! ### the rest of a row is set to nothing -/
theorem zeroCells_elems {own : Own} {w : World} {e : Ty} (hv : e.isVal = true) (hg : e.good = true) (k : Nat) : ElemsC own w e (Builtin.zeroCells (mkV e (zeroC e)).cells k).toList (List.replicate k e.zero) := by
  have hz : RepC own w e (zeroC e) e.zero := zero_rep hg
  have hl := hz.length
  have hc : (mkV e (zeroC e)).cells = (zeroC e).toArray := by
    have := mkV_cells hv hz
    exact Array.ext' (by simpa using this)
  have hlen := zeroCells_length hv hg k
  refine ⟨by rw [List.length_replicate, hlen]; exact Nat.le_refl _, fun i hi => ?_⟩
  have hi' : i < k := by simpa using hi
  have : ((Builtin.zeroCells (mkV e (zeroC e)).cells k).toList.drop (i * e.size)).take e.size = zeroC e := by
    apply List.ext_getElem?
    intro j
    rw [List.getElem?_take]
    have hik : i * e.size + e.size ≤ k * e.size := by rw [← Nat.succ_mul]; exact Nat.mul_le_mul_right _ hi'
    split
    · rename_i hj
      rw [List.getElem?_drop, hc]
      simp only [Builtin.zeroCells, Array.toList_map, Array.toList_range, List.getElem?_map, List.size_toArray, hl]
      rw [List.getElem?_range (by omega)]
      have hm : (i * e.size + j) % e.size = j := by rw [Nat.add_comm, Nat.add_mul_mod_self_right]; exact Nat.mod_eq_of_lt hj
      simp only [Option.map_some, hm]
      rw [List.getElem?_eq_getElem (by omega)]
      congr 1
      rw [getElem!_pos _ _ (by simpa using (by omega : j < (zeroC e).length))]
      simp
    · rw [List.getElem?_eq_none (by omega)]
  rw [this]
  simp only [List.getElem_replicate]
  exact hz

theorem clear_did (hE : EnvOk P E) (h : St N Z own β σ a w) {t ty : Nat} {v : Re.V} {u : Value} (hu : RepS own w β σ.mem v u)
    (he : execOp a.eval o = (do pure (.value (← Builtin.clear_ #[t] ty #[u])))) {r : Re.V × S} (hr : (clearM E t v).run σ = some r) : Did P N Z o a w r.2 r.1 := by
  unfold clearM at hr
  split at hr
  case h_2 => cases hr
  rename_i s ver lo
  simp only [M.run] at hr
  split at hr
  case h_2 => cases hr
  rename_i ver' e xs hm
  split at hr
  case isFalse => cases hr
  rename_i hc
  obtain ⟨rfl, ht⟩ := hc
  obtain ⟨_, _, h9⟩ := Option.map_eq_some_iff.1 hr
  subst h9
  obtain ⟨q1, ad, cap, q2, q3⟩ := hu.2 e xs .full hm rfl
  obtain ⟨te, hd, hte⟩ := (hE.ty t _ ht).desc
  have hT := hE.ty te e hte
  subst q3
  have hmm := h.mems s
  rw [hm] at hmm
  obtain ⟨ad', cap', f1, f2, f3, f4, f5⟩ := hmm
  rw [q2] at f1; cases f1
  have hk : min (List.replicate (xs.length - lo) e.zero).length (xs.length - lo) = xs.length - lo := by simp
  have hzl := zeroCells_length hT.isVal hT.good (xs.length - lo)
  show Did P N Z o a w (σ.set s _) .dead
  refine winCore (yc := (Builtin.zeroCells (mkV e (zeroC e)).cells (xs.length - lo)).toList) (u := .tuple #[]) hE h ht hm q1 q2 (by rw [hzl]; simp) (zeroCells_elems hT.isVal hT.good _) ?_ (fun _ _ _ _ => trivial) hk ?_
  · intro c hcm
    have hzc : (mkV e (zeroC e)).cells = (zeroC e).toArray := by
      have := mkV_cells (own := own) (w := w) hT.isVal (zero_rep hT.good)
      exact Array.ext' (by simpa using this)
    have hel := (zeroCells_elems (own := own) (w := w) hT.isVal hT.good (xs.length - lo))
    obtain ⟨i, hi, hmem⟩ := chunk_mem hzl hcm
    exact RepC.one (hel.2 i (by simpa using hi)) c hmem
  · intro A w' hA hst
    rw [← hzl, List.take_length] at hst
    rw [← hA] at he
    refine exec_v he ?_
    cases A with
    | none =>
      obtain ⟨rfl, _⟩ := hst
      simp [Builtin.clear_, run_underlying hd]
    | some b =>
      cases hn : xs.length - lo with
      | zero =>
        rw [hn] at hst
        have : (Builtin.zeroCells (mkV e (zeroC e)).cells 0).toList = [] := by simp [Builtin.zeroCells]
        rw [this] at hst
        have hst : w = w' := by simpa [storeCells] using hst
        subst hst
        simp [Builtin.clear_, run_underlying hd, hn]
      | succ n =>
        rw [hn] at hst
        simp only [Builtin.clear_, List.getElem?_toArray, List.getElem?_cons_zero, Sem.run_bind, run_underlying hd, Result.andThen_ok, Sem.run_pure, hT.zeroRun w, hst]

end
end Go.Re
