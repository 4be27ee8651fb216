/- Reflection, part X: every operation. -/
import Derived.Test.YtgceolpeegfkkaaReWb
namespace Go.Re
set_option linter.unusedVariables false
set_option linter.unusedSimpArgs false
open Go.RowKit (Below)

section
variable {P : Program} {E : Env} {N : Nat} {Z : Base} {own : Own} {β : Conc} {σ : S} {a : Act} {w : World} {o : Oper}

theorem ret_did (h : St N Z own β σ a w) {u : Value} {v : V} {r : V × S} (he : execOp a.eval o = pure (.value u)) (hu : RepS own w β σ.mem v u) (hr : (M.ret v).run σ = some r) : Did P N Z o a w r.2 r.1 := by
  rw [ret_run hr]
  exact did_value (by rw [he]; rfl) h hu

theorem nth_rep : ∀ (i : Nat) {v x : V} {vs : List Value}, nth v i = some x → RepS own w β σ.mem v (.tuple vs.toArray) → ∃ u, vs[i]? = some u ∧ RepS own w β σ.mem x u
  | 0, .tcons _ _, _, vs, h, ⟨u, us, h1, h2, h3⟩ => by
    cases h
    have e : vs = u :: us := by simpa using h1
    subst e
    exact ⟨u, rfl, h2⟩
  | i + 1, .tcons _ _, _, vs, h, ⟨u, us, h1, h2, h3⟩ => by
    have e : vs = u :: us := by simpa using h1
    subst e
    exact nth_rep i h h3
  | 0, .dead, _, _, h, _ => by cases h
  | 0, .val _ _, _, _, h, _ => by cases h
  | 0, .nil, _, _, h, _ => by cases h
  | 0, .ptr _ _ _, _, _, h, _ => by cases h
  | 0, .ref _ _, _, _, h, _ => by cases h
  | 0, .elp _ _ _ _, _, _, h, _ => by cases h
  | 0, .rpt _ _, _, _, h, _ => by cases h
  | 0, .nilq _ _, _, _, h, _ => by cases h
  | 0, .pre _ _ _, _, _, h, _ => by cases h
  | 0, .plist _, _, _, h, _ => by cases h
  | 0, .pel _, _, _, h, _ => by cases h
  | 0, .clo _ _, _, _, h, _ => by cases h
  | 0, .zval _ _ _, _, _, h, _ => by cases h
  | 0, .tnil, _, _, h, _ => by cases h
  | _ + 1, .dead, _, _, h, _ => by cases h
  | _ + 1, .val _ _, _, _, h, _ => by cases h
  | _ + 1, .nil, _, _, h, _ => by cases h
  | _ + 1, .ptr _ _ _, _, _, h, _ => by cases h
  | _ + 1, .ref _ _, _, _, h, _ => by cases h
  | _ + 1, .elp _ _ _ _, _, _, h, _ => by cases h
  | _ + 1, .rpt _ _, _, _, h, _ => by cases h
  | _ + 1, .nilq _ _, _, _, h, _ => by cases h
  | _ + 1, .pre _ _ _, _, _, h, _ => by cases h
  | _ + 1, .plist _, _, _, h, _ => by cases h
  | _ + 1, .pel _, _, _, h, _ => by cases h
  | _ + 1, .clo _ _, _, _, h, _ => by cases h
  | _ + 1, .zval _ _ _, _, _, h, _ => by cases h
  | _ + 1, .tnil, _, _, h, _ => by cases h

theorem chain_len : ∀ {c : V} {n : Nat} {us : List Value}, chainLen c = some n → RepS own w β σ.mem c (.tuple us.toArray) → n = us.length
  | .tnil, _, us, h, hr => by
    cases h
    have hr : Value.tuple us.toArray = .tuple #[] := hr
    have : us = [] := by simpa using hr
    rw [this]; rfl
  | .tcons x r, _, us, h, hr => by
    obtain ⟨m, h1, rfl⟩ := Option.map_eq_some_iff.1 h
    obtain ⟨u, us', h2, h3, h4⟩ := hr
    have e : us = u :: us' := by simpa using h2
    subst e
    rw [chain_len h1 h4]; rfl
  | .dead, _, _, h, _ => by cases h
  | .val _ _, _, _, h, _ => by cases h
  | .nil, _, _, h, _ => by cases h
  | .ptr _ _ _, _, _, h, _ => by cases h
  | .ref _ _, _, _, h, _ => by cases h
  | .elp _ _ _ _, _, _, h, _ => by cases h
  | .rpt _ _, _, _, h, _ => by cases h
  | .nilq _ _, _, _, h, _ => by cases h
  | .win _ _ _, _, _, h, _ => by cases h
  | .pre _ _ _, _, _, h, _ => by cases h
  | .plist _, _, _, h, _ => by cases h
  | .pel _, _, _, h, _ => by cases h
  | .clo _ _, _, _, h, _ => by cases h
  | .zval _ _ _, _, _, h, _ => by cases h

theorem plM_run (h : St N Z own β σ a w) : ∀ (ps : List (Nat × Operand)) (j : Nat) (cells : List Value) {k : V → M V} {r : V × S}, (plM ps j k).run σ = some r → cells.length = j + ps.length →
    ∃ c us, us.length = ps.length ∧ RepS own w β σ.mem c (.tuple (List.toArray us)) ∧ (k c).run σ = some r ∧
      Instr.fill (fun i => some (i * 1, 1)) cells.toArray (ps.map fun p => (p.1, a.eval p.2)) = some (cells.take j ++ us).toArray
  | [], j, cells, k, r, hr, hl => by
    refine ⟨.tnil, [], rfl, rfl, hr, ?_⟩
    rw [List.append_nil, List.take_of_length_le (by simp at hl; omega)]; rfl
  | (i, o) :: ps, j, cells, k, r, hr, hl => by
    unfold plM at hr
    cases hb : Nat.beq i j with
    | false => rw [hb] at hr; cases hr
    | true =>
      rw [hb] at hr
      have hb := Nat.eq_of_beq_eq_true hb
      subst hb
      simp only [cond_true] at hr
      obtain ⟨v, h1, h2⟩ := rd_run h hr
      split at h2
      · rename_i s ver p
        simp only [M.run] at h2
        split at h2
        · rename_i ver' τ x hm
          cases hv : Nat.beq ver ver' with
          | false => rw [hv] at h2; cases h2
          | true =>
            rw [hv] at h2
            have hv := Nat.eq_of_beq_eq_true hv
            subst hv
            simp only [cond_true] at h2
            obtain ⟨b, off, e1, e2⟩ := h1.2 τ x hm
            simp only [List.length_cons] at hl
            obtain ⟨c, us, g1, g2, g3, g4⟩ := plM_run h ps (i + 1) (cells.set i (a.eval o)) h2 (by simp; omega)
            refine ⟨.tcons (.ptr s ver p) c, a.eval o :: us, by simp [g1], ⟨_, _, rfl, h1, g2⟩, g3, ?_⟩
            have hcell : (a.eval o).cells = #[a.eval o] := by rw [e2]; rfl
            simp only [List.map_cons, Instr.fill, hcell]
            have hsz : i * 1 + 1 ≤ cells.length := by omega
            have hset : (#[a.eval o].zipIdx.foldl (fun cs (p : Value × Nat) => cs.setIfInBounds (i * 1 + p.2) p.1) cells.toArray) = (cells.set i (a.eval o)).toArray := by
              simp
            have hcond : ¬ ((decide ((#[a.eval o] : Array Value).size ≠ 1) || decide (i * 1 + (#[a.eval o] : Array Value).size > cells.toArray.size)) = true) := by
              simp; omega
            rw [if_neg (by simpa using hcond)]
            refine Eq.trans (congrArg (fun z => Instr.fill (fun i => some (i * 1, 1)) z (ps.map fun p => (p.1, a.eval p.2))) hset) ?_
            rw [g4]
            congr 2
            rw [List.take_add_one, List.getElem?_set_self (by omega), List.take_set_of_le (Nat.le_refl _)]
            simp
        · cases h2
      · cases h2

theorem plist_did (hE : EnvOk P E) (h : St N Z own β σ a w) {t n : Nat} {ps : Array (Nat × Operand)} (ht : E.psl t = true) (hn : ps.toList.length = n) (hn2 : n ≤ 65536)
    (he : execOp a.eval o = (do pure (.value (← Instr.buildSlice t n (ps.map fun (i, x) => (i, a.eval x)))))) {r : V × S} (hr : (plM ps.toList 0 fun c => .ret (.plist c)).run σ = some r) : Did P N Z o a w r.2 r.1 := by
  obtain ⟨te, ta, i, q1, q2, q3, q4, q5⟩ := hE.psl t ht
  obtain ⟨c, us, g1, g2, g3, g4⟩ := plM_run h ps.toList 0 (List.replicate n (.pointer none)) hr (by simp [hn])
  rw [List.take_zero, List.nil_append] at g4
  rw [ret_run g3]
  have hul : us.length = n := by omega
  obtain ⟨own', s1, k1, hc⟩ := h.newRead (alloc1_push w us te w.drawn)
  refine did_value (exec_v he (u := .slice (some ⟨w.heap.size, 0, none⟩) n n) (w' := { w with heap := w.heap.push (.cells us.toArray te (0, 0)) }) ?_) s1 ⟨us, w.heap.size, 0, by rw [hul], by omega, hc, RepS.go k1 (fun s => Evo.same _ rfl) g2⟩
  have hps : (Array.map (fun x => match x with | (i, x) => (i, a.eval x)) ps).toList = ps.toList.map fun p => (p.1, a.eval p.2) := by simp
  have hsize : (sizeOf te).run P w = .ok 1 w := by simp [sizeOf, typeInfo, q3, q4]
  have hzero : (zeroValue te).run P w = .ok (.pointer none) w := by simp [zeroValue, typeInfo, q3, q5]
  have hbig : ¬ (n * 1 > 2 ^ 24) := by omega
  simp only [Instr.buildSlice, Sem.run_bind, run_underlying q1, Result.andThen_ok, Sem.run_pure, hsize]
  rw [if_neg hbig]
  simp only [Sem.run_pure, Result.andThen_ok, Sem.run_bind, Sem.run_ite]
  by_cases hz0 : n * 1 = 0
  · have hn0 : n = 0 := by omega
    subst hn0
    have hus : us = [] := List.eq_nil_of_length_eq_zero hul
    subst hus
    rw [if_pos hz0]
    simp only [Result.andThen_ok, hz0, Array.range_zero', Array.map_empty, hps]
    have g4' : Instr.fill (fun i => some (i * 1, 1)) #[] (ps.toList.map fun p => (p.1, a.eval p.2)) = some #[] := g4
    rw [g4']
    simp [newRow]
  · rw [if_neg hz0]
    have hcells : ((Array.range (n * 1)).map fun i => (Value.cells (.pointer none))[i % (Value.cells (.pointer none)).size]!) = (List.replicate n (Value.pointer none)).toArray := by
      apply Array.ext'
      apply List.ext_getElem
      · simp
      · intro j h1 h2
        simp [Value.cells, Nat.mod_one]
    simp only [Sem.run_bind, hzero, Result.andThen_ok, Sem.run_pure, hps]
    rw [hcells, g4]
    simp [newRow]

theorem plIx_did (hE : EnvOk P E) (h : St N Z own β σ a w) {t : Nat} {v vi : V} {u ui : Value} {r : V × S} (ht : E.psl t = true) (hu : RepS own w β σ.mem v u) (hi : RepS own w β σ.mem vi ui)
    (he : execOp a.eval o = (do pure (.value (← Instr.indexAt t u ui)))) (hr : (plIx v vi).run σ = some r) : Did P N Z o a w r.2 r.1 := by
  obtain ⟨te, ta, i, q1, q2, q3, q4, q5⟩ := hE.psl t ht
  unfold plIx at hr
  split at hr
  · rename_i c k j
    obtain ⟨e1, e2⟩ := RepS.int hi
    obtain ⟨us, b, off, f1, f0, f2, f3⟩ := hu
    split at hr
    · rename_i y hy
      obtain ⟨_, h1, h2⟩ := fin_run hr
      have h1 := of_decide_eq_true (chk_some h1)
      obtain ⟨uy, g1, g2⟩ := nth_rep _ hy f3
      have hlt : (toI k j).toNat < us.length := (List.getElem?_eq_some_iff.1 g1).1
      obtain ⟨g3, g4⟩ := f2 _ _ g1
      have hsize : ∀ w, (sizeOf te).run P w = .ok 1 w := fun w => by simp [sizeOf, typeInfo, q3, q4]
      rw [h2]
      refine did_value (exec_v he (u := .pointer (some ⟨b, off + (toI k j).toNat, none⟩)) (w' := w) ?_) h ⟨b, _, uy, rfl, g3, g4, g2⟩
      have hlt' : toI k j < (us.length : Int) := by omega
      rw [f1, e1]
      simp [Instr.indexAt, run_underlying q1, asIntOf, h1, hlt', hsize, addr_add]
    · cases hr
  · cases hr

theorem tcons_tuple {v : V} {i : Nat} {x : V} {u : Value} (h : nth v i = some x) (hr : RepS own w β σ.mem v u) : ∃ vs : List Value, u = .tuple vs.toArray := by
  cases v with
  | tcons a r => obtain ⟨u', us, h1, _⟩ := hr; exact ⟨_, h1⟩
  | _ => cases i <;> cases h

theorem builtin_exec {b : Builtin} {args : Array Operand} {ats : Array TypeId} (ho : o.op = .call { callee := .builtin b, args, argTypes := ats }) :
    execOp a.eval o = builtin b ats o.type (args.map fun | .const _ => true | _ => false) (args.map a.eval) := by
  unfold execOp; rw [ho]; rfl

theorem enc_small {n : Int} (h1 : 0 ≤ n) (h2 : n < 128) : (Utf8.encode n).data.toList.map UInt8.toBitVec = [BitVec.ofInt 8 n] := by
  obtain ⟨m, rfl⟩ : ∃ m : Nat, n = (m : Int) := ⟨n.toNat, by omega⟩
  have hv : Utf8.valid (m : Int) = true := by
    unfold Utf8.valid
    simp only [Bool.or_eq_true, Bool.and_eq_true, decide_eq_true_eq]; omega
  have hm : m < 128 := by omega
  unfold Utf8.encode
  simp [hv, hm]
  rfl

theorem opM_did (hE : EnvOk P E) (h : St N Z own β σ a w) {r : V × S} (hr : (opM E o).run σ = some r) : Did P N Z o a w r.2 r.1 := by
  have hx : ∀ {s : Sem Value}, (execOp a.eval o = (do pure (.value (← s)))) → execOp a.eval o = (do pure (.value (← s))) := fun h => h
  unfold opM at hr
  split at hr
  · -- move
    rename_i x ho
    obtain ⟨v, h1, h2⟩ := rd_run h hr
    exact ret_did h (by unfold execOp; rw [ho]) h1 h2
  · -- assign
    rename_i x ho
    obtain ⟨v, h1, h2⟩ := rd_run h hr
    have he : execOp a.eval o = pure (.value (a.eval x)) := by unfold execOp; rw [ho]
    split at h2
    · split at h2
      · rename_i e ht
        have h1 : a.eval x = .slice none 0 0 := h1
        unfold ownM at h2
        simp only [M.run] at h2
        obtain ⟨_, _, h5⟩ := Option.map_eq_some_iff.1 h2
        subst h5
        exact did_value (u := .slice none 0 0) (w' := w) (by rw [he, h1]; rfl) (h.newNil _ e) (ref_new _ _ _ σ.mem _ _ (σ.mem _) e [] .full)
      · cases h2
    · exact ret_did h he h1 h2
  · -- pick
    rename_i c x y ho
    obtain ⟨vc, h1, h2⟩ := rd_run h hr
    obtain ⟨vx, h3, h4⟩ := rd_run h h2
    obtain ⟨vy, h5, h6⟩ := rd_run h h4
    split at h6
    · rename_i b
      have hc : a.eval c = .bool b := RepV.bool.1 h1
      have he : execOp a.eval o = pure (.value (if b then a.eval x else a.eval y)) := by
        unfold execOp; rw [ho]; simp [hc, asBool]
      split at h6
      · rename_i τ p τ' q
        split at h6
        · rename_i q' hq
          obtain ⟨e, hq⟩ := cast?_some hq
          subst e; subst hq
          refine ret_did h he ?_ h6
          cases b
          · exact h5
          · exact h3
        · cases h6
      · obtain ⟨_, h7, h8⟩ := fin_run h6
        have h7 := chk_some h7
        rw [h8]
        cases b with
        | false => exact did_value (by rw [he]; rfl) h h5
        | true => cases h7
      · obtain ⟨_, h7, h8⟩ := fin_run h6
        have h7 := chk_some h7
        rw [h8]
        cases b with
        | false => exact did_value (by rw [he]; rfl) h h5
        | true => cases h7
      · obtain ⟨_, h7, h8⟩ := fin_run h6
        have h7 := chk_some h7
        rw [h8]
        cases b with
        | true => exact did_value (by rw [he]; rfl) h h3
        | false => cases h7
      · obtain ⟨_, h7, h8⟩ := fin_run h6
        have h7 := chk_some h7
        rw [h8]
        cases b with
        | true => exact did_value (by rw [he]; rfl) h h3
        | false => cases h7
      · cases h6
    · cases h6
  · -- alloc
    rename_i t ho
    split at hr
    · rename_i τ ht
      have hT := hE.ty t τ ht
      have hrun : ∀ w, (execOp a.eval o).run P w = .ok (.value (.pointer (some ⟨w.heap.size, 0, none⟩))) { w with heap := w.heap.push (.cells (mkV τ (zeroC τ)).cells t (0, 0)) } := by
        intro w
        unfold execOp; rw [ho]
        simp only [Sem.run_bind, Instr.alloc, hT.zeroRun, Result.andThen_ok, newVar_run, Sem.run_pure]
      cases hgal : E.gal (o.dst.getD 0) with
      | cons q l =>
        dsimp only at hr
        rw [hgal] at hr
        exact gbox_did h hT.isVal hT.good (t := t) hrun hr
      | nil =>
      dsimp only at hr
      rw [hgal] at hr
      cases h1 : E.one (o.dst.getD 0) with
      | true =>
        dsimp only at hr
        rw [h1, cond_true] at hr
        exact one_did h (RepV.mk hT.isVal (zero_rep hT.good)) (t := t) hrun hr
      | false =>
        dsimp only at hr
        rw [h1, cond_false] at hr
        exact box_did h (fr := []) (by simp [Frz]) hT.isVal (.inl (RepV.mk hT.isVal (zero_rep hT.good))) (t := t) hrun hr
    · cases hr
  · -- box
    rename_i t x ho
    split at hr
    · rename_i τ ht
      have hT := hE.ty t τ ht
      obtain ⟨v, h1, h2⟩ := rd_run h hr
      obtain ⟨y, fr, hf, hA, _, h3⟩ := asD_run h h1 h2
      have hrun : ∀ w, (execOp a.eval o).run P w = .ok (.value (.pointer (some ⟨w.heap.size, 0, none⟩))) { w with heap := w.heap.push (.cells (a.eval x).cells t (0, 0)) } := by
        intro w
        unfold execOp; rw [ho]
        simp only [Sem.run_bind, Instr.box, Result.andThen_ok, newVar_run, Sem.run_pure]
      cases h4 : E.one (o.dst.getD 0) with
      | true =>
        rw [h4, cond_true] at h3
        exact rbox_did h hf hT.isVal hA (t := t) hrun h3
      | false =>
        rw [h4, cond_false] at h3
        exact box_did h hf hT.isVal hA (t := t) hrun h3
    · cases hr
  · -- build
    rename_i t ps ho
    split at hr
    · rename_i b ht
      cases hgb : E.gbd (o.dst.getD 0) with
      | nil =>
        dsimp only at hr
        rw [hgb] at hr
        exact build_did hE h ht (by unfold execOp; rw [ho]) hr
      | cons q z =>
        dsimp only at hr
        rw [hgb] at hr
        cases hz : zOk b ps.toList (q :: z) with
        | false => dsimp only at hr; rw [hz] at hr; cases hr
        | true =>
          dsimp only at hr
          rw [hz, cond_true] at hr
          exact zbuild_did hE h hz ht (by unfold execOp; rw [ho]) hr
    · rename_i n e ht
      exact buildArr_did hE h ht (by unfold execOp; rw [ho]) hr
    · cases hr
  · -- buildSlice
    rename_i t n ps ho
    split at hr
    · rename_i e ht
      split at hr
      · rename_i hc
        exact buildSlice_did hE h ht hc.1 hc.2 (by unfold execOp; rw [ho]) hr
      · cases hr
    · cases hp : E.psl t && (Nat.beq ps.toList.length n && Nat.ble n 65536) with
      | false => rw [hp] at hr; cases hr
      | true =>
        rw [hp] at hr
        simp only [Bool.and_eq_true] at hp
        exact plist_did hE h hp.1 (Nat.eq_of_beq_eq_true hp.2.1) (Nat.le_of_ble_eq_true hp.2.2) (by unfold execOp; rw [ho]) hr
  · -- load
    rename_i t x ho
    split at hr
    · rename_i τ ht
      obtain ⟨v, h1, h2⟩ := rd_run h hr
      cases hgl : E.gld (o.dst.getD 0) with
      | true =>
        rw [hgl, cond_true] at h2
        exact gld_did hE h ht h1 (by unfold execOp; rw [ho]) h2
      | false =>
        rw [hgl, cond_false] at h2
        exact (load_pure hE h ht h1 h2).did h (by unfold execOp; rw [ho])
    · cases hp : E.ptr t with
      | false => rw [hp] at hr; cases hr
      | true =>
        rw [hp] at hr
        simp only [cond_true] at hr
        obtain ⟨v, h1, h2⟩ := rd_run h hr
        split at h2
        · obtain ⟨b, off, u, e1, e2, e3, e4⟩ := h1
          obtain ⟨ta, hd⟩ := hE.ptr t hp
          rw [ret_run h2]
          refine did_value (exec_v (s := Instr.loadAt t (a.eval x)) (by unfold execOp; rw [ho]) (u := u) (w' := w) ?_) h e4
          rw [e1]
          simp [Instr.loadAt, Instr.sureAddr, loadVar, isAgg, run_underlying hd, run_load, e3]
        · cases h2
  · -- store
    rename_i t x y ho
    split at hr
    · rename_i τ ht
      obtain ⟨v, h1, h2⟩ := rd_run h hr
      obtain ⟨u, h3, h4⟩ := rd_run h h2
      cases h5 : isOnc E v with
      | true =>
        rw [h5, cond_true] at h4
        exact once_did hE h ht h1 h3 (by unfold execOp; rw [ho]) h4
      | false =>
        rw [h5, cond_false] at h4
        cases h6 : isGb E v with
        | true =>
          rw [h6, cond_true] at h4
          exact gstore_did hE h ht h1 h3 (by unfold execOp; rw [ho]) h4
        | false =>
          rw [h6, cond_false] at h4
          exact store_did hE h ht h1 h3 (by unfold execOp; rw [ho]) h4
    · cases hr
  · -- nilCheck
    rename_i x ho
    obtain ⟨v, h1, h2⟩ := rd_run h hr
    have go : ∀ {ad : Addr}, a.eval x = .pointer (some ad) → execOp a.eval o = pure (.value (a.eval x)) := by
      intro ad e
      unfold execOp; rw [ho]; simp only [e]
    split at h2
    · rename_i s ver p
      simp only [M.run] at h2
      split at h2
      · rename_i ver' τb y hm
        split at h2
        · rename_i e; subst e
          obtain ⟨b, off, _, e2⟩ := h1.2 τb y hm
          exact ret_did h (go e2) h1 h2
        · cases h2
      · cases h2
    · rename_i s ver i p
      simp only [M.run] at h2
      split at h2
      · rename_i ver' τe xs m hm
        split at h2
        · rename_i e; subst e
          obtain ⟨_, b, off, _, _, _, e2⟩ := h1.2 τe xs m hm
          exact ret_did h (go e2) h1 h2
        · cases h2
      · cases h2
    · have h1' := h1
      obtain ⟨_, b, off, cs, e2, _⟩ := h1'
      exact ret_did h (go e2) h1 h2
    · cases h2
  · -- binOp
    rename_i op t x y yt ho
    obtain ⟨v, h1, h2⟩ := rd_run h hr
    obtain ⟨u, h3, h4⟩ := rd_run h h2
    exact (bin_pure hE h1 h3 h4).did h (by unfold execOp; rw [ho])
  · -- unOp
    rename_i op t x ho
    obtain ⟨v, h1, h2⟩ := rd_run h hr
    exact (un_pure h1 h2).did h (by unfold execOp; rw [ho])
  · -- convert
    rename_i s t x ho
    obtain ⟨v, h1, h2⟩ := rd_run h hr
    have he : execOp a.eval o = (do pure (.value (← convert s t (a.eval x)))) := by unfold execOp; rw [ho]
    unfold convM at h2
    split at h2
    · rename_i k k' τ y hs ht
      split at h2
      · rename_i y' hy
        obtain ⟨e, hy⟩ := cast?_some hy
        subst e; subst hy
        obtain ⟨e1, e2⟩ := RepS.int h1
        refine Pure.did h he (fin_pure (τ := .int k') h2 fun z hz => ⟨_, ?_, RepV.int.2 ⟨rfl, (convI_ok e2 hz).2⟩⟩)
        rw [e1]
        exact conv_int hE hs ht e2 hz
      · cases h2
    · rename_i k τ y hs ht
      split at h2
      · rename_i y' hy
        obtain ⟨e, hy⟩ := cast?_some hy
        subst e; subst hy
        obtain ⟨e1, e2⟩ := RepS.int h1
        obtain ⟨_, h5, h6⟩ := fin_run h2
        have h5 := chk_some h5
        simp only [Bool.and_eq_true, decide_eq_true_eq] at h5
        have q1 : P.underlying s = some (.int k) := (hE.ty s _ hs).desc
        have q2 : P.underlying t = some .string := (hE.ty t _ ht).desc
        rw [h6]
        refine did_value (exec_v he (u := .string (Utf8.encode (toI k y))) (w' := w) ?_) h (RepV.str.2 ⟨_, rfl, ?_, by simp [big]⟩)
        · rw [e1]
          simp [convert, run_underlying q1, run_underlying q2, Conv.intToString]
        · exact enc_small h5.1 h5.2
      · cases h2
    · rename_i y hs ht
      obtain ⟨b, e1, e2, e3⟩ := RepV.str.1 h1
      rw [ret_run h2]
      refine did_value (exec_v he (u := a.eval x) (w' := w) ?_) h h1
      rw [e1]
      have q1 : P.underlying s = some .string := (hE.ty s _ hs).desc
      have q2 : P.underlying t = some .string := (hE.ty t _ ht).desc
      simp [convert, run_underlying q1, run_underlying q2]
    · rename_i y hs ht
      obtain ⟨b, e1, e2, e3⟩ := RepV.str.1 h1
      simp only [M.run] at h2
      obtain ⟨_, h4, h5⟩ := Option.map_eq_some_iff.1 h2
      have h6 := of_decide_eq_true (chk_some h4)
      subst h5
      subst e2
      refine toBytes_did hE h hs ht ?_ (by rw [he, e1])
      simpa using h6
    · rename_i v0 hs ht
      obtain ⟨y, h3, h4⟩ := asDr_run h h1 h2
      obtain ⟨_, h5, h6⟩ := fin_run h4
      have h7 := of_decide_eq_true (chk_some h5)
      obtain ⟨b, q1, q2⟩ := conv_str (w := w) hE hs ht h3.q
      rw [h6]
      refine did_value (exec_v he q1) h (RepV.str.2 ⟨b, rfl, q2, ?_⟩)
      simp only [lim] at h7
      simp only [big]; omega
    · rename_i s' ver hs ht
      split at h2
      · rename_i e; subst e
        simp only [M.run] at h2
        split at h2
        · rename_i ver' τe xs hm
          split at h2
          · rename_i e
            obtain ⟨e, e'⟩ := e
            subst e; subst e'
            obtain ⟨_, h4, h5⟩ := fin_run h2
            rw [h5]
            exact mark_did hE h hs hm (of_decide_eq_true (chk_some h4)) h1 he
          · cases h2
        · cases h2
      · cases h2
    · cases h2
  · -- sliceToArrayPointer
    rename_i t x ho
    split at hr
    · rename_i n e ht
      split at hr
      · rename_i hn
        obtain ⟨v, h1, h2⟩ := rd_run h hr
        obtain ⟨y, fr, hf, hA, _, h3⟩ := asD_run h h1 h2
        exact toArr_did hE h ht hn hf hA (by unfold execOp; rw [ho]) h3
      · cases hr
    · cases hr
  · -- makeSlice
    rename_i t x y ho
    split at hr
    · rename_i e ht
      obtain ⟨v, h1, h2⟩ := rd_run h hr
      obtain ⟨u, h3, h4⟩ := rd_run h h2
      split at h4
      · rename_i k n k' c
        obtain ⟨e1, e2⟩ := RepS.int h1
        obtain ⟨e3, e4⟩ := RepS.int h3
        simp only [M.run] at h4
        obtain ⟨_, h5, h6⟩ := Option.map_eq_some_iff.1 h4
        subst h6
        exact make_did (k := k) (k' := k') hE h ht (chk_some h5) (by unfold execOp; rw [ho]; simp only [e1, e3])
      · cases h4
    · cases hr
  · -- slice
    rename_i t x lo hi ho
    obtain ⟨v, h1, h2⟩ := rd_run h hr
    have he : execOp a.eval o = (do pure (.value (← Instr.sliceAt t (a.eval x) (lo.map a.eval) (hi.map a.eval) none))) := by unfold execOp; rw [ho]; rfl
    rcases bound_run h h2 with ⟨e1, h3⟩ | ⟨op1, kd1, i1, e1, e2, h3⟩
    all_goals
      rcases bound_run h h3 with ⟨e3, h4⟩ | ⟨op2, kd2, i2, e3, e4, h4⟩
      all_goals
        refine sliceOp_did hE h h1 (bound_val ?_) (bound_val ?_) he h4
        · first | exact .inl ⟨e1, rfl⟩ | exact .inr ⟨op1, kd1, i1, e1, e2, rfl⟩
        · first | exact .inl ⟨e3, rfl⟩ | exact .inr ⟨op2, kd2, i2, e3, e4, rfl⟩
  · -- slice, three bounds
    rename_i t x lo hi mx ho
    obtain ⟨v, h1, h2⟩ := rd_run h hr
    have he : execOp a.eval o = (do pure (.value (← Instr.sliceAt t (a.eval x) (lo.map a.eval) (hi.map a.eval) (some (a.eval mx))))) := by unfold execOp; rw [ho]; rfl
    rcases bound_run h h2 with ⟨e1, h3⟩ | ⟨op1, kd1, i1, e1, e2, h3⟩
    all_goals
      rcases bound_run h h3 with ⟨e3, h4⟩ | ⟨op2, kd2, i2, e3, e4, h4⟩
      all_goals
        rcases bound_run h h4 with ⟨e5, h6⟩ | ⟨op3, kd3, i3, e5, e6, h6⟩
        · cases e5
        · first
          | cases h6
          | cases e5
            subst e1; subst e3
            refine slice3_did hE h h1 (bound_val ?_) e4 e6 he h6
            first | exact .inl ⟨rfl, rfl⟩ | exact .inr ⟨op1, kd1, i1, rfl, e2, rfl⟩
  · -- fieldAddr
    rename_i t x f ho
    split at hr
    · rename_i b ht
      split at hr
      · rename_i hf
        obtain ⟨v, h1, h2⟩ := rd_run h hr
        exact (fieldAddr_pure hE h ht hf h1 h2).did h (by unfold execOp; rw [ho])
      · cases hr
    · cases hr
  · -- field
    rename_i t x f ho
    split at hr
    · rename_i b ht
      obtain ⟨v, h1, h2⟩ := rd_run h hr
      exact (field_pure hE ht h1 h2).did h (by unfold execOp; rw [ho])
    · cases hr
  · -- makeMap
    rename_i t r0 ho
    split at hr
    · rename_i K V ht
      split at hr
      · exact mpMake_did hE h ht (.inl rfl) (by unfold execOp; rw [ho]; rfl) hr
      · rename_i x
        obtain ⟨v, h1, h2⟩ := rd_run h hr
        split at h2
        · rename_i k y
          exact mpMake_did hE h ht (.inr ⟨k, _, congrArg some (RepV.int.1 h1).1⟩) (by unfold execOp; rw [ho]; rfl) h2
        · cases h2
    · cases hr
  · -- mapUpdate
    rename_i t m k x ho
    split at hr
    · rename_i n V ht
      obtain ⟨vm, h1, h2⟩ := rd_run h hr
      obtain ⟨vk, h3, h4⟩ := rd_run h h2
      obtain ⟨vx, h5, h6⟩ := rd_run h h4
      exact mpUpd_did hE h ht h1 h3 h5 (by unfold execOp; rw [ho]) h6
    · cases hr
  · -- lookup
    rename_i t m k ok ho
    split at hr
    · rename_i n V ht
      obtain ⟨vm, h1, h2⟩ := rd_run h hr
      obtain ⟨vk, h3, h4⟩ := rd_run h h2
      exact mpLook_did hE h ht h1 h3 (by unfold execOp; rw [ho]) h4
    · cases hr
  · -- indexAddr
    rename_i t x i ho
    obtain ⟨v, h1, h2⟩ := rd_run h hr
    obtain ⟨u, h3, h4⟩ := rd_run h h2
    cases hp : E.psl t with
    | false =>
      rw [hp] at h4
      exact (indexAddr_pure hE h h1 h3 h4).did h (by unfold execOp; rw [ho])
    | true =>
      rw [hp] at h4
      exact plIx_did hE h hp h1 h3 (by unfold execOp; rw [ho]) h4
  · -- index
    rename_i t x i ho
    obtain ⟨v, h1, h2⟩ := rd_run h hr
    obtain ⟨u, h3, h4⟩ := rd_run h h2
    exact (index_pure hE h1 h3 h4).did h (by unfold execOp; rw [ho])
  · -- extract
    rename_i x i ho
    obtain ⟨v, h1, h2⟩ := rd_run h hr
    split at h2
    · rename_i y hy
      obtain ⟨vs, e1⟩ := tcons_tuple hy h1
      rw [e1] at h1
      obtain ⟨u, e2, e3⟩ := nth_rep i hy h1
      rw [ret_run h2]
      refine did_value (u := u) (w' := w) ?_ h e3
      unfold execOp; rw [ho]
      have e4 : vs.toArray[i]? = some u := by simpa using e2
      simp only [e1, Instr.extract, e4]
      rfl
    · cases h2
  · -- makeFunc
    rename_i g first cap ho
    split at hr
    · rename_i x h1 h2
      obtain rfl : first = #[] := Array.ext' (by simpa using h1)
      obtain rfl : cap = #[x] := Array.ext' (by simpa using h2)
      obtain ⟨v, h3, h4⟩ := rd_run h hr
      split at h4
      · rename_i τ y
        rw [ret_run h4]
        refine did_value (u := .func (.func g) #[] #[a.eval x]) (w' := w) ?_ h ⟨[a.eval x], rfl, _, [], rfl, h3, rfl⟩
        unfold execOp; rw [ho]
        simp [Instr.makeFunc]
      · cases h4
    · cases hr
  · -- call
    rename_i c ho
    obtain ⟨callee, args, ats⟩ := c
    dsimp only at hr
    split at hr
    · rename_i f hc
      split at hr
      · rename_i F hF
        cases hl : E.lnd (o.dst.getD 0) with
        | true => rw [hl] at hr; exact lend_did hE h hF ho hr
        | false => rw [hl] at hr; exact call_did hE h hF ho hr
      · cases hr
    · -- of a function that is a value
      rename_i t hc
      simp only [M.run] at hr
      split at hr
      · rename_i g x hs
        split at hr
        · rename_i F hF
          exact clo_did hE h hF ho hs hr
        · cases hr
      · cases hr
    · -- len
      rename_i x hargs
      split at hr
      · rename_i t hats
        obtain rfl : args = #[x] := Array.ext' (by simpa using hargs)
        obtain rfl : ats = #[t] := Array.ext' (by simpa using hats)
        obtain ⟨v, h1, h2⟩ := rd_run h hr
        cases hp : E.psl t with
        | false =>
          rw [hp, cond_false] at h2
          have hex : execOp a.eval o = (do pure (.value (← Builtin.len_ #[t] o.type #[a.eval x]))) := by
            rw [builtin_exec ho, show Array.map a.eval #[x] = #[a.eval x] by simp]; rfl
          cases hmt : E.mpt t with
          | some KV =>
            rw [hmt] at h2
            obtain ⟨K, V⟩ := KV
            exact mpLen_did hE h hmt h1 hex h2
          | none =>
            rw [hmt] at h2
            exact (len_pure (ty := o.type) hE h h1 h2).did h hex
        | true =>
          rw [hp] at h2
          simp only [cond_true] at h2
          split at h2
          · rename_i c
            obtain ⟨us, b, off, e1, e0, e2, e3⟩ := h1
            obtain ⟨te, ta, i, hd, _⟩ := hE.psl t hp
            split at h2
            case h_2 => cases h2
            rename_i n hn
            have hl := chain_len hn e3
            rw [ret_run h2]
            refine did_value (u := .int .i64 (us.length : Int)) (w' := w) ?_ h (RepV.int.2 ⟨by rw [← hl]; rfl, ?_⟩)
            · rw [builtin_exec ho, show Array.map a.eval #[x] = #[a.eval x] by simp, e1]
              show (do pure (.value (← Builtin.len_ #[t] o.type #[.slice (some ⟨b, off, none⟩) us.length us.length])) : Sem Next).run P w = _
              simp [Builtin.len_, run_underlying hd, goInt]
            · show (-9223372036854775808 : Int) ≤ (n : Int) ∧ (n : Int) < 9223372036854775808
              omega
          · cases h2
      · cases hr
    · -- clear
      rename_i x hargs
      split at hr
      · rename_i t hats
        obtain rfl : args = #[x] := Array.ext' (by simpa using hargs)
        obtain rfl : ats = #[t] := Array.ext' (by simpa using hats)
        obtain ⟨v, h1, h2⟩ := rd_run h hr
        refine clear_did (ty := o.type) hE h h1 ?_ h2
        rw [builtin_exec ho, show Array.map a.eval #[x] = #[a.eval x] by simp]; rfl
      · cases hr
    · -- cap
      rename_i x hargs
      split at hr
      · rename_i t hats
        split at hr
        · rename_i e ht
          obtain rfl : args = #[x] := Array.ext' (by simpa using hargs)
          obtain rfl : ats = #[t] := Array.ext' (by simpa using hats)
          obtain ⟨v, h1, h2⟩ := rd_run h hr
          obtain ⟨te, hd, hte⟩ := (hE.ty t _ ht).desc
          split at h2
          · have h1 : a.eval x = .slice none 0 0 := h1
            rw [ret_run h2]
            refine did_value (u := .int .i64 0) (w' := w) ?_ h (RepV.int.2 ⟨rfl, by simp [okI]⟩)
            rw [builtin_exec ho, show Array.map a.eval #[x] = #[a.eval x] by simp, h1]
            show (do pure (.value (← Builtin.cap_ #[t] o.type #[.slice none 0 0])) : Sem Next).run P w = _
            simp [Builtin.cap_, run_underlying hd, goInt]
          · cases h2
        · cases hr
      · cases hr
    · -- append
      rename_i x y hargs
      split at hr
      · rename_i t t' hats
        obtain rfl : args = #[x, y] := Array.ext' (by simpa using hargs)
        obtain rfl : ats = #[t, t'] := Array.ext' (by simpa using hats)
        obtain ⟨v, h1, h2⟩ := rd_run h hr
        obtain ⟨u, h3, h4⟩ := rd_run h h2
        have he : execOp a.eval o = (do pure (.value (← Builtin.append_ #[t, t'] o.type #[a.eval x, a.eval y]))) := by rw [builtin_exec ho, show Array.map a.eval #[x, y] = #[a.eval x, a.eval y] by simp]; rfl
        have core : ∀ {e : Ty} {ys : List e.D} {c : Bool} {rr : V × S}, E.ty t = some (.sl e) → (c = true → AppOk P E own w t t' o.type e (a.eval y) ys) → (appM (o.dst.getD 0) e v ys c).run σ = some rr → Did P N Z o a w rr.2 rr.1 := by
          intro e ys c rr ht hsrc h7
          unfold appM at h7
          split at h7
          · -- to nil
            have h1 : a.eval x = .slice none 0 0 := h1
            simp only [M.run] at h7
            obtain ⟨_, h8, h9⟩ := Option.map_eq_some_iff.1 h7
            subst h9
            rw [h1] at he
            have h8 := chk_some h8
            simp only [Bool.and_eq_true, decide_eq_true_eq] at h8
            exact appendNil_did hE h ht (hsrc h8.1) h8.2 he
          · rename_i s ver
            simp only [M.run] at h7
            split at h7
            · rename_i ver' e' xs m hm
              split at h7
              · rename_i eq; subst eq
                split at h7
                · rename_i xs' hx'
                  obtain ⟨eq, hx'⟩ := cast?_some hx'
                  cases eq
                  have hx' : xs = xs' := hx'
                  subst hx'
                  rw [h1.2 _ xs m hm] at he
                  split at h7
                  · simp only [M.run] at h7
                    obtain ⟨_, h8, h9⟩ := Option.map_eq_some_iff.1 h7
                    subst h9
                    have h8 := chk_some h8
                    simp only [Bool.and_eq_true, decide_eq_true_eq] at h8
                    exact append_did hE h ht hm (.inl rfl) (hsrc h8.1) h8.2 he
                  · simp only [M.run] at h7
                    obtain ⟨_, h8, h9⟩ := Option.map_eq_some_iff.1 h7
                    subst h9
                    have h8 := chk_some h8
                    simp only [Bool.and_eq_true, decide_eq_true_eq] at h8
                    exact append_did hE h ht hm (.inr rfl) (hsrc h8.1) h8.2 he
                  · cases h7
                  · cases h7
                  · cases h7
                · cases h7
              · cases h7
            · cases h7
          · cases h7
        unfold appendM at h4
        split at h4
        · rename_i e ht
          cases hi : isI64 (E.ty t') with
          | true =>
            rw [hi] at h4
            simp only [cond_true] at h4
            have hi : E.ty t' = some (.int .i64) := by
              unfold isI64 at hi
              split at hi
              · assumption
              · cases hi
            split at h4
            · rename_i n
              obtain ⟨e1, e2⟩ := RepS.int h3
              refine core ht (fun hc => ?_) h4
              simp only [Bool.and_eq_true, decide_eq_true_eq] at hc
              obtain ⟨te, hd, hte⟩ := (hE.ty t _ ht).desc
              have hT := hE.ty te e hte
              have hc1 : (0 : Int) ≤ (n : Int) := hc.1
              have hc2 : (n : Int) ≤ ((lim : Nat) : Int) := hc.2
              have hm : ((Int.toNat n : Nat) : Int) = n := Int.toNat_of_nonneg hc1
              have hml : Int.toNat n ≤ lim := by
                have h0 : ((Int.toNat n : Nat) : Int) ≤ ((lim : Nat) : Int) := by rw [hm]; exact hc2
                exact Int.ofNat_le.1 h0
              rw [e1]
              have := zero_app (own := own) (w := w) (t := t) (ty := o.type) (m := Int.toNat n) hE hi hml hT.isVal hT.good
              rw [hm] at this
              exact this
            · cases h4
          | false =>
            rw [hi] at h4
            obtain ⟨ys, h5, h6, h7⟩ := more_run hE h h3 h4
            exact core ht (fun _ => h5.app hE h6) h7
        · cases h4
      · cases hr
    · -- copy
      rename_i x y hargs
      split at hr
      · rename_i t t' hats
        obtain rfl : args = #[x, y] := Array.ext' (by simpa using hargs)
        obtain rfl : ats = #[t, t'] := Array.ext' (by simpa using hats)
        obtain ⟨v, h1, h2⟩ := rd_run h hr
        obtain ⟨u, h3, h4⟩ := rd_run h h2
        have he : execOp a.eval o = (do pure (.value (← Builtin.copy_ #[t, t'] o.type #[a.eval x, a.eval y]))) := by rw [builtin_exec ho, show Array.map a.eval #[x, y] = #[a.eval x, a.eval y] by simp]; rfl
        unfold copyM at h4
        split at h4
        · rename_i e ht
          obtain ⟨ys, h5, h6, h7⟩ := more_run hE h h3 h4
          split at h7
          · rename_i s ver
            simp only [M.run] at h7
            split at h7
            · rename_i ver' e' xs hm
              split at h7
              · rename_i eq; subst eq
                split at h7
                · rename_i ys' hy'
                  obtain ⟨eq, hy'⟩ := cast?_some hy'
                  cases eq
                  have hy' : ys = ys' := hy'
                  subst hy'
                  rw [h1.2 e xs .full hm] at he
                  obtain ⟨_, _, h9⟩ := fin_run h7
                  rw [h9]
                  exact copy_did hE h ht hm h5 he
                · cases h7
              · cases h7
            · cases h7
          · rename_i s ver lo
            simp only [M.run] at h7
            split at h7
            · rename_i ver' e' xs hm
              split at h7
              · rename_i eq; subst eq
                split at h7
                · rename_i ys' hy'
                  obtain ⟨eq, hy'⟩ := cast?_some hy'
                  cases eq
                  have hy' : ys = ys' := hy'
                  subst hy'
                  obtain ⟨q1, ad, cap, q2, q3⟩ := h1.2 e xs .full hm rfl
                  rw [q3] at he
                  obtain ⟨_, _, h9⟩ := fin_run h7
                  rw [h9]
                  exact copyWin_did hE h ht hm q1 q2 h5 he
                · cases h7
              · cases h7
            · cases h7
          · cases h7
        · cases h4
      · cases hr
    · -- min
      rename_i x y hargs
      obtain rfl : args = #[x, y] := Array.ext' (by simpa using hargs)
      obtain ⟨v, h1, h2⟩ := rd_run h hr
      obtain ⟨u, h3, h4⟩ := rd_run h h2
      refine (mm_pure (g := Builtin.min2) mnI_ok h1 h3 h4).did h ?_
      rw [builtin_exec ho, show Array.map a.eval #[x, y] = #[a.eval x, a.eval y] by simp]
      show (do pure (.value (← Builtin.min_ ats o.type #[a.eval x, a.eval y])) : Sem Next) = _
      simp [Builtin.min_]
    · -- max
      rename_i x y hargs
      obtain rfl : args = #[x, y] := Array.ext' (by simpa using hargs)
      obtain ⟨v, h1, h2⟩ := rd_run h hr
      obtain ⟨u, h3, h4⟩ := rd_run h h2
      refine (mm_pure (g := Builtin.max2) mxI_ok h1 h3 h4).did h ?_
      rw [builtin_exec ho, show Array.map a.eval #[x, y] = #[a.eval x, a.eval y] by simp]
      show (do pure (.value (← Builtin.max_ ats o.type #[a.eval x, a.eval y])) : Sem Next) = _
      simp [Builtin.max_]
    · cases hr
  · cases hr

end
end Go.Re
