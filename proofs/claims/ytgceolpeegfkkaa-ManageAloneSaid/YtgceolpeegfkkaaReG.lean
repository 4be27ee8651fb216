/- Reflection, part G: the table of types; operations that make no memory. -/
import Derived.Test.YtgceolpeegfkkaaReF
namespace Go.Re
set_option linter.unusedVariables false
set_option linter.unusedSimpArgs false
open Go.RowKit (Below)

/-! ### the table of types -/
def Ty.good : Ty → Bool
  | .int .i8 => false | .int .i16 => false
  | .pair a b => a.good && b.good | .st b => b.good | .sl e => e.good | .arr _ e => e.good
  | _ => true

def fieldsOk (ty : Nat → Option Ty) : (off : Nat) → List Field → Ty → Prop
  | _, [], .unit => True
  | off, f :: fs, .pair a b => f.offset = off ∧ ty f.type = some a ∧ 0 < a.size ∧ fieldsOk ty (off + a.size) fs b
  | _, _, _ => False

def descOk (P : Program) (ty : Nat → Option Ty) (t : Nat) : Ty → Prop
  | .bool => P.underlying t = some .bool
  | .str => P.underlying t = some .string
  | .int k => P.underlying t = some (.int k)
  | .sl e => ∃ te, P.underlying t = some (.slice te) ∧ ty te = some e
  | .arr n e => ∃ te, P.underlying t = some (.array n te) ∧ ty te = some e
  | .st b => ∃ fs, P.underlying t = some (.struct fs) ∧ fieldsOk ty 0 fs.toList b
  | _ => False

structure TyOk (P : Program) (ty : Nat → Option Ty) (t : Nat) (τ : Ty) : Prop where
  good : τ.good = true
  info : ∃ i, P.info? t = some i ∧ i.size = τ.size ∧ i.bytes ≤ 32768 ∧ i.zero = some (mkV τ (zeroC τ))
  desc : descOk P ty t τ

theorem TyOk.isVal {P : Program} {ty : Nat → Option Ty} {t : Nat} {τ : Ty} (h : TyOk P ty t τ) : τ.isVal = true := by
  have := h.desc
  cases τ <;> first | rfl | exact this.elim

theorem zero_rep {own : Own} {w : World} : ∀ {τ : Ty}, τ.good = true → RepC own w τ (zeroC τ) τ.zero
  | .bool, _ => rfl
  | .str, _ => ⟨⟨#[]⟩, rfl, rfl, Nat.zero_le _⟩
  | .unit, _ => rfl
  | .int k, h => by cases k <;> first | (simp [Ty.good] at h; done) | exact ⟨rfl, trivial⟩ | exact ⟨rfl, by simp [okI, Ty.zero]⟩
  | .pair a b, h => by
    simp only [Ty.good, Bool.and_eq_true] at h
    exact ⟨_, _, rfl, zero_rep h.1, zero_rep h.2⟩
  | .st b, h => zero_rep (τ := b) h
  | .sl e, _ => ⟨none, 0, rfl, Nat.le_refl _, by omega, Nat.zero_le _, .inl rfl⟩
  | .arr n e, h => by
    have ih := zero_rep (own := own) (w := w) (τ := e) h
    have hl := ih.length
    have hfl : ∀ n, ((List.replicate n (zeroC e)).flatten).length = n * e.size := by
      intro n; simp [List.length_flatten, hl]
    refine ⟨by simp [Ty.zero], hfl n, ?_⟩
    intro i hi
    have hi' : i < n := by simpa [Ty.zero] using hi
    have hx : (Ty.zero (.arr n e))[i] = e.zero := by simp [Ty.zero]
    rw [hx]
    have : List.take e.size (List.drop (i * e.size) (zeroC (.arr n e))) = zeroC e := by
      show List.take e.size (List.drop (i * e.size) (List.replicate n (zeroC e)).flatten) = zeroC e
      have e1 : n = i + (1 + (n - i - 1)) := by omega
      rw [e1, ← List.replicate_append_replicate, List.flatten_append, List.drop_append, List.drop_eq_nil_of_le (by rw [hfl]; exact Nat.le_refl _), hfl, Nat.sub_self, List.drop_zero, List.nil_append,
        ← List.replicate_append_replicate, List.flatten_append]
      simp [hl.symm]
    rw [this]; exact ih

/-! ### callees -/
/-- Where an argument lies that may be written: block, first cell, how many. -/
def inReg (r : Nat × Nat × Nat) (b o : Nat) : Prop := b = r.1 ∧ r.2.1 ≤ o ∧ o < r.2.1 + r.2.2

def IoR (own : Own) (w : World) (id : Nat) (reg : Nat × Nat × Nat) (p : Par) (v : Value) (x : p.ty.D) : Prop :=
  match p, x with
  | .val τ, x => RepV own w τ v x ∧ reg.2.2 = 0
  | .nils _, _ => v = .slice none 0 0 ∧ reg.2.2 = 0
  | .pv k, x => (∀ β mem, RepS own w β mem (k.V x) v) ∧ reg.2.2 = 0
  | .box τ, x => τ.isVal = true ∧ ∃ b o cs, v = .pointer (some ⟨b, o, none⟩) ∧ reg = (b, o, τ.size) ∧ RepC own w τ cs x ∧
      ∀ j u, cs[j]? = some u → own b (o + j) = some id ∧ w.cell? ⟨b, o + j, none⟩ = some u ∧ w.frozen? ⟨b, o + j, none⟩ = false
  | .row e, x => ∃ a cap, v = .slice a x.length cap ∧ x.length ≤ cap ∧ cap < 9223372036854775808 ∧ x.length ≤ big ∧
      ((a = none ∧ cap = 0 ∧ reg.2.2 = 0) ∨ ∃ b o, a = some ⟨b, o, none⟩ ∧ reg = (b, o, cap * e.size) ∧ RowR own w (some id) e b o x ∧ Free w b (o + cap * e.size) ∧
        ∀ j, o ≤ j → j < o + cap * e.size → own b j = some id ∧ (∃ v, w.cell? ⟨b, j, none⟩ = some v) ∧ w.frozen? ⟨b, j, none⟩ = false)
  | .take e, x => ∃ a cap, v = .slice a x.length cap ∧ x.length ≤ cap ∧ cap < 9223372036854775808 ∧ x.length ≤ big ∧
      ((a = none ∧ cap = 0 ∧ reg.2.2 = 0) ∨ ∃ b o, a = some ⟨b, o, none⟩ ∧ reg = (b, o, cap * e.size) ∧ RowR own w (some id) e b o x ∧ Free w b (o + cap * e.size) ∧
        ∀ j, o ≤ j → j < o + cap * e.size → own b j = some id ∧ (∃ v, w.cell? ⟨b, j, none⟩ = some v) ∧ w.frozen? ⟨b, j, none⟩ = false)

def ArgAll (own : Own) (w : World) (ids : Nat → Nat) (regs : Nat → Nat × Nat × Nat) : (i : Nat) → (ps : List Par) → List Value → Ds (ps.map Par.ty) → Prop
  | _, [], vs, _ => vs = []
  | i, [p], vs, x => ∃ v, vs = [v] ∧ IoR own w (ids i) (regs i) p v x
  | i, p :: q :: r, vs, x => ∃ v us, vs = v :: us ∧ IoR own w (ids i) (regs i) p v x.1 ∧ ArgAll own w ids regs (i + 1) (q :: r) us x.2

/-- What has become of the arguments that may be written. -/
def OutAll (own : Own) (w : World) (ids : Nat → Nat) (regs : Nat → Nat × Nat × Nat) : (i : Nat) → (ps : List Par) → List Value → Ds (ioTys ps) → Prop
  | _, [], _, _ => True
  | i, .val _ :: r, vs, y => OutAll own w ids regs (i + 1) r vs.tail y
  | i, .nils _ :: r, vs, y => OutAll own w ids regs (i + 1) r vs.tail y
  | i, .pv _ :: r, vs, y => OutAll own w ids regs (i + 1) r vs.tail y
  | i, .box τ :: r, vs, y => IoR own w (ids i) (regs i) (.box τ) (vs.headD undef) (dsH τ (ioTys r) y) ∧ OutAll own w ids regs (i + 1) r vs.tail (dsT τ (ioTys r) y)
  | i, .row e :: r, vs, y => IoR own w (ids i) (regs i) (.row e) (vs.headD undef) (dsH (.sl e) (ioTys r) y) ∧ OutAll own w ids regs (i + 1) r vs.tail (dsT (.sl e) (ioTys r) y)
  | i, .take _ :: r, vs, y => OutAll own w ids regs (i + 1) r vs.tail y

/-- A piece of a result; what is its own has the owner q, and lies in blocks from B on. -/
def RetC (own : Own) (w : World) (B q : Nat) (p : Ty × Mode) (u : Value) (x : p.1.D) : Prop :=
  match p, x with
  | (.sl e, .full), x => ∃ a cap, u = .slice a x.length cap ∧ x.length ≤ cap ∧ cap < 9223372036854775808 ∧ x.length ≤ big ∧
      ((a = none ∧ cap = 0) ∨ ∃ b o, a = some ⟨b, o, none⟩ ∧ (0 < cap * e.size → B ≤ b) ∧ RowR own w (some q) e b o x ∧ Free w b (o + cap * e.size) ∧
        ∀ j, o ≤ j → j < o + cap * e.size → own b j = some q ∧ (∃ v, w.cell? ⟨b, j, none⟩ = some v) ∧ w.frozen? ⟨b, j, none⟩ = false)
  | (.sl e, .tail), x => ∃ a cap, u = .slice a x.length cap ∧ x.length ≤ cap ∧ cap < 9223372036854775808 ∧ x.length ≤ big ∧
      (cap = 0 ∨ ∃ b o, a = some ⟨b, o, none⟩ ∧ RowR own w none e b o x ∧ (x.length * e.size < cap * e.size → B ≤ b) ∧
        ∀ j, o + x.length * e.size ≤ j → j < o + cap * e.size → own b j = some q ∧ (∃ v, w.cell? ⟨b, j, none⟩ = some v) ∧ w.frozen? ⟨b, j, none⟩ = false)
  | (.sl e, .mp), x => MapR B own w q u e x
  | (τ, _), x => RepV own w τ u x

def RetAll (own : Own) (w : World) (B : Nat) (rid : Nat → Nat) : (i : Nat) → (ps : List (Ty × Mode)) → List Value → Ds (ps.map (·.1)) → Prop
  | _, [], us, _ => us = []
  | i, [p], us, x => ∃ u, us = [u] ∧ RetC own w B (rid i) p u x
  | i, p :: p' :: r, us, x => ∃ u us', us = u :: us' ∧ RetC own w B (rid i) p u x.1 ∧ RetAll own w B rid (i + 1) (p' :: r) us' x.2

def retV : List Value → Value
  | [u] => u
  | us => .tuple us.toArray

/-- Function f of the program does what F tells: it reads what it was given, writes what it was given to write, and makes new memory. -/
structure FnOk (P : Program) (f : Nat) (F : Fun) : Prop where
  fn : ∃ fn, P.funcs[f]? = some fn ∧ fn.body.isNone = false ∧ (fn.name == "runtime.NumGoroutine") = false
  calls : ∀ (w : World) (own0 : Own) (ids rid : Nat → Nat) (regs : Nat → Nat × Nat × Nat) (vs : List Value) (x : Ds (F.args.map Par.ty)) r, ArgAll own0 w ids regs 0 F.args vs x →
    (∀ i j, i ≠ j → 0 < (regs i).2.2 → 0 < (regs j).2.2 → ids i ≠ ids j) → F.f x = some r →
    Calls P f vs.toArray w fun e w' => ∃ own us, e = .returned (retV us) ∧ Frm w.heap.size (fun b o => ∃ i, inReg (regs i) b o) w w' ∧
      (∀ b o, b < w.heap.size → (¬ ∃ i, inReg (regs i) b o) → own b o = own0 b o) ∧
      RetAll own w' w.heap.size rid 0 F.res us (dsL (F.res.map (·.1)) (ioTys F.args) r) ∧ OutAll own w' ids regs 0 F.args vs (dsR (F.res.map (·.1)) (ioTys F.args) r)

/-- Can values of the type be compared? -/
def eqAble (E : Env) (t : Nat) : Ty → Prop
  | .st _ => E.eq t = true
  | .arr _ (.int _) => E.eq t = true
  | .bool => True | .str => True | .int _ => True
  | _ => False

structure EnvOk (P : Program) (E : Env) : Prop where
  ty : ∀ t τ, E.ty t = some τ → TyOk P E.ty t τ
  eq : ∀ t, E.eq t = true → P.eqGuardType P.depth t = false ∧ P.stoodInHeld t = false ∧
    ∀ fs, P.underlying t = some (.struct fs) → ∀ f ∈ fs.toList, f.name ≠ "_" ∧ ∀ τ, E.ty f.type = some τ → eqAble E f.type τ
  fn : ∀ f F, E.fn f = some F → FnOk P f F
  ptr : ∀ t, E.ptr t = true → ∃ ta, P.underlying t = some (.pointer ta)
  psl : ∀ t, E.psl t = true → ∃ te ta i, P.underlying t = some (.slice te) ∧ P.underlying te = some (.pointer ta) ∧ P.info? te = some i ∧ i.size = 1 ∧ i.zero = some (.pointer none)
  mixed : P.follows .mixedOrders = true
  mpt : ∀ t K V, E.mpt t = some (K, V) → ∃ tk tv, P.underlying t = some (.map tk tv) ∧ E.ty tk = some K ∧ E.ty tv = some V
  parr : ∀ t n e, E.parr t = some (n, e) → ∃ ta te, P.underlying t = some (.pointer ta) ∧ P.underlying ta = some (.array n te) ∧ E.ty te = some e

/-! ### what an operation has done -/
def Did (P : Program) (N : Nat) (Z : Base) (o : Oper) (a : Act) (w : World) (σ' : S) (v : V) : Prop :=
  ∀ Q, o.wp P a w (fun a' w' => ∃ u, a' = a.put o.dst u ∧ ∃ own β, St N Z own β σ' a w' ∧ RepS own w' β σ'.mem v u) Q

section
variable {P : Program} {E : Env} {N : Nat} {Z : Base} {own : Own} {β : Conc} {σ : S} {a : Act} {w : World} {o : Oper}

theorem did_value {own' : Own} {β' : Conc} {σ' : S} {w' : World} {u : Value} {v : V} (hr : (execOp a.eval o).run P w = .ok (.value u) w') (hs : St N Z own' β' σ' a w')
    (hv : RepS own' w' β' σ'.mem v u) : Did P N Z o a w σ' v := by
  intro Q
  unfold Oper.wp
  rw [hr]
  exact ⟨u, rfl, own', β', hs, hv⟩

theorem did_skip {own' : Own} {β' : Conc} {σ' : S} {w' : World} (hr : (execOp a.eval o).run P w = .ok .skip w') (hs : St N Z own' β' σ' a w') : Did P N Z o a w σ' .dead := by
  intro Q
  unfold Oper.wp
  rw [hr]
  exact ⟨undef, rfl, own', β', hs, trivial⟩

/-- An operation whose value comes out of a run that leaves the world alone. -/
theorem run_v {s : Sem Value} {u : Value} {w' : World} (h : s.run P w = .ok u w') : ((do pure (.value (← s)) : Sem Next)).run P w = .ok (.value u) w' := by
  simp only [Sem.run_bind, h, Result.andThen_ok]; rfl

theorem run_u {s : Sem Unit} {w' : World} (h : s.run P w = .ok () w') : ((do s; pure .skip : Sem Next)).run P w = .ok .skip w' := by
  simp only [Sem.run_bind, h, Result.andThen_ok]; rfl

theorem ret_run {α : Type} {v : α} {r : α × S} (h : (M.ret v).run σ = some r) : r = (v, σ) := by
  simp only [M.ret, M.run, Option.map_some, Option.some.injEq, writes] at h; exact h.symm

theorem fin_run {α β : Type} {x : Option β} {g : β → α} {ws : Ws β} {r : α × S} (h : (M.fin β x g ws).run σ = some r) : ∃ y, x = some y ∧ r = (g y, writes σ y ws) := by
  simp only [M.run] at h
  obtain ⟨y, h1, h2⟩ := Option.map_eq_some_iff.1 h
  exact ⟨y, h1, h2.symm⟩

theorem chk_some {b : Bool} {y : Unit} (h : chk b = some y) : b = true := by
  unfold chk at h; cases b
  · cases h
  · rfl

/-! ### types' runs -/
theorem TyOk.cells {t : Nat} {τ : Ty} (h : TyOk P E.ty t τ) (w : World) : (sizeOf t).run P w = .ok τ.size w := by
  obtain ⟨i, h1, h2, _⟩ := h.info
  simp [sizeOf, typeInfo, h1, h2]

theorem TyOk.zeroRun {t : Nat} {τ : Ty} (h : TyOk P E.ty t τ) (w : World) : (zeroValue t).run P w = .ok (mkV τ (zeroC τ)) w := by
  obtain ⟨i, h1, h2, _, h3⟩ := h.info
  simp [zeroValue, typeInfo, h1, h3]

theorem TyOk.isAggRun {t : Nat} {τ : Ty} (h : TyOk P E.ty t τ) (w : World) : (isAgg t).run P w = .ok τ.isAgg w := by
  have hd := h.desc
  unfold isAgg
  cases τ with
  | bool => have hd : _ = _ := hd; simp [run_underlying hd, Ty.isAgg]
  | str => have hd : _ = _ := hd; simp [run_underlying hd, Ty.isAgg]
  | int k => have hd : _ = _ := hd; simp [run_underlying hd, Ty.isAgg]
  | sl e => obtain ⟨te, hd, _⟩ := hd; simp [run_underlying hd, Ty.isAgg]
  | arr n e => obtain ⟨te, hd, _⟩ := hd; simp [run_underlying hd, Ty.isAgg]
  | st b => obtain ⟨te, hd, _⟩ := hd; simp [run_underlying hd, Ty.isAgg]
  | unit => exact hd.elim
  | pair a b => exact hd.elim

/-- A variable is loaded. -/
theorem TyOk.load {t : Nat} {τ : Ty} (h : TyOk P E.ty t τ) {w : World} {own : Own} {b off : Nat} {cs : List Value} {x : τ.D} (hr : RepC own w τ cs x)
    (hc : ∀ j v, cs[j]? = some v → w.cell? ⟨b, off + j, none⟩ = some v) : (loadVar t ⟨b, off, none⟩).run P w = .ok (mkV τ cs) w := by
  unfold loadVar
  simp only [Sem.run_bind, h.isAggRun w, Result.andThen_ok]
  have hl := hr.length
  cases ha : τ.isAgg with
  | true =>
    simp only [if_true, Sem.run_bind, h.cells w, Result.andThen_ok]
    rw [run_loadCells_list' cs τ.size hl hc]
    simp [mkV, ha]
  | false =>
    simp only [Bool.false_eq_true, if_false, mkV, ha]
    have hv := h.isVal
    have : τ.size = 1 := by cases τ <;> first | rfl | (simp [Ty.isAgg] at ha; done) | (simp [Ty.isVal] at hv; done)
    match cs, hl, hc with
    | [v], _, hc =>
      have := hc 0 v rfl
      simp only [Nat.add_zero] at this
      simp [run_load, this]
    | [], hl, _ => simp at hl; omega
    | _ :: _ :: _, hl, _ => simp at hl; omega

/-- A variable is stored. -/
theorem TyOk.store {t : Nat} {τ : Ty} (h : TyOk P E.ty t τ) {w : World} {own : Own} {b off : Nat} {u : Value} {y : τ.D} (hr : RepV own w τ u y)
    (hc : ∀ j, j < τ.size → (∃ v, w.cell? ⟨b, off + j, none⟩ = some v) ∧ w.frozen? ⟨b, off + j, none⟩ = false) :
    ∃ w', (storeVar t ⟨b, off, none⟩ u).run P w = .ok () w' ∧ Wrote b off u.cells.toList w w' := by
  have hl := hr.cells.length
  have h1 := hr.cells.one
  obtain ⟨w', h2, h3⟩ := run_storeCells (P := P) (b := b) (o := off) u.cells.toList 0 w h1 (fun j hj => by rw [Nat.zero_add]; exact (hc j (by omega)).1) (fun j hj => by rw [Nat.zero_add]; exact (hc j (by omega)).2)
  refine ⟨w', ?_, h3⟩
  unfold storeVar
  have hsz : u.cells.size = τ.size := by rw [← hl, Array.length_toList]
  simp only [Sem.run_bind, h.cells w, Result.andThen_ok, hsz, ne_eq, not_true_eq_false, if_false]
  exact h2

/-- A part of a struct's value. -/
theorem TyOk.partRun {t : Nat} {τ : Ty} (h : TyOk P E.ty t τ) {w : World} {own : Own} {cs : List Value} {off : Nat} {y : τ.D} (hr : RepC own w τ ((cs.drop off).take τ.size) y) (hl : off + τ.size ≤ cs.length) :
    (Go.part t cs.toArray off).run P w = .ok (mkV τ ((cs.drop off).take τ.size)) w := by
  unfold Go.part
  simp only [Sem.run_bind, h.isAggRun w, Result.andThen_ok]
  cases ha : τ.isAgg with
  | true =>
    simp only [if_true, Sem.run_bind, h.cells w, Result.andThen_ok, Sem.run_pure, mkV, ha]
    congr 2
    apply Array.ext'
    rw [Array.toList_extract]
    simp [List.extract_eq_take_drop]
  | false =>
    have hv := h.isVal
    have h1 : τ.size = 1 := by cases τ <;> first | rfl | (simp [Ty.isAgg] at ha; done) | (simp [Ty.isVal] at hv; done)
    simp only [Bool.false_eq_true, if_false, mkV, ha]
    have hlt : off < cs.length := by omega
    rw [h1]
    have e : (cs.drop off).take 1 = [cs[off]] := by
      rw [List.drop_eq_getElem_cons hlt]; rfl
    rw [e]
    simp [hlt]

end
end Go.Re
