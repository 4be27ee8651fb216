/- Reflection, part D: what an abstract state says of a frame and a world; what stays when a world goes on. -/
import Derived.Test.YtgceolpeegfkkaaReC
namespace Go.Re
set_option linter.unusedVariables false
set_option linter.unusedSimpArgs false
open Go.RowKit (Below)

abbrev Conc := Nat → Value

def RepS (own : Own) (w : World) (β : Conc) (mem : Nat → Entry) : V → Value → Prop
  | .dead, _ => True
  | .val τ x, v => RepV own w τ v x
  | .nil, v => v = .slice none 0 0
  | .ptr s ver p, v => ver < nextVer (mem s) ∧ ∀ τ x, mem s = .box ver τ x → ∃ b o, β s = .pointer (some ⟨b, o, none⟩) ∧ v = .pointer (some ⟨b, o + offP τ p, none⟩)
  | .ref s ver, v => ver < nextVer (mem s) ∧ ∀ τ xs m, mem s = .own ver τ xs m → v = β s
  | .elp s ver i p, v => ver < nextVer (mem s) ∧ ∀ τ xs m, mem s = .own ver τ xs m → i < xs.length ∧
      ∃ b o n c, β s = .slice (some ⟨b, o, none⟩) n c ∧ v = .pointer (some ⟨b, o + i * τ.size + offP τ p, none⟩)
  | .rpt τ x, v => τ.isVal = true ∧ ∃ b o cs, v = .pointer (some ⟨b, o, none⟩) ∧
      (∀ j u, cs[j]? = some u → own b (o + j) = none ∧ w.cell? ⟨b, o + j, none⟩ = some u) ∧ RepC own w τ cs x
  | .nilq emp neg, v => ∃ b : Bool, v = .bool b ∧ (emp = false → b = neg)
  | .win s ver lo, v => ver < nextVer (mem s) ∧ ∀ τ xs m, mem s = .own ver τ xs m → m.isMp = false → lo ≤ xs.length ∧
      ∃ ad cap, β s = .slice ad xs.length cap ∧ v = .slice (if cap = lo then ad else ad.map (·.add (lo * τ.size))) (xs.length - lo) (cap - lo)
  | .pre s ver hi, v => ver < nextVer (mem s) ∧ ∀ τ xs m, mem s = .own ver τ xs m → m.isMp = false → hi ≤ xs.length ∧ ∃ ad cap, β s = .slice ad xs.length cap ∧ v = .slice ad hi cap
  | .plist t, v => ∃ us b o, v = .slice (some ⟨b, o, none⟩) us.length us.length ∧ us.length ≤ 65536 ∧ (∀ j u, us[j]? = some u → own b (o + j) = none ∧ w.cell? ⟨b, o + j, none⟩ = some u) ∧ RepS own w β mem t (.tuple (List.toArray us))
  | .pel x, v => ∃ b o u, v = .pointer (some ⟨b, o, none⟩) ∧ own b o = none ∧ w.cell? ⟨b, o, none⟩ = some u ∧ RepS own w β mem x u
  | .clo g t, v => ∃ us, v = .func (.func g) #[] (List.toArray us) ∧ RepS own w β mem t (.tuple (List.toArray us))
  | .zval τ x z, v => RepV own w τ v x ∧ ∀ q ∈ z, v.cells.toList[q.1]? = some (.slice none 0 0)
  | .tnil, v => v = .tuple #[]
  | .tcons a r, v => ∃ u us, v = .tuple (List.toArray (u :: us)) ∧ RepS own w β mem a u ∧ RepS own w β mem r (.tuple us.toArray)

/-- The elements of a row, its cells in one hand. -/
def RowR (own : Own) (w : World) (q : Option Nat) (e : Ty) (b o : Nat) (xs : List e.D) : Prop :=
  ∀ i (h : i < xs.length), ∃ es, es.length = e.size ∧
    (∀ j v, es[j]? = some v → own b (o + i * e.size + j) = q ∧ w.cell? ⟨b, o + i * e.size + j, none⟩ = some v) ∧ RepC own w e es xs[i]

/-- Where a call began: the world, the cells of it that it may write, the owners. -/
structure Base where
  w : World
  io : Nat → Nat → Prop
  own : Own
  /-- where what the function may write lies -/
  pin : Nat → Option Value := fun _ => none

/-- May the call write this cell? -/
def Base.wr (Z : Base) (b o : Nat) : Prop := Z.w.heap.size ≤ b ∨ Z.io b o

/-- Cells that may be written. -/
def TailR (Z : Base) (own : Own) (w : World) (s b lo hi : Nat) : Prop :=
  ∀ j, lo ≤ j → j < hi → own b j = some s ∧ Z.wr b j ∧ (∃ v, w.cell? ⟨b, j, none⟩ = some v) ∧ w.frozen? ⟨b, j, none⟩ = false

def Mode.owner (m : Mode) (s : Nat) : Option Nat :=
  match m with
  | .full => some s | .gb _ => some s | .tail => none | .view => none | .mp => none

/-- Two stretches of cells have none in common. -/
def Apart (r r' : Nat × Nat × Nat) : Prop := ∀ j, r.1 = r'.1 → r.2.1 ≤ j → j < r.2.2 → r'.2.1 ≤ j → j < r'.2.2 → False

/-- Slices that lie in a variable of one's own, and the room behind them. -/
def GrowR (Z : Base) (own : Own) (w : World) (s b lo hi : Nat) (l : List (Nat × Nat)) : Prop :=
  ∃ reg : Nat → Nat × Nat × Nat, ∀ q ∈ l, lo + q.1 < hi ∧
    (∃ a n c, w.cell? ⟨b, lo + q.1, none⟩ = some (.slice a n c) ∧ ((c = 0 ∧ reg q.1 = (0, 0, 0)) ∨ ∃ b' o', a = some ⟨b', o', none⟩ ∧ reg q.1 = (b', o' + n * q.2, o' + c * q.2))) ∧
    TailR Z own w s (reg q.1).1 (reg q.1).2.1 (reg q.1).2.2 ∧ Apart (reg q.1) (b, lo, hi) ∧ ∀ q' ∈ l, q'.1 ≠ q.1 → Apart (reg q.1) (reg q'.1)

/-- A block's size and its frozen part. -/
def shp (w : World) (b : Nat) : Option (Nat × (Nat × Nat)) :=
  match w.heap[b]? with
  | some (.cells c _ fz) => some (c.size, fz)
  | _ => none

/-- Nothing of a block is frozen. -/
def Free (w : World) (b n : Nat) : Prop := ∃ k fz, shp w b = some (k, fz) ∧ n ≤ k ∧ (fz = (0, 0) ∨ fz = (k, k + 1))

def Mode.rest (m : Mode) (Z : Base) (own : Own) (w : World) (s b o n cap sz : Nat) : Prop :=
  match m with
  | .full => Free w b (o + cap * sz) ∧ TailR Z own w s b o (o + cap * sz)
  | .gb l => (Free w b (o + cap * sz) ∧ TailR Z own w s b o (o + cap * sz)) ∧ GrowR Z own w s b o (o + cap * sz) l ∧ cap = 1
  | .tail => TailR Z own w s b (o + n * sz) (o + cap * sz)
  | .view => True
  | .mp => True

/-- The cells of a box. -/
def BoxR (Z : Base) (own : Own) (w : World) (s b o : Nat) (cs : List Value) : Prop :=
  ∀ j v, cs[j]? = some v → own b (o + j) = some s ∧ Z.wr b (o + j) ∧ w.cell? ⟨b, o + j, none⟩ = some v ∧ w.frozen? ⟨b, o + j, none⟩ = false

/-- The pairs of a map. -/
def MapC (own : Own) (w : World) (K V : Ty) (es : Array MapEntry) (xs : List (K.D × V.D)) : Prop :=
  es.size = xs.length ∧ xs.length ≤ lim ∧ ∀ i (h : i < xs.length), ∃ e, es[i]? = some e ∧ RepV own w K e.key xs[i].1 ∧ RepV own w V e.val xs[i].2

/-- A map of one's own: its block. -/
def MapR (B : Nat) (own : Own) (w : World) (s : Nat) (u : Value) : (τ : Ty) → List τ.D → Prop
  | .pair K V, xs => ∃ r es c, u = .map (some r) ∧ B ≤ r ∧ own r 0 = some s ∧ w.heap[r]? = some (.map es c) ∧ MapC own w K V es xs
  | _, _ => False

def RepE (Z : Base) (own : Own) (w : World) (β : Conc) (s : Nat) : Entry → Prop
  | .none => True
  | .gone _ => True
  | .own _ τ xs .mp => MapR Z.w.heap.size own w s (β s) τ xs
  | .box _ τ x => τ.isVal = true ∧ ∃ b o cs, β s = .pointer (some ⟨b, o, none⟩) ∧ BoxR Z own w s b o cs ∧ RepC own w τ cs x
  | .own _ τ xs m => ∃ a cap, β s = .slice a xs.length cap ∧ xs.length ≤ cap ∧ cap < 9223372036854775808 ∧ xs.length ≤ big ∧
      ((cap = 0 ∧ (m = .full → a = none)) ∨ ∃ b o, a = some ⟨b, o, none⟩ ∧ RowR own w (m.owner s) τ b o xs ∧ m.rest Z own w s b o xs.length cap τ.size)

/-- Of the first n blocks only the cells 'io' may have turned. -/
structure Frm (n : Nat) (io : Nat → Nat → Prop) (w w' : World) : Prop where
  os : w'.os = w.os
  tape : w'.tape = w.tape
  output : w'.output = w.output
  size : w.heap.size ≤ w'.heap.size
  cell : ∀ b o, b < n → ¬ io b o → w'.cell? ⟨b, o, none⟩ = w.cell? ⟨b, o, none⟩
  live : ∀ b o v, b < n → w.cell? ⟨b, o, none⟩ = some v → (∃ v', w'.cell? ⟨b, o, none⟩ = some v') ∧ w'.frozen? ⟨b, o, none⟩ = w.frozen? ⟨b, o, none⟩
  shape : ∀ b k, b < n → Free w b k → Free w' b k
  block : ∀ b, b < n → (∀ o, ¬ io b o) → w'.heap[b]? = w.heap[b]?

/-- Is it what a function was given? -/
def ver0 : Entry → Bool
  | .box 0 _ _ => true
  | .own 0 _ _ _ => true
  | _ => false

structure St (N : Nat) (Z : Base) (own : Own) (β : Conc) (σ : S) (a : Act) (w : World) : Prop where
  frame : Frm Z.w.heap.size Z.io Z.w w
  old : ∀ b o, b < Z.w.heap.size → ¬ Z.io b o → own b o = Z.own b o
  size : a.tmps.size = N
  defers : a.defers = []
  slots : ∀ t, RepS own w β σ.mem (σ.slots t) (a.tmps.getD t undef)
  mems : ∀ s, RepE Z own w β s (σ.mem s)
  pins : ∀ s v, Z.pin s = some v → ver0 (σ.mem s) = true → β s = v

def StE (N : Nat) (Z : Base) (σ : S) (a : Act) (w : World) : Prop := ∃ own β, St N Z own β σ a w

theorem Frm.refl (n : Nat) (io : Nat → Nat → Prop) (w : World) : Frm n io w w := ⟨rfl, rfl, rfl, Nat.le_refl _, fun _ _ _ _ => rfl, fun _ _ v _ h => ⟨⟨v, h⟩, rfl⟩, fun _ _ _ h => h, fun _ _ _ => rfl⟩
theorem Frm.trans {n : Nat} {io : Nat → Nat → Prop} {w w' w'' : World} (h : Frm n io w w') (k : Frm n io w' w'') : Frm n io w w'' :=
  ⟨k.os.trans h.os, k.tape.trans h.tape, k.output.trans h.output, Nat.le_trans h.size k.size, fun b o h1 h2 => (k.cell b o h1 h2).trans (h.cell b o h1 h2),
    fun b o v h1 h2 => let ⟨⟨v', h3⟩, h4⟩ := h.live b o v h1 h2; let ⟨h5, h6⟩ := k.live b o v' h1 h3; ⟨h5, h6.trans h4⟩, fun b x h1 h2 => k.shape b x h1 (h.shape b x h1 h2), fun b h1 h2 => (k.block b h1 h2).trans (h.block b h1 h2)⟩
theorem Frm.below {n : Nat} {w w' : World} (h : Frm n (fun _ _ => False) w w') : Below n w w' := ⟨h.os, h.tape, h.output, h.size, fun b hb => h.block b hb fun _ => id⟩

/-! ### going on -/
structure Evo (β β' : Conc) (s : Nat) (e e' : Entry) : Prop where
  le : nextVer e ≤ nextVer e'
  box : ∀ ver τ x', e' = .box ver τ x' → ver < nextVer e → β' s = β s ∧ ∃ x, e = .box ver τ x
  own : ∀ ver τ xs' m', e' = .own ver τ xs' m' → ver < nextVer e → β' s = β s ∧ ∃ xs m, e = .own ver τ xs m ∧ xs.length ≤ xs'.length ∧ m.isMp = m'.isMp ∧ (m'.isMp = false → xs.length = xs'.length)

theorem Evo.same {β β' : Conc} {s : Nat} (e : Entry) (h : β' s = β s) : Evo β β' s e e :=
  ⟨Nat.le_refl _, fun _ _ _ he _ => ⟨h, _, he⟩, fun _ _ _ _ he _ => ⟨h, _, _, he, Nat.le_refl _, rfl, fun _ => rfl⟩⟩
theorem Evo.newBox {β β' : Conc} {s : Nat} (e : Entry) (τ : Ty) (x : τ.D) : Evo β β' s e (.box (nextVer e) τ x) :=
  ⟨by simp [nextVer], fun ver _ _ he hv => by (cases he; omega), fun _ _ _ _ he _ => by (cases he)⟩
theorem Evo.newOwn {β β' : Conc} {s : Nat} (e : Entry) (τ : Ty) (xs : List τ.D) (m : Mode) : Evo β β' s e (.own (nextVer e) τ xs m) :=
  ⟨by simp [nextVer], fun _ _ _ he _ => by (cases he), fun ver _ _ _ he hv => by (cases he; omega)⟩
theorem Evo.setBox {β β' : Conc} {s ver : Nat} {τ : Ty} {x x' : τ.D} (h : β' s = β s) : Evo β β' s (.box ver τ x) (.box ver τ x') :=
  ⟨Nat.le_refl _, fun _ _ _ he _ => by (cases he; exact ⟨h, _, rfl⟩), fun _ _ _ _ he _ => by (cases he)⟩
theorem Evo.setOwn {β β' : Conc} {s ver : Nat} {τ : Ty} {xs xs' : List τ.D} {m m' : Mode} (h : β' s = β s) (hl : xs.length = xs'.length) (hm : m.isMp = m'.isMp := by rfl) : Evo β β' s (.own ver τ xs m) (.own ver τ xs' m') :=
  ⟨Nat.le_refl _, fun _ _ _ he _ => by (cases he), fun _ _ _ _ he _ => by (cases he; exact ⟨h, _, _, rfl, Nat.le_of_eq hl, hm, fun _ => hl⟩)⟩
theorem Evo.setMp {β β' : Conc} {s ver : Nat} {τ : Ty} {xs xs' : List τ.D} (h : β' s = β s) (hl : xs.length ≤ xs'.length) : Evo β β' s (.own ver τ xs .mp) (.own ver τ xs' .mp) :=
  ⟨Nat.le_refl _, fun _ _ _ he _ => by (cases he), fun _ _ _ _ he _ => by (cases he; exact ⟨h, _, _, rfl, hl, rfl, fun h => by cases h⟩)⟩
theorem Evo.gone {β β' : Conc} {s ver : Nat} {τ : Ty} {xs : List τ.D} {m : Mode} : Evo β β' s (.own ver τ xs m) (.gone ver) :=
  ⟨Nat.le_refl _, fun _ _ _ he _ => by (cases he), fun _ _ _ _ he _ => by (cases he)⟩
theorem Evo.trans {β β' β'' : Conc} {s : Nat} {e e' e'' : Entry} (h : Evo β β' s e e') (k : Evo β' β'' s e' e'') : Evo β β'' s e e'' where
  le := Nat.le_trans h.le k.le
  box ver τ x' he hv := by
    obtain ⟨h1, x, h2⟩ := k.box ver τ x' he (Nat.lt_of_lt_of_le hv h.le)
    obtain ⟨h3, x0, h4⟩ := h.box ver τ x h2 hv
    exact ⟨h1.trans h3, x0, h4⟩
  own ver τ xs' m' he hv := by
    obtain ⟨h1, x, m, h2, h2', h2a, h2b⟩ := k.own ver τ xs' m' he (Nat.lt_of_lt_of_le hv h.le)
    obtain ⟨h3, x0, m0, h4, h4', h4a, h4b⟩ := h.own ver τ x m h2 hv
    exact ⟨h1.trans h3, x0, m0, h4, Nat.le_trans h4' h2', h4a.trans h2a, fun hf => (h4b (h2a.trans hf)).trans (h2b hf)⟩

theorem RepS.go {own own' : Own} {w w' : World} {β β' : Conc} {mem mem' : Nat → Entry} (k : Keeps own own' w w') (hm : ∀ s, Evo β β' s (mem s) (mem' s)) :
    ∀ {v : V} {u : Value}, RepS own w β mem v u → RepS own' w' β' mem' v u
  | .dead, _, _ => trivial
  | .val τ x, _, h => RepV.keeps k h
  | .nil, _, h => h
  | .ptr s ver p, _, ⟨h1, h2⟩ => ⟨Nat.lt_of_lt_of_le h1 (hm s).le, fun τ x e => by
      obtain ⟨e1, x0, e2⟩ := (hm s).box ver τ x e h1
      rw [e1]; exact h2 τ x0 e2⟩
  | .ref s ver, _, ⟨h1, h2⟩ => ⟨Nat.lt_of_lt_of_le h1 (hm s).le, fun τ xs m e => by
      obtain ⟨e1, x0, m0, e2, _⟩ := (hm s).own ver τ xs m e h1
      rw [e1]; exact h2 τ x0 m0 e2⟩
  | .elp s ver i p, _, ⟨h1, h2⟩ => ⟨Nat.lt_of_lt_of_le h1 (hm s).le, fun τ xs m e => by
      obtain ⟨e1, x0, m0, e2, e3, _⟩ := (hm s).own ver τ xs m e h1
      obtain ⟨g1, g2⟩ := h2 τ x0 m0 e2
      rw [e1]; exact ⟨Nat.lt_of_lt_of_le g1 e3, g2⟩⟩
  | .rpt τ x, _, ⟨hv, b, o, cs, h1, h2, h3⟩ => ⟨hv, b, o, cs, h1, fun j u e => k _ _ _ (h2 j u e).1 (h2 j u e).2, h3.keeps k⟩
  | .nilq _ _, _, h => h
  | .win s ver lo, _, ⟨h1, h2⟩ => ⟨Nat.lt_of_lt_of_le h1 (hm s).le, fun τ xs m e hf => by
      obtain ⟨e1, x0, m0, e2, _, e4, e3⟩ := (hm s).own ver τ xs m e h1
      rw [e1, ← e3 hf]; exact h2 τ x0 m0 e2 (e4.trans hf)⟩
  | .pre s ver hi, _, ⟨h1, h2⟩ => ⟨Nat.lt_of_lt_of_le h1 (hm s).le, fun τ xs m e hf => by
      obtain ⟨e1, x0, m0, e2, _, e4, e3⟩ := (hm s).own ver τ xs m e h1
      rw [e1, ← e3 hf]; exact h2 τ x0 m0 e2 (e4.trans hf)⟩
  | .plist t, _, ⟨us, b, o, h1, h0, h2, h3⟩ => ⟨us, b, o, h1, h0, fun j u e => k _ _ _ (h2 j u e).1 (h2 j u e).2, RepS.go k hm h3⟩
  | .pel x, _, ⟨b, o, u, h1, h2, h3, h4⟩ => ⟨b, o, u, h1, (k _ _ _ h2 h3).1, (k _ _ _ h2 h3).2, RepS.go k hm h4⟩
  | .clo g t, _, ⟨us, h1, h2⟩ => ⟨us, h1, RepS.go k hm h2⟩
  | .zval τ x z, _, h => ⟨RepV.keeps k h.1, h.2⟩
  | .tnil, _, h => h
  | .tcons a r, _, ⟨u, us, h1, h2, h3⟩ => ⟨u, us, h1, RepS.go k hm h2, RepS.go k hm h3⟩

/-- What is no datum, and is only read. -/
theorem PK.indep {own : Own} {w : World} {β β' : Conc} {mem mem' : Nat → Entry} {k : PK} {x : k.ty.D} {u : Value} (h : RepS own w β mem (k.V x) u) : RepS own w β' mem' (k.V x) u := by
  cases k with
  | rp τ => exact h
  | clo g τ => exact h
theorem PK.read_some {k : PK} {v : Re.V} {x : k.ty.D} (h : k.read v = some x) : v = k.V x := by
  cases k with
  | rp τ =>
    cases v with
    | rpt τ' x' =>
      obtain ⟨e, h⟩ := cast?_some (show cast? τ' τ x' = some x from h)
      subst e; subst h
      rfl
    | _ => cases h
  | clo g τ =>
    cases v with
    | clo g' t =>
      cases t with
      | tcons y r =>
        cases y with
        | rpt τ' x' =>
          cases r with
          | tnil =>
            have h2 : (bif Nat.beq g g' then cast? τ' τ x' else none) = some x := h
            clear h
            cases hb : Nat.beq g g' with
            | false => rw [hb] at h2; cases h2
            | true =>
              rw [hb] at h2
              have hb := Nat.eq_of_beq_eq_true hb
              obtain ⟨e, h3⟩ := cast?_some h2
              subst hb; subst e; subst h3
              rfl
          | _ => cases h
        | _ => cases h
      | _ => cases h
    | _ => cases h

/-- What one site owns stays. -/
def OwnKeeps (s : Nat) (own own' : Own) (w w' : World) : Prop :=
  (∀ b o v, own b o = some s → w.cell? ⟨b, o, none⟩ = some v → own' b o = some s ∧ w'.cell? ⟨b, o, none⟩ = some v ∧ w'.frozen? ⟨b, o, none⟩ = w.frozen? ⟨b, o, none⟩) ∧
  ∀ r es c, own r 0 = some s → w.heap[r]? = some (.map es c) → own' r 0 = some s ∧ w'.heap[r]? = some (.map es c)

theorem OwnKeeps.refl (s : Nat) (own : Own) (w : World) : OwnKeeps s own own w w := ⟨fun _ _ _ h1 h2 => ⟨h1, h2, rfl⟩, fun _ _ _ h1 h2 => ⟨h1, h2⟩⟩

theorem RowR.keeps {own own' : Own} {w w' : World} {q : Option Nat} {e : Ty} {b o : Nat} {xs : List e.D} (k : Keeps own own' w w')
    (hq : ∀ b o v, own b o = q → w.cell? ⟨b, o, none⟩ = some v → own' b o = q ∧ w'.cell? ⟨b, o, none⟩ = some v) (h : RowR own w q e b o xs) : RowR own' w' q e b o xs :=
  fun i hi => let ⟨es, h1, h2, h3⟩ := h i hi
    ⟨es, h1, fun j v hv => hq _ _ _ (h2 j v hv).1 (h2 j v hv).2, h3.keeps k⟩

theorem TailR.keeps {Z : Base} {own own' : Own} {w w' : World} {s b lo hi : Nat} (k : OwnKeeps s own own' w w') (h : TailR Z own w s b lo hi) : TailR Z own' w' s b lo hi :=
  fun j h1 h2 => by
    obtain ⟨h3, hw, ⟨v, h4⟩, h5⟩ := h j h1 h2
    obtain ⟨h6, h7, h8⟩ := k.1 b j v h3 h4
    exact ⟨h6, hw, ⟨v, h7⟩, h8.trans h5⟩

theorem GrowR.keeps {Z : Base} {own own' : Own} {w w' : World} {s b lo hi : Nat} {l : List (Nat × Nat)} (k : OwnKeeps s own own' w w') (ht : TailR Z own w s b lo hi) (h : GrowR Z own w s b lo hi l) : GrowR Z own' w' s b lo hi l := by
  obtain ⟨reg, h⟩ := h
  refine ⟨reg, fun q hq => ?_⟩
  obtain ⟨h0, ⟨a, n, c, h1, h2⟩, h3, h4, h5⟩ := h q hq
  exact ⟨h0, ⟨a, n, c, (k.1 _ _ _ (ht _ (by omega) h0).1 h1).2.1, h2⟩, h3.keeps k, h4, h5⟩

/-- Blocks keep their size and their frozen part. -/
def ShpKeeps (w w' : World) : Prop := ∀ b k, Free w b k → Free w' b k

theorem Mode.rest.keeps {m : Mode} {Z : Base} {own own' : Own} {w w' : World} {s b o n cap sz : Nat} (k : OwnKeeps s own own' w w') (kh : ShpKeeps w w') (h : m.rest Z own w s b o n cap sz) : m.rest Z own' w' s b o n cap sz := by
  cases m with
  | full => exact ⟨kh _ _ h.1, h.2.keeps k⟩
  | gb l => exact ⟨⟨kh _ _ h.1.1, h.1.2.keeps k⟩, GrowR.keeps k h.1.2 h.2.1, h.2.2⟩
  | tail => exact TailR.keeps k h
  | view => trivial
  | mp => trivial

theorem BoxR.keeps {Z : Base} {own own' : Own} {w w' : World} {s b o : Nat} {cs : List Value} (ks : OwnKeeps s own own' w w') (h : BoxR Z own w s b o cs) : BoxR Z own' w' s b o cs := fun j v e => by
  obtain ⟨e1, e0, e2, e3⟩ := h j v e
  obtain ⟨e4, e5, e6⟩ := ks.1 b (o + j) v e1 e2
  exact ⟨e4, e0, e5, e6.trans e3⟩

theorem MapC.keeps {own own' : Own} {w w' : World} (k : Keeps own own' w w') {K V : Ty} {es : Array MapEntry} {xs : List (K.D × V.D)} (h : MapC own w K V es xs) : MapC own' w' K V es xs :=
  ⟨h.1, h.2.1, fun i hi => let ⟨e, h1, h2, h3⟩ := h.2.2 i hi; ⟨e, h1, h2.keeps k, h3.keeps k⟩⟩

theorem MapR.keeps {B : Nat} {own own' : Own} {w w' : World} {s : Nat} {u : Value} (k : Keeps own own' w w') (ks : OwnKeeps s own own' w w') : ∀ {τ : Ty} {xs : List τ.D}, MapR B own w s u τ xs → MapR B own' w' s u τ xs
  | .pair K V, xs, ⟨r, es, c, h1, h2, h3, h4, h5⟩ => let ⟨h6, h7⟩ := ks.2 r es c h3 h4; ⟨r, es, c, h1, h2, h6, h7, h5.keeps k⟩
  | .bool, _, h => h.elim
  | .str, _, h => h.elim
  | .unit, _, h => h.elim
  | .int _, _, h => h.elim
  | .st _, _, h => h.elim
  | .sl _, _, h => h.elim
  | .arr _ _, _, h => h.elim

theorem MapR.val {B : Nat} {own : Own} {w : World} {s : Nat} {u : Value} : ∀ {τ : Ty} {xs : List τ.D}, MapR B own w s u τ xs → ∃ r, u = .map (some r)
  | .pair K V, xs, ⟨r, es, c, h1, _⟩ => ⟨r, h1⟩
  | .bool, _, h => h.elim
  | .str, _, h => h.elim
  | .unit, _, h => h.elim
  | .int _, _, h => h.elim
  | .st _, _, h => h.elim
  | .sl _, _, h => h.elim
  | .arr _ _, _, h => h.elim

theorem MapR.base {B B' : Nat} {own : Own} {w : World} {s : Nat} {u : Value} (hB : B' ≤ B) : ∀ {τ : Ty} {xs : List τ.D}, MapR B own w s u τ xs → MapR B' own w s u τ xs
  | .pair K V, xs, ⟨r, es, c, h1, h2, h3⟩ => ⟨r, es, c, h1, Nat.le_trans hB h2, h3⟩
  | .bool, _, h => h.elim
  | .str, _, h => h.elim
  | .unit, _, h => h.elim
  | .int _, _, h => h.elim
  | .st _, _, h => h.elim
  | .sl _, _, h => h.elim
  | .arr _ _, _, h => h.elim

/-- A row of one's own, as it lies. -/
def RowE (Z : Base) (own : Own) (w : World) (β : Conc) (s : Nat) (τ : Ty) (xs : List τ.D) (m : Mode) : Prop :=
  ∃ a cap, β s = .slice a xs.length cap ∧ xs.length ≤ cap ∧ cap < 9223372036854775808 ∧ xs.length ≤ big ∧
      ((cap = 0 ∧ (m = .full → a = none)) ∨ ∃ b o, a = some ⟨b, o, none⟩ ∧ RowR own w (m.owner s) τ b o xs ∧ m.rest Z own w s b o xs.length cap τ.size)

theorem RepE.row {Z : Base} {own : Own} {w : World} {β : Conc} {s ver : Nat} {τ : Ty} {xs : List τ.D} {m : Mode} (hm : m.isMp = false) (h : RepE Z own w β s (.own ver τ xs m)) : RowE Z own w β s τ xs m := by
  cases m with
  | mp => cases hm
  | full => exact h
  | tail => exact h
  | view => exact h
  | gb l => exact h
theorem RepE.rowV {Z : Base} {own : Own} {w : World} {β : Conc} {s ver : Nat} {τ : Ty} {xs : List τ.D} {m : Mode} {ad : Option Addr} {n c : Nat} (hb : β s = .slice ad n c) (h : RepE Z own w β s (.own ver τ xs m)) : m.isMp = false ∧ RowE Z own w β s τ xs m := by
  cases m with
  | mp =>
    obtain ⟨r, hr⟩ := MapR.val h
    rw [hr] at hb; cases hb
  | full => exact ⟨rfl, h⟩
  | tail => exact ⟨rfl, h⟩
  | view => exact ⟨rfl, h⟩
  | gb l => exact ⟨rfl, h⟩
theorem RepE.ver {Z : Base} {own : Own} {w : World} {β : Conc} {s ver ver' : Nat} {τ : Ty} {xs : List τ.D} {m : Mode} (h : RepE Z own w β s (.own ver τ xs m)) : RepE Z own w β s (.own ver' τ xs m) := by
  cases m <;> exact h
theorem RepE.ofRow {Z : Base} {own : Own} {w : World} {β : Conc} {s ver : Nat} {τ : Ty} {xs : List τ.D} {m : Mode} (hm : m.isMp = false) (h : RowE Z own w β s τ xs m) : RepE Z own w β s (.own ver τ xs m) := by
  cases m with
  | mp => cases hm
  | full => exact h
  | tail => exact h
  | view => exact h
  | gb l => exact h

theorem RepE.keeps {Z : Base} {own own' : Own} {w w' : World} {β β' : Conc} {s : Nat} (k : Keeps own own' w w') (ks : OwnKeeps s own own' w w') (kh : ShpKeeps w w') (hβ : β' s = β s) :
    ∀ {e : Entry}, RepE Z own w β s e → RepE Z own' w' β' s e
  | .none, _ => trivial
  | .gone _, _ => trivial
  | .box _ τ x, ⟨hv, b, o, cs, h1, h3, h4⟩ => ⟨hv, b, o, cs, hβ.trans h1, h3.keeps ks, h4.keeps k⟩
  | .own _ τ xs .mp, h => by
    show MapR _ _ _ _ _ _ _
    rw [hβ]; exact MapR.keeps k ks h
  | .own _ τ xs .full, ⟨a, cap, h1, h2, h3, h4, h5⟩ => ⟨a, cap, hβ.trans h1, h2, h3, h4, h5.imp id fun ⟨b, o, h6, h7, h8⟩ => ⟨b, o, h6, h7.keeps k (fun b o v e1 e2 => ⟨(ks.1 b o v e1 e2).1, (ks.1 b o v e1 e2).2.1⟩), h8.keeps ks kh⟩⟩
  | .own _ τ xs (.gb l), ⟨a, cap, h1, h2, h3, h4, h5⟩ => ⟨a, cap, hβ.trans h1, h2, h3, h4, h5.imp id fun ⟨b, o, h6, h7, h8⟩ => ⟨b, o, h6, h7.keeps k (fun b o v e1 e2 => ⟨(ks.1 b o v e1 e2).1, (ks.1 b o v e1 e2).2.1⟩), h8.keeps ks kh⟩⟩
  | .own _ τ xs .tail, ⟨a, cap, h1, h2, h3, h4, h5⟩ => ⟨a, cap, hβ.trans h1, h2, h3, h4, h5.imp id fun ⟨b, o, h6, h7, h8⟩ => ⟨b, o, h6, h7.keeps k (fun b o v e1 e2 => k b o v e1 e2), h8.keeps ks kh⟩⟩
  | .own _ τ xs .view, ⟨a, cap, h1, h2, h3, h4, h5⟩ => ⟨a, cap, hβ.trans h1, h2, h3, h4, h5.imp id fun ⟨b, o, h6, h7, h8⟩ => ⟨b, o, h6, h7.keeps k (fun b o v e1 e2 => k b o v e1 e2), h8.keeps ks kh⟩⟩

theorem nextVer_pos (e : Entry) : 0 < nextVer e := by cases e <;> simp [nextVer]

theorem Evo.pin {β β' : Conc} {s : Nat} {e e' : Entry} (h : Evo β β' s e e') (h0 : ver0 e' = true) : β' s = β s ∧ ver0 e = true := by
  unfold ver0 at h0
  split at h0
  · obtain ⟨h1, x, h2⟩ := h.box 0 _ _ rfl (nextVer_pos e)
    exact ⟨h1, by rw [h2]; rfl⟩
  · obtain ⟨h1, x, m, h2, _⟩ := h.own 0 _ _ _ rfl (nextVer_pos e)
    exact ⟨h1, by rw [h2]; rfl⟩
  · cases h0

/-- One step: the world goes on, the memory with it, the slots stay. -/
theorem St.go {N : Nat} {Z : Base} {own own' : Own} {β β' : Conc} {σ σ' : S} {a : Act} {w w' : World} (h : St N Z own β σ a w) (hb : Frm Z.w.heap.size Z.io w w')
    (ho : ∀ b o, b < Z.w.heap.size → ¬ Z.io b o → own' b o = own b o) (k : Keeps own own' w w') (hm : ∀ s, Evo β β' s (σ.mem s) (σ'.mem s)) (hs : σ'.slots = σ.slots)
    (he : ∀ s, RepE Z own' w' β' s (σ'.mem s)) : St N Z own' β' σ' a w' where
  frame := h.frame.trans hb
  old b o hlt hi := (ho b o hlt hi).trans (h.old b o hlt hi)
  size := h.size
  defers := h.defers
  slots t := by rw [hs]; exact (h.slots t).go k hm
  mems := he
  pins s v hp h0 := by
    obtain ⟨h1, h2⟩ := (hm s).pin h0
    rw [h1]; exact h.pins s v hp h2

theorem upd_eq {α : Type} (f : Nat → α) (n : Nat) (x : α) (k : Nat) : upd f n x k = if k = n then x else f k := by
  unfold upd
  by_cases h : k = n
  · subst h; simp
  · rw [if_neg h, show Nat.beq k n = false from by
      cases hh : Nat.beq k n with
      | true => exact absurd (Nat.eq_of_beq_eq_true hh) h
      | false => rfl]; rfl

theorem St.put {N : Nat} {Z : Base} {own : Own} {β : Conc} {σ : S} {a : Act} {w : World} (h : St N Z own β σ a w) {d : Nat} (hd : d < N) {v : V} {u : Value}
    (hv : RepS own w β σ.mem v u) : St N Z own β (σ.put d v) (a.put (some d) u) w where
  frame := h.frame
  old := h.old
  size := by simp [Act.put, h.size]
  defers := h.defers
  slots t := by
    show RepS own w β σ.mem (upd σ.slots d v t) ((a.tmps.setIfInBounds d u).getD t undef)
    rw [upd_eq]
    have hsz := h.size
    split
    · rename_i e; subst e
      simp only [Array.getD_eq_getD_getElem?]
      rw [Array.getElem?_setIfInBounds_self_of_lt (by omega)]
      exact hv
    · rename_i e
      have := h.slots t
      simp only [Array.getD_eq_getD_getElem?] at this ⊢
      rw [Array.getElem?_setIfInBounds_ne (Ne.symm e)]
      exact this
  mems := h.mems
  pins := h.pins

theorem St.dropSlot {N : Nat} {Z : Base} {own : Own} {β : Conc} {σ : S} {a : Act} {w : World} (h : St N Z own β σ a w) {d : Nat} (u : Value) :
    St N Z own β (σ.put d .dead) (a.put (some d) u) w where
  frame := h.frame
  old := h.old
  size := by simp [Act.put, h.size]
  defers := h.defers
  slots t := by
    show RepS own w β σ.mem (upd σ.slots d .dead t) ((a.tmps.setIfInBounds d u).getD t undef)
    rw [upd_eq]
    split
    · trivial
    · rename_i e
      have := h.slots t
      simp only [Array.getD_eq_getD_getElem?] at this ⊢
      rw [Array.getElem?_setIfInBounds_ne (Ne.symm e)]
      exact this
  mems := h.mems
  pins := h.pins

/-! ### worlds -/
theorem cell?_lt {w : World} {b o : Nat} {v : Value} (h : w.cell? ⟨b, o, none⟩ = some v) : b < w.heap.size := by
  unfold World.cell? at h
  rcases Nat.lt_or_ge b w.heap.size with hb | hb
  · exact hb
  · simp [Array.getElem?_eq_none hb] at h

theorem cell?_of_heap {w w' : World} {b o : Nat} (h : w'.heap[b]? = w.heap[b]?) : w'.cell? ⟨b, o, none⟩ = w.cell? ⟨b, o, none⟩ := by
  unfold World.cell?; rw [h]
theorem frozen?_of_heap {w w' : World} {b o : Nat} (h : w'.heap[b]? = w.heap[b]?) : w'.frozen? ⟨b, o, none⟩ = w.frozen? ⟨b, o, none⟩ := by
  unfold World.frozen?; rw [h]

theorem shp_of_heap {w w' : World} {b : Nat} (h : w'.heap[b]? = w.heap[b]?) : shp w' b = shp w b := by
  unfold shp; rw [h]

theorem shp_lt {w : World} {b : Nat} {x : Nat × (Nat × Nat)} (h : shp w b = some x) : b < w.heap.size := by
  unfold shp at h
  rcases Nat.lt_or_ge b w.heap.size with hb | hb
  · exact hb
  · simp [Array.getElem?_eq_none hb] at h

/-- A new block. -/
theorem cell?_push (w : World) (c : Array Value) (t : TypeId) (fz : Nat × Nat) (d : Nat) (b o : Nat) :
    ({ w with heap := w.heap.push (.cells c t fz), drawn := d } : World).cell? ⟨b, o, none⟩ = if b = w.heap.size then c[o]? else w.cell? ⟨b, o, none⟩ := by
  unfold World.cell?
  simp only [Array.getElem?_push]
  by_cases h : b = w.heap.size
  · simp [h]
  · simp [h]

theorem frozen?_push (w : World) (c : Array Value) (t : TypeId) (fz : Nat × Nat) (d : Nat) (b o : Nat) :
    ({ w with heap := w.heap.push (.cells c t fz), drawn := d } : World).frozen? ⟨b, o, none⟩ = if b = w.heap.size then (decide (fz.1 ≤ o) && decide (o < fz.2)) else w.frozen? ⟨b, o, none⟩ := by
  unfold World.frozen?
  simp only [Array.getElem?_push]
  by_cases h : b = w.heap.size
  · simp [h]
  · simp [h]

/-- The cells [o, o + |vs|) of block b are written; nothing else has turned. -/
structure Wrote (b o : Nat) (vs : List Value) (w w' : World) : Prop where
  os : w'.os = w.os
  tape : w'.tape = w.tape
  output : w'.output = w.output
  size : w'.heap.size = w.heap.size
  block : ∀ k, k ≠ b → w'.heap[k]? = w.heap[k]?
  inside : ∀ j v, vs[j]? = some v → w'.cell? ⟨b, o + j, none⟩ = some v
  outside : ∀ k, (k < o ∨ o + vs.length ≤ k) → w'.cell? ⟨b, k, none⟩ = w.cell? ⟨b, k, none⟩
  frozen : ∀ k, w'.frozen? ⟨b, k, none⟩ = w.frozen? ⟨b, k, none⟩
  shape : shp w' b = shp w b
  empty : vs = [] → w'.heap[b]? = w.heap[b]?

theorem Wrote.shps {b o : Nat} {vs : List Value} {w w' : World} (h : Wrote b o vs w w') : ShpKeeps w w' := by
  rintro b' k ⟨x, fz, e1, e2⟩
  refine ⟨x, fz, ?_, e2⟩
  by_cases hb : b' = b
  · subst hb; rw [h.shape]; exact e1
  · rw [shp_of_heap (h.block b' hb)]; exact e1

theorem map_no_cell {w : World} {r o : Nat} {es : Array MapEntry} {c : Nat} (h : w.heap[r]? = some (.map es c)) : w.cell? ⟨r, o, none⟩ = none := by
  unfold World.cell?; rw [h]
theorem map_lt {w : World} {r : Nat} {es : Array MapEntry} {c : Nat} (h : w.heap[r]? = some (.map es c)) : r < w.heap.size := (Array.getElem?_eq_some_iff.1 h).1

theorem Wrote.maps {b o : Nat} {vs : List Value} {w w' : World} (h : Wrote b o vs w w') {r : Nat} {es : Array MapEntry} {c : Nat} (hm : w.heap[r]? = some (.map es c)) : w'.heap[r]? = some (.map es c) := by
  by_cases hb : r = b
  · subst hb
    cases vs with
    | nil => rw [h.empty rfl]; exact hm
    | cons v vs =>
      exfalso
      have h1 := h.inside 0 v rfl
      have h2 := h.shape
      have h3 : shp w r = none := by unfold shp; rw [hm]
      rw [h3] at h2
      unfold shp at h2
      unfold World.cell? at h1
      split at h2
      · cases h2
      · rename_i hx
        split at h1
        · rename_i q1 q2 q3; exact absurd q3 (by intro e; exact hx _ _ _ e)
        · cases h1
  · rw [h.block r hb]; exact hm

theorem Wrote.frame {b o : Nat} {vs : List Value} {w w' : World} (h : Wrote b o vs w w') {Z : Base} (hw : ∀ j, j < vs.length → Z.wr b (o + j)) : Frm Z.w.heap.size Z.io w w' where
  os := h.os
  tape := h.tape
  output := h.output
  size := by rw [h.size]; exact Nat.le_refl _
  cell b' o' hlt hio := by
    by_cases hb : b' = b
    · subst hb
      apply h.outside
      rcases Nat.lt_or_ge o' o with h1 | h1
      · exact .inl h1
      · rcases Nat.lt_or_ge o' (o + vs.length) with h2 | h2
        · have := hw (o' - o) (by omega)
          rw [show o + (o' - o) = o' by omega] at this
          rcases this with h3 | h3
          · omega
          · exact absurd h3 hio
        · exact .inr h2
    · exact cell?_of_heap (h.block b' hb)
  live b' o' v _ hv := by
    by_cases hb : b' = b
    · subst hb
      refine ⟨?_, h.frozen o'⟩
      by_cases hj : o ≤ o' ∧ o' < o + vs.length
      · have := h.inside (o' - o) vs[o' - o] (List.getElem?_eq_getElem (by omega))
        rw [show o + (o' - o) = o' by omega] at this
        exact ⟨_, this⟩
      · exact ⟨v, by rw [h.outside o' (by omega)]; exact hv⟩
    · exact ⟨⟨v, by rw [cell?_of_heap (h.block b' hb)]; exact hv⟩, frozen?_of_heap (h.block b' hb)⟩
  shape b' k _ := h.shps b' k
  block b' hlt hio := by
    by_cases hb : b' = b
    · subst hb
      by_cases h0 : vs.length = 0
      · have := hw
        exact h.empty (by simpa using h0)
      · rcases hw 0 (by omega) with h1 | h1
        · omega
        · exact absurd h1 (hio _)
    · exact h.block b' hb

theorem setCell_cell {w : World} {b o : Nat} {v u : Value} (h : w.cell? ⟨b, o, none⟩ = some u) (k : Nat) :
    (w.setCell ⟨b, o, none⟩ v).cell? ⟨b, k, none⟩ = if k = o then some v else w.cell? ⟨b, k, none⟩ := by
  unfold World.cell? World.setCell at *
  simp only [Array.getElem?_modify, if_true] at *
  cases hb : w.heap[b]? with
  | none => simp [hb] at h
  | some x =>
    simp only [hb, Option.map_some] at *
    cases x with
    | cells c t f =>
      simp only [Option.isSome_none, Bool.false_eq_true, if_false] at *
      rw [Array.getElem?_setIfInBounds]
      have : o < c.size := by
        rcases Nat.lt_or_ge o c.size with h' | h'
        · exact h'
        · simp [Array.getElem?_eq_none h'] at h
      by_cases e : k = o
      · subst e; simp [this]
      · rw [if_neg (Ne.symm e), if_neg e]
    | _ => simp at h

theorem setCell_frozen {w : World} {b o : Nat} {v : Value} (k : Nat) :
    (w.setCell ⟨b, o, none⟩ v).frozen? ⟨b, k, none⟩ = w.frozen? ⟨b, k, none⟩ := by
  unfold World.frozen? World.setCell
  simp only [Array.getElem?_modify, if_true]
  cases hb : w.heap[b]? with
  | none => simp
  | some x => cases x <;> simp

theorem setCell_shp {w : World} {b o : Nat} {v : Value} : shp (w.setCell ⟨b, o, none⟩ v) b = shp w b := by
  unfold shp World.setCell
  simp only [Array.getElem?_modify, if_true]
  cases hb : w.heap[b]? with
  | none => simp
  | some x => cases x <;> simp

theorem setCell_heap {w : World} {b o : Nat} {v : Value} (k : Nat) (h : k ≠ b) : (w.setCell ⟨b, o, none⟩ v).heap[k]? = w.heap[k]? := by
  simp only [World.setCell, Array.getElem?_modify]
  rw [if_neg (Ne.symm h)]

theorem addr_add (b o n : Nat) : Addr.add ⟨b, o, none⟩ n = ⟨b, o + n, none⟩ := by
  unfold Addr.add; split
  · rename_i h; subst h; rfl
  · rfl

theorem run_store_ok {P : Program} {w : World} {b o : Nat} {v u : Value} (hv : v.oneCell' = true) (h : w.cell? ⟨b, o, none⟩ = some u) (hf : w.frozen? ⟨b, o, none⟩ = false) :
    (store ⟨b, o, none⟩ v).run P w = .ok () (w.setCell ⟨b, o, none⟩ v) := by
  rw [run_store P w _ v _ hv, h]; simp [hf]

theorem run_storeCells {P : Program} {b o : Nat} : ∀ (vs : List Value) (i : Nat) (w : World), (∀ v ∈ vs, v.oneCell' = true) →
    (∀ j, j < vs.length → ∃ u, w.cell? ⟨b, o + (i + j), none⟩ = some u) → (∀ j, j < vs.length → w.frozen? ⟨b, o + (i + j), none⟩ = false) →
    ∃ w', (storeCells ⟨b, o, none⟩ vs i).run P w = .ok () w' ∧ Wrote b (o + i) vs w w'
  | [], i, w, _, _, _ => ⟨w, rfl, rfl, rfl, rfl, rfl, fun _ _ => rfl, fun j v h => by simp at h, fun _ _ => rfl, fun _ => rfl, rfl, fun _ => rfl⟩
  | v :: vs, i, w, hv, hc, hf => by
    obtain ⟨u, hu⟩ := hc 0 (by simp)
    have hf0 := hf 0 (by simp)
    simp only [Nat.add_zero] at hu hf0
    have hrun := run_store_ok (P := P) (hv v (by simp)) hu hf0
    have hcell := fun k => setCell_cell (v := v) hu k
    obtain ⟨w', h1, h2⟩ := run_storeCells (P := P) (b := b) (o := o) vs (i + 1) (w.setCell ⟨b, o + i, none⟩ v) (fun x hx => hv x (by simp [hx]))
      (fun j hj => by
        obtain ⟨u', hu'⟩ := hc (j + 1) (by simp; omega)
        refine ⟨u', ?_⟩
        rw [hcell, if_neg (by omega), show o + (i + 1 + j) = o + (i + (j + 1)) by omega]; exact hu')
      (fun j hj => by
        rw [setCell_frozen, show o + (i + 1 + j) = o + (i + (j + 1)) by omega]; exact hf (j + 1) (by simp; omega))
    refine ⟨w', ?_, ?_⟩
    · simp only [storeCells, Sem.run_bind, addr_add, hrun, Result.andThen_ok]; exact h1
    · refine ⟨h2.os, h2.tape, h2.output, ?_, ?_, ?_, ?_, ?_, ?_, fun e => by cases e⟩
      · rw [h2.size]; simp [World.setCell]
      · intro k hk; rw [h2.block k hk, setCell_heap k hk]
      · intro j x hx
        cases j with
        | zero =>
          simp at hx; subst hx
          rw [h2.outside _ (by omega), hcell, if_pos (by omega)]
        | succ j =>
          simp at hx
          rw [show o + i + (j + 1) = o + (i + 1) + j by omega]
          exact h2.inside j x hx
      · intro k hk
        simp only [List.length_cons] at hk
        rw [h2.outside k (by omega), hcell, if_neg (by omega)]
      · intro k; rw [h2.frozen, setCell_frozen]
      · rw [h2.shape, setCell_shp]

theorem run_loadCells_list' {P : Program} {w : World} {b o : Nat} (cs : List Value) (n : Nat) (hn : cs.length = n) (h : ∀ j v, cs[j]? = some v → w.cell? ⟨b, o + j, none⟩ = some v) :
    (loadCells ⟨b, o, none⟩ n).run P w = .ok cs.toArray w := by
  subst hn
  exact run_loadCells_list w _ cs (fun j v hv => by rw [addr_add]; exact h j v hv)

end Go.Re
