/- Reflection, part Y: the evaluator of regions, of code, of functions (definitions). -/
import Derived.Test.YtgceolpeegfkkaaReX
import Derived.Orders
import Derived.Still
namespace Go.Re
set_option linter.unusedVariables false
set_option linter.unusedSimpArgs false

/-! ### lists of numbers -/
def memB (n : Nat) : List Nat → Bool
  | [] => false
  | m :: r => bif Nat.beq m n then true else memB n r
def subB : List Nat → List Nat → Bool
  | [], _ => true
  | a :: r, l => bif memB a l then subB r l else false
def disB : List Nat → List Nat → Bool
  | [], _ => true
  | a :: r, l => bif memB a l then false else disB r l

def minus : List Nat → List Nat → List Nat
  | [], _ => []
  | a :: r, l => bif memB a l then minus r l else a :: minus r l

/-! ### an operation of a region -/
def dstAt : List Oper → Nat → Option Nat
  | [], _ => none
  | o :: _, 0 => o.dst
  | _ :: r, j + 1 => dstAt r j

def S.putO (σ : S) (d : Option Nat) (v : V) : S :=
  match d with
  | some d => σ.put d v
  | none => σ

/-- With its guard. -/
def gopM (E : Env) (all : List Oper) (o : Oper) : M V :=
  match o.guard with
  | none => opM E o
  | some (j, want) => match dstAt all j with
    | some t => .slot t fun v => match v with
      | .val .bool b => match b, want with
        | true, true => opM E o
        | false, false => opM E o
        | _, _ => .ret .tnil
      | .tnil => .ret .tnil
      | _ => .fail
    | none => .fail

/-- A region in lexical order, nothing checked. -/
def evP (E : Env) (all : List Oper) {R : Type} : List Oper → S → (S → Option R) → Option R
  | [], σ, K => K σ
  | o :: os, σ, K => (gopM E all o).runK σ fun v σ' => evP E all os (σ'.putO o.dst v) K

/-! ### with joins behind guards, and any order -/
structure Dec where
  rm : List Nat
  wm : List Nat

inductive Seg where
  | done
  | op (d : Dec) (r : Seg)
  | split (g : Nat) (J : List (Nat × Ty)) (body rest : Seg)

def Seg.decs : Seg → List Dec
  | .done => []
  | .op d r => d :: r.decs
  | .split _ _ b r => b.decs ++ r.decs

def tmpsOf : List Operand → List Nat
  | [] => []
  | .tmp t :: r => t :: tmpsOf r
  | _ :: r => tmpsOf r

def looksL (all : List Oper) (o : Oper) : List Nat :=
  match o.guard with
  | none => tmpsOf o.op.operands.toList
  | some (j, _) => match dstAt all j with
    | some t => t :: tmpsOf o.op.operands.toList
    | none => tmpsOf o.op.operands.toList

def footOk (f : Foot) (ls : List Nat) (d : Dec) : Bool := subB f.rs ls && (subB f.rm d.rm && subB f.wm d.wm)

structure Drop where
  s : List Nat
  m : List Nat

def dstsOf : List Oper → List Nat
  | [] => []
  | o :: r => match o.dst with
    | some d => d :: dstsOf r
    | none => dstsOf r

def wmsOf : List Dec → List Nat
  | [] => []
  | d :: r => d.wm ++ wmsOf r

def rdV (τ : Ty) (v : V) : Option τ.D :=
  match v with
  | .val τ' x => cast? τ' τ x
  | _ => none

def rdS : (J : List (Nat × Ty)) → S → Option (Ds (J.map (·.2)))
  | [], _ => some ()
  | [p], σ => rdV p.2 (σ.slots p.1)
  | p :: q :: r, σ => (rdV p.2 (σ.slots p.1)).bind fun x => (rdS (q :: r) σ).bind fun y => some (x, y)

def wrS : (J : List (Nat × Ty)) → Ds (J.map (·.2)) → S → S
  | [], _, σ => σ
  | [p], x, σ => σ.put p.1 (.val p.2 x)
  | p :: q :: r, x, σ => wrS (q :: r) x.2 (σ.put p.1 (.val p.2 x.1))

def rdJ (J : List (Nat × Ty)) (ms : List Nat) (σ0 σ : S) : Option (Ds (J.map (·.2))) :=
  bif ms.all (fun s => Nat.ble (nextVer (σ.mem s)) (nextVer (σ0.mem s) + 1)) then rdS J σ else none

def dropS (ds ms : List Nat) (σ : S) : S :=
  { slots := fun t => bif memB t ds then .dead else σ.slots t, mem := fun s => bif memB s ms then .gone (nextVer (σ.mem s)) else σ.mem s }

def evC (E : Env) (all : List Oper) : Seg → List Oper → Drop → S → {R : Type} → (Drop → S → Option R) → Option R
  | .done, _, D, σ, _, K => K D σ
  | .op _ _, [], _, _, _, _ => none
  | .op d r, o :: os, D, σ, _, K =>
    bif footOk ((gopM E all o).foot σ) (looksL all o) d && (disB (looksL all o) D.s && disB d.rm D.m) then
      (gopM E all o).runK σ fun v σ' => evC E all r os D (σ'.putO o.dst v) K
    else none
  | .split g J b r, os, D, σ, _, K => match σ.slots g with
    | .val .bool c =>
      (bif c then evC E all b os D (σ.put g (.val .bool true)) (fun _ => rdJ J (wmsOf b.decs) σ) else evC E all b os D (σ.put g (.val .bool false)) (fun _ => rdJ J (wmsOf b.decs) σ)).bind fun j =>
        evC E all r (os.drop b.decs.length) ⟨minus (dstsOf (os.take b.decs.length) ++ D.s) (J.map (·.1)), wmsOf b.decs ++ D.m⟩
          (wrS J j (dropS (dstsOf (os.take b.decs.length)) (wmsOf b.decs) σ)) K
    | .tnil => evC E all b os D σ fun D' σ' => evC E all r (os.drop b.decs.length) D' σ' K
    | _ => none

/-! ### which order does not matter -/
/-- For each operation the set of those that come ahead of it, in bits. -/
def ancs : List Oper → List Nat → List Nat
  | [], t => t
  | o :: r, t => ancs r (t ++ [o.after.toList.foldl (fun b e => bif Region.binds .any e then Nat.lor b (Nat.lor (Nat.shiftLeft 1 e.on) (t.getD e.on 0)) else b) 0])

/-- Edges go back. -/
def backB : Nat → List Oper → Bool
  | _, [] => true
  | i, o :: r => o.after.toList.all (fun e => !Region.binds .any e || Nat.blt e.on i) && backB (i + 1) r

/-- Neither writes what the other looks at or writes. -/
def apartB (all : List Oper) (o o' : Oper) (d d' : Dec) : Bool :=
  (match o.dst with
   | some t => !memB t (looksL all o') && (match o'.dst with | some t' => !Nat.beq t t' | none => true)
   | none => true) &&
  ((match o'.dst with
   | some t => !memB t (looksL all o)
   | none => true) &&
  (disB d.wm d'.rm && (disB d.wm d'.wm && disB d.rm d'.wm)))

/-- Of each two operations: either one waits for the other, or they are apart. -/
def looseB (all : List Oper) (o : Oper) (d : Dec) : Nat → Nat → List Oper → List Dec → Bool
  | i, j, o' :: os, d' :: ds => bif Nat.testBit ((ancs all []).getD j 0) i then looseB all o d i (j + 1) os ds else bif apartB all o o' d d' then looseB all o d i (j + 1) os ds else false
  | _, _, _, _ => true

def anyB (all : List Oper) : Nat → List Oper → List Dec → Bool
  | i, o :: os, d :: ds => looseB all o d i (i + 1) os ds && anyB all (i + 1) os ds
  | _, _, _ => true

/-! ### joins -/
inductive JI where
  | val (t : Nat) (τ : Ty)
  | row (t : Nat) (e : Ty) (m : Mode)
  | box (t : Nat) (τ : Ty)
  /-- what the function was given to write -/
  | prow (t : Nat) (e : Ty)
  | pbox (t : Nat) (τ : Ty)
  /-- a variable that is only read -/
  | rpt (t : Nat) (τ : Ty)
  | pv (t : Nat) (k : PK)
  /-- a variable in which rows grow -/
  | gbx (t : Nat) (τ : Ty) (l : List (Nat × Nat))

@[reducible] def JI.ty : JI → Ty
  | .val _ τ => τ | .row _ e _ => .sl e | .box _ τ => τ | .prow _ e => .sl e | .pbox _ τ => τ | .rpt _ τ => τ | .pv _ k => k.ty | .gbx _ τ _ => τ
def JI.t : JI → Nat
  | .val t _ => t | .row t _ _ => t | .box t _ => t | .prow t _ => t | .pbox t _ => t | .rpt t _ => t | .pv t _ => t | .gbx t _ _ => t

@[reducible] def JD (J : List JI) : Type := Ds (J.map JI.ty)

def Mode.le : Mode → Mode → Bool
  | .full, .full => true | .full, .tail => true | .tail, .tail => true | .mp, .mp => true
  | _, _ => false

/-- A value that may be read: one of its own is read from now on. -/
def rdA (τ : Ty) (v : V) (σ : S) : Option τ.D :=
  match v with
  | .val τ' x => cast? τ' τ x
  | .nil => match τ with
    | .sl _ => some []
    | _ => none
  | .ref s ver => match σ.mem s with
    | .own ver' e xs m => bif Nat.beq ver ver' && !m.noRd then cast? (.sl e) τ xs else none
    | _ => none
  | _ => none

def rdRow (e : Ty) (m : Mode) (v : V) (σ : S) : Option (List e.D) :=
  match v with
  | .nil => bif m.isMp then none else some []
  | .ref s ver => match σ.mem s with
    | .own ver' e' xs m' => bif Nat.beq ver ver' && m'.le m then cast? (.sl e') (.sl e) xs else none
    | _ => none
  | _ => none

def rdBox (τ : Ty) (v : V) (σ : S) : Option τ.D :=
  match v with
  | .ptr s ver [] => match σ.mem s with
    | .box ver' τ' x => bif Nat.beq ver ver' then cast? τ' τ x else none
    | _ => none
  | _ => none

def rdPRow (e : Ty) (t : Nat) (v : V) (σ : S) : Option (List e.D) :=
  match v with
  | .ref s 0 => bif Nat.beq s (site t 0) then match σ.mem s with
    | .own 0 e' xs .full => cast? (.sl e') (.sl e) xs
    | _ => none
    else none
  | _ => none

def rdPBox (τ : Ty) (t : Nat) (v : V) (σ : S) : Option τ.D :=
  match v with
  | .ptr s 0 [] => bif Nat.beq s (site t 0) then match σ.mem s with
    | .box 0 τ' x => cast? τ' τ x
    | _ => none
    else none
  | _ => none

def rdRpt (τ : Ty) (v : V) (σ : S) : Option τ.D :=
  match v with
  | .rpt τ' x => cast? τ' τ x
  | .elp s ver i [] => match σ.mem s with
    | .own ver' e xs .tail => bif Nat.beq ver ver' && e.isVal then (xs[i]?).bind fun y => cast? e τ y else none
    | _ => none
  | _ => none

/-- Are all these among those? -/
def subG (l l' : List (Nat × Nat)) : Bool := l.all fun q => hasG q.1 q.2 l'
def rdGbx (τ : Ty) (l : List (Nat × Nat)) (v : V) (σ : S) : Option τ.D :=
  match v with
  | .elp s ver 0 [] => match σ.mem s with
    | .own ver' τ' xs (.gb l') => bif Nat.beq ver ver' && subG l l' then (one? xs).bind fun x => cast? τ' τ x else none
    | _ => none
  | _ => none

def JI.read (j : JI) (σ : S) : Option j.ty.D :=
  match j with
  | .val t τ => rdA τ (σ.slots t) σ
  | .row t e m => rdRow e m (σ.slots t) σ
  | .box t τ => rdBox τ (σ.slots t) σ
  | .prow t e => rdPRow e t (σ.slots t) σ
  | .pbox t τ => rdPBox τ t (σ.slots t) σ
  | .rpt t τ => rdRpt τ (σ.slots t) σ
  | .pv t k => k.read (σ.slots t)
  | .gbx t τ l => rdGbx τ l (σ.slots t) σ

/-- The old memory that goes on in it. -/
def JI.kept (j : JI) (σ : S) : List Nat :=
  match j with
  | .val _ _ => []
  | .row t _ _ => match σ.slots t with
    | .ref s _ => [s]
    | _ => []
  | .box t _ => match σ.slots t with
    | .ptr s _ _ => [s]
    | _ => []
  | .prow t _ => [site t 0]
  | .pbox t _ => [site t 0]
  | .rpt _ _ => []
  | .pv _ _ => []
  | .gbx t _ _ => match σ.slots t with
    | .elp s _ _ _ => [s]
    | _ => []

def keptAll : List JI → S → List Nat
  | [], _ => []
  | j :: r, σ => j.kept σ ++ keptAll r σ

def rdJs : (J : List JI) → S → Option (JD J)
  | [], _ => some ()
  | [j], σ => j.read σ
  | j :: q :: r, σ => (j.read σ).bind fun x => (rdJs (q :: r) σ).bind fun y => some (x, y)

/-- Rows of its own that are read from now on. -/
def JI.loose (j : JI) (σ : S) : List Nat :=
  match j with
  | .val t _ => match σ.slots t with
    | .ref s _ => match σ.mem s with
      | .own _ _ _ .full => [s]
      | _ => []
    | _ => []
  | _ => []
def looseAll : List JI → S → List Nat
  | [], _ => []
  | j :: r, σ => j.loose σ ++ looseAll r σ

def readJ (J : List JI) (σ : S) : Option (JD J) := bif nodupB (keptAll J σ) && disB (looseAll J σ) (keptAll J σ) then rdJs J σ else none

def JI.write (j : JI) (x : j.ty.D) (σ : S) : S :=
  match j, x with
  | .val t τ, x => σ.put t (.val τ x)
  | .row t e m, x => (σ.put t (.ref (site t 0) 1)).set (site t 0) (.own 1 e x m)
  | .box t τ, x => (σ.put t (.ptr (site t 0) 1 [])).set (site t 0) (.box 1 τ x)
  | .prow t e, x => (σ.put t (.ref (site t 0) 0)).set (site t 0) (.own 0 e x .full)
  | .pbox t τ, x => (σ.put t (.ptr (site t 0) 0 [])).set (site t 0) (.box 0 τ x)
  | .rpt t τ, x => σ.put t (.rpt τ x)
  | .pv t k, x => σ.put t (k.V x)
  | .gbx t τ l, x => (σ.put t (.elp (site t 1) 1 0 [])).set (site t 1) (.own 1 τ [x] (.gb l))

def wrJs : (J : List JI) → JD J → S → S
  | [], _, σ => σ
  | [j], x, σ => j.write x σ
  | j :: q :: r, x, σ => wrJs (q :: r) x.2 (j.write x.1 σ)

def S.bare : S := ⟨fun _ => .dead, fun _ => .none⟩
def writeJ (J : List JI) (x : JD J) : S := wrJs J x .bare

/-- Rows of one's own that are only read from now on. -/
def frOf (σ : S) : List Nat → List (Nat × Entry)
  | [] => []
  | s :: r => match σ.mem s with
    | .own v τ xs .full => (s, .own v τ xs .tail) :: frOf σ r
    | _ => frOf σ r
def freezeS (fz : List Nat) (σ : S) : S := sets σ (frOf σ fz)

/-! ### code -/
inductive An : Type → Type 1 where
  | leaf {R : Type} : An R
  | rg {R : Type} (fz : List Nat) (c : Option Seg) : An R
  | seq {R : Type} (a b : An R) : An R
  | join {R : Type} (J : List JI) (a : An (JD J ⊕ R)) (b : An R) : An R
  | cond {R : Type} (a b : An R) : An R
  | block {R : Type} (a : An R) : An R
  /-- a loop that is gone through so often at most, step by step -/
  | unroll {R : Type} (n : Nat) (a : An R) : An R
  | loop {R : Type} (Ji Jo : List JI) (L : Nat → JD Ji → Option (JD Jo ⊕ R)) (a : An (JD Jo ⊕ R)) : An R

/-- How often a loop may go round. -/
def Big : Nat := 18446744073709551616

def jn {A R : Type} (x : Option (A ⊕ R)) (k : A → Option R) : Option R :=
  match x with
  | some (.inl a) => k a
  | some (.inr r) => some r
  | none => none

open Classical in
/-- Two roads that come to the same. -/
noncomputable def both {R : Type} (a b : Option R) : Option R := if a = b then a else none

theorem both_self {R : Type} (a : Option R) : both a a = a := by unfold both; rw [if_pos rfl]
theorem both_some {R : Type} {a b : Option R} {r : R} (h : both a b = some r) : a = some r ∧ b = some r := by
  unfold both at h
  split at h
  · rename_i e; exact ⟨h, e ▸ h⟩
  · cases h

/-- So often at most. -/
def iter {R : Type} (F : (S → Option R) → S → Option R) : Nat → S → Option R
  | 0, _ => none
  | n + 1, σ => F (iter F n) σ

def okDst (N : Nat) : List Oper → Bool
  | [] => true
  | o :: r => (match o.dst with | some d => Nat.blt d N | none => true) && okDst N r

def evR (E : Env) (N : Nat) (ops : List Oper) (draw : Bool) (fz : List Nat) (c : Option Seg) (σ : S) {R : Type} (K : S → Option R) : Option R :=
  bif okDst N ops then
    match c with
    | none => bif draw then none else evP E ops ops (freezeS fz σ) K
    | some sg => bif Nat.beq sg.decs.length ops.length && (!draw || (backB 0 ops && anyB ops 0 ops sg.decs)) then evC E ops sg ops ⟨[], []⟩ (freezeS fz σ) (fun _ => K) else none
  else none

noncomputable def ev (E : Env) (N : Nat) : Code → {R : Type} → An R → S → (S → Option R) → (Nat → S → Option R) → (S → Option R) → Option R
  | .skip, _, _, σ, Kn, _, _ => Kn σ
  | .region _ ops draw, _, .rg fz c, σ, Kn, _, _ => evR E N ops.toList draw fz c σ Kn
  | .seq x y, _, .seq a b, σ, Kn, Ke, Kr => ev E N x a σ (fun σ' => ev E N y b σ' Kn Ke Kr) Ke Kr
  | .seq x y, _, .join J a b, σ, Kn, Ke, Kr =>
    jn (ev E N x a σ (fun σ' => (readJ J σ').map .inl) (fun i σ' => (Ke i σ').map .inr) (fun σ' => (Kr σ').map .inr)) fun j => ev E N y b (writeJ J j) Kn Ke Kr
  | .cond c x y, _, .cond a b, σ, Kn, Ke, Kr => match c with
    | .tmp t => match σ.slots t with
      | .val .bool q => bif q then ev E N x a σ Kn Ke Kr else ev E N y b σ Kn Ke Kr
      | .nilq emp neg => bif emp then both (ev E N x a σ Kn Ke Kr) (ev E N y b σ Kn Ke Kr) else (bif neg then ev E N x a σ Kn Ke Kr else ev E N y b σ Kn Ke Kr)
      | _ => none
    | .const (.bool q) => bif q then ev E N x a σ Kn Ke Kr else ev E N y b σ Kn Ke Kr
    | _ => none
  | .block id x, _, .block a, σ, Kn, Ke, Kr => ev E N x a σ Kn (fun i σ' => bif Nat.beq i id then Kn σ' else Ke i σ') Kr
  | .block _ (.loop _), _, .loop Ji Jo L _, σ, Kn, _, _ => (readJ Ji σ).bind fun j => jn (L Big j) fun q => Kn (writeJ Jo q)
  | .block id (.loop x), _, .unroll n a, σ, Kn, Ke, Kr => iter (fun K σ' => ev E N x a σ' K (fun i σ'' => bif Nat.beq i id then Kn σ'' else Ke i σ'') Kr) n σ
  | .exit i, _, _, σ, _, Ke, _ => Ke i σ
  | .ret, _, _, σ, _, _, Kr => Kr σ
  | _, _, _, _, _, _, _ => none

/-- What the loops' functions must be. -/
def ob (E : Env) (N : Nat) : Code → {R : Type} → An R → (S → Option R) → (Nat → S → Option R) → (S → Option R) → Prop
  | .seq x y, _, .seq a b, Kn, Ke, Kr => ob E N x a (fun σ' => ev E N y b σ' Kn Ke Kr) Ke Kr ∧ ob E N y b Kn Ke Kr
  | .seq x y, _, .join J a b, Kn, Ke, Kr =>
    ob E N x a (fun σ' => (readJ J σ').map .inl) (fun i σ' => (Ke i σ').map .inr) (fun σ' => (Kr σ').map .inr) ∧ ob E N y b Kn Ke Kr
  | .cond _ x y, _, .cond a b, Kn, Ke, Kr => ob E N x a Kn Ke Kr ∧ ob E N y b Kn Ke Kr
  | .block id x, _, .block a, Kn, Ke, Kr => ob E N x a Kn (fun i σ' => bif Nat.beq i id then Kn σ' else Ke i σ') Kr
  | .block id (.loop x), _, .loop Ji Jo L a, _, Ke, Kr => (∀ j, L 0 j = none) ∧
    (∀ n j, L (n + 1) j = ev E N x a (writeJ Ji j) (fun σ' => (readJ Ji σ').bind (L n))
      (fun i σ' => bif Nat.beq i id then (readJ Jo σ').map .inl else (Ke i σ').map .inr) (fun σ' => (Kr σ').map .inr)) ∧
    ∀ n, ob E N x a (fun σ' => (readJ Ji σ').bind (L n)) (fun i σ' => bif Nat.beq i id then (readJ Jo σ').map .inl else (Ke i σ').map .inr) (fun σ' => (Kr σ').map .inr)
  | .block id (.loop x), _, .unroll _ a, Kn, Ke, Kr => ∀ K, ob E N x a K (fun i σ' => bif Nat.beq i id then Kn σ' else Ke i σ') Kr
  | _, _, _, _, _, _ => True

/-! ### functions -/
inductive RV where
  | tmp (t : Nat) (p : Ty × Mode)
  | cell (t : Nat) (τ : Ty)

@[reducible] def RV.pm : RV → Ty × Mode
  | .tmp _ p => p | .cell _ τ => (τ, .view)

/-- A result as it's read. -/
def rdRes (p : Ty × Mode) (v : V) (σ : S) : Option p.1.D :=
  match p with
  | (.sl e, .full) => rdRow e .full v σ
  | (.sl e, .tail) => rdRow e .tail v σ
  | (.sl e, .mp) => rdRow e .mp v σ
  | (τ, _) => rdA τ v σ

def RV.read (r : RV) (σ : S) : Option r.pm.1.D :=
  match r with
  | .tmp t p => rdRes p (σ.slots t) σ
  | .cell t τ => rdBox τ (σ.slots t) σ

def RV.ji (r : RV) : JI :=
  match r with
  | .tmp t (.sl e, .full) => .row t e .full
  | .tmp t (.sl e, .tail) => .row t e .tail
  | .tmp t (.sl e, .mp) => .row t e .mp
  | .tmp t (τ, _) => .val t τ
  | .cell t τ => .val t τ

def rdRVs : (rs : List RV) → S → Option (Ds ((rs.map RV.pm).map (·.1)))
  | [], _ => some ()
  | [r], σ => r.read σ
  | r :: q :: l, σ => (r.read σ).bind fun x => (rdRVs (q :: l) σ).bind fun y => some (x, y)

/-- What has become of what may be written. -/
def rdIo : Nat → (ps : List Par) → S → Option (Ds (ioTys ps))
  | _, [], _ => some ()
  | i, .val _ :: r, σ => rdIo (i + 1) r σ
  | i, .nils _ :: r, σ => rdIo (i + 1) r σ
  | i, .pv _ :: r, σ => rdIo (i + 1) r σ
  | i, .box τ :: r, σ => match σ.mem (site i 0) with
    | .box 0 τ' x => (cast? τ' τ x).bind fun x => (rdIo (i + 1) r σ).bind fun y => some (dsC τ (ioTys r) x y)
    | _ => none
  | i, .row e :: r, σ => match σ.mem (site i 0) with
    | .own 0 e' xs .full => (cast? (.sl e') (.sl e) xs).bind fun x => (rdIo (i + 1) r σ).bind fun y => some (dsC (.sl e) (ioTys r) x y)
    | _ => none
  | i, .take _ :: r, σ => rdIo (i + 1) r σ
where
  dsC (a : Ty) : (r : List Ty) → a.D → Ds r → Ds (a :: r)
    | [], x, _ => x
    | _ :: _, x, y => (x, y)

def dsApp : (xs ys : List Ty) → Ds xs → Ds ys → Ds (xs ++ ys)
  | [], _, _, y => y
  | [_], [], x, _ => x
  | [_], _ :: _, x, y => (x, y)
  | _ :: b :: r, ys, x, y => (x.1, dsApp (b :: r) ys x.2 y)

/-- Where what may be written lies. -/
def ioS : Nat → List Par → List Nat
  | _, [] => []
  | i, .val _ :: r => ioS (i + 1) r
  | i, .nils _ :: r => ioS (i + 1) r
  | i, .pv _ :: r => ioS (i + 1) r
  | i, .box _ :: r => site i 0 :: ioS (i + 1) r
  | i, .row _ :: r => site i 0 :: ioS (i + 1) r
  | i, .take _ :: r => ioS (i + 1) r

def finF (ps : List Par) (rs : List RV) (σ : S) : Option (Ds ((rs.map RV.pm).map (·.1) ++ ioTys ps)) :=
  bif nodupB (keptAll (rs.map RV.ji) σ ++ ioS 0 ps) && (disB (looseAll (rs.map RV.ji) σ) (keptAll (rs.map RV.ji) σ ++ ioS 0 ps) && (!(ps.any Par.isTake) || (keptAll (rs.map RV.ji) σ).isEmpty)) then (rdRVs rs σ).bind fun x => (rdIo 0 ps σ).bind fun y => some (dsApp _ _ x y) else none

def entryS : Nat → (ps : List Par) → Ds (ps.map Par.ty) → S → S
  | _, [], _, σ => σ
  | i, [p], x, σ => ent i p x σ
  | i, p :: q :: r, x, σ => entryS (i + 1) (q :: r) x.2 (ent i p x.1 σ)
where
  ent (i : Nat) (p : Par) (x : p.ty.D) (σ : S) : S :=
    match p, x with
    | .val τ, x => (JI.val i τ).write x σ
    | .nils _, _ => σ.put i .nil
    | .pv k, x => σ.put i (k.V x)
    | .box τ, x => (JI.pbox i τ).write x σ
    | .row e, x => (JI.prow i e).write x σ
    | .take e, x => (JI.prow i e).write x σ

noncomputable def evF (E : Env) (N : Nat) (c : Code) (ps : List Par) (rs : List RV) (an : An (Ds ((rs.map RV.pm).map (·.1) ++ ioTys ps))) (x : Ds (ps.map Par.ty)) :
    Option (Ds ((rs.map RV.pm).map (·.1) ++ ioTys ps)) :=
  ev E N c an (entryS 0 ps x .bare) (finF ps rs) (fun _ _ => none) (finF ps rs)
def obF (E : Env) (N : Nat) (c : Code) (ps : List Par) (rs : List RV) (an : An (Ds ((rs.map RV.pm).map (·.1) ++ ioTys ps))) : Prop :=
  ob E N c an (finF ps rs) (fun _ _ => none) (finF ps rs)

end Go.Re
