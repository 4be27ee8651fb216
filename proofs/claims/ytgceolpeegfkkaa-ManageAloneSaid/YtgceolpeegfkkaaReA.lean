/- Reflection, part A: semantic types, abstract values and states, operations as small programs of reads and writes, the evaluator. -/
import Derived.Tactics
namespace Go.Re
set_option linter.unusedVariables false
set_option linter.unusedSimpArgs false

/-! ### types and their data -/
inductive Ty where
  | bool | str | unit
  | int (k : IntKind)
  | pair (a b : Ty)
  | st (b : Ty)
  | sl (e : Ty)
  | arr (n : Nat) (e : Ty)
  deriving DecidableEq

@[reducible] def IntT : IntKind → Type
  | .u8 => BitVec 8 | .u16 => BitVec 16 | .u32 => BitVec 32 | .u64 => BitVec 64
  | _ => Int

@[reducible] def Ty.D : Ty → Type
  | .bool => Bool | .str => List (BitVec 8) | .unit => Unit
  | .int k => IntT k
  | .pair a b => a.D × b.D | .st b => b.D | .sl e => List e.D | .arr _ e => List e.D

def Ty.size : Ty → Nat
  | .unit => 0 | .pair a b => a.size + b.size | .st b => b.size | .arr n e => n * e.size
  | .bool => 1 | .str => 1 | .int _ => 1 | .sl _ => 1

def Ty.isAgg : Ty → Bool
  | .st _ => true | .arr _ _ => true | _ => false

def Ty.isVal : Ty → Bool
  | .unit => false | .pair _ _ => false | _ => true

/-- A datum of one type as one of another, if they are the same. -/
def cast? (τ τ' : Ty) (x : τ.D) : Option τ'.D := if h : τ = τ' then some (h ▸ x) else none

def Ty.zero : (τ : Ty) → τ.D
  | .bool => false | .str => [] | .unit => ()
  | .int .u8 => 0#8 | .int .u16 => 0#16 | .int .u32 => 0#32 | .int .u64 => 0#64
  | .int .i8 => (0 : Int) | .int .i16 => (0 : Int) | .int .i32 => (0 : Int) | .int .i64 => (0 : Int)
  | .pair a b => (a.zero, b.zero) | .st b => b.zero | .sl _ => [] | .arr n e => List.replicate n e.zero

def toI : (k : IntKind) → IntT k → Int
  | .u8, x => x.toNat | .u16, x => x.toNat | .u32, x => x.toNat | .u64, x => x.toNat
  | .i8, x => x | .i16, x => x | .i32, x => x | .i64, x => x

def ofI : (k : IntKind) → Int → IntT k
  | .u8, x => BitVec.ofNat 8 x.toNat | .u16, x => BitVec.ofNat 16 x.toNat | .u32, x => BitVec.ofNat 32 x.toNat | .u64, x => BitVec.ofNat 64 x.toNat
  | .i8, x => x | .i16, x => x | .i32, x => x | .i64, x => x

/-! ### values, own memory, states -/
inductive Stp where
  | fst | snd | idx (i : Nat)
  deriving DecidableEq

inductive V where
  | dead
  | val (τ : Ty) (x : τ.D)
  | nil
  | ptr (s ver : Nat) (p : List Stp)
  | ref (s ver : Nat)
  | elp (s ver i : Nat) (p : List Stp)
  | rpt (τ : Ty) (x : τ.D)
  /-- is a slice nil? known, if it has elements -/
  | nilq (emp neg : Bool)
  /-- from an element of a row of one's own on -/
  | win (s ver lo : Nat)
  /-- the first elements of a row of one's own, read on the spot -/
  | pre (s ver hi : Nat)
  /-- a slice of pointers; a pointer to one of them -/
  | plist (t : V)
  | pel (x : V)
  /-- a function with what it has captured -/
  | clo (g : Nat) (t : V)
  /-- a datum at whose cells told lie nil slices -/
  | zval (τ : Ty) (x : τ.D) (z : List (Nat × Nat))
  | tnil
  | tcons (a r : V)

inductive Mode where
  | full | tail | view
  /-- no row, but a map of one's own: its keys and values in the order in which they came -/
  | mp
  /-- a variable of one's own: at these cells of it (their elements' size) lie slices whose rows can grow -/
  | gb (l : List (Nat × Nat))

def Mode.isMp : Mode → Bool
  | .mp => true | _ => false
/-- No row that can be read as a whole. -/
def Mode.noRd : Mode → Bool
  | .mp => true | .gb _ => true | _ => false
theorem Mode.noRd_mp {m : Mode} (h : m.noRd = false) : m.isMp = false := by cases m <;> first | rfl | cases h

inductive Entry where
  | none
  | gone (ver : Nat)
  | box (ver : Nat) (τ : Ty) (x : τ.D)
  | own (ver : Nat) (τ : Ty) (xs : List τ.D) (m : Mode)

structure S where
  slots : Nat → V
  mem : Nat → Entry

def upd {α : Type} (f : Nat → α) (n : Nat) (x : α) : Nat → α := fun k => bif Nat.beq k n then x else f k

def S.put (σ : S) (n : Nat) (v : V) : S := { σ with slots := upd σ.slots n v }
def S.set (σ : S) (n : Nat) (e : Entry) : S := { σ with mem := upd σ.mem n e }

/-! ### a place inside a datum -/
/-- What lies at a path, as a datum of the type wanted. -/
def getP : (τ : Ty) → τ.D → List Stp → (τ' : Ty) → Option τ'.D
  | τ, x, [], τ' => cast? τ τ' x
  | .st b, x, p, τ' => getP b x p τ'
  | .pair a _, x, .fst :: p, τ' => getP a x.1 p τ'
  | .pair _ b, x, .snd :: p, τ' => getP b x.2 p τ'
  | .arr _ e, x, .idx i :: p, τ' => (x[i]?).bind fun y => getP e y p τ'
  | _, _, _, _ => none

def setP : (τ : Ty) → τ.D → List Stp → (τ' : Ty) → τ'.D → Option τ.D
  | τ, _, [], τ', y => cast? τ' τ y
  | .st b, x, p, τ', y => setP b x p τ' y
  | .pair a _, x, .fst :: p, τ', y => (setP a x.1 p τ' y).map fun z => (z, x.2)
  | .pair _ b, x, .snd :: p, τ', y => (setP b x.2 p τ' y).map fun z => (x.1, z)
  | .arr _ e, x, .idx i :: p, τ', y => (x[i]?).bind fun z => (setP e z p τ' y).map fun u => x.set i u
  | _, _, _, _, _ => none

/-- The type at a path. -/
def tyP : Ty → List Stp → Option Ty
  | τ, [] => some τ
  | .st b, p => tyP b p
  | .pair a _, .fst :: p => tyP a p
  | .pair _ b, .snd :: p => tyP b p
  | .arr _ e, .idx _ :: p => tyP e p
  | _, _ => none

/-- Its first cell. -/
def offP : Ty → List Stp → Nat
  | _, [] => 0
  | .st b, p => offP b p
  | .pair a _, .fst :: p => offP a p
  | .pair a b, .snd :: p => a.size + offP b p
  | .arr _ e, .idx i :: p => i * e.size + offP e p
  | _, _ => 0

def fieldPath : Nat → List Stp
  | 0 => [.fst]
  | k + 1 => .snd :: fieldPath k

/-- The same, always: where there is nothing of the kind, what was. -/
def getT : (τ : Ty) → τ.D → List Stp → (τ' : Ty) → τ'.D
  | τ, x, [], τ' => if h : τ = τ' then h ▸ x else τ'.zero
  | .st b, x, p, τ' => getT b x p τ'
  | .pair a _, x, .fst :: p, τ' => getT a x.1 p τ'
  | .pair _ b, x, .snd :: p, τ' => getT b x.2 p τ'
  | .arr _ e, x, .idx i :: p, τ' => getT e (x.getD i e.zero) p τ'
  | _, _, _, τ' => τ'.zero

def setT : (τ : Ty) → τ.D → List Stp → (τ' : Ty) → τ'.D → τ.D
  | τ, x, [], τ', y => if h : τ' = τ then h ▸ y else x
  | .st b, x, p, τ', y => setT b x p τ' y
  | .pair a _, x, .fst :: p, τ', y => (setT a x.1 p τ' y, x.2)
  | .pair _ b, x, .snd :: p, τ', y => (x.1, setT b x.2 p τ' y)
  | .arr _ e, x, .idx i :: p, τ', y => x.set i (setT e (x.getD i e.zero) p τ' y)
  | _, x, _, _, _ => x

/-! ### the operations' programs -/
inductive M (α : Type) : Type 1 where
  | fail
  | slot (n : Nat) (k : V → M α)
  | mem (n : Nat) (k : Entry → M α)
  | fin (β : Type) (o : Option β) (g : β → α) (ws : List (Nat × (β → Entry)))

def writes {β : Type} (σ : S) (b : β) : List (Nat × (β → Entry)) → S
  | [] => σ
  | (n, e) :: r => writes (σ.set n (e b)) b r

def M.run {α : Type} : M α → S → Option (α × S)
  | .fail, _ => none
  | .slot n k, σ => (k (σ.slots n)).run σ
  | .mem n k, σ => (k (σ.mem n)).run σ
  | .fin _ o g ws, σ => o.map fun b => (g b, writes σ b ws)

/-- The same with what comes next. -/
def M.runK {α R : Type} : M α → S → (α → S → Option R) → Option R
  | .fail, _, _ => none
  | .slot n k, σ, K => (k (σ.slots n)).runK σ K
  | .mem n k, σ, K => (k (σ.mem n)).runK σ K
  | .fin _ o g ws, σ, K => o.bind fun b => K (g b) (writes σ b ws)

theorem M.runK_eq {α R : Type} (m : M α) (σ : S) (K : α → S → Option R) : m.runK σ K = (m.run σ).bind fun r => K r.1 r.2 := by
  induction m with
  | fail => rfl
  | slot n k ih => exact ih _
  | mem n k ih => exact ih _
  | fin β o g ws => cases o <;> rfl

/-- What it reads (slots, own memory) and writes. -/
structure Foot where
  rs : List Nat
  rm : List Nat
  wm : List Nat

def M.foot {α : Type} : M α → S → Foot
  | .fail, _ => ⟨[], [], []⟩
  | .slot n k, σ => let f := (k (σ.slots n)).foot σ; { f with rs := n :: f.rs }
  | .mem n k, σ => let f := (k (σ.mem n)).foot σ; { f with rm := n :: f.rm }
  | .fin _ _ _ ws, _ => ⟨[], [], ws.map (·.1)⟩

def M.ret {α : Type} (a : α) : M α := .fin Unit (some ()) (fun _ => a) []
/-- With a check. -/
def chk (b : Bool) : Option Unit := bif b then some () else none

/-! ### the surroundings of a function: the types, the callees -/
/-- The data of several types, as a right-nested product (one alone: itself; none: Unit). -/
@[reducible] def Ds : List Ty → Type
  | [] => Unit
  | [a] => a.D
  | a :: b :: r => a.D × Ds (b :: r)

/-- The first ones of a product, and the others. -/
def dsL : (xs ys : List Ty) → Ds (xs ++ ys) → Ds xs
  | [], _, _ => ()
  | [_], [], x => x
  | [_], _ :: _, x => x.1
  | _ :: b :: r, ys, x => (x.1, dsL (b :: r) ys x.2)
def dsR : (xs ys : List Ty) → Ds (xs ++ ys) → Ds ys
  | [], _, x => x
  | [_], [], _ => ()
  | [_], _ :: _, x => x.2
  | _ :: b :: r, ys, x => dsR (b :: r) ys x.2

/-- A parameter that is no datum, and is only read: a pointer to what is only read; a function that has captured such a pointer. -/
inductive PK where
  | rp (τ : Ty)
  | clo (g : Nat) (τ : Ty)
@[reducible] def PK.ty : PK → Ty
  | .rp τ => τ | .clo _ τ => τ
def PK.V (k : PK) (x : k.ty.D) : V :=
  match k, x with
  | .rp τ, x => .rpt τ x
  | .clo g τ, x => .clo g (.tcons (.rpt τ x) .tnil)
def PK.read (k : PK) (v : Re.V) : Option k.ty.D :=
  match k with
  | .rp τ => match v with
    | .rpt τ' x => cast? τ' τ x
    | _ => none
  | .clo g τ => match v with
    | .clo g' (.tcons (.rpt τ' x) .tnil) => bif Nat.beq g g' then cast? τ' τ x else none
    | _ => none

/-- A parameter: a datum; a variable (by its address) or a row of the caller's own that the call may write. -/
inductive Par where
  | val (τ : Ty)
  /-- the nil slice -/
  | nils (e : Ty)
  | pv (k : PK)
  | box (τ : Ty)
  | row (e : Ty)
  /-- a row that is the call's from then on -/
  | take (e : Ty)

def Par.isTake : Par → Bool
  | .take _ => true | _ => false
/-- What a call only reads. -/
def Par.isIn : Par → Bool
  | .val _ => true | .nils _ => true | .pv _ => true | _ => false

/-- No slice in it. -/
def Ty.flat : Ty → Bool
  | .sl _ => false | .pair a b => a.flat && b.flat | .st b => b.flat | .arr _ e => e.flat | _ => true

@[reducible] def Par.ty : Par → Ty
  | .val τ => τ | .nils _ => .unit | .pv k => k.ty | .box τ => τ | .row e => .sl e | .take e => .sl e

@[reducible] def ioTys : List Par → List Ty
  | [] => []
  | .val _ :: r => ioTys r
  | .nils _ :: r => ioTys r
  | .pv _ :: r => ioTys r
  | .box τ :: r => τ :: ioTys r
  | .row e :: r => .sl e :: ioTys r
  | .take _ :: r => ioTys r

/-- A Go function as a plain one: its results, behind them what has become of what it may write. -/
structure Fun where
  args : List Par
  res : List (Ty × Mode)
  f : Ds (args.map Par.ty) → Option (Ds (res.map (·.1) ++ ioTys args))

structure Env where
  ty : Nat → Option Ty
  /-- structs that may be compared -/
  eq : Nat → Bool
  fn : Nat → Option Fun
  /-- slots of pieces that take their row over, or are written through -/
  cut : Nat → Bool := fun _ => false
  win : Nat → Bool := fun _ => false
  /-- variables that are set once and only read from then on: by the slot of their making, by their site -/
  one : Nat → Bool := fun _ => false
  onc : Nat → Bool := fun _ => false
  /-- slots of pieces that are read on the spot -/
  pre : Nat → Bool := fun _ => false
  /-- pointers; slices of pointers -/
  ptr : Nat → Bool := fun _ => false
  psl : Nat → Bool := fun _ => false
  /-- pointers to arrays -/
  parr : Nat → Option (Nat × Ty) := fun _ => none
  /-- maps: what their keys and values are -/
  mpt : Nat → Option (Ty × Ty) := fun _ => none
  /-- slots of calls to which rows are only lent -/
  lnd : Nat → Bool := fun _ => false
  /-- variables in which rows grow: where, by the slot of their making; loads that take such a row out; their sites -/
  gal : Nat → List (Nat × Nat) := fun _ => []
  gld : Nat → Bool := fun _ => false
  gbd : Nat → List (Nat × Nat) := fun _ => []
  gst : Nat → Bool := fun _ => false

/-- Sites of memory: what operation into slot d makes, piece i of it. -/
def site (d i : Nat) : Nat := 16 * d + i

/-- Version 0 is that of what a function was given to write: new memory bears later ones. -/
def nextVer : Entry → Nat
  | .none => 1
  | .gone v => v + 1
  | .box v _ _ => v + 1
  | .own v _ _ _ => v + 1

/-! ### operands -/
/-- Is it a number of the kind? -/
def okN : IntKind → Int → Bool
  | .u8, n => decide (0 ≤ n) && decide (n < 256) | .u16, n => decide (0 ≤ n) && decide (n < 65536)
  | .u32, n => decide (0 ≤ n) && decide (n < 4294967296) | .u64, n => decide (0 ≤ n) && decide (n < 18446744073709551616)
  | .i64, n => decide (-9223372036854775808 ≤ n) && decide (n < 9223372036854775808)
  | .i32, n => decide (-2147483648 ≤ n) && decide (n < 2147483648)
  | _, _ => false

def constV : Value → V
  | .bool b => .val .bool b
  | .int k n => match okN k n with
    | true => .val (.int k) (ofI k n)
    | false => .dead
  | .string s => match decide (s.size ≤ 140737488355328) with
    | true => .val .str (s.data.toList.map UInt8.toBitVec)
    | false => .dead
  | .slice none 0 0 => .nil
  | _ => .dead

def rd {α : Type} (x : Operand) (k : V → M α) : M α :=
  match x with
  | .tmp t => .slot t k
  | .const v => k (constV v)
  | _ => .fail

abbrev Ws (β : Type) := List (Nat × (β → Entry))

/-- A value as a datum of a type; 'fr': memory of its own that is shared by this becomes memory that is only read. -/
def asD {α : Type} (τ : Ty) (v : V) (k : τ.D → List (Nat × Entry) → M α) : M α :=
  match v with
  | .val τ' x => match cast? τ' τ x with
    | some y => k y []
    | none => .fail
  | .nil => match τ with
    | .sl _ => k [] []
    | _ => .fail
  | .ref s ver => .mem s fun e => match e with
    | .own ver' τe xs m => bif m.noRd then .fail else if ver = ver' then match cast? (.sl τe) τ xs with
        | some y => k y (match m with | .full => [(s, .own ver' τe xs .tail)] | _ => [])
        | none => .fail
      else .fail
    | _ => .fail
  | _ => .fail

/-- The same, where nothing is shared (it is read on the spot). -/
def asDr {α : Type} (τ : Ty) (v : V) (k : τ.D → M α) : M α := asD τ v fun x _ => k x

def fixed {β : Type} (l : List (Nat × Entry)) : Ws β := l.map fun p => (p.1, fun _ => p.2)

/-! ### arithmetic -/
def w64 (n : Int) : Int := IntKind.i64.wrap n
def w32 (n : Int) : Int := IntKind.i32.wrap n

/-- + - * and the bits, of one kind. -/
def arith (op : BinOp) : (k : IntKind) → IntT k → IntT k → Option (IntT k)
  | .u8, x, y => un 8 op x y | .u16, x, y => un 16 op x y | .u32, x, y => un 32 op x y | .u64, x, y => un 64 op x y
  | .i64, x, y => match op with
    | .add => some (w64 (x + y)) | .sub => some (w64 (x - y)) | .mul => some (w64 (x * y))
    | .quo => bif y == 0 then none else some (w64 (x.tdiv y))
    | .rem => bif y == 0 then none else some (x.tmod y)
    | .and => some (BitVec.toInt (BitVec.ofInt 64 x &&& BitVec.ofInt 64 y))
    | .or => some (BitVec.toInt (BitVec.ofInt 64 x ||| BitVec.ofInt 64 y))
    | .xor => some (BitVec.toInt (BitVec.ofInt 64 x ^^^ BitVec.ofInt 64 y))
    | .andNot => some (BitVec.toInt (BitVec.ofInt 64 x &&& ~~~ BitVec.ofInt 64 y))
    | _ => none
  | _, _, _ => none
where
  un (n : Nat) (op : BinOp) (x y : BitVec n) : Option (BitVec n) :=
    match op with
    | .add => some (x + y) | .sub => some (x - y) | .mul => some (x * y)
    | .quo => bif y == 0 then none else some (x / y)
    | .rem => bif y == 0 then none else some (x % y)
    | .and => some (x &&& y) | .or => some (x ||| y) | .xor => some (x ^^^ y) | .andNot => some (x &&& ~~~y)
    | _ => none

end Go.Re
