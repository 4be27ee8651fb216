/- Reflection, part B: each operation's program. -/
import Derived.Test.YtgceolpeegfkkaaReA
namespace Go.Re
set_option linter.unusedVariables false
set_option linter.unusedSimpArgs false

def lim : Nat := 2147483648

/-- The cells of a zero. -/
def zeroC : Ty → List Value
  | .bool => [.bool false] | .str => [.string ⟨#[]⟩] | .unit => [] | .int k => [.int k 0]
  | .pair a b => zeroC a ++ zeroC b | .st b => zeroC b | .sl _ => [.slice none 0 0] | .arr n e => (List.replicate n (zeroC e)).flatten

/-- The element that an int picks. -/
def ix {α : Type} (xs : List α) (i : Int) : Option α := bif decide (0 ≤ i) then xs[i.toNat]? else none
def inLen (i : Int) (n : Nat) : Bool := decide (0 ≤ i) && decide (i < (n : Int))
/-- A piece. -/
def slc {α : Type} (xs : List α) (lo hi : Int) : List α := (xs.take hi.toNat).drop lo.toNat

def eqD : (τ : Ty) → Option (τ.D → τ.D → Bool)
  | .bool => some fun x y => decide (x = y)
  | .str => some fun x y => decide (x = y)
  | .unit => some fun _ _ => true
  | .int .u8 => some fun x y => decide (x = y) | .int .u16 => some fun x y => decide (x = y)
  | .int .u32 => some fun x y => decide (x = y) | .int .u64 => some fun x y => decide (x = y)
  | .int .i64 => some fun x y => decide (x = y)
  | .int _ => none
  | .pair a b => match eqD a, eqD b with
    | some f, some g => some fun x y => f x.1 y.1 && g x.2 y.2
    | _, _ => none
  | .st b => eqD b
  | .arr _ (.int .u8) => some fun x y => decide (x = y)
  | _ => none

def cmp (op : BinOp) : (k : IntKind) → IntT k → IntT k → Option Bool
  | .u8, x, y => un 8 op x y | .u16, x, y => un 16 op x y | .u32, x, y => un 32 op x y | .u64, x, y => un 64 op x y
  | .i64, x, y => si op x y
  | _, _, _ => none
where
  si (op : BinOp) (x y : Int) : Option Bool :=
    match op with
    | .eql => some (decide (x = y)) | .neq => some (!decide (x = y))
    | .lss => some (decide (x < y)) | .leq => some (decide (x ≤ y)) | .gtr => some (decide (y < x)) | .geq => some (decide (y ≤ x))
    | _ => none
  un (n : Nat) (op : BinOp) (x y : BitVec n) : Option Bool :=
    match op with
    | .eql => some (decide (x = y)) | .neq => some (!decide (x = y))
    | .lss => some (decide (x < y)) | .leq => some (decide (x ≤ y)) | .gtr => some (decide (y < x)) | .geq => some (decide (y ≤ x))
    | _ => none

def shlI (x : Int) (n : Nat) : Int := w64 (x * 2 ^ min n 64)
def shrI (x : Int) (n : Nat) : Int := x.fdiv (2 ^ min n 64)

def shift (op : BinOp) : (k : IntKind) → IntT k → Int → Option (IntT k)
  | .u8, x, n => un 8 op x n | .u16, x, n => un 16 op x n | .u32, x, n => un 32 op x n | .u64, x, n => un 64 op x n
  | .i64, x, n => match op with
    | .shl => bif decide (0 ≤ n) then some (shlI x n.toNat) else none
    | .shr => bif decide (0 ≤ n) then some (shrI x n.toNat) else none
    | _ => none
  | _, _, _ => none
where
  un (w : Nat) (op : BinOp) (x : BitVec w) (n : Int) : Option (BitVec w) :=
    match op with
    | .shl => bif decide (0 ≤ n) then some (x <<< n.toNat) else none
    | .shr => bif decide (0 ≤ n) then some (x >>> n.toNat) else none
    | _ => none

/-- One kind's number as another's. -/
def convI : (k k' : IntKind) → IntT k → Option (IntT k')
  | .i64, .i64, x => some x
  | .i64, .i32, x => some (w32 x) | .u64, .i32, x => some (w32 (x.toNat : Int))
  | .i64, .u8, x => some (BitVec.ofInt 8 x) | .i64, .u16, x => some (BitVec.ofInt 16 x) | .i64, .u32, x => some (BitVec.ofInt 32 x) | .i64, .u64, x => some (BitVec.ofInt 64 x)
  | .u8, .i64, x => some (x.toNat : Int) | .u16, .i64, x => some (x.toNat : Int) | .u32, .i64, x => some (x.toNat : Int) | .u64, .i64, x => some (w64 (x.toNat : Int))
  | .u8, .u8, x => some x | .u8, .u16, x => some (x.setWidth 16) | .u8, .u32, x => some (x.setWidth 32) | .u8, .u64, x => some (x.setWidth 64)
  | .u16, .u8, x => some (x.setWidth 8) | .u16, .u16, x => some x | .u16, .u32, x => some (x.setWidth 32) | .u16, .u64, x => some (x.setWidth 64)
  | .u32, .u8, x => some (x.setWidth 8) | .u32, .u16, x => some (x.setWidth 16) | .u32, .u32, x => some x | .u32, .u64, x => some (x.setWidth 64)
  | .u64, .u8, x => some (x.setWidth 8) | .u64, .u16, x => some (x.setWidth 16) | .u64, .u32, x => some (x.setWidth 32) | .u64, .u64, x => some x
  | _, _, _ => none

def unI (op : UnOp) : (k : IntKind) → IntT k → Option (IntT k)
  | .u8, x => un 8 op x | .u16, x => un 16 op x | .u32, x => un 32 op x | .u64, x => un 64 op x
  | .i64, x => match op with
    | .neg => some (w64 (0 - x))
    | _ => none
  | _, _ => none
where
  un (n : Nat) (op : UnOp) (x : BitVec n) : Option (BitVec n) :=
    match op with
    | .neg => some (0 - x) | .xor => some (~~~x) | _ => none

/-- How deep its structs lie in one another. -/
def Ty.dep : Ty → Nat
  | .pair a b => max a.dep b.dep | .st b => b.dep + 1 | .arr _ e => e.dep + 1 | _ => 1

/-- May values of the type be compared? -/
def cmpOk (E : Env) (t : Nat) (τ : Ty) : Bool :=
  match τ with
  | .st b => E.eq t && decide (b.dep ≤ 1000)
  | .arr _ (.int .u8) => E.eq t
  | .bool => true | .str => true | _ => false

def binM (E : Env) (xt : Nat) (op : BinOp) (vx vy : V) : M V :=
  match op, vx, vy with
  | .shl, .val (.int k) x, .val (.int k') y => .fin _ (shift .shl k x (toI k' y)) (fun z => .val (.int k) z) []
  | .shr, .val (.int k) x, .val (.int k') y => .fin _ (shift .shr k x (toI k' y)) (fun z => .val (.int k) z) []
  | op, .val (.int k) x, .val τ' y => match cast? τ' (.int k) y with
    | some y => match op with
      | .eql => .fin _ (cmp .eql k x y) (fun z => .val .bool z) []
      | .neq => .fin _ (cmp .neq k x y) (fun z => .val .bool z) []
      | .lss => .fin _ (cmp .lss k x y) (fun z => .val .bool z) []
      | .leq => .fin _ (cmp .leq k x y) (fun z => .val .bool z) []
      | .gtr => .fin _ (cmp .gtr k x y) (fun z => .val .bool z) []
      | .geq => .fin _ (cmp .geq k x y) (fun z => .val .bool z) []
      | op => .fin _ (arith op k x y) (fun z => .val (.int k) z) []
    | none => .fail
  | .eql, .val (.sl _) x, .nil => match E.ty xt with
    | some (.sl _) => .ret (.nilq (List.isEmpty x) false)
    | _ => .fail
  | .neq, .val (.sl _) x, .nil => match E.ty xt with
    | some (.sl _) => .ret (.nilq (List.isEmpty x) true)
    | _ => .fail
  | .add, .val .str x, .val .str y => .fin _ (chk (decide (x.length + y.length ≤ lim))) (fun _ => .val .str (x ++ y)) []
  | .eql, .val τ x, .val τ' y => if E.ty xt = some τ ∧ cmpOk E xt τ = true then match cast? τ' τ y, eqD τ with
    | some y, some f => .ret (.val .bool (f x y))
    | _, _ => .fail else .fail
  | .neq, .val τ x, .val τ' y => if E.ty xt = some τ ∧ cmpOk E xt τ = true then match cast? τ' τ y, eqD τ with
    | some y, some f => .ret (.val .bool (!f x y))
    | _, _ => .fail else .fail
  | _, _, _ => .fail

def unM (op : UnOp) (v : V) : M V :=
  match op, v with
  | .not, .val .bool x => .ret (.val .bool (!x))
  | op, .val (.int k) x => .fin _ (unI op k x) (fun z => .val (.int k) z) []
  | _, _ => .fail

def convM (E : Env) (d : Nat) (src dst : Nat) (v : V) : M V :=
  match E.ty src, E.ty dst, v with
  | some (.int k), some (.int k'), .val τ x => match cast? τ (.int k) x with
      | some x => .fin _ (convI k k' x) (fun z => .val (.int k') z) []
      | none => .fail
  | some (.int k), some .str, .val τ x => match cast? τ (.int k) x with
      | some x => .fin _ (chk (decide (0 ≤ toI k x) && decide (toI k x < 128))) (fun _ => .val .str [BitVec.ofInt 8 (toI k x)]) []
      | none => .fail
  | some .str, some .str, .val .str x => .ret (.val .str x)
  | some .str, some (.sl (.int .u8)), .val .str x => .mem (site d 0) fun e =>
      .fin _ (chk (decide (x.length ≤ lim))) (fun _ => .ref (site d 0) (nextVer e)) [(site d 0, fun _ => .own (nextVer e) (.int .u8) x .full)]
  | some (.sl (.int .u8)), some .str, v => asDr (.sl (.int .u8)) v fun x => .fin _ (chk (decide (x.length ≤ lim))) (fun _ => .val .str x) []
  | some (.sl (.int .u8)), some (.sl (.int .u8)), .ref s ver => if src = dst then .mem s fun e => match e with
      | .own ver' τe xs .full => if ver = ver' ∧ τe = .int .u8 then .fin Unit (chk (decide (0 < xs.length))) (fun _ => .ref s ver) [] else .fail
      | _ => .fail
      else .fail
  | _, _, _ => .fail

/-- What lies where a pointer shows. -/
def loadM (τ : Ty) (v : V) : M V :=
  match v with
  | .ptr s ver p => .mem s fun e => match e with
    | .box ver' τb x => if ver = ver' then .fin _ (getP τb x p τ) (fun y => .val τ y) [] else .fail
    | _ => .fail
  | .elp s ver i p => .mem s fun e => match e with
    | .own ver' τe xs _ => if ver = ver' then .fin _ ((xs[i]?).bind fun x => getP τe x p τ) (fun y => .val τ y) [] else .fail
    | _ => .fail
  | .rpt τ' x => match cast? τ' τ x with
    | some y => .ret (.val τ y)
    | none => .fail
  | _ => .fail

/-- An element, or some of it, set. -/
def setE (τe : Ty) (xs : List τe.D) (i : Nat) (p : List Stp) (τ : Ty) (y : τ.D) : Option (List τe.D) :=
  match p with
  | [] => (cast? τ τe y).map fun u => xs.set i u
  | p => (xs[i]?).bind fun x => (setP τe x p τ y).map fun u => xs.set i u

def storeM (τ : Ty) (v u : V) : M V :=
  asD τ u fun y fr =>
  match v with
  | .ptr s ver p => .mem s fun e => match e with
    | .box ver' τb x => if ver = ver' then .fin τb.D (setP τb x p τ y) (fun _ => .dead) (fixed fr ++ [(s, fun x' => Entry.box ver' τb x')]) else .fail
    | _ => .fail
  | .elp s ver i p => .mem s fun e => match e with
    | .own ver' τe xs .full => if ver = ver' ∧ fr.all (fun q => !Nat.beq q.1 s) = true then .fin (List τe.D) (setE τe xs i p τ y) (fun _ => .dead) (fixed fr ++ [(s, fun xs' => Entry.own ver' τe xs' .full)]) else .fail
    | _ => .fail
  | _ => .fail

/-- A store that is the last one: the variable is only read from now on. -/
def onceM (τ : Ty) (v u : V) : M V :=
  asD τ u fun y fr =>
  match v with
  | .elp s ver i p => .mem s fun e => match e with
    | .own ver' τe xs .full => if ver = ver' ∧ fr.all (fun q => !Nat.beq q.1 s) = true then .fin (List τe.D) (setE τe xs i p τ y) (fun _ => .dead) (fixed fr ++ [(s, fun xs' => Entry.own ver' τe xs' .tail)]) else .fail
    | _ => .fail
  | _ => .fail
def isOnc (E : Env) (v : V) : Bool :=
  match v with
  | .elp s _ _ _ => E.onc s
  | _ => false

/-- 'b': the struct's fields. -/
def fieldAddrM (b : Ty) (v : V) (f : Nat) : M V :=
  match v with
  | .ptr s ver p => .mem s fun e => match e with
    | .box ver' τb _ => if ver = ver' ∧ tyP τb p = some (.st b) then .ret (.ptr s ver (p ++ fieldPath f)) else .fail
    | _ => .fail
  | .elp s ver i p => .mem s fun e => match e with
    | .own ver' τe _ _ => if ver = ver' ∧ tyP τe p = some (.st b) then .ret (.elp s ver i (p ++ fieldPath f)) else .fail
    | _ => .fail
  | .rpt τ x => match cast? τ (.st b) x, tyP b (fieldPath f) with
    | some x, some τ' => .fin _ (getP b x (fieldPath f) τ') (fun y => .rpt τ' y) []
    | _, _ => .fail
  | _ => .fail

def fieldM (b : Ty) (v : V) (f : Nat) : M V :=
  match v with
  | .val τ x => match cast? τ (.st b) x, tyP b (fieldPath f) with
    | some x, some τ' => .fin _ (getP b x (fieldPath f) τ') (fun y => .val τ' y) []
    | _, _ => .fail
  | _ => .fail

def indexAddrM (E : Env) (t : Nat) (v iv : V) : M V :=
  match iv with
  | .val (.int k) i =>
    match E.ty t with
    | some (.sl e) => match v with
      | .val τ xs => match cast? τ (.sl e) xs with
        | some xs => .fin _ (ix xs (toI k i)) (fun x => .rpt e x) []
        | none => .fail
      | .ref s ver => .mem s fun en => match en with
        | .own ver' e' xs m => if ver = ver' then match cast? (.sl e') (.sl e) xs with
          | some xs => match m with
            | .full => .fin _ (chk (inLen (toI k i) xs.length)) (fun _ => .elp s ver (toI k i).toNat []) []
            | .mp => .fail
            | .gb _ => .fail
            | _ => .fin _ (ix xs (toI k i)) (fun x => .rpt e x) []
          | none => .fail
          else .fail
        | _ => .fail
      | _ => .fail
    | some (.arr n e) => if n ≤ 1 then .fail else match v with
      | .ptr s ver p => .mem s fun en => match en with
        | .box ver' τb _ => if ver = ver' ∧ tyP τb p = some (.arr n e) then .fin _ (chk (inLen (toI k i) n)) (fun _ => .ptr s ver (p ++ [.idx (toI k i).toNat])) [] else .fail
        | _ => .fail
      | .elp s ver j p => .mem s fun en => match en with
        | .own ver' τe _ _ => if ver = ver' ∧ tyP τe p = some (.arr n e) then .fin _ (chk (inLen (toI k i) n)) (fun _ => .elp s ver j (p ++ [.idx (toI k i).toNat])) [] else .fail
        | _ => .fail
      | .rpt τ xs => match cast? τ (.arr n e) xs with
        | some xs => .fin _ (ix xs (toI k i)) (fun x => .rpt e x) []
        | none => .fail
      | _ => .fail
    | _ => .fail
  | _ => .fail

def indexM (E : Env) (t : Nat) (v iv : V) : M V :=
  match E.ty t, v, iv with
  | some (.arr n e), .val τ xs, .val (.int k) i => match cast? τ (.arr n e) xs with
    | some xs => .fin _ (ix xs (toI k i)) (fun x => .val e x) []
    | none => .fail
  | some .str, .val .str s, .val (.int k) i => .fin _ (ix s (toI k i)) (fun x => .val (.int .u8) x) []
  | _, _, _ => .fail

/-- New memory of its own. -/
def boxM (d : Nat) (τ : Ty) (x : τ.D) (fr : List (Nat × Entry)) : M V :=
  .mem (site d 0) fun e => .fin Unit (some ()) (fun _ => .ptr (site d 0) (nextVer e) []) (fixed fr ++ [(site d 0, fun _ => .box (nextVer e) τ x)])

/-- The same as a row of one element. -/
def oneM (d : Nat) (τ : Ty) (x : τ.D) : M V :=
  .mem (site d 0) fun e => .fin Unit (some ()) (fun _ => .elp (site d 0) (nextVer e) 0 []) [(site d 0, fun _ => .own (nextVer e) τ [x] .full)]

def ownM (d : Nat) (τ : Ty) (xs : List τ.D) (m : Mode) (fr : List (Nat × Entry)) : M V :=
  .mem (site d 0) fun e => .fin Unit (some ()) (fun _ => .ref (site d 0) (nextVer e)) (fixed fr ++ [(site d 0, fun _ => .own (nextVer e) τ xs m)])

/-- The parts of a struct or an array, set one by one. -/
def buildM (d : Nat) (b : Ty) (path : Nat → List Stp) (x : b.D) (fr : List (Nat × Entry)) : List (Nat × Operand) → (b.D → List (Nat × Entry) → M V) → M V
  | [], k => k x fr
  | (i, o) :: r, k => rd o fun v => match tyP b (path i) with
    | some τ' => asD τ' v fun y fr' => match setP b x (path i) τ' y with
      | some x' => buildM d b path x' (fr' ++ fr) r k
      | none => .fail
    | none => .fail

/-- A bound of a piece. -/
def bound {α : Type} (x : Option Operand) (k : Option Int → M α) : M α :=
  match x with
  | none => k none
  | some o => rd o fun v => match v with
    | .val (.int kd) i => k (some (toI kd i))
    | _ => .fail

/-- Are they bounds of so much? -/
def okSlc (lo hi : Option Int) (n : Nat) : Bool :=
  match lo, hi with
  | none, none => true
  | some l, none => decide (0 ≤ l) && decide (l ≤ (n : Int))
  | none, some h => decide (0 ≤ h) && decide (h ≤ (n : Int))
  | some l, some h => decide (0 ≤ l) && decide (l ≤ h) && decide (h ≤ (n : Int))

def slcO {α : Type} (xs : List α) (lo hi : Option Int) : List α :=
  match lo, hi with
  | none, none => xs
  | some l, none => xs.drop l.toNat
  | none, some h => xs.take h.toNat
  | some l, some h => slc xs l h

/-- A piece of an array in a variable of one's own: the variable is only read from now on, by this piece. -/
def arrSlice (n : Nat) (e : Ty) (v : V) (lo hi : Option Int) : M V :=
  match v with
  | .ptr s ver [] => .mem s fun en => match en with
    | .box ver' τb x => if ver = ver' ∧ n ≤ 65536 then match cast? τb (.arr n e) x with
        | some xs => .fin _ (chk (okSlc lo hi n)) (fun _ => .val (.sl e) (slcO (α := e.D) xs lo hi)) [(s, fun _ => .gone ver)]
        | none => .fail
      else .fail
    | _ => .fail
  | .elp s ver i p => .mem s fun en => match en with
    | .own ver' τe xs .tail => if ver = ver' ∧ n ≤ 65536 then match (xs[i]?).bind fun x => getP τe x p (.arr n e) with
        | some ys => .fin Unit (chk (okSlc lo hi n)) (fun _ => .val (.sl e) (slcO (α := e.D) ys lo hi)) []
        | none => .fail
        else .fail
    | _ => .fail
  | .rpt τ x => match cast? τ (.arr n e) x with
    | some xs => if n ≤ 65536 then .fin Unit (chk (okSlc lo hi n)) (fun _ => .val (.sl e) (slcO (α := e.D) xs lo hi)) [] else .fail
    | none => .fail
  | _ => .fail

/-- A row of one's own, cut. -/
def cutM (E : Env) (t : Nat) (v : V) (hi : Option Int) : M V :=
  match E.ty t with
  | some (.sl e) => match v, hi with
    | .ref s ver, some h => .mem s fun en => match en with
      | .own ver' e' xs .full => if ver = ver' then match cast? (.sl e') (.sl e) xs with
          | some xs => .fin _ (chk (decide (0 ≤ h) && decide (h ≤ (xs.length : Int)))) (fun _ => .ref s (nextVer en)) [(s, fun _ => .own (nextVer en) e (xs.take h.toNat) .full)]
          | none => .fail
        else .fail
      | _ => .fail
    | _, _ => .fail
  | _ => .fail

/-- A row of one's own, from some element on. -/
def winM (E : Env) (t : Nat) (v : V) (lo : Option Int) : M V :=
  match E.ty t with
  | some (.sl e) => match v, lo with
    | .ref s ver, some l => .mem s fun en => match en with
      | .own ver' e' xs .full => if ver = ver' ∧ e' = e then .fin _ (chk (decide (0 ≤ l) && decide (l ≤ (xs.length : Int)))) (fun _ => .win s ver l.toNat) [] else .fail
      | _ => .fail
    | _, _ => .fail
  | _ => .fail

/-- The first elements of a row of one's own. -/
def preM (E : Env) (t : Nat) (v : V) (hi : Option Int) : M V :=
  match E.ty t with
  | some (.sl e) => match v, hi with
    | .ref s ver, some h => .mem s fun en => match en with
      | .own ver' e' xs .full => if ver = ver' ∧ e' = e then .fin _ (chk (decide (0 ≤ h) && decide (h ≤ (xs.length : Int)))) (fun _ => .pre s ver h.toNat) [] else .fail
      | _ => .fail
    | _, _ => .fail
  | _ => .fail

/-- A piece with no room behind it. -/
def slice3F (d : Nat) (e : Ty) (x : List e.D) (fr : List (Nat × Entry)) (lo : Option Int) (h m : Int) : M V :=
  .mem (site d 0) fun en => .fin Unit (chk (okSlc lo (some h) x.length && decide (h = m))) (fun _ => .ref (site d 0) (nextVer en))
    (fixed fr ++ [(site d 0, fun _ => .own (nextVer en) e (slcO x lo (some h)) .tail)])
def slice3M (E : Env) (d t : Nat) (v : V) (lo : Option Int) (h m : Int) : M V :=
  match E.ty t with
  | some (.sl e) => asD (.sl e) v fun x fr => slice3F d e x fr lo h m
  | _ => .fail

def sliceM (E : Env) (t : Nat) (v : V) (lo hi : Option Int) : M V :=
  match E.ty t with
  | some .str => asDr .str v fun x => .fin _ (chk (okSlc lo hi x.length)) (fun _ => .val .str (slcO x lo hi)) []
  | some (.sl e) => match v with
    | .nil => .fin _ (chk (okSlc lo hi 0)) (fun _ => .nil) []
    | v => asD (.sl e) v fun x fr => .fin _ (chk (okSlc lo hi x.length)) (fun _ => .val (.sl e) (slcO x lo hi)) (fixed fr)
  | some (.arr n e) => arrSlice n e v lo hi
  | _ => .fail

/-- A piece: as it's marked, or only read. -/
def sliceOpM (E : Env) (d t : Nat) (v : V) (lo hi : Option Int) : M V :=
  bif E.cut d then match lo with
    | none => cutM E t v hi
    | some _ => .fail
  else bif E.win d then match hi with
    | none => winM E t v lo
    | some _ => .fail
  else bif E.pre d then match lo with
    | none => preM E t v hi
    | some _ => .fail
  else sliceM E t v lo hi

def lenM (E : Env) (t : Nat) (v : V) : M V :=
  match E.ty t with
  | some .str => asDr .str v fun x => .ret (.val (.int .i64) (x.length : Int))
  | some (.sl e) => asDr (.sl e) v fun x => .ret (.val (.int .i64) (x.length : Int))
  | _ => .fail

/-- What is appended ('t': its type; a number: so many zeros). -/
def more {α : Type} (E : Env) (t : Nat) (e : Ty) (v : V) (k : List e.D → M α) : M α :=
  match E.ty t with
  | some .str => match v with
    | .val .str x => match cast? (.sl (.int .u8)) (.sl e) x with
      | some y => k y
      | none => .fail
    | _ => .fail
  | some (.sl _) => match v with
    | .pre s ver hi => .mem s fun en => match en with
      | .own ver' e' xs .full => if ver = ver' then match cast? (.sl e') (.sl e) xs with
          | some xs => k (xs.take hi)
          | none => .fail
        else .fail
      | _ => .fail
    | v => asDr (.sl e) v k
  | _ => .fail

/-- Elements behind a slice, if the check is true. -/
def appM (d : Nat) (e : Ty) (v : V) (ys : List e.D) (c : Bool) : M V :=
  match v with
  | .nil => .mem (site d 0) fun en =>
      .fin _ (chk (c && decide (ys.length ≤ lim))) (fun _ => .ref (site d 0) (nextVer en)) [(site d 0, fun _ => .own (nextVer en) e ys .full)]
  | .ref s ver => .mem s fun en => .mem (site d 0) fun en' => match en with
    | .own ver' e' xs m => if ver = ver' then match cast? (.sl e') (.sl e) xs with
        | some xs => match m with
          | .full => .fin _ (chk (c && decide (xs.length + ys.length ≤ lim))) (fun _ => .ref (site d 0) (nextVer en'))
              [(s, fun _ => .gone ver), (site d 0, fun _ => .own (nextVer en') e (xs ++ ys) .full)]
          | .tail => .fin _ (chk (c && decide (xs.length + ys.length ≤ lim))) (fun _ => .ref (site d 0) (nextVer en'))
              [(s, fun _ => .own ver' e xs .view), (site d 0, fun _ => .own (nextVer en') e (xs ++ ys) .tail)]
          | .view => .fail
          | .mp => .fail
          | .gb _ => .fail
        | none => .fail
      else .fail
    | _ => .fail
  | _ => .fail

def isI64 (τ : Option Ty) : Bool :=
  match τ with
  | some (.int .i64) => true
  | _ => false

def appendM (E : Env) (d t t' : Nat) (v u : V) : M V :=
  match E.ty t with
  | some (.sl e) => bif isI64 (E.ty t') then match u with
      | .val (.int .i64) n => appM d e v (List.replicate (n : Int).toNat e.zero) (decide (0 ≤ (n : Int)) && decide ((n : Int) ≤ (lim : Int)))
      | _ => .fail
    else more E t' e u fun ys => appM d e v ys true
  | _ => .fail

/-- So many of the first ones another's. -/
def over {α : Type} (xs ys : List α) : List α := ys.take xs.length ++ xs.drop ys.length

/-- The same, from some element on. -/
def overAt {α : Type} (lo : Nat) (xs ys : List α) : List α := xs.take lo ++ over (xs.drop lo) ys

def copyM (E : Env) (t t' : Nat) (v u : V) : M V :=
  match E.ty t with
  | some (.sl e) => more E t' e u fun ys =>
    match v with
    | .ref s ver => .mem s fun en => match en with
      | .own ver' e' xs .full => if ver = ver' then match cast? (.sl e) (.sl e') ys with
          | some ys => .fin Unit (some ()) (fun _ => .val (.int .i64) (min ys.length xs.length : Nat)) [(s, fun _ => .own ver' e' (over xs ys) .full)]
          | none => .fail
        else .fail
      | _ => .fail
    | .win s ver lo => .mem s fun en => match en with
      | .own ver' e' xs .full => if ver = ver' then match cast? (.sl e) (.sl e') ys with
          | some ys => .fin Unit (some ()) (fun _ => .val (.int .i64) (min ys.length (xs.length - lo) : Nat)) [(s, fun _ => .own ver' e' (overAt lo xs ys) .full)]
          | none => .fail
        else .fail
      | _ => .fail
    | _ => .fail
  | _ => .fail

def mnI : (k : IntKind) → IntT k → IntT k → Option (IntT k)
  | .u8, x, y => some (bif decide (y < x) then y else x) | .u16, x, y => some (bif decide (y < x) then y else x)
  | .u32, x, y => some (bif decide (y < x) then y else x) | .u64, x, y => some (bif decide (y < x) then y else x)
  | .i64, x, y => some (bif decide (y < x) then y else x)
  | _, _, _ => none
def mxI : (k : IntKind) → IntT k → IntT k → Option (IntT k)
  | .u8, x, y => some (bif decide (x < y) then y else x) | .u16, x, y => some (bif decide (x < y) then y else x)
  | .u32, x, y => some (bif decide (x < y) then y else x) | .u64, x, y => some (bif decide (x < y) then y else x)
  | .i64, x, y => some (bif decide (x < y) then y else x)
  | _, _, _ => none

def mmM (f : (k : IntKind) → IntT k → IntT k → Option (IntT k)) (v u : V) : M V :=
  match v, u with
  | .val (.int k) x, .val τ' y => match cast? τ' (.int k) y with
    | some y => .fin _ (f k x y) (fun z => .val (.int k) z) []
    | none => .fail
  | _, _ => .fail

def nth : V → Nat → Option V
  | .tcons a _, 0 => some a
  | .tcons _ r, i + 1 => nth r i
  | _, _ => none

/-- Where what a call may write lies, and how it's written. -/
@[reducible] def Io : List Par → Type
  | [] => Unit
  | .val _ :: r => Io r
  | .nils _ :: r => Io r
  | .pv _ :: r => Io r
  | .box τ :: r => (Nat × (τ.D → Entry)) × Io r
  | .row e :: r => (Nat × (List e.D → Entry)) × Io r
  | .take _ :: r => (Nat × Entry) × Io r

def ioSites : (ps : List Par) → Io ps → List Nat
  | [], _ => []
  | .val _ :: r, w => ioSites r w
  | .nils _ :: r, w => ioSites r w
  | .pv _ :: r, w => ioSites r w
  | .box _ :: r, w => w.1.1 :: ioSites r w.2
  | .row _ :: r, w => w.1.1 :: ioSites r w.2
  | .take _ :: r, w => w.1.1 :: ioSites r w.2

/-- One of several, ahead of the others. -/
def dsH (a : Ty) : (r : List Ty) → Ds (a :: r) → a.D
  | [], x => x
  | _ :: _, x => x.1
def dsT (a : Ty) : (r : List Ty) → Ds (a :: r) → Ds r
  | [], _ => ()
  | _ :: _, x => x.2

def ioWs {β : Type} : (ps : List Par) → Io ps → (β → Ds (ioTys ps)) → Ws β
  | [], _, _ => []
  | .val _ :: r, w, g => ioWs r w g
  | .nils _ :: r, w, g => ioWs r w g
  | .pv _ :: r, w, g => ioWs r w g
  | .box τ :: r, w, g => (w.1.1, fun b => w.1.2 (dsH τ (ioTys r) (g b))) :: ioWs r w.2 (fun b => dsT τ (ioTys r) (g b))
  | .row e :: r, w, g => (w.1.1, fun b => w.1.2 (dsH (.sl e) (ioTys r) (g b))) :: ioWs r w.2 (fun b => dsT (.sl e) (ioTys r) (g b))
  | .take _ :: r, w, g => (w.1.1, fun _ => w.1.2) :: ioWs r w.2 g

/-- A path without an index. -/
def noIdx : List Stp → Bool
  | [] => true
  | .idx _ :: _ => false
  | _ :: p => noIdx p

/-- A variable that a call may write. -/
def boxD {α : Type} (τ : Ty) (v : V) (k : τ.D → Nat × (τ.D → Entry) → M α) : M α :=
  match v with
  | .ptr s ver p => .mem s fun e => match e with
    | .box ver' τb x => if ver = ver' ∧ tyP τb p = some τ ∧ noIdx p = true ∧ τ.isVal = true then k (getT τb x p τ) (s, fun z => .box ver' τb (setT τb x p τ z)) else .fail
    | _ => .fail
  | .elp s ver i p => .mem s fun e => match e with
    | .own ver' τe xs .full => if ver = ver' ∧ tyP τe p = some τ ∧ noIdx p = true ∧ τ.isVal = true then
        k (getT τe (xs.getD i τe.zero) p τ) (s, fun z => .own ver' τe (xs.set i (setT τe (xs.getD i τe.zero) p τ z)) .full) else .fail
    | _ => .fail
  | _ => .fail

/-- A row that a call may write. -/
def rowD {α : Type} (e : Ty) (v : V) (k : List e.D → Nat × (List e.D → Entry) → M α) : M α :=
  match v with
  | .ref s ver => .mem s fun en => match en with
    | .own ver' e' xs .full => if ver = ver' then match cast? (.sl e') (.sl e) xs with
        | some xs => k xs (s, fun z => .own ver' e z .full)
        | none => .fail
      else .fail
    | _ => .fail
  | _ => .fail

/-- A row that a call takes. -/
def takeD {α : Type} (e : Ty) (v : V) (k : List e.D → Nat × Entry → M α) : M α :=
  match v with
  | .ref s ver => .mem s fun en => match en with
    | .own ver' e' xs .full => if ver = ver' then match cast? (.sl e') (.sl e) xs with
        | some xs => k xs (s, .gone ver')
        | none => .fail
      else .fail
    | _ => .fail
  | _ => .fail

/-- One argument. -/
def argM {α : Type} (p : Par) (v : V) (k : p.ty.D → List (Nat × Entry) → Io [p] → M α) : M α :=
  match p, k with
  | .val τ, k => asD τ v fun x fr => k x fr ()
  | .nils e, k => match v with
    | .nil => k () [] ()
    | _ => .fail
  | .pv q, k => match q.read v with
    | some x => k x [] ()
    | none => .fail
  | .box τ, k => boxD τ v fun x w => k x [] (w, ())
  | .row e, k => rowD e v fun x w => k x [] (w, ())
  | .take e, k => takeD e v fun x w => k x [] (w, ())

def ioCons : (p : Par) → (r : List Par) → Io [p] → Io r → Io (p :: r)
  | .val _, _, _, w' => w'
  | .nils _, _, _, w' => w'
  | .pv _, _, _, w' => w'
  | .box _, _, w, w' => (w.1, w')
  | .row _, _, w, w' => (w.1, w')
  | .take _, _, w, w' => (w.1, w')

/-- An operand, or a value. -/
def rdX {α : Type} (x : Operand ⊕ V) (k : V → M α) : M α :=
  match x with
  | .inl o => rd o k
  | .inr v => k v

/-- The arguments of a call. -/
def argsM {α : Type} : (ps : List Par) → List (Operand ⊕ V) → (Ds (ps.map Par.ty) → List (Nat × Entry) → Io ps → M α) → M α
  | [], [], k => k () [] ()
  | [a], [o], k => rdX o fun v => argM a v fun x fr w => k x fr w
  | a :: b :: r, o :: os, k => rdX o fun v => argM a v fun x fr w => argsM (b :: r) os fun xs fr' w' => k (x, xs) (fr ++ fr') (ioCons a (b :: r) w w')
  | _, _, _ => .fail

/-- No two alike. -/
def nodupB : List Nat → Bool
  | [] => true
  | n :: r => r.all (fun m => !Nat.beq m n) && nodupB r

/-- Piece i of a result: memory of the caller's own, or a plain value. -/
def resV (s ver : Nat) (p : Ty × Mode) (x : p.1.D) : V :=
  match p with
  | (.sl e, .view) => .val (.sl e) x
  | (.sl e, .gb _) => .val (.sl e) x
  | (.sl _, _) => .ref s ver
  | (τ, _) => .val τ x

/-- All pieces of a result, behind one another. -/
def resVs (d : Nat) (ver : Nat → Nat) : (i : Nat) → (ps : List (Ty × Mode)) → Ds (ps.map (·.1)) → V
  | _, [], _ => .tnil
  | i, [p], x => .tcons (resV (site d i) (ver i) p x) .tnil
  | i, p :: q :: r, x => .tcons (resV (site d i) (ver i) p x.1) (resVs d ver (i + 1) (q :: r) x.2)

def resW (s ver : Nat) (p : Ty × Mode) {β : Type} (g : β → p.1.D) : Ws β :=
  match p, g with
  | (.sl _, .view), _ => []
  | (.sl _, .gb _), _ => []
  | (.sl e, m), g => [(s, fun b => .own ver e (g b) m)]
  | _, _ => []

def resWs (d : Nat) (ver : Nat → Nat) {β : Type} : (i : Nat) → (ps : List (Ty × Mode)) → (β → Ds (ps.map (·.1))) → Ws β
  | _, [], _ => []
  | i, [p], g => resW (site d i) (ver i) p g
  | i, p :: q :: r, g => resW (site d i) (ver i) p (fun b => (g b).1) ++ resWs d ver (i + 1) (q :: r) (fun b => (g b).2)

/-- The versions that the sites of a slot will bear. -/
def versM {α : Type} (d : Nat) : (n : Nat) → ((Nat → Nat) → M α) → M α
  | 0, k => k fun _ => 0
  | n + 1, k => versM d n fun f => .mem (site d n) fun e => k fun i => bif Nat.beq i n then nextVer e else f i

/-- A call's value: one piece alone, or all in a tuple. -/
def resTop (d : Nat) (ver : Nat → Nat) : (ps : List (Ty × Mode)) → Ds (ps.map (·.1)) → V
  | [p], x => resV (site d 0) (ver 0) p x
  | [], _ => .tnil
  | p :: q :: r, x => resVs d ver 0 (p :: q :: r) x

def callM (d : Nat) (F : Fun) (os : List (Operand ⊕ V)) : M V :=
  argsM F.args os fun x fr io => versM d F.res.length fun ver =>
    if nodupB (ioSites F.args io) = true ∧ (ioSites F.args io).all (fun s => fr.all fun q => !Nat.beq q.1 s) = true ∧ (ioSites F.args io).all (fun s => (List.range F.res.length).all fun i => !Nat.beq (site d i) s) = true then
      .fin _ (F.f x) (fun r => resTop d ver F.res (dsL (F.res.map (·.1)) (ioTys F.args) r))
        (fixed fr ++ ioWs F.args io (fun r => dsR (F.res.map (·.1)) (ioTys F.args) r) ++ resWs d ver 0 F.res (fun r => dsL (F.res.map (·.1)) (ioTys F.args) r))
    else .fail

/-- One result, without a slice in it. -/
def flatRes : List (Ty × Mode) → Bool
  | [p] => p.1.flat | _ => false
/-- A call that is only lent its rows. -/
def lendM (d : Nat) (F : Fun) (os : List (Operand ⊕ V)) : M V :=
  argsM F.args os fun x _ _ => bif F.args.all Par.isIn && flatRes F.res then .fin _ (F.f x) (fun r => resTop d (fun _ => 0) F.res (dsL (F.res.map (·.1)) (ioTys F.args) r)) [] else .fail

/-- The rest of a row is set to nothing. -/
def clearM (E : Env) (t : Nat) (v : V) : M V :=
  match v with
  | .win s ver lo => .mem s fun en => match en with
    | .own ver' e' xs .full => if ver = ver' ∧ E.ty t = some (.sl e') then .fin Unit (some ()) (fun _ => .dead) [(s, fun _ => .own ver' e' (overAt lo xs (List.replicate (xs.length - lo) e'.zero)) .full)] else .fail
    | _ => .fail
  | _ => .fail

/-- Pointers, one behind the other. -/
def plM {α : Type} : List (Nat × Operand) → Nat → (V → M α) → M α
  | [], _, k => k .tnil
  | (i, o) :: r, j, k => bif Nat.beq i j then rd o fun v => match v with
    | .ptr s ver p => .mem s fun e => match e with
      | .box ver' _ _ => bif Nat.beq ver ver' then plM r (j + 1) fun c => k (.tcons (.ptr s ver p) c) else .fail
      | _ => .fail
    | _ => .fail
    else .fail
def chainLen : V → Option Nat
  | .tcons _ r => (chainLen r).map (· + 1)
  | .tnil => some 0
  | _ => none
def plIx (v u : V) : M V :=
  match v, u with
  | .plist c, .val (.int k) i => match nth c (toI k i).toNat with
    | some y => .fin Unit (chk (decide (0 ≤ toI k i))) (fun _ => .pel y) []
    | none => .fail
  | _, _ => .fail

/-- A map with one more pair, or with another value at a key. -/
def mpPut {n : Nat} {V : Type} : List (List (BitVec n) × V) → List (BitVec n) → V → List (List (BitVec n) × V)
  | [], k, v => [(k, v)]
  | p :: r, k, v => bif decide (k = p.1) then (k, v) :: r else p :: mpPut r k v
/-- What stands at a key. -/
def mpGet {n : Nat} {V : Type} : List (List (BitVec n) × V) → List (BitVec n) → Option V
  | [], _ => none
  | p :: r, k => bif decide (k = p.1) then some p.2 else mpGet r k

/-- A map of one's own. -/
def mpMake (d : Nat) (K V : Ty) : M Re.V := .mem (site d 0) fun en => .fin Unit (some ()) (fun _ => .ref (site d 0) (nextVer en)) [(site d 0, fun _ => .own (nextVer en) (.pair K V) [] .mp)]
def mpUpd (n : Nat) (V : Ty) (vm vk vx : Re.V) : M Re.V :=
  match vm, vk, vx with
  | .ref s ver, .val τk k, .val τx x => .mem s fun en => match en with
    | .own ver' e' xs .mp => if ver = ver' then match cast? (.sl e') (.sl (.pair (.arr n (.int .u8)) V)) xs, cast? τk (.arr n (.int .u8)) k, cast? τx V x with
        | some xs, some k, some x => .fin Unit (chk (decide (xs.length + 1 ≤ lim))) (fun _ => .dead) [(s, fun _ => .own ver' (.pair (.arr n (.int .u8)) V) (mpPut xs k x) .mp)]
        | _, _, _ => .fail
      else .fail
    | _ => .fail
  | _, _, _ => .fail
def mpLook (n : Nat) (V : Ty) (vm vk : Re.V) (ok : Bool) : M Re.V :=
  match vm, vk with
  | .ref s ver, .val τk k => .mem s fun en => match en with
    | .own ver' e' xs .mp => if ver = ver' then match cast? (.sl e') (.sl (.pair (.arr n (.int .u8)) V)) xs, cast? τk (.arr n (.int .u8)) k with
        | some xs, some k => .ret (bif ok then .tcons (.val V ((mpGet xs k).getD V.zero)) (.tcons (.val .bool (mpGet xs k).isSome) .tnil) else .val V ((mpGet xs k).getD V.zero))
        | _, _ => .fail
      else .fail
    | _ => .fail
  | _, _ => .fail
def mpLen (vm : Re.V) : M Re.V :=
  match vm with
  | .ref s ver => .mem s fun en => match en with
    | .own ver' _ xs .mp => if ver = ver' then .ret (.val (.int .i64) (xs.length : Int)) else .fail
    | _ => .fail
  | _ => .fail

/-- Those of the places that lie outside of so many cells. -/
def cutG (off n : Nat) (l : List (Nat × Nat)) : List (Nat × Nat) := l.filter fun q => !(Nat.ble off q.1 && Nat.ble (q.1 + 1) (off + n))
def hasG (off sz : Nat) (l : List (Nat × Nat)) : Bool := l.any fun q => Nat.beq q.1 off && Nat.beq q.2 sz
def isNil0 : Option Value → Bool
  | some (.slice none 0 0) => true | _ => false

/-- The only one. -/
def one? {α : Type} : List α → Option α
  | [x] => some x | _ => none

/-- A variable in which rows grow. -/
def gboxM (d : Nat) (τ : Ty) (l : List (Nat × Nat)) : M V :=
  bif l.all fun q => isNil0 (zeroC τ)[q.1]? then .mem (site d 0) fun e => .fin Unit (some ()) (fun _ => .elp (site d 0) (nextVer e) 0 []) [(site d 0, fun _ => .own (nextVer e) τ [τ.zero] (.gb l))] else .fail
/-- Such a row is taken out, to be appended to. -/
def gldM (d : Nat) (τ : Ty) (v : V) : M V :=
  match τ with
  | .sl e => match v with
    | .elp s ver i p => .mem s fun en => .mem (site d 0) fun en' => match en with
      | .own ver' τe xs (.gb l) => match one? xs with
        | some x => if ver = ver' ∧ i = 0 ∧ site d 0 ≠ s ∧ hasG (offP τe p) e.size l = true then
            .fin (List e.D) (getP τe x p (.sl e)) (fun _ => .ref (site d 0) (nextVer en')) [(s, fun _ => .own ver' τe [x] (.gb (cutG (offP τe p) 1 l))), (site d 0, fun y => .own (nextVer en') e y .tail)] else .fail
        | none => .fail
      | _ => .fail
    | _ => .fail
  | _ => .fail
/-- Such a row is put in. -/
def ginM (τ : Ty) (s ver i : Nat) (p : List Stp) (s2 ver2 : Nat) : M V :=
  .mem s fun en => .mem s2 fun en2 => match en, en2 with
  | .own v1 τe xs (.gb l), .own v2 e ys .tail => if ver = v1 ∧ ver2 = v2 ∧ i = 0 ∧ s2 ≠ s then match one? xs, cast? (.sl e) τ ys with
      | some x, some y => .fin τe.D (setP τe x p τ y) (fun _ => .dead) [(s2, fun _ => .own v2 e ys .view), (s, fun x' => Entry.own v1 τe [x'] (.gb ((offP τe p, e.size) :: cutG (offP τe p) 1 l)))]
      | _, _ => .fail
      else .fail
  | _, _ => .fail
/-- Something is stored in such a variable. -/
def gstM (τ : Ty) (v u : V) : M V :=
  asD τ u fun y fr =>
  match v with
  | .elp s ver i p => .mem s fun e => match e with
    | .own ver' τe xs (.gb l) => match one? xs with
      | some x => if ver = ver' ∧ i = 0 ∧ fr.all (fun q => !Nat.beq q.1 s) = true then .fin τe.D (setP τe x p τ y) (fun _ => .dead) (fixed fr ++ [(s, fun x' => Entry.own ver' τe [x'] (.gb (cutG (offP τe p) τ.size l)))]) else .fail
      | none => .fail
    | _ => .fail
  | _ => .fail
def isGb (E : Env) (v : V) : Bool :=
  match v with
  | .elp s _ _ _ => E.gst s
  | _ => false
/-- Are these cells of a struct nil slices that are not set? -/
def zOk (b : Ty) (ps : List (Nat × Operand)) (z : List (Nat × Nat)) : Bool :=
  z.all fun q => isNil0 (zeroC b)[q.1]? && ps.all fun p => match tyP b (fieldPath p.1) with
    | some τ' => Nat.ble (q.1 + 1) (offP b (fieldPath p.1)) || Nat.ble (offP b (fieldPath p.1) + τ'.size) q.1
    | none => false
/-- A datum with nil slices is stored in such a variable. -/
def gszM (τ : Ty) (s ver i : Nat) (p : List Stp) (τ' : Ty) (x : τ'.D) (z : List (Nat × Nat)) : M V :=
  .mem s fun e => match e with
  | .own ver' τe xs (.gb l) => match one? xs, cast? τ' τ x with
    | some x0, some y => if ver = ver' ∧ i = 0 then .fin τe.D (setP τe x0 p τ y) (fun _ => .dead) [(s, fun x' => Entry.own ver' τe [x'] (.gb (z.map (fun q => (offP τe p + q.1, q.2)) ++ cutG (offP τe p) τ.size l)))] else .fail
    | _, _ => .fail
  | _ => .fail
/-- A store into such a variable: rows of the sites marked are put in. -/
def gstoreM (E : Env) (τ : Ty) (v u : V) : M V :=
  match v, u with
  | .elp s ver i p, .ref s2 ver2 => bif E.gst s2 then ginM τ s ver i p s2 ver2 else gstM τ v u
  | .elp s ver i p, .zval τ' x z => gszM τ s ver i p τ' x z
  | v, u => gstM τ v u

def opM (E : Env) (o : Oper) : M V :=
  let d := o.dst.getD 0
  match o.op with
  | .move x => rd x .ret
  | .assign x => rd x fun v => match v with
    | .nil => match E.ty o.type with
      | some (.sl e) => ownM d e [] .full []
      | _ => .fail
    | v => .ret v
  | .pick c a b => rd c fun vc => rd a fun va => rd b fun vb => match vc with
    | .val .bool c => match va, vb with
      | .val τ x, .val τ' y => match cast? τ' τ y with
        | some y => .ret (.val τ (bif c then x else y))
        | none => .fail
      | .dead, vb => .fin _ (chk (!c)) (fun _ => vb) []
      | .tnil, vb => .fin _ (chk (!c)) (fun _ => vb) []
      | va, .dead => .fin _ (chk c) (fun _ => va) []
      | va, .tnil => .fin _ (chk c) (fun _ => va) []
      | _, _ => .fail
    | _ => .fail
  | .alloc t => match E.ty t with
    | some τ => match E.gal d with
      | [] => bif E.one d then oneM d τ τ.zero else boxM d τ τ.zero []
      | q :: l => gboxM d τ (q :: l)
    | none => .fail
  | .box t x => match E.ty t with
    | some τ => rd x fun v => asD τ v fun y fr => bif E.one d then .fin Unit (some ()) (fun _ => .rpt τ y) (fixed fr) else boxM d τ y fr
    | none => .fail
  | .build t ps => match E.ty t with
    | some (.st b) => match E.gbd d with
      | [] => buildM d b fieldPath b.zero [] ps.toList fun x fr => .fin Unit (some ()) (fun _ => .val (.st b) x) (fixed fr)
      | q :: z => bif zOk b ps.toList (q :: z) then buildM d b fieldPath b.zero [] ps.toList fun x fr => .fin Unit (some ()) (fun _ => .zval (.st b) x (q :: z)) (fixed fr) else .fail
    | some (.arr n e) => buildM d (.arr n e) (fun i => [.idx i]) (Ty.arr n e).zero [] ps.toList fun x fr => .fin Unit (some ()) (fun _ => .val (.arr n e) x) (fixed fr)
    | _ => .fail
  | .buildSlice t n ps => match E.ty t with
    | some (.sl e) => if n ≤ 65536 ∧ e.size ≤ 256 then buildM d (.arr n e) (fun i => [.idx i]) (Ty.arr n e).zero [] ps.toList fun x fr => ownM d e x .full fr else .fail
    | _ => bif E.psl t && (Nat.beq ps.toList.length n && Nat.ble n 65536) then plM ps.toList 0 fun c => .ret (.plist c) else .fail
  | .load t a => match E.ty t with
    | some τ => rd a fun v => bif E.gld d then gldM d τ v else loadM τ v
    | none => bif E.ptr t then rd a fun v => match v with
      | .pel x => .ret x
      | _ => .fail
      else .fail
  | .store t a x => match E.ty t with
    | some τ => rd a fun v => rd x fun u => bif isOnc E v then onceM τ v u else bif isGb E v then gstoreM E τ v u else storeM τ v u
    | none => .fail
  | .nilCheck x => rd x fun v => match v with
    | .ptr s ver p => .mem s fun e => match e with
      | .box ver' _ _ => if ver = ver' then .ret (.ptr s ver p) else .fail
      | _ => .fail
    | .elp s ver i p => .mem s fun e => match e with
      | .own ver' _ _ _ => if ver = ver' then .ret (.elp s ver i p) else .fail
      | _ => .fail
    | .rpt τ x => .ret (.rpt τ x)
    | _ => .fail
  | .binOp op t x y _ => rd x fun v => rd y fun u => binM E t op v u
  | .unOp op _ x => rd x fun v => unM op v
  | .convert s t x => rd x fun v => convM E d s t v
  | .sliceToArrayPointer t x => match E.ty t with
    | some (.arr n e) => if 1 ≤ n then rd x fun v => asD (.sl e) v fun y fr => .fin Unit (chk (decide (n ≤ y.length))) (fun _ => .rpt (.arr n e) (y.take n)) (fixed fr) else .fail
    | _ => .fail
  | .makeSlice t n c => match E.ty t with
    | some (.sl e) => rd n fun v => rd c fun u => match v, u with
      | .val (.int k) n, .val (.int k') c => .mem (site d 0) fun en =>
          .fin _ (chk (decide (0 ≤ toI k n) && decide (toI k n ≤ toI k' c) && decide (toI k' c ≤ (lim : Int)))) (fun _ => .ref (site d 0) (nextVer en))
            [(site d 0, fun _ => .own (nextVer en) e (List.replicate (toI k n).toNat e.zero) .full)]
      | _, _ => .fail
    | _ => .fail
  | .slice t x lo hi none => rd x fun v => bound lo fun l => bound hi fun h =>
    sliceOpM E d t v l h
  | .slice t x lo hi (some mx) => rd x fun v => bound lo fun l => bound hi fun h => bound (some mx) fun m => match h, m with
    | some h, some m => slice3M E d t v l h m
    | _, _ => .fail
  | .fieldAddr t x f => match E.ty t with
    | some (.st b) => if (tyP b (fieldPath f)).isSome = true then rd x fun v => fieldAddrM b v f else .fail
    | _ => .fail
  | .field t x f => match E.ty t with
    | some (.st b) => rd x fun v => fieldM b v f
    | _ => .fail
  | .makeMap t r => match E.mpt t with
    | some (K, V) => match r with
      | none => mpMake d K V
      | some x => rd x fun v => match v with
        | .val (.int _) _ => mpMake d K V
        | _ => .fail
    | none => .fail
  | .mapUpdate t m k x => match E.mpt t with
    | some (.arr n (.int .u8), V) => rd m fun vm => rd k fun vk => rd x fun vx => mpUpd n V vm vk vx
    | _ => .fail
  | .lookup t m k ok => match E.mpt t with
    | some (.arr n (.int .u8), V) => rd m fun vm => rd k fun vk => mpLook n V vm vk ok
    | _ => .fail
  | .indexAddr t x i => rd x fun v => rd i fun u => bif E.psl t then plIx v u else indexAddrM E t v u
  | .index t x i => rd x fun v => rd i fun u => indexM E t v u
  | .extract x i => rd x fun v => match nth v i with
    | some u => .ret u
    | none => .fail
  | .makeFunc (.func g) first cap => match first.toList, cap.toList with
    | [], [x] => rd x fun v => match v with
      | .rpt τ y => .ret (.clo g (.tcons (.rpt τ y) .tnil))
      | _ => .fail
    | _, _ => .fail
  | .call c => match c.callee, c.args.toList with
    | .value (.func f), os => match E.fn f with
      | some F => bif E.lnd d then lendM d F (os.map .inl) else callM d F (os.map .inl)
      | none => .fail
    | .value (.tmp t), os => .slot t fun v => match v with
      | .clo g (.tcons x .tnil) => match E.fn g with
        | some F => callM d F (os.map .inl ++ [.inr x])
        | none => .fail
      | _ => .fail
    | .builtin .len, [x] => match c.argTypes.toList with
      | [t] => rd x fun v => bif E.psl t then match v with
          | .plist c => match chainLen c with
            | some n => .ret (.val (.int .i64) (n : Int))
            | none => .fail
          | _ => .fail
        else match E.mpt t with
          | some _ => mpLen v
          | none => lenM E t v
      | _ => .fail
    | .builtin .clear, [x] => match c.argTypes.toList with
      | [t] => rd x fun v => clearM E t v
      | _ => .fail
    | .builtin .cap, [x] => match c.argTypes.toList with
      | [t] => match E.ty t with
        | some (.sl _) => rd x fun v => match v with
          | .nil => .ret (.val (.int .i64) (0 : Int))
          | _ => .fail
        | _ => .fail
      | _ => .fail
    | .builtin .append, [x, y] => match c.argTypes.toList with
      | [t, t'] => rd x fun v => rd y fun u => appendM E d t t' v u
      | _ => .fail
    | .builtin .copy, [x, y] => match c.argTypes.toList with
      | [t, t'] => rd x fun v => rd y fun u => copyM E t t' v u
      | _ => .fail
    | .builtin .min, [x, y] => rd x fun v => rd y fun u => mmM mnI v u
    | .builtin .max, [x, y] => rd x fun v => rd y fun u => mmM mxI v u
    | _, _ => .fail
  | _ => .fail

end Go.Re
