/- The library of the reflection: an evaluator of the program's code, and that it is sound. -/
import Derived.Tactics
import Derived.Laws.Cells
import Derived.Below
import Derived.Laws.StructEq
import Derived.ChangeKeysEq
namespace Go.Re
set_option linter.unusedVariables false
set_option linter.unusedSimpArgs false
inductive Ty where
 | bool | str | unit
 | int (k:IntKind)
 | pair (a b:Ty)
 | st (b:Ty)
 | sl (e:Ty)
 | arr (n:Nat) (e:Ty)
 | mp (k v:Ty)
 deriving DecidableEq
@[reducible] def IntT:IntKind→Type
 | .u8=>BitVec 8 | .u16=>BitVec 16 | .u32=>BitVec 32 | .u64=>BitVec 64
 | _=>Int
@[reducible] def Ty.D:Ty→Type
 | .bool=>Bool | .str=>List (BitVec 8) | .unit=>Unit
 | .int k=>IntT k
 | .pair a b=>a.D×b.D | .st b=>b.D | .sl e=>List e.D | .arr _ e=>List e.D | .mp k v=>List (k.D×v.D)
def Ty.size:Ty→Nat
 | .unit=>0 | .pair a b=>a.size+b.size | .st b=>b.size | .arr n e=>n*e.size
 | .bool=>1 | .str=>1 | .int _=>1 | .sl _=>1 | .mp _ _=>1
def Ty.isAgg:Ty→Bool
 | .st _=>true | .arr _ _=>true | _=>false
def Ty.ints:Ty→Bool
 | .unit=>true | .pair (.int _) r=>r.ints | _=>false
def Jbb:Ty→Bool
 | .st b=>b.ints | _=>false
def Jgc:Ty→Bool
 | .int _=>true | _=>false
def Ty.isMap:Ty→Bool
 | .mp _ _=>true | _=>false
def Ty.isVal:Ty→Bool
 | .unit=>false | .pair _ _=>false | _=>true
def cast? (τ τ':Ty) (x:τ.D):Option τ'.D:=if h:τ=τ' then some (h▸x) else none
def Ty.zero:(τ:Ty)→τ.D
 | .bool=>false | .str=>[] | .unit=>()
 | .int .u8=>0#8 | .int .u16=>0#16 | .int .u32=>0#32 | .int .u64=>0#64
 | .int .i8=>(0:Int) | .int .i16=>(0:Int) | .int .i32=>(0:Int) | .int .i64=>(0:Int)
 | .pair a b=>(a.zero,b.zero) | .st b=>b.zero | .sl _=>[] | .mp _ _=>[] | .arr n e=>List.replicate n e.zero
def toI:(k:IntKind)→IntT k→Int
 | .u8,x=>x.toNat | .u16,x=>x.toNat | .u32,x=>x.toNat | .u64,x=>x.toNat
 | .i8,x=>x | .i16,x=>x | .i32,x=>x | .i64,x=>x
def ofI:(k:IntKind)→Int→IntT k
 | .u8,x=>BitVec.ofNat 8 x.toNat | .u16,x=>BitVec.ofNat 16 x.toNat | .u32,x=>BitVec.ofNat 32 x.toNat | .u64,x=>BitVec.ofNat 64 x.toNat
 | .i8,x=>x | .i16,x=>x | .i32,x=>x | .i64,x=>x
inductive Stp where
 | fst | snd | idx (i:Nat)
 deriving DecidableEq
inductive V where
 | dead
 | val (τ:Ty) (x:τ.D)
 | nil
 | ptr (s ver:Nat) (p:List Stp)
 | ref (s ver:Nat)
 | elp (s ver i:Nat) (p:List Stp)
 | rpt (τ:Ty) (x:τ.D)
 | nilq (emp neg:Bool)
 | win (s ver lo:Nat)
 | pre (s ver hi:Nat)
 | plist (t:V)
 | pel (x:V)
 | clo (g:Nat) (t:V)
 | zval (τ:Ty) (x:τ.D) (z:List (Nat×Nat))
 | tnil
 | tcons (a r:V)
 | agg (b:Ty) (t:V)
 | vpt (s ver:Nat) (p:List Stp)
 | asl (n:Nat) (e:Ty) (v:V)
inductive Mode where
 | full | tail | view
 | mp
 | gb (l:List (Nat×Nat))
 | bg
 | it (b:Bool)
def Mode.isMp:Mode→Bool
 | .mp=>true | .bg=>true | .it _=>true | _=>false
def Mode.noRd:Mode→Bool
 | .mp=>true | .gb _=>true | .bg=>true | .it _=>true | _=>false
theorem Mode.noRd_mp {m:Mode} (h:m.noRd=false):m.isMp=false:=by cases m<;>first | rfl | cases h
inductive Entry where
 | none
 | gone (ver:Nat)
 | box (ver:Nat) (τ:Ty) (x:τ.D)
 | own (ver:Nat) (τ:Ty) (xs:List τ.D) (m:Mode)
 | vb (ver:Nat) (τ:Ty) (v:V)
structure S where
 slots:Nat→V
 mem:Nat→Entry
def upd {α:Type} (f:Nat→α) (n:Nat) (x:α):Nat→α:=fun k=>bif Nat.beq k n then x else f k
def S.put (σ:S) (n:Nat) (v:V):S:={σ with slots:=upd σ.slots n v}
def S.set (σ:S) (n:Nat) (e:Entry):S:={σ with mem:=upd σ.mem n e}
def Jcx:(τ:Ty)→τ.D→List Stp→(τ':Ty)→Option τ'.D
 | τ,x,[],τ'=>cast? τ τ' x
 | .st b,x,p,τ'=>Jcx b x p τ'
 | .pair a _,x,.fst::p,τ'=>Jcx a x.1 p τ'
 | .pair _ b,x,.snd::p,τ'=>Jcx b x.2 p τ'
 | .arr _ e,x,.idx i::p,τ'=>(x[i]?).bind fun y=>Jcx e y p τ'
 | _,_,_,_=>none
def Jcd:(τ:Ty)→τ.D→List Stp→(τ':Ty)→τ'.D→Option τ.D
 | τ,_,[],τ',y=>cast? τ' τ y
 | .st b,x,p,τ',y=>Jcd b x p τ' y
 | .pair a _,x,.fst::p,τ',y=>(Jcd a x.1 p τ' y).map fun z=>(z,x.2)
 | .pair _ b,x,.snd::p,τ',y=>(Jcd b x.2 p τ' y).map fun z=>(x.1,z)
 | .arr _ e,x,.idx i::p,τ',y=>(x[i]?).bind fun z=>(Jcd e z p τ' y).map fun u=>x.set i u
 | _,_,_,_,_=>none
def tyP:Ty→List Stp→Option Ty
 | τ,[]=>some τ
 | .st b,p=>tyP b p
 | .pair a _,.fst::p=>tyP a p
 | .pair _ b,.snd::p=>tyP b p
 | .arr _ e,.idx _::p=>tyP e p
 | _,_=>none
def offP:Ty→List Stp→Nat
 | _,[]=>0
 | .st b,p=>offP b p
 | .pair a _,.fst::p=>offP a p
 | .pair a b,.snd::p=>a.size+offP b p
 | .arr _ e,.idx i::p=>i*e.size+offP e p
 | _,_=>0
def Jaf:Nat→List Stp
 | 0=>[.fst]
 | k+1=>.snd::Jaf k
def JcJ:(τ:Ty)→τ.D→List Stp→(τ':Ty)→τ'.D
 | τ,x,[],τ'=>if h:τ=τ' then h▸x else τ'.zero
 | .st b,x,p,τ'=>JcJ b x p τ'
 | .pair a _,x,.fst::p,τ'=>JcJ a x.1 p τ'
 | .pair _ b,x,.snd::p,τ'=>JcJ b x.2 p τ'
 | .arr _ e,x,.idx i::p,τ'=>JcJ e (x.getD i e.zero) p τ'
 | _,_,_,τ'=>τ'.zero
def JdM:(τ:Ty)→τ.D→List Stp→(τ':Ty)→τ'.D→τ.D
 | τ,x,[],τ',y=>if h:τ'=τ then h▸y else x
 | .st b,x,p,τ',y=>JdM b x p τ' y
 | .pair a _,x,.fst::p,τ',y=>(JdM a x.1 p τ' y,x.2)
 | .pair _ b,x,.snd::p,τ',y=>(x.1,JdM b x.2 p τ' y)
 | .arr _ e,x,.idx i::p,τ',y=>x.set i (JdM e (x.getD i e.zero) p τ' y)
 | _,x,_,_,_=>x
inductive M (α:Type):Type 1 where
 | fail
 | slot (n:Nat) (k:V→M α)
 | mem (n:Nat) (k:Entry→M α)
 | fin (β:Type) (o:Option β) (g:β→α) (ws:List (Nat×(β→Entry)))
def Jaw {β:Type} (σ:S) (b:β):List (Nat×(β→Entry))→S
 | []=>σ
 | (n,e)::r=>Jaw (σ.set n (e b)) b r
def M.run {α:Type}:M α→S→Option (α×S)
 | .fail,_=>none
 | .slot n k,σ=>(k (σ.slots n)).run σ
 | .mem n k,σ=>(k (σ.mem n)).run σ
 | .fin _ o g ws,σ=>o.map fun b=>(g b,Jaw σ b ws)
def M.runK {α R:Type}:M α→S→(α→S→Option R)→Option R
 | .fail,_,_=>none
 | .slot n k,σ,K=>(k (σ.slots n)).runK σ K
 | .mem n k,σ,K=>(k (σ.mem n)).runK σ K
 | .fin _ o g ws,σ,K=>o.bind fun b=>K (g b) (Jaw σ b ws)
theorem M.runK_eq {α R:Type} (m:M α) (σ:S) (K:α→S→Option R):m.runK σ K=(m.run σ).bind fun r=>K r.1 r.2:=by
 induction m with
 | fail=>rfl
 | slot n k ih=>exact ih _
 | mem n k ih=>exact ih _
 | fin β o g ws=>cases o<;>rfl
structure Foot where
 rs:List Nat
 rm:List Nat
 wm:List Nat
def M.foot {α:Type}:M α→S→Foot
 | .fail,_=>⟨[],[],[]⟩
 | .slot n k,σ=>let f:=(k (σ.slots n)).foot σ;{f with rs:=n::f.rs}
 | .mem n k,σ=>let f:=(k (σ.mem n)).foot σ;{f with rm:=n::f.rm}
 | .fin _ _ _ ws,_=>⟨[],[],ws.map (·.1)⟩
def M.ret {α:Type} (a:α):M α:=.fin Unit (some ()) (fun _=>a) []
def chk (b:Bool):Option Unit:=bif b then some () else none
@[reducible] def Ds:List Ty→Type
 | []=>Unit
 | [a]=>a.D
 | a::b::r=>a.D×Ds (b::r)
def dsL:(xs ys:List Ty)→Ds (xs++ys)→Ds xs
 | [],_,_=>()
 | [_],[],x=>x
 | [_],_::_,x=>x.1
 | _::b::r,ys,x=>(x.1,dsL (b::r) ys x.2)
def dsR:(xs ys:List Ty)→Ds (xs++ys)→Ds ys
 | [],_,x=>x
 | [_],[],_=>()
 | [_],_::_,x=>x.2
 | _::b::r,ys,x=>dsR (b::r) ys x.2
inductive PK where
 | rp (τ:Ty)
 | clo (g:Nat) (τ:Ty)
 | cl (g:Nat) (c:PK)
 | pel (k:PK)
 | nil
 | cons (a r:PK)
@[reducible] def PK.ty:PK→Ty
 | .rp τ=>τ | .clo _ τ=>τ | .cl _ c=>c.ty | .pel k=>k.ty | .nil=>.unit | .cons a r=>.pair a.ty r.ty
def PK.V:(k:PK)→k.ty.D→V
 | .rp τ,x=>.rpt τ x
 | .clo g τ,x=>.clo g (.tcons (.rpt τ x) .tnil)
 | .cl g c,x=>.clo g (c.V x)
 | .pel k,x=>.pel (k.V x)
 | .nil,_=>.tnil
 | .cons a r,x=>.tcons (a.V x.1) (r.V x.2)
def PK.read:(k:PK)→Re.V→Option k.ty.D
 | .rp τ,v=>match v with
  | .rpt τ' x=>cast? τ' τ x
  | _=>none
 | .clo g τ,v=>match v with
  | .clo g' (.tcons (.rpt τ' x) .tnil)=>bif Nat.beq g g' then cast? τ' τ x else none
  | _=>none
 | .cl g c,v=>match v with
  | .clo g' t=>bif Nat.beq g g' then c.read t else none
  | _=>none
 | .pel k,v=>match v with
  | .pel x=>k.read x
  | _=>none
 | .nil,v=>match v with
  | .tnil=>some ()
  | _=>none
 | .cons a r,v=>match v with
  | .tcons x t=>(a.read x).bind fun y=>(r.read t).map fun z=>(y,z)
  | _=>none
inductive Par where
 | val (τ:Ty)
 | nils (e:Ty)
 | pv (k:PK)
 | box (τ:Ty)
 | row (e:Ty)
 | take (e:Ty)
def Par.isTake:Par→Bool
 | .take _=>true | _=>false
def Par.isIn:Par→Bool
 | .val _=>true | .nils _=>true | .pv _=>true | _=>false
def Ty.flat:Ty→Bool
 | .sl _=>false | .mp _ _=>false | .pair a b=>a.flat&&b.flat | .st b=>b.flat | .arr _ e=>e.flat | _=>true
@[reducible] def Par.ty:Par→Ty
 | .val τ=>τ | .nils _=>.unit | .pv k=>k.ty | .box τ=>τ | .row e=>.sl e | .take e=>.sl e
@[reducible] def ioTys:List Par→List Ty
 | []=>[]
 | .val _::r=>ioTys r
 | .nils _::r=>ioTys r
 | .pv _::r=>ioTys r
 | .box τ::r=>τ::ioTys r
 | .row e::r=>.sl e::ioTys r
 | .take _::r=>ioTys r
structure Fun where
 args:List Par
 res:List (Ty×Mode)
 f:Ds (args.map Par.ty)→Option (Ds (res.map (·.1)++ioTys args))
structure Env where
 ty:Nat→Option Ty
 eq:Nat→Bool
 fn:Nat→Option Fun
 cut:Nat→Bool:=fun _=>false
 win:Nat→Bool:=fun _=>false
 one:Nat→Bool:=fun _=>false
 onc:Nat→Bool:=fun _=>false
 pre:Nat→Bool:=fun _=>false
 ptr:Nat→Bool:=fun _=>false
 psl:Nat→Bool:=fun _=>false
 parr:Nat→Option (Nat×Ty):=fun _=>none
 mpt:Nat→Option (Ty×Ty):=fun _=>none
 lnd:Nat→Bool:=fun _=>false
 mfz:Nat→Bool:=fun _=>false
 gal:Nat→List (Nat×Nat):=fun _=>[]
 gld:Nat→Bool:=fun _=>false
 gbd:Nat→List (Nat×Nat):=fun _=>[]
 gst:Nat→Bool:=fun _=>false
 vbd:Nat→Bool:=fun _=>false
 vag:Nat→Bool:=fun _=>false
 cfz:Nat→Bool:=fun _=>false
 asl:Nat→Bool:=fun _=>false
 vld:Nat→Bool:=fun _=>false
 ded:Nat→Bool:=fun _=>false
 pe:Nat→Option (Ty×List Stp×Ty):=fun _=>none
 bd:Nat→Option Func:=fun _=>none
def Jaa (d i:Nat):Nat:=16*d+i
def nextVer:Entry→Nat
 | .none=>1
 | .gone v=>v+1
 | .box v _ _=>v+1
 | .own v _ _ _=>v+1
 | .vb v _ _=>v+1
def okN:IntKind→Int→Bool
 | .u8,n=>decide (0≤n)&&decide (n<256) | .u16,n=>decide (0≤n)&&decide (n<65536)
 | .u32,n=>decide (0≤n)&&decide (n<4294967296) | .u64,n=>decide (0≤n)&&decide (n<18446744073709551616)
 | .i64,n=>decide (-9223372036854775808≤n)&&decide (n<9223372036854775808)
 | .i32,n=>decide (-2147483648≤n)&&decide (n<2147483648)
 | _,_=>false
def JcO:Value→V
 | .bool b=>.val .bool b
 | .int k n=>match okN k n with
  | true=>.val (.int k) (ofI k n)
  | false=>.dead
 | .string s=>match decide (s.size≤140737488355328) with
  | true=>.val .str (s.data.toList.map UInt8.toBitVec)
  | false=>.dead
 | .slice none 0 0=>.nil
 | _=>.dead
def rd {α:Type} (x:Operand) (k:V→M α):M α:=
 match x with
 | .tmp t=>.slot t k
 | .const v=>k (JcO v)
 | .func f=>k (.clo f .tnil)
 | _=>.fail
abbrev Ws (β:Type):=List (Nat×(β→Entry))
def asD {α:Type} (τ:Ty) (v:V) (k:τ.D→List (Nat×Entry)→M α):M α:=
 match v with
 | .agg b t=>match τ,k with
  | .st b',k=>if b'=b then asD b' t k else .fail
  | _,_=>.fail
 | .tcons v t=>match τ,k with
  | .pair a r,k=>asD a v fun x fr=>asD r t fun y fr'=>k (x,y) (fr++fr')
  | _,_=>.fail
 | .tnil=>match τ,k with
  | .unit,k=>k () []
  | _,_=>.fail
 | .val τ' x=>match cast? τ' τ x with
  | some y=>k y []
  | none=>.fail
 | .nil=>match τ with
  | .sl _=>k [] []
  | _=>.fail
 | .ref s ver=>.mem s fun e=>match e with
  | .own ver' τe xs m=>bif m.noRd then .fail else if ver=ver' then match cast? (.sl τe) τ xs with
   | some y=>k y (match m with | .full=>[(s,.own ver' τe xs .tail)] | _=>[])
   | none=>.fail
   else .fail
  | _=>.fail
 | _=>.fail
def JfO {α:Type} (τ:Ty) (v:V) (k:τ.D→M α):M α:=asD τ v fun x _=>k x
def JaV {β:Type} (l:List (Nat×Entry)):Ws β:=l.map fun p=>(p.1,fun _=>p.2)
def w64 (n:Int):Int:=IntKind.i64.wrap n
def w32 (n:Int):Int:=IntKind.i32.wrap n
def arith (op:BinOp):(k:IntKind)→IntT k→IntT k→Option (IntT k)
 | .u8,x,y=>un 8 op x y | .u16,x,y=>un 16 op x y | .u32,x,y=>un 32 op x y | .u64,x,y=>un 64 op x y
 | .i64,x,y=>match op with
  | .add=>some (w64 (x+y)) | .sub=>some (w64 (x-y)) | .mul=>some (w64 (x*y))
  | .quo=>bif y==0 then none else some (w64 (x.tdiv y))
  | .rem=>bif y==0 then none else some (x.tmod y)
  | .and=>some (BitVec.toInt (BitVec.ofInt 64 x &&& BitVec.ofInt 64 y))
  | .or=>some (BitVec.toInt (BitVec.ofInt 64 x ||| BitVec.ofInt 64 y))
  | .xor=>some (BitVec.toInt (BitVec.ofInt 64 x ^^^ BitVec.ofInt 64 y))
  | .andNot=>some (BitVec.toInt (BitVec.ofInt 64 x &&& ~~~ BitVec.ofInt 64 y))
  | _=>none
 | _,_,_=>none
where
 un (n:Nat) (op:BinOp) (x y:BitVec n):Option (BitVec n):=
  match op with
  | .add=>some (x+y) | .sub=>some (x-y) | .mul=>some (x*y)
  | .quo=>bif y==0 then none else some (x/y)
  | .rem=>bif y==0 then none else some (x%y)
  | .and=>some (x &&& y) | .or=>some (x ||| y) | .xor=>some (x ^^^ y) | .andNot=>some (x &&& ~~~y)
  | _=>none
end Go.Re
namespace Go.Re
set_option linter.unusedVariables false
set_option linter.unusedSimpArgs false
def lim:Nat:=2147483648
def zeroC:Ty→List Value
 | .bool=>[.bool false] | .str=>[.string ⟨#[]⟩] | .unit=>[] | .int k=>[.int k 0]
 | .pair a b=>zeroC a++zeroC b | .st b=>zeroC b | .sl _=>[.slice none 0 0] | .mp _ _=>[.map none] | .arr n e=>(List.replicate n (zeroC e)).flatten
def ix {α:Type} (xs:List α) (i:Int):Option α:=bif decide (0≤i) then xs[i.toNat]? else none
def inLen (i:Int) (n:Nat):Bool:=decide (0≤i)&&decide (i<(n:Int))
def slc {α:Type} (xs:List α) (lo hi:Int):List α:=(xs.take hi.toNat).drop lo.toNat
def eqD:(τ:Ty)→Option (τ.D→τ.D→Bool)
 | .bool=>some fun x y=>decide (x=y)
 | .str=>some fun x y=>decide (x=y)
 | .unit=>some fun _ _=>true
 | .int .u8=>some fun x y=>decide (x=y) | .int .u16=>some fun x y=>decide (x=y)
 | .int .u32=>some fun x y=>decide (x=y) | .int .u64=>some fun x y=>decide (x=y)
 | .int .i64=>some fun x y=>decide (x=y)
 | .int _=>none
 | .pair a b=>match eqD a,eqD b with
  | some f,some g=>some fun x y=>f x.1 y.1&&g x.2 y.2
  | _,_=>none
 | .st b=>eqD b
 | .arr _ (.int .u8)=>some fun x y=>decide (x=y)
 | _=>none
def cmp (op:BinOp):(k:IntKind)→IntT k→IntT k→Option Bool
 | .u8,x,y=>un 8 op x y | .u16,x,y=>un 16 op x y | .u32,x,y=>un 32 op x y | .u64,x,y=>un 64 op x y
 | .i64,x,y=>si op x y
 | _,_,_=>none
where
 si (op:BinOp) (x y:Int):Option Bool:=
  match op with
  | .eql=>some (decide (x=y)) | .neq=>some (!decide (x=y))
  | .lss=>some (decide (x<y)) | .leq=>some (decide (x≤y)) | .gtr=>some (decide (y<x)) | .geq=>some (decide (y≤x))
  | _=>none
 un (n:Nat) (op:BinOp) (x y:BitVec n):Option Bool:=
  match op with
  | .eql=>some (decide (x=y)) | .neq=>some (!decide (x=y))
  | .lss=>some (decide (x<y)) | .leq=>some (decide (x≤y)) | .gtr=>some (decide (y<x)) | .geq=>some (decide (y≤x))
  | _=>none
def shlI (x:Int) (n:Nat):Int:=w64 (x*2^min n 64)
def shrI (x:Int) (n:Nat):Int:=x.fdiv (2^min n 64)
def shift (op:BinOp):(k:IntKind)→IntT k→Int→Option (IntT k)
 | .u8,x,n=>un 8 op x n | .u16,x,n=>un 16 op x n | .u32,x,n=>un 32 op x n | .u64,x,n=>un 64 op x n
 | .i64,x,n=>match op with
  | .shl=>bif decide (0≤n) then some (shlI x n.toNat) else none
  | .shr=>bif decide (0≤n) then some (shrI x n.toNat) else none
  | _=>none
 | _,_,_=>none
where
 un (w:Nat) (op:BinOp) (x:BitVec w) (n:Int):Option (BitVec w):=
  match op with
  | .shl=>bif decide (0≤n) then some (x <<< n.toNat) else none
  | .shr=>bif decide (0≤n) then some (x >>> n.toNat) else none
  | _=>none
def JhS:(k k':IntKind)→IntT k→Option (IntT k')
 | .i64,.i64,x=>some x
 | .i64,.i32,x=>some (w32 x) | .u64,.i32,x=>some (w32 (x.toNat:Int))
 | .i64,.u8,x=>some (BitVec.ofInt 8 x) | .i64,.u16,x=>some (BitVec.ofInt 16 x) | .i64,.u32,x=>some (BitVec.ofInt 32 x) | .i64,.u64,x=>some (BitVec.ofInt 64 x)
 | .u8,.i64,x=>some (x.toNat:Int) | .u16,.i64,x=>some (x.toNat:Int) | .u32,.i64,x=>some (x.toNat:Int) | .u64,.i64,x=>some (w64 (x.toNat:Int))
 | .u8,.u8,x=>some x | .u8,.u16,x=>some (x.setWidth 16) | .u8,.u32,x=>some (x.setWidth 32) | .u8,.u64,x=>some (x.setWidth 64)
 | .u16,.u8,x=>some (x.setWidth 8) | .u16,.u16,x=>some x | .u16,.u32,x=>some (x.setWidth 32) | .u16,.u64,x=>some (x.setWidth 64)
 | .u32,.u8,x=>some (x.setWidth 8) | .u32,.u16,x=>some (x.setWidth 16) | .u32,.u32,x=>some x | .u32,.u64,x=>some (x.setWidth 64)
 | .u64,.u8,x=>some (x.setWidth 8) | .u64,.u16,x=>some (x.setWidth 16) | .u64,.u32,x=>some (x.setWidth 32) | .u64,.u64,x=>some x
 | _,_,_=>none
def unI (op:UnOp):(k:IntKind)→IntT k→Option (IntT k)
 | .u8,x=>un 8 op x | .u16,x=>un 16 op x | .u32,x=>un 32 op x | .u64,x=>un 64 op x
 | .i64,x=>match op with
  | .neg=>some (w64 (0-x))
  | _=>none
 | _,_=>none
where
 un (n:Nat) (op:UnOp) (x:BitVec n):Option (BitVec n):=
  match op with
  | .neg=>some (0-x) | .xor=>some (~~~x) | _=>none
def Ty.dep:Ty→Nat
 | .pair a b=>max a.dep b.dep | .st b=>b.dep+1 | .arr _ e=>e.dep+1 | _=>1
def Jgd (E:Env) (t:Nat) (τ:Ty):Bool:=
 match τ with
 | .st b=>E.eq t&&decide (b.dep≤1000)
 | .arr _ (.int .u8)=>E.eq t
 | .bool=>true | .str=>true | _=>false
def Jlv (E:Env) (xt:Nat) (op:BinOp) (vx vy:V):M V:=
 match op,vx,vy with
 | .shl,.val (.int k) x,.val (.int k') y=>.fin _ (shift .shl k x (toI k' y)) (fun z=>.val (.int k) z) []
 | .shr,.val (.int k) x,.val (.int k') y=>.fin _ (shift .shr k x (toI k' y)) (fun z=>.val (.int k) z) []
 | op,.val (.int k) x,.val τ' y=>match cast? τ' (.int k) y with
  | some y=>match op with
   | .eql=>.fin _ (cmp .eql k x y) (fun z=>.val .bool z) []
   | .neq=>.fin _ (cmp .neq k x y) (fun z=>.val .bool z) []
   | .lss=>.fin _ (cmp .lss k x y) (fun z=>.val .bool z) []
   | .leq=>.fin _ (cmp .leq k x y) (fun z=>.val .bool z) []
   | .gtr=>.fin _ (cmp .gtr k x y) (fun z=>.val .bool z) []
   | .geq=>.fin _ (cmp .geq k x y) (fun z=>.val .bool z) []
   | op=>.fin _ (arith op k x y) (fun z=>.val (.int k) z) []
  | none=>.fail
 | .eql,.val (.sl _) x,.nil=>match E.ty xt with
  | some (.sl _)=>.ret (.nilq (List.isEmpty x) false)
  | _=>.fail
 | .neq,.val (.sl _) x,.nil=>match E.ty xt with
  | some (.sl _)=>.ret (.nilq (List.isEmpty x) true)
  | _=>.fail
 | .add,.val .str x,.val .str y=>.fin _ (chk (decide (x.length+y.length≤lim))) (fun _=>.val .str (x++y)) []
 | .eql,.val τ x,.val τ' y=>if E.ty xt=some τ∧Jgd E xt τ=true then match cast? τ' τ y,eqD τ with
  | some y,some f=>.ret (.val .bool (f x y))
  | _,_=>.fail else .fail
 | .neq,.val τ x,.val τ' y=>if E.ty xt=some τ∧Jgd E xt τ=true then match cast? τ' τ y,eqD τ with
  | some y,some f=>.ret (.val .bool (!f x y))
  | _,_=>.fail else .fail
 | _,_,_=>.fail
def unM (op:UnOp) (v:V):M V:=
 match op,v with
 | .not,.val .bool x=>.ret (.val .bool (!x))
 | op,.val (.int k) x=>.fin _ (unI op k x) (fun z=>.val (.int k) z) []
 | _,_=>.fail
def JmA (E:Env) (d:Nat) (src dst:Nat) (v:V):M V:=
 match E.ty src,E.ty dst,v with
 | some (.int k),some (.int k'),.val τ x=>match cast? τ (.int k) x with
  | some x=>.fin _ (JhS k k' x) (fun z=>.val (.int k') z) []
  | none=>.fail
 | some (.int k),some .str,.val τ x=>match cast? τ (.int k) x with
  | some x=>.fin _ (chk (decide (0≤toI k x)&&decide (toI k x<128))) (fun _=>.val .str [BitVec.ofInt 8 (toI k x)]) []
  | none=>.fail
 | some .str,some .str,.val .str x=>.ret (.val .str x)
 | some .str,some (.sl (.int .u8)),.val .str x=>.mem (Jaa d 0) fun e=>
  .fin _ (chk (decide (x.length≤lim))) (fun _=>.ref (Jaa d 0) (nextVer e)) [(Jaa d 0,fun _=>.own (nextVer e) (.int .u8) x .full)]
 | some (.sl (.int .u8)),some .str,v=>JfO (.sl (.int .u8)) v fun x=>.fin _ (chk (decide (x.length≤lim))) (fun _=>.val .str x) []
 | some (.sl (.int .u8)),some (.sl (.int .u8)),.ref s ver=>if src=dst then .mem s fun e=>match e with
  | .own ver' τe xs .full=>if ver=ver'∧τe= .int .u8 then .fin Unit (chk (decide (0<xs.length))) (fun _=>.ref s ver) [] else .fail
  | _=>.fail
  else .fail
 | _,_,_=>.fail
def Jj1 (τ:Ty) (v:V):M V:=
 match v with
 | .ptr s ver p=>.mem s fun e=>match e with
  | .box ver' τb x=>if ver=ver' then .fin _ (Jcx τb x p τ) (fun y=>.val τ y) [] else .fail
  | _=>.fail
 | .elp s ver i p=>.mem s fun e=>match e with
  | .own ver' τe xs _=>if ver=ver' then .fin _ ((xs[i]?).bind fun x=>Jcx τe x p τ) (fun y=>.val τ y) [] else .fail
  | _=>.fail
 | .rpt τ' x=>match cast? τ' τ x with
  | some y=>.ret (.val τ y)
  | none=>.fail
 | _=>.fail
def Jnn (τe:Ty) (xs:List τe.D) (i:Nat) (p:List Stp) (τ:Ty) (y:τ.D):Option (List τe.D):=
 match p with
 | []=>(cast? τ τe y).map fun u=>xs.set i u
 | p=>(xs[i]?).bind fun x=>(Jcd τe x p τ y).map fun u=>xs.set i u
def Jge (τ:Ty) (v u:V):M V:=
 asD τ u fun y fr=>
 match v with
 | .ptr s ver p=>.mem s fun e=>match e with
  | .box ver' τb x=>if ver=ver' then .fin τb.D (Jcd τb x p τ y) (fun _=>.dead) (JaV fr++[(s,fun x'=>Entry.box ver' τb x')]) else .fail
  | _=>.fail
 | .elp s ver i p=>.mem s fun e=>match e with
  | .own ver' τe xs .full=>if ver=ver'∧fr.all (fun q=>!Nat.beq q.1 s)=true then .fin (List τe.D) (Jnn τe xs i p τ y) (fun _=>.dead) (JaV fr++[(s,fun xs'=>Entry.own ver' τe xs' .full)]) else .fail
  | _=>.fail
 | _=>.fail
def JmB (τ:Ty) (v u:V):M V:=
 asD τ u fun y fr=>
 match v with
 | .elp s ver i p=>.mem s fun e=>match e with
  | .own ver' τe xs .full=>if ver=ver'∧fr.all (fun q=>!Nat.beq q.1 s)=true then .fin (List τe.D) (Jnn τe xs i p τ y) (fun _=>.dead) (JaV fr++[(s,fun xs'=>Entry.own ver' τe xs' .tail)]) else .fail
  | _=>.fail
 | _=>.fail
def JmC (E:Env) (v:V):Bool:=
 match v with
 | .elp s _ _ _=>E.onc s
 | _=>false
def Jex (b:Ty) (v:V) (f:Nat):M V:=
 match v with
 | .ptr s ver p=>.mem s fun e=>match e with
  | .box ver' τb _=>if ver=ver'∧tyP τb p=some (.st b) then .ret (.ptr s ver (p++Jaf f)) else .fail
  | _=>.fail
 | .elp s ver i p=>.mem s fun e=>match e with
  | .own ver' τe _ _=>if ver=ver'∧tyP τe p=some (.st b) then .ret (.elp s ver i (p++Jaf f)) else .fail
  | _=>.fail
 | .rpt τ x=>match cast? τ (.st b) x,tyP b (Jaf f) with
  | some x,some τ'=>.fin _ (Jcx b x (Jaf f) τ') (fun y=>.rpt τ' y) []
  | _,_=>.fail
 | _=>.fail
def JhY (b:Ty) (v:V) (f:Nat):M V:=
 match v with
 | .val τ x=>match cast? τ (.st b) x,tyP b (Jaf f) with
  | some x,some τ'=>.fin _ (Jcx b x (Jaf f) τ') (fun y=>.val τ' y) []
  | _,_=>.fail
 | _=>.fail
def Jey (E:Env) (t:Nat) (v iv:V):M V:=
 match iv with
 | .val (.int k) i=>
  match E.ty t with
  | some (.sl e)=>match v with
   | .val τ xs=>match cast? τ (.sl e) xs with
    | some xs=>.fin _ (ix xs (toI k i)) (fun x=>.rpt e x) []
    | none=>.fail
   | .ref s ver=>.mem s fun en=>match en with
    | .own ver' e' xs m=>if ver=ver' then match cast? (.sl e') (.sl e) xs with
     | some xs=>match m with
      | .full=>.fin _ (chk (inLen (toI k i) xs.length)) (fun _=>.elp s ver (toI k i).toNat []) []
      | .mp=>.fail
      | .gb _=>.fail
      | .bg=>.fail
      | .it _=>.fail
      | _=>.fin _ (ix xs (toI k i)) (fun x=>.rpt e x) []
     | none=>.fail
     else .fail
    | _=>.fail
   | _=>.fail
  | some (.arr n e)=>if n≤1 then .fail else match v with
   | .ptr s ver p=>.mem s fun en=>match en with
    | .box ver' τb _=>if ver=ver'∧tyP τb p=some (.arr n e) then .fin _ (chk (inLen (toI k i) n)) (fun _=>.ptr s ver (p++[.idx (toI k i).toNat])) [] else .fail
    | _=>.fail
   | .elp s ver j p=>.mem s fun en=>match en with
    | .own ver' τe _ _=>if ver=ver'∧tyP τe p=some (.arr n e) then .fin _ (chk (inLen (toI k i) n)) (fun _=>.elp s ver j (p++[.idx (toI k i).toNat])) [] else .fail
    | _=>.fail
   | .rpt τ xs=>match cast? τ (.arr n e) xs with
    | some xs=>.fin _ (ix xs (toI k i)) (fun x=>.rpt e x) []
    | none=>.fail
   | _=>.fail
  | _=>.fail
 | _=>.fail
def JhZ (E:Env) (t:Nat) (v iv:V):M V:=
 match E.ty t,v,iv with
 | some (.arr n e),.val τ xs,.val (.int k) i=>match cast? τ (.arr n e) xs with
  | some xs=>.fin _ (ix xs (toI k i)) (fun x=>.val e x) []
  | none=>.fail
 | some .str,.val .str s,.val (.int k) i=>.fin _ (ix s (toI k i)) (fun x=>.val (.int .u8) x) []
 | _,_,_=>.fail
def Jj2 (d:Nat) (τ:Ty) (x:τ.D) (fr:List (Nat×Entry)):M V:=
 .mem (Jaa d 0) fun e=>.fin Unit (some ()) (fun _=>.ptr (Jaa d 0) (nextVer e) []) (JaV fr++[(Jaa d 0,fun _=>.box (nextVer e) τ x)])
def Jlw (d:Nat) (τ:Ty) (x:τ.D):M V:=
 .mem (Jaa d 0) fun e=>.fin Unit (some ()) (fun _=>.elp (Jaa d 0) (nextVer e) 0 []) [(Jaa d 0,fun _=>.own (nextVer e) τ [x] .full)]
def Jh0 (d:Nat) (τ:Ty) (xs:List τ.D) (m:Mode) (fr:List (Nat×Entry)):M V:=
 .mem (Jaa d 0) fun e=>.fin Unit (some ()) (fun _=>.ref (Jaa d 0) (nextVer e)) (JaV fr++[(Jaa d 0,fun _=>.own (nextVer e) τ xs m)])
def Jcf (d:Nat) (b:Ty) (path:Nat→List Stp) (x:b.D) (fr:List (Nat×Entry)):List (Nat×Operand)→(b.D→List (Nat×Entry)→M V)→M V
 | [],k=>k x fr
 | (i,o)::r,k=>rd o fun v=>match tyP b (path i) with
  | some τ'=>bif τ'.isVal then asD τ' v fun y fr'=>match Jcd b x (path i) τ' y with
   | some x'=>Jcf d b path x' (fr'++fr) r k
   | none=>.fail
   else .fail
  | none=>.fail
def Jdf {α:Type} (x:Option Operand) (k:Option Int→M α):M α:=
 match x with
 | none=>k none
 | some o=>rd o fun v=>match v with
  | .val (.int kd) i=>k (some (toI kd i))
  | _=>.fail
def Jcs (lo hi:Option Int) (n:Nat):Bool:=
 match lo,hi with
 | none,none=>true
 | some l,none=>decide (0≤l)&&decide (l≤(n:Int))
 | none,some h=>decide (0≤h)&&decide (h≤(n:Int))
 | some l,some h=>decide (0≤l)&&decide (l≤h)&&decide (h≤(n:Int))
def Jdr {α:Type} (xs:List α) (lo hi:Option Int):List α:=
 match lo,hi with
 | none,none=>xs
 | some l,none=>xs.drop l.toNat
 | none,some h=>xs.take h.toNat
 | some l,some h=>slc xs l h
def Jh1 (n:Nat) (e:Ty) (v:V) (lo hi:Option Int):M V:=
 match v with
 | .ptr s ver []=>.mem s fun en=>match en with
  | .box ver' τb x=>if ver=ver'∧n≤65536 then match cast? τb (.arr n e) x with
   | some xs=>.fin _ (chk (Jcs lo hi n)) (fun _=>.val (.sl e) (Jdr (α:=e.D) xs lo hi)) [(s,fun _=>.gone ver)]
   | none=>.fail
   else .fail
  | _=>.fail
 | .elp s ver i p=>.mem s fun en=>match en with
  | .own ver' τe xs .tail=>if ver=ver'∧n≤65536 then match (xs[i]?).bind fun x=>Jcx τe x p (.arr n e) with
   | some ys=>.fin Unit (chk (Jcs lo hi n)) (fun _=>.val (.sl e) (Jdr (α:=e.D) ys lo hi)) []
   | none=>.fail
   else .fail
  | _=>.fail
 | .rpt τ x=>match cast? τ (.arr n e) x with
  | some xs=>if n≤65536 then .fin Unit (chk (Jcs lo hi n)) (fun _=>.val (.sl e) (Jdr (α:=e.D) xs lo hi)) [] else .fail
  | none=>.fail
 | _=>.fail
def Jlx (E:Env) (t:Nat) (v:V) (hi:Option Int):M V:=
 match E.ty t with
 | some (.sl e)=>match v,hi with
  | .ref s ver,some h=>.mem s fun en=>match en with
   | .own ver' e' xs .full=>if ver=ver' then match cast? (.sl e') (.sl e) xs with
    | some xs=>.fin _ (chk (decide (0≤h)&&decide (h≤(xs.length:Int)))) (fun _=>.ref s (nextVer en)) [(s,fun _=>.own (nextVer en) e (xs.take h.toNat) .full)]
    | none=>.fail
    else .fail
   | _=>.fail
  | _,_=>.fail
 | _=>.fail
def Jly (E:Env) (t:Nat) (v:V) (lo:Option Int):M V:=
 match E.ty t with
 | some (.sl e)=>match v,lo with
  | .ref s ver,some l=>.mem s fun en=>match en with
   | .own ver' e' xs .full=>if ver=ver'∧e'=e then .fin _ (chk (decide (0≤l)&&decide (l≤(xs.length:Int)))) (fun _=>.win s ver l.toNat) [] else .fail
   | _=>.fail
  | _,_=>.fail
 | _=>.fail
def Jlz (E:Env) (t:Nat) (v:V) (hi:Option Int):M V:=
 match E.ty t with
 | some (.sl e)=>match v,hi with
  | .ref s ver,some h=>.mem s fun en=>match en with
   | .own ver' e' xs .full=>if ver=ver'∧e'=e then .fin _ (chk (decide (0≤h)&&decide (h≤(xs.length:Int)))) (fun _=>.pre s ver h.toNat) [] else .fail
   | _=>.fail
  | _,_=>.fail
 | _=>.fail
def Jjq (d:Nat) (e:Ty) (x:List e.D) (fr:List (Nat×Entry)) (lo:Option Int) (h m:Int):M V:=
 .mem (Jaa d 0) fun en=>.fin Unit (chk (Jcs lo (some h) x.length&&decide (h=m))) (fun _=>.ref (Jaa d 0) (nextVer en))
  (JaV fr++[(Jaa d 0,fun _=>.own (nextVer en) e (Jdr x lo (some h)) .tail)])
def JgL (E:Env) (d t:Nat) (v:V) (lo:Option Int) (h m:Int):M V:=
 match E.ty t with
 | some (.sl e)=>asD (.sl e) v fun x fr=>Jjq d e x fr lo h m
 | _=>.fail
def Jh2 (E:Env) (t:Nat) (v:V) (lo hi:Option Int):M V:=
 match E.ty t with
 | some .str=>JfO .str v fun x=>.fin _ (chk (Jcs lo hi x.length)) (fun _=>.val .str (Jdr x lo hi)) []
 | some (.sl e)=>match v with
  | .nil=>.fin _ (chk (Jcs lo hi 0)) (fun _=>.nil) []
  | v=>asD (.sl e) v fun x fr=>.fin _ (chk (Jcs lo hi x.length)) (fun _=>.val (.sl e) (Jdr x lo hi)) (JaV fr)
 | some (.arr n e)=>Jh1 n e v lo hi
 | _=>.fail
def JlA (E:Env) (t:Nat) (v:V) (lo hi:Option Int):M V:=
 match E.ty t with
 | some (.arr n e)=>if 2≤n∧n≤65536∧lo=none∧hi=none then match v with
  | .ptr s ver p=>.mem s fun en=>match en with
   | .box ver' τb _=>if ver=ver'∧tyP τb p=some (.arr n e) then .ret (.asl n e (.ptr s ver p)) else .fail
   | _=>.fail
  | .elp s ver i p=>.mem s fun en=>match en with
   | .own ver' τe _ _=>if ver=ver'∧tyP τe p=some (.arr n e) then .ret (.asl n e (.elp s ver i p)) else .fail
   | _=>.fail
  | _=>.fail else .fail
 | _=>.fail
def Jj3 (E:Env) (t:Nat) (v:V) (lo hi:Option Int):M V:=
 match E.ty t with
 | some (.sl e)=>match v,lo,hi with
  | .pre s ver _,some l,some h=>.mem s fun en=>match en with
   | .own ver' e' xs .full=>if ver=ver'∧e'=e then .fin Unit (chk (decide (0≤l)&&decide (l≤h)&&decide (h=(xs.length:Int)))) (fun _=>.win s ver l.toNat) [] else .fail
   | _=>.fail
  | _,_,_=>.fail
 | _=>.fail
def JlB (E:Env) (t:Nat) (v:V) (lo:Option Int) (h m:Int):M V:=
 match E.ty t with
 | some (.sl e)=>match v with
  | .ref s ver=>.mem s fun en=>match en with
   | .own ver' e' xs .full=>if ver=ver'∧e'=e then .fin Unit (chk (Jcs lo (some h) xs.length&&decide (h≤m)&&decide (m≤(xs.length:Int)))) (fun _=>.dead) [] else .fail
   | _=>.fail
  | _=>.fail
 | _=>.fail
def JlC (v:V):M V:=
 match v with
 | .pre s ver hi=>.mem s fun en=>match en with
  | .own ver' e xs .full=>if ver=ver' then .fin Unit (some ()) (fun _=>.ref s (nextVer en)) [(s,fun _=>.own (nextVer en) e (xs.take hi) .full)] else .fail
  | _=>.fail
 | v=>.ret v
def JfP (E:Env) (d t:Nat) (v:V) (lo hi:Option Int):M V:=
 bif E.asl d then JlA E t v lo hi else
 bif E.cut d then match lo with
  | none=>Jlx E t v hi
  | some _=>.fail
 else bif E.win d then match hi with
  | none=>Jly E t v lo
  | some h=>Jj3 E t v lo (some h)
 else bif E.pre d then match lo with
  | none=>Jlz E t v hi
  | some _=>.fail
 else Jh2 E t v lo hi
def JlD (E:Env) (t:Nat) (v:V):M V:=
 match E.ty t with
 | some .str=>JfO .str v fun x=>.ret (.val (.int .i64) (x.length:Int))
 | some (.sl e)=>JfO (.sl e) v fun x=>.ret (.val (.int .i64) (x.length:Int))
 | _=>.fail
def JlE (E:Env) (t:Nat) (v:V):M V:=
 match v with
 | .asl n e x=>if E.ty t=some (.sl e)∧n≤65536 then .ret (.val (.int .i64) (n:Int)) else .fail
 | .pre s ver hi=>.mem s fun en=>match en with
  | .own ver' e' _ .full=>if ver=ver'∧E.ty t=some (.sl e') then .ret (.val (.int .i64) (hi:Int)) else .fail
  | _=>.fail
 | v=>JlD E t v
def JhT (v:V):Bool:=
 match v with
 | .asl _ _ _=>true
 | _=>false
def JmD (v:V):Bool:=
 match v with
 | .pre _ _ _=>true
 | _=>false
def JmE (v:V):Bool:=
 match v with
 | .pel _=>true
 | _=>false
def JlF (E:Env) (t:Nat) (v iv:V):M V:=
 match v,iv with
 | .asl n e x,.val (.int k) i=>if E.ty t=some (.sl e)∧2≤n∧n≤65536 then match x with
  | .ptr s ver p=>.mem s fun en=>match en with
   | .box ver' τb _=>if ver=ver'∧tyP τb p=some (.arr n e) then .fin Unit (chk (inLen (toI k i) n)) (fun _=>.ptr s ver (p++[.idx (toI k i).toNat])) [] else .fail
   | _=>.fail
  | .elp s ver j p=>.mem s fun en=>match en with
   | .own ver' τe _ _=>if ver=ver'∧tyP τe p=some (.arr n e) then .fin Unit (chk (inLen (toI k i) n)) (fun _=>.elp s ver j (p++[.idx (toI k i).toNat])) [] else .fail
   | _=>.fail
  | _=>.fail else .fail
 | _,_=>.fail
def more {α:Type} (E:Env) (t:Nat) (e:Ty) (v:V) (k:List e.D→M α):M α:=
 match E.ty t with
 | some .str=>match v with
  | .val .str x=>match cast? (.sl (.int .u8)) (.sl e) x with
   | some y=>k y
   | none=>.fail
  | _=>.fail
 | some (.sl _)=>match v with
  | .pre s ver hi=>.mem s fun en=>match en with
   | .own ver' e' xs .full=>if ver=ver' then match cast? (.sl e') (.sl e) xs with
          | some xs=>k (xs.take hi)
          | none=>.fail
    else .fail
   | _=>.fail
  | v=>JfO (.sl e) v k
 | _=>.fail
def Jj4 (d:Nat) (e:Ty) (v:V) (ys:List e.D) (c:Bool):M V:=
 match v with
 | .nil=>.mem (Jaa d 0) fun en=>
  .fin _ (chk (c&&decide (ys.length≤lim))) (fun _=>.ref (Jaa d 0) (nextVer en)) [(Jaa d 0,fun _=>.own (nextVer en) e ys .full)]
 | .ref s ver=>.mem s fun en=>.mem (Jaa d 0) fun en'=>match en with
  | .own ver' e' xs m=>if ver=ver' then match cast? (.sl e') (.sl e) xs with
   | some xs=>match m with
    | .full=>.fin _ (chk (c&&decide (xs.length+ys.length≤lim))) (fun _=>.ref (Jaa d 0) (nextVer en'))
     [(s,fun _=>.gone ver),(Jaa d 0,fun _=>.own (nextVer en') e (xs++ys) .full)]
    | .tail=>.fin _ (chk (c&&decide (xs.length+ys.length≤lim))) (fun _=>.ref (Jaa d 0) (nextVer en'))
     [(s,fun _=>.own ver' e xs .view),(Jaa d 0,fun _=>.own (nextVer en') e (xs++ys) .tail)]
    | _=>.fail
   | none=>.fail
   else .fail
  | _=>.fail
 | _=>.fail
def Jj5 (τ:Option Ty):Bool:=
 match τ with
 | some (.int .i64)=>true
 | _=>false
def Jjr (E:Env) (d t t':Nat) (v u:V):M V:=
 match E.ty t with
 | some (.sl e)=>bif Jj5 (E.ty t') then match u with
  | .val (.int .i64) n=>Jj4 d e v (List.replicate (n:Int).toNat e.zero) (decide (0≤(n:Int))&&decide ((n:Int)≤(lim:Int)))
  | _=>.fail
  else more E t' e u fun ys=>Jj4 d e v ys true
 | _=>.fail
def over {α:Type} (xs ys:List α):List α:=ys.take xs.length++xs.drop ys.length
def overAt {α:Type} (lo:Nat) (xs ys:List α):List α:=xs.take lo++over (xs.drop lo) ys
def JmF (E:Env) (t t':Nat) (v u:V):M V:=
 match E.ty t with
 | some (.sl e)=>more E t' e u fun ys=>
  match v with
  | .ref s ver=>.mem s fun en=>match en with
   | .own ver' e' xs .full=>if ver=ver' then match cast? (.sl e) (.sl e') ys with
    | some ys=>.fin Unit (some ()) (fun _=>.val (.int .i64) (min ys.length xs.length:Nat)) [(s,fun _=>.own ver' e' (over xs ys) .full)]
    | none=>.fail
    else .fail
   | _=>.fail
  | .win s ver lo=>.mem s fun en=>match en with
   | .own ver' e' xs .full=>if ver=ver' then match cast? (.sl e) (.sl e') ys with
    | some ys=>.fin Unit (some ()) (fun _=>.val (.int .i64) (min ys.length (xs.length-lo):Nat)) [(s,fun _=>.own ver' e' (overAt lo xs ys) .full)]
    | none=>.fail
    else .fail
   | _=>.fail
  | _=>.fail
 | _=>.fail
def mnI:(k:IntKind)→IntT k→IntT k→Option (IntT k)
 | .u8,x,y=>some (bif decide (y<x) then y else x) | .u16,x,y=>some (bif decide (y<x) then y else x)
 | .u32,x,y=>some (bif decide (y<x) then y else x) | .u64,x,y=>some (bif decide (y<x) then y else x)
 | .i64,x,y=>some (bif decide (y<x) then y else x)
 | _,_,_=>none
def mxI:(k:IntKind)→IntT k→IntT k→Option (IntT k)
 | .u8,x,y=>some (bif decide (x<y) then y else x) | .u16,x,y=>some (bif decide (x<y) then y else x)
 | .u32,x,y=>some (bif decide (x<y) then y else x) | .u64,x,y=>some (bif decide (x<y) then y else x)
 | .i64,x,y=>some (bif decide (x<y) then y else x)
 | _,_,_=>none
def mmM (f:(k:IntKind)→IntT k→IntT k→Option (IntT k)) (v u:V):M V:=
 match v,u with
 | .val (.int k) x,.val τ' y=>match cast? τ' (.int k) y with
  | some y=>.fin _ (f k x y) (fun z=>.val (.int k) z) []
  | none=>.fail
 | _,_=>.fail
def nth:V→Nat→Option V
 | .tcons a _,0=>some a
 | .tcons _ r,i+1=>nth r i
 | _,_=>none
@[reducible] def Io:List Par→Type
 | []=>Unit
 | .val _::r=>Io r
 | .nils _::r=>Io r
 | .pv _::r=>Io r
 | .box τ::r=>(Nat×(τ.D→Entry))×Io r
 | .row e::r=>(Nat×(List e.D→Entry))×Io r
 | .take _::r=>(Nat×Entry)×Io r
def Jar:(ps:List Par)→Io ps→List Nat
 | [],_=>[]
 | .val _::r,w=>Jar r w
 | .nils _::r,w=>Jar r w
 | .pv _::r,w=>Jar r w
 | .box _::r,w=>w.1.1::Jar r w.2
 | .row _::r,w=>w.1.1::Jar r w.2
 | .take _::r,w=>w.1.1::Jar r w.2
def dsH (a:Ty):(r:List Ty)→Ds (a::r)→a.D
 | [],x=>x
 | _::_,x=>x.1
def dsT (a:Ty):(r:List Ty)→Ds (a::r)→Ds r
 | [],_=>()
 | _::_,x=>x.2
def Je3 {β:Type}:(ps:List Par)→Io ps→(β→Ds (ioTys ps))→Ws β
 | [],_,_=>[]
 | .val _::r,w,g=>Je3 r w g
 | .nils _::r,w,g=>Je3 r w g
 | .pv _::r,w,g=>Je3 r w g
 | .box τ::r,w,g=>(w.1.1,fun b=>w.1.2 (dsH τ (ioTys r) (g b)))::Je3 r w.2 (fun b=>dsT τ (ioTys r) (g b))
 | .row e::r,w,g=>(w.1.1,fun b=>w.1.2 (dsH (.sl e) (ioTys r) (g b)))::Je3 r w.2 (fun b=>dsT (.sl e) (ioTys r) (g b))
 | .take _::r,w,g=>(w.1.1,fun _=>w.1.2)::Je3 r w.2 g
def JcP:List Stp→Bool
 | []=>true
 | .idx _::_=>false
 | _::p=>JcP p
def Jno {α:Type} (τ:Ty) (v:V) (k:τ.D→Nat×(τ.D→Entry)→M α):M α:=
 match v with
 | .ptr s ver p=>.mem s fun e=>match e with
  | .box ver' τb x=>if ver=ver'∧tyP τb p=some τ∧JcP p=true∧τ.isVal=true then k (JcJ τb x p τ) (s,fun z=>.box ver' τb (JdM τb x p τ z)) else .fail
  | _=>.fail
 | .elp s ver i p=>.mem s fun e=>match e with
  | .own ver' τe xs .full=>if ver=ver'∧tyP τe p=some τ∧JcP p=true∧τ.isVal=true then
   k (JcJ τe (xs.getD i τe.zero) p τ) (s,fun z=>.own ver' τe (xs.set i (JdM τe (xs.getD i τe.zero) p τ z)) .full) else .fail
  | _=>.fail
 | _=>.fail
def Jnp {α:Type} (e:Ty) (v:V) (k:List e.D→Nat×(List e.D→Entry)→M α):M α:=
 match v with
 | .ref s ver=>.mem s fun en=>match en with
  | .own ver' e' xs .full=>if ver=ver' then match cast? (.sl e') (.sl e) xs with
   | some xs=>k xs (s,fun z=>.own ver' e z .full)
   | none=>.fail
   else .fail
  | _=>.fail
 | _=>.fail
def JmG {α:Type} (e:Ty) (v:V) (k:List e.D→Nat×Entry→M α):M α:=
 match v with
 | .ref s ver=>.mem s fun en=>match en with
  | .own ver' e' xs .full=>if ver=ver' then match cast? (.sl e') (.sl e) xs with
   | some xs=>k xs (s,.gone ver')
   | none=>.fail
   else .fail
  | _=>.fail
 | _=>.fail
def Jc3 {α:Type} (p:Par) (v:V) (k:p.ty.D→List (Nat×Entry)→Io [p]→M α):M α:=
 match p,k with
 | .val τ,k=>bif τ.isVal then asD τ v fun x fr=>k x fr () else .fail
 | .nils e,k=>match v with
  | .nil=>k () [] ()
  | _=>.fail
 | .pv q,k=>match q.read v with
  | some x=>k x [] ()
  | none=>.fail
 | .box τ,k=>Jno τ v fun x w=>k x [] (w,())
 | .row e,k=>Jnp e v fun x w=>k x [] (w,())
 | .take e,k=>JmG e v fun x w=>k x [] (w,())
def Jen:(p:Par)→(r:List Par)→Io [p]→Io r→Io (p::r)
 | .val _,_,_,w'=>w'
 | .nils _,_,_,w'=>w'
 | .pv _,_,_,w'=>w'
 | .box _,_,w,w'=>(w.1,w')
 | .row _,_,w,w'=>(w.1,w')
 | .take _,_,w,w'=>(w.1,w')
def rdX {α:Type} (x:Operand⊕V) (k:V→M α):M α:=
 match x with
 | .inl o=>rd o k
 | .inr v=>k v
def JhU {α:Type}:(ps:List Par)→List (Operand⊕V)→(Ds (ps.map Par.ty)→List (Nat×Entry)→Io ps→M α)→M α
 | [],[],k=>k () [] ()
 | [a],[o],k=>rdX o fun v=>Jc3 a v fun x fr w=>k x fr w
 | a::b::r,o::os,k=>rdX o fun v=>Jc3 a v fun x fr w=>JhU (b::r) os fun xs fr' w'=>k (x,xs) (fr++fr') (Jen a (b::r) w w')
 | _,_,_=>.fail
def Jb4:List Nat→Bool
 | []=>true
 | n::r=>r.all (fun m=>!Nat.beq m n)&&Jb4 r
def JgM (s ver:Nat) (p:Ty×Mode) (x:p.1.D):V:=
 match p with
 | (.sl e,.view)=>.val (.sl e) x
 | (.sl e,.gb _)=>.val (.sl e) x
 | (.sl e,.bg)=>.val (.sl e) x
 | (.sl e,.it _)=>.val (.sl e) x
 | (.sl _,_)=>.ref s ver
 | (τ,_)=>.val τ x
def Jgf (d:Nat) (ver:Nat→Nat):(i:Nat)→(ps:List (Ty×Mode))→Ds (ps.map (·.1))→V
 | _,[],_=>.tnil
 | i,[p],x=>.tcons (JgM (Jaa d i) (ver i) p x) .tnil
 | i,p::q::r,x=>.tcons (JgM (Jaa d i) (ver i) p x.1) (Jgf d ver (i+1) (q::r) x.2)
def Je4 (s ver:Nat) (p:Ty×Mode) {β:Type} (g:β→p.1.D):Ws β:=
 match p,g with
 | (.sl _,.view),_=>[]
 | (.sl _,.gb _),_=>[]
 | (.sl _,.bg),_=>[]
 | (.sl _,.it _),_=>[]
 | (.sl e,m),g=>[(s,fun b=>.own ver e (g b) m)]
 | _,_=>[]
def Jdg (d:Nat) (ver:Nat→Nat) {β:Type}:(i:Nat)→(ps:List (Ty×Mode))→(β→Ds (ps.map (·.1)))→Ws β
 | _,[],_=>[]
 | i,[p],g=>Je4 (Jaa d i) (ver i) p g
 | i,p::q::r,g=>Je4 (Jaa d i) (ver i) p (fun b=>(g b).1)++Jdg d ver (i+1) (q::r) (fun b=>(g b).2)
def Jj6 {α:Type} (d:Nat):(n:Nat)→((Nat→Nat)→M α)→M α
 | 0,k=>k fun _=>0
 | n+1,k=>Jj6 d n fun f=>.mem (Jaa d n) fun e=>k fun i=>bif Nat.beq i n then nextVer e else f i
def Jgg (d:Nat) (ver:Nat→Nat):(ps:List (Ty×Mode))→Ds (ps.map (·.1))→V
 | [p],x=>JgM (Jaa d 0) (ver 0) p x
 | [],_=>.tnil
 | p::q::r,x=>Jgf d ver 0 (p::q::r) x
def Jfo (d:Nat) (F:Fun) (os:List (Operand⊕V)):M V:=
 JhU F.args os fun x fr io=>Jj6 d F.res.length fun ver=>
  if Jb4 (Jar F.args io)=true∧(Jar F.args io).all (fun s=>fr.all fun q=>!Nat.beq q.1 s)=true∧(Jar F.args io).all (fun s=>(List.range F.res.length).all fun i=>!Nat.beq (Jaa d i) s)=true then
   .fin _ (F.f x) (fun r=>Jgg d ver F.res (dsL (F.res.map (·.1)) (ioTys F.args) r))
    (JaV fr++Je3 F.args io (fun r=>dsR (F.res.map (·.1)) (ioTys F.args) r)++Jdg d ver 0 F.res (fun r=>dsL (F.res.map (·.1)) (ioTys F.args) r))
  else .fail
def JlG (E:Env) (t t':Nat) (v u:V):M V:=
 match v,u with
 | .pre s ver hi,.win s' ver' lo=>.mem s fun en=>match en with
  | .own v1 e xs .full=>if ver=v1∧s'=s∧ver'=v1∧E.ty t=some (.sl e)∧E.ty t'=some (.sl e) then
   .fin Unit (chk (decide (hi≤lo))) (fun _=>.pre s ver (hi+(xs.length-lo))) [(s,fun _=>.own v1 e (overAt hi xs (xs.drop lo)) .full)] else .fail
  | _=>.fail
 | _,_=>.fail
def Jc4:List (Ty×Mode)→Bool
 | []=>true | p::r=>p.1.flat&&Jc4 r
def Jj7 {α:Type} (p:Par) (v:V) (k:p.ty.D→M α):M α:=
 match p,k with
 | .pv (.rp τ),k=>match v with
  | .ptr s ver q=>.mem s fun e=>match e with
   | .box ver' τb xb=>if ver=ver'∧tyP τb q=some τ∧JcP q=true∧τ.isVal=true then k (JcJ τb xb q τ) else .fail
   | _=>.fail
  | .vpt s ver q=>.mem s fun e=>match e with
   | .vb ver' τb x=>if ver=ver'∧q=[]∧τb=τ∧τ.isVal=true then JfO τ x k else .fail
   | _=>.fail
  | v=>match (PK.rp τ).read v with
   | some x=>k x
   | none=>.fail
 | .val τ,k=>match v with
  | .asl n e x=>match x with
   | .ptr s ver q=>.mem s fun en=>match en with
    | .box ver' τb xb=>if ver=ver'∧tyP τb q=some (.arr n e)∧JcP q=true∧n≤65536 then match cast? (.sl e) τ (JcJ τb xb q (.arr n e)) with
           | some y=>k y
           | none=>.fail
          else .fail
    | _=>.fail
   | .elp s ver i q=>.mem s fun en=>match en with
    | .own ver' τe xs .full=>if ver=ver'∧tyP τe q=some (.arr n e)∧JcP q=true∧n≤65536 then match cast? (.sl e) τ (JcJ τe (xs.getD i τe.zero) q (.arr n e)) with
           | some y=>k y
           | none=>.fail
          else .fail
    | _=>.fail
   | _=>.fail
  | v=>Jc3 (.val τ) v fun x _ _=>k x
 | p,k=>Jc3 p v fun x _ _=>k x
def JhV {α:Type}:(ps:List Par)→List (Operand⊕V)→(Ds (ps.map Par.ty)→M α)→M α
 | [],[],k=>k ()
 | [a],[o],k=>rdX o fun v=>Jj7 a v fun x=>k x
 | a::b::r,o::os,k=>rdX o fun v=>Jj7 a v fun x=>JhV (b::r) os fun xs=>k (x,xs)
 | _,_,_=>.fail
def Jj8 (d:Nat) (F:Fun) (os:List (Operand⊕V)):M V:=
 bif F.args.all Par.isIn&&Jc4 F.res then JhV F.args os fun x=>.fin _ (F.f x) (fun r=>Jgg d (fun _=>0) F.res (dsL (F.res.map (·.1)) (ioTys F.args) r)) [] else .fail
def Jh3 (E:Env) (t:Nat) (v:V):M V:=
 match v with
 | .win s ver lo=>.mem s fun en=>match en with
  | .own ver' e' xs .full=>if ver=ver'∧E.ty t=some (.sl e') then .fin Unit (some ()) (fun _=>.dead) [(s,fun _=>.own ver' e' (overAt lo xs (List.replicate (xs.length-lo) e'.zero)) .full)] else .fail
  | _=>.fail
 | _=>.fail
def plM {α:Type}:List (Nat×Operand)→Nat→(V→M α)→M α
 | [],_,k=>k .tnil
 | (i,o)::r,j,k=>bif Nat.beq i j then rd o fun v=>match v with
  | .ptr s ver p=>.mem s fun e=>match e with
   | .box ver' _ _=>bif Nat.beq ver ver' then plM r (j+1) fun c=>k (.tcons (.ptr s ver p) c) else .fail
   | _=>.fail
  | _=>.fail
  else .fail
def JfQ:V→Option Nat
 | .tcons _ r=>(JfQ r).map (·+1)
 | .tnil=>some 0
 | _=>none
def JlH (v u:V):M V:=
 match v,u with
 | .plist c,.val (.int k) i=>match nth c (toI k i).toNat with
  | some y=>.fin Unit (chk (decide (0≤toI k i))) (fun _=>.pel y) []
  | none=>.fail
 | _,_=>.fail
def mpPut {n:Nat} {V:Type}:List (List (BitVec n)×V)→List (BitVec n)→V→List (List (BitVec n)×V)
 | [],k,v=>[(k,v)]
 | p::r,k,v=>bif decide (k=p.1) then (k,v)::r else p::mpPut r k v
def mpGet {n:Nat} {V:Type}:List (List (BitVec n)×V)→List (BitVec n)→Option V
 | [],_=>none
 | p::r,k=>bif decide (k=p.1) then some p.2 else mpGet r k
def Jgh (d:Nat) (K V:Ty):M Re.V:=.mem (Jaa d 0) fun en=>.fin Unit (some ()) (fun _=>.ref (Jaa d 0) (nextVer en)) [(Jaa d 0,fun _=>.own (nextVer en) (.pair K V) [] .mp)]
def Jj9 (n:Nat) (V:Ty) (vm vk vx:Re.V):M Re.V:=
 match vm,vk,vx with
 | .ref s ver,.val τk k,.val τx x=>.mem s fun en=>match en with
  | .own ver' e' xs .mp=>if ver=ver' then match cast? (.sl e') (.sl (.pair (.arr n (.int .u8)) V)) xs,cast? τk (.arr n (.int .u8)) k,cast? τx V x with
   | some xs,some k,some x=>.fin Unit (chk (decide (xs.length+1≤lim))) (fun _=>.dead) [(s,fun _=>.own ver' (.pair (.arr n (.int .u8)) V) (mpPut xs k x) .mp)]
   | _,_,_=>.fail
   else .fail
  | _=>.fail
 | _,_,_=>.fail
def Jh4 (n:Nat) (V:Ty) (vm vk:Re.V) (ok:Bool):M Re.V:=
 match vm,vk with
 | .ref s ver,.val τk k=>.mem s fun en=>match en with
  | .own ver' e' xs .mp=>if ver=ver' then match cast? (.sl e') (.sl (.pair (.arr n (.int .u8)) V)) xs,cast? τk (.arr n (.int .u8)) k with
   | some xs,some k=>.ret (bif ok then .tcons (.val V ((mpGet xs k).getD V.zero)) (.tcons (.val .bool (mpGet xs k).isSome) .tnil) else .val V ((mpGet xs k).getD V.zero))
   | _,_=>.fail
   else .fail
  | _=>.fail
 | _,_=>.fail
def Jgi (d:Nat) (K V:Ty):M Re.V:=
 if Jbb K=true∧Jgc V=true then .mem (Jaa d 0) fun en=>.fin Unit (some ()) (fun _=>.ref (Jaa d 0) (nextVer en)) [(Jaa d 0,fun _=>.own (nextVer en) (.pair K V) [] .bg)] else .fail
def Jdh (K V:Ty) (vm vk vx:Re.V):M Re.V:=
 match vm,vk,vx with
 | .ref s ver,.val τk k,.val τx x=>.mem s fun en=>match en with
  | .own ver' e' xs .bg=>if ver=ver'∧Jbb K=true∧(eqD K).isSome=true then match cast? (.sl e') (.sl (.pair K V)) xs,cast? τk K k,cast? τx V x with
   | some xs,some k,some x=>.fin Unit (some ()) (fun _=>.dead) [(s,fun _=>.own ver' (.pair K V) (xs++[(k,x)]) .bg)]
   | _,_,_=>.fail
   else .fail
  | _=>.fail
 | _,_,_=>.fail
def bgGet {K V:Type} (f:K→K→Bool) (xs:List (K×V)) (k:K):List V:=(xs.filter fun q=>f q.1 k).map (·.2)
def bgOne {V:Type} (g:V→V→Bool) (z:V):List V→Option V
 | []=>some z
 | v::r=>bif r.all fun u=>g u v then some v else none
def Jh5 (K V:Ty) (vm vk:Re.V):M Re.V:=
 match vm,vk with
 | .ref s ver,.val τk k=>.mem s fun en=>match en with
  | .own ver' e' xs .bg=>if ver=ver'∧Jbb K=true∧Jgc V=true then match cast? (.sl e') (.sl (.pair K V)) xs,cast? τk K k,eqD K,eqD V with
   | some xs,some k,some f,some g=>.fin V.D (bgOne g V.zero (bgGet f xs k)) (fun v=>.val V v) []
   | _,_,_,_=>.fail
   else .fail
  | _=>.fail
 | _,_=>.fail
def JlI (v:Re.V):M Re.V:=
 match v with
 | .ref s ver=>.mem s fun en=>match en with
  | .own ver' (.pair K V) xs .bg=>if ver=ver' then .fin Unit (some ()) (fun _=>.val (.mp K V) xs) [(s,fun _=>.gone ver')] else .fail
  | _=>.fail
 | _=>.fail
def JlJ (d:Nat) (K V:Ty) (v:Re.V):M Re.V:=
 match v with
 | .val τ xs=>match cast? τ (.mp K V) xs with
  | some xs=>.mem (Jaa d 0) fun en=>.fin Unit (some ()) (fun _=>.ref (Jaa d 0) (nextVer en)) [(Jaa d 0,fun _=>.own (nextVer en) (.pair K V) ((K.zero,V.zero)::xs) (.it false))]
  | none=>.fail
 | _=>.fail
def JlK (v:Re.V):M Re.V:=
 match v with
 | .ref s ver=>.mem s fun en=>match en with
  | .own ver' (.pair K V) xs (.it true)=>if ver=ver' then .fin (K.D×V.D) xs.head? (fun p=>.tcons (.val K p.1) (.tcons (.val V p.2) .tnil)) [] else .fail
  | _=>.fail
 | _=>.fail
def Jka (vm:Re.V):M Re.V:=
 match vm with
 | .ref s ver=>.mem s fun en=>match en with
  | .own ver' _ xs .mp=>if ver=ver' then .ret (.val (.int .i64) (xs.length:Int)) else .fail
  | _=>.fail
 | _=>.fail
def JdN (off n:Nat) (l:List (Nat×Nat)):List (Nat×Nat):=l.filter fun q=>!(Nat.ble off q.1&&Nat.ble (q.1+1) (off+n))
def Jkb (off sz:Nat) (l:List (Nat×Nat)):Bool:=l.any fun q=>Nat.beq q.1 off&&Nat.beq q.2 sz
def Je5:Option Value→Bool
 | some (.slice none 0 0)=>true | _=>false
def Jkc:(b:Ty)→b.D→V
 | .pair a r,x=>bif a.isVal then .tcons (.val a x.1) (Jkc r x.2) else .dead
 | .unit,_=>.tnil
 | _,_=>.dead
def Jcg:Ty→Bool
 | .pair a r=>a.isVal&&Jcg r | .unit=>true | _=>false
def JbC:Ty→List Stp→Bool
 | _,[]=>true
 | .st b,s::p=>Jcg b&&JbC b (s::p)
 | .pair a _,.fst::p=>JbC a p
 | .pair _ r,.snd::p=>JbC r p
 | _,_=>false
def Jdi:Ty→V
 | .st b=>.agg b (Jdi b)
 | .pair a r=>.tcons (Jdi a) (Jdi r)
 | .unit=>.tnil
 | .sl _=>.nil
 | τ=>.val τ τ.zero
def Jb5:Ty→Bool
 | .st b=>Jcg b&&Jb5 b
 | .pair a r=>Jb5 a&&Jb5 r
 | _=>true
def Jbl:Ty→V→List Stp→Option V
 | _,v,[]=>some v
 | .st b,v,s::p=>match v with
  | .agg b' t=>if b'=b then Jbl b t (s::p) else none
  | .val τ' x=>match cast? τ' (.st b) x,tyP (.st b) (s::p) with
   | some x,some τ2=>(Jcx (.st b) x (s::p) τ2).map (.val τ2)
   | _,_=>none
  | _=>none
 | .pair a _,.tcons v _,.fst::p=>Jbl a v p
 | .pair _ r,.tcons _ t,.snd::p=>Jbl r t p
 | _,_,_=>none
def Jcy:Ty→V→List Stp→V→Option V
 | _,_,[],u=>some u
 | .st b,v,s::p,u=>match v with
  | .agg b' t=>if b'=b then (Jcy b t (s::p) u).map (.agg b) else none
  | .val τ' x=>match cast? τ' (.st b) x with
   | some x=>(Jcy b (Jkc b x) (s::p) u).map (.agg b)
   | none=>none
  | _=>none
 | .pair a _,.tcons v t,.fst::p,u=>(Jcy a v p u).map fun v'=>.tcons v' t
 | .pair _ r,.tcons v t,.snd::p,u=>(Jcy r t p u).map fun t'=>.tcons v t'
 | _,_,_,_=>none
def okV {α:Type} (τ:Ty) (v:V) (k:M α):M α:=
 match v with
 | .val τ' _=>if τ'=τ then k else .fail
 | .agg b _=>if Ty.st b=τ then k else .fail
 | .nil=>match τ with
  | .sl _=>k
  | _=>.fail
 | .ref s ver=>.mem s fun e=>match e with
  | .own ver' e' _ m=>if ver=ver'∧Ty.sl e'=τ∧m.isMp=false then k else .fail
  | _=>.fail
 | _=>.fail
def Jfp (v:V):Bool:=
 match v with
 | .vpt _ _ _=>true
 | _=>false
def JhW (d:Nat) (τ:Ty) (v:V):M V:=
 .mem (Jaa d 0) fun e=>.fin Unit (some ()) (fun _=>.vpt (Jaa d 0) (nextVer e) []) [(Jaa d 0,fun _=>.vb (nextVer e) τ v)]
def Jh6 (τ:Ty) (v:V):M V:=
 match v with
 | .vpt s ver p=>.mem s fun e=>match e with
  | .vb ver' τ0 x=>if ver=ver'∧tyP τ0 p=some τ then match Jbl τ0 x p with
   | some y=>.ret y
   | none=>.fail
   else .fail
  | _=>.fail
 | _=>.fail
def Jh7 (τ:Ty) (v:V):M V:=
 match v with
 | .vpt s ver p=>.mem s fun e=>match e with
  | .vb ver' τ0 x=>if ver=ver'∧tyP τ0 p=some τ∧τ.isVal=true then match Jbl τ0 x p with
   | some y=>asD τ y fun z fr=>.fin Unit (some ()) (fun _=>.val τ z) (JaV fr)
   | none=>.fail
   else .fail
  | _=>.fail
 | _=>.fail
def peM (q:Ty×List Stp×Ty) (os:List Operand):M V:=
 match os with
 | [o1,o2]=>rd o1 fun v=>rd o2 fun u=>match v,u with
  | .vpt s ver p,.val (.int .i64) i=>.mem s fun e=>match e with
   | .vb ver' τ0 x=>if ver=ver'∧tyP τ0 p=some (.st q.1)∧tyP (.st q.1) q.2.1=some (.sl q.2.2) then match Jbl τ0 x (p++q.2.1) with
    | some (.ref s2 ver2)=>.mem s2 fun e2=>match e2 with
     | .own v3 τe xs .full=>if ver2=v3∧τe=q.2.2 then .fin Unit (chk (decide (1≤(i:Int))&&decide ((i:Int)≤(xs.length:Int)))) (fun _=>.elp s2 ver2 ((i:Int)-1).toNat []) [] else .fail
     | _=>.fail
    | _=>.fail
    else .fail
   | _=>.fail
  | _,_=>.fail
 | _=>.fail
def JgN (τ:Ty) (v u:V):M V:=
 match v with
 | .vpt s ver p=>okV τ u <| .mem s fun e=>match e with
  | .vb ver' τ0 x=>if ver=ver'∧tyP τ0 p=some τ∧JbC τ0 p=true then match Jcy τ0 x p u with
   | some x'=>.fin Unit (some ()) (fun _=>.dead) [(s,fun _=>.vb ver' τ0 x')]
   | none=>.fail
   else .fail
  | _=>.fail
 | _=>.fail
def Jh8 (b:Ty) (v:V) (f:Nat):M V:=
 match v with
 | .vpt s ver p=>.mem s fun e=>match e with
  | .vb ver' τ0 _=>if ver=ver'∧tyP τ0 p=some (.st b) then .ret (.vpt s ver (p++Jaf f)) else .fail
  | _=>.fail
 | _=>.fail
def JgO (b:Ty) (v:V) (f:Nat):M V:=
 match Jbl (.st b) v (Jaf f),tyP (.st b) (Jaf f) with
 | some y,some τ=>bif τ.isVal then .ret y else .fail
 | _,_=>.fail
def Jkd (v:V):Bool:=
 match v with
 | .agg _ _=>true
 | _=>false
def Jeo (b:Ty):V→List (Nat×Operand)→M V
 | acc,[]=>.ret (.agg b acc)
 | acc,(i,o)::r=>rd o fun v=>match tyP b (Jaf i) with
  | some τ'=>bif Jcg b&&(τ'.isVal&&JbC b (Jaf i)) then okV τ' v <| match Jcy b acc (Jaf i) v with
   | some acc'=>Jeo b acc' r
   | none=>.fail
   else .fail
  | none=>.fail
def Jke {α:Type}:List Operand→(V→M α)→M α
 | [],k=>k .tnil
 | o::r,k=>rd o fun v=>Jke r fun c=>k (.tcons v c)
def Jh9 {α:Type}:List Operand→(V→List (Nat×Entry)→M α)→M α
 | [],k=>k .tnil []
 | o::r,k=>rd o fun v=>match v with
  | .ptr s ver []=>.mem s fun e=>match e with
   | .box ver' τ x=>if ver=ver' then Jh9 r fun c ws=>k (.tcons (.rpt τ x) c) ((s,.gone ver)::ws) else .fail
   | _=>.fail
  | v=>Jh9 r fun c ws=>k (.tcons v c) ws
def Jkf (v:V):M V:=
 match v with
 | .ptr s ver p=>.mem s fun e=>match e with
  | .box ver' _ _=>bif Nat.beq ver ver' then .ret (.pel (.ptr s ver p)) else .fail
  | _=>.fail
 | .elp s ver i p=>.mem s fun e=>match e with
  | .own ver' _ _ _=>bif Nat.beq ver ver' then .ret (.pel (.elp s ver i p)) else .fail
  | _=>.fail
 | .vpt s ver p=>.mem s fun e=>match e with
  | .vb ver' _ _=>bif Nat.beq ver ver' then .ret (.pel (.vpt s ver p)) else .fail
  | _=>.fail
 | .rpt τ x=>.ret (.pel (.rpt τ x))
 | .asl n e x=>.ret (.pel (.asl n e x))
 | .pel x=>.ret (.pel (.pel x))
 | .clo g t=>.ret (.pel (.clo g t))
 | _=>.fail
def one? {α:Type}:List α→Option α
 | [x]=>some x | _=>none
def Jkg (d:Nat) (τ:Ty) (l:List (Nat×Nat)):M V:=
 bif l.all fun q=>Je5 (zeroC τ)[q.1]? then .mem (Jaa d 0) fun e=>.fin Unit (some ()) (fun _=>.elp (Jaa d 0) (nextVer e) 0 []) [(Jaa d 0,fun _=>.own (nextVer e) τ [τ.zero] (.gb l))] else .fail
def JlL (d:Nat) (τ:Ty) (v:V):M V:=
 match τ with
 | .sl e=>match v with
  | .elp s ver i p=>.mem s fun en=>.mem (Jaa d 0) fun en'=>match en with
   | .own ver' τe xs (.gb l)=>match one? xs with
    | some x=>if ver=ver'∧i=0∧Jaa d 0≠s∧Jkb (offP τe p) e.size l=true then
     .fin (List e.D) (Jcx τe x p (.sl e)) (fun _=>.ref (Jaa d 0) (nextVer en')) [(s,fun _=>.own ver' τe [x] (.gb (JdN (offP τe p) 1 l))),(Jaa d 0,fun y=>.own (nextVer en') e y .tail)] else .fail
    | none=>.fail
   | _=>.fail
  | _=>.fail
 | _=>.fail
def JlM (τ:Ty) (s ver i:Nat) (p:List Stp) (s2 ver2:Nat):M V:=
 .mem s fun en=>.mem s2 fun en2=>match en,en2 with
 | .own v1 τe xs (.gb l),.own v2 e ys .tail=>if ver=v1∧ver2=v2∧i=0∧s2≠s then match one? xs,cast? (.sl e) τ ys with
  | some x,some y=>.fin τe.D (Jcd τe x p τ y) (fun _=>.dead) [(s2,fun _=>.own v2 e ys .view),(s,fun x'=>Entry.own v1 τe [x'] (.gb ((offP τe p,e.size)::JdN (offP τe p) 1 l)))]
  | _,_=>.fail
  else .fail
 | _,_=>.fail
def Jkh (τ:Ty) (v u:V):M V:=
 asD τ u fun y fr=>
 match v with
 | .elp s ver i p=>.mem s fun e=>match e with
  | .own ver' τe xs (.gb l)=>match one? xs with
   | some x=>if ver=ver'∧i=0∧fr.all (fun q=>!Nat.beq q.1 s)=true then .fin τe.D (Jcd τe x p τ y) (fun _=>.dead) (JaV fr++[(s,fun x'=>Entry.own ver' τe [x'] (.gb (JdN (offP τe p) τ.size l)))]) else .fail
   | none=>.fail
  | _=>.fail
 | _=>.fail
def Jnq (E:Env) (v:V):Bool:=
 match v with
 | .elp s _ _ _=>E.gst s
 | _=>false
def zOk (b:Ty) (ps:List (Nat×Operand)) (z:List (Nat×Nat)):Bool:=
 z.all fun q=>Je5 (zeroC b)[q.1]?&&ps.all fun p=>match tyP b (Jaf p.1) with
  | some τ'=>Nat.ble (q.1+1) (offP b (Jaf p.1))||Nat.ble (offP b (Jaf p.1)+τ'.size) q.1
  | none=>false
def JlN (τ:Ty) (s ver i:Nat) (p:List Stp) (τ':Ty) (x:τ'.D) (z:List (Nat×Nat)):M V:=
 .mem s fun e=>match e with
 | .own ver' τe xs (.gb l)=>match one? xs,cast? τ' τ x with
  | some x0,some y=>if ver=ver'∧i=0 then .fin τe.D (Jcd τe x0 p τ y) (fun _=>.dead) [(s,fun x'=>Entry.own ver' τe [x'] (.gb (z.map (fun q=>(offP τe p+q.1,q.2))++JdN (offP τe p) τ.size l)))] else .fail
  | _,_=>.fail
 | _=>.fail
def JgP (E:Env) (τ:Ty) (v u:V):M V:=
 match v,u with
 | .elp s ver i p,.ref s2 ver2=>bif E.gst s2 then JlM τ s ver i p s2 ver2 else Jkh τ v u
 | .elp s ver i p,.zval τ' x z=>JlN τ s ver i p τ' x z
 | v,u=>Jkh τ v u
def opM (E:Env) (o:Oper):M V:=
 let d:=o.dst.getD 0
 match o.op with
 | .move x=>rd x fun v=>bif E.mfz d then JlI v else bif E.cut d then JlC v else .ret v
 | .assign x=>rd x fun v=>match v with
  | .nil=>match E.ty o.type with
   | some (.sl e)=>Jh0 d e [] .full []
   | _=>.fail
  | v=>.ret v
 | .pick c a b=>rd c fun vc=>rd a fun va=>rd b fun vb=>match vc with
  | .val .bool c=>match va,vb with
   | .val τ x,.val τ' y=>match cast? τ' τ y with
    | some y=>.ret (.val τ (bif c then x else y))
    | none=>.fail
   | .dead,vb=>.fin _ (chk (!c)) (fun _=>vb) []
   | .tnil,vb=>.fin _ (chk (!c)) (fun _=>vb) []
   | va,.dead=>.fin _ (chk c) (fun _=>va) []
   | va,.tnil=>.fin _ (chk c) (fun _=>va) []
   | _,_=>.fail
  | _=>.fail
 | .alloc t=>match E.ty t with
  | some τ=>match E.gal d with
   | []=>bif E.vbd d then (bif Jb5 τ then JhW d τ (Jdi τ) else .fail) else bif E.one d then Jlw d τ τ.zero else Jj2 d τ τ.zero []
   | q::l=>Jkg d τ (q::l)
  | none=>.fail
 | .box t x=>match E.ty t with
  | some τ=>rd x fun v=>bif E.vbd d then okV τ v (JhW d τ v) else bif JhT v then Jkf v else asD τ v fun y fr=>bif E.one d then .fin Unit (some ()) (fun _=>.rpt τ y) (JaV fr) else Jj2 d τ y fr
  | none=>bif E.ptr t then rd x Jkf else .fail
 | .build t ps=>match E.ty t with
  | some (.st b)=>match E.gbd d with
   | []=>bif E.vag d then (bif Jb5 (.st b) then Jeo b (Jdi b) ps.toList else .fail) else Jcf d b Jaf b.zero [] ps.toList fun x fr=>.fin Unit (some ()) (fun _=>.val (.st b) x) (JaV fr)
   | q::z=>bif zOk b ps.toList (q::z) then Jcf d b Jaf b.zero [] ps.toList fun x fr=>.fin Unit (some ()) (fun _=>.zval (.st b) x (q::z)) (JaV fr) else .fail
  | some (.arr n e)=>Jcf d (.arr n e) (fun i=>[.idx i]) (Ty.arr n e).zero [] ps.toList fun x fr=>.fin Unit (some ()) (fun _=>.val (.arr n e) x) (JaV fr)
  | _=>.fail
 | .buildSlice t n ps=>match E.ty t with
  | some (.sl e)=>if n≤65536∧e.size≤256 then Jcf d (.arr n e) (fun i=>[.idx i]) (Ty.arr n e).zero [] ps.toList fun x fr=>Jh0 d e x .full fr else .fail
  | _=>bif E.psl t&&(Nat.beq ps.toList.length n&&Nat.ble n 65536) then plM ps.toList 0 fun c=>.ret (.plist c) else .fail
 | .load t a=>match E.ty t with
  | some τ=>rd a fun v=>bif Jfp v then (bif E.vld d then Jh7 τ v else Jh6 τ v) else bif JmE v then (match v with
   | .pel (.asl n e x)=>if τ= .sl e then .ret (.asl n e x) else .fail
   | _=>.fail) else bif E.gld d then JlL d τ v else Jj1 τ v
  | none=>bif E.ptr t then rd a fun v=>match v with
   | .pel x=>.ret x
   | _=>.fail
   else .fail
 | .store t a x=>match E.ty t with
  | some τ=>rd a fun v=>rd x fun u=>bif Jfp v then JgN τ v u else bif JmC E v then JmB τ v u else bif Jnq E v then JgP E τ v u else Jge τ v u
  | none=>.fail
 | .nilCheck x=>rd x fun v=>match v with
  | .ptr s ver p=>.mem s fun e=>match e with
   | .box ver' _ _=>if ver=ver' then .ret (.ptr s ver p) else .fail
   | _=>.fail
  | .elp s ver i p=>.mem s fun e=>match e with
   | .own ver' _ _ _=>if ver=ver' then .ret (.elp s ver i p) else .fail
   | _=>.fail
  | .rpt τ x=>.ret (.rpt τ x)
  | .vpt s ver p=>.mem s fun e=>match e with
   | .vb ver' _ _=>if ver=ver' then .ret (.vpt s ver p) else .fail
   | _=>.fail
  | _=>.fail
 | .binOp op t x y _=>rd x fun v=>rd y fun u=>Jlv E t op v u
 | .unOp op _ x=>rd x fun v=>unM op v
 | .convert s t x=>rd x fun v=>JmA E d s t v
 | .sliceToArrayPointer t x=>match E.ty t with
  | some (.arr n e)=>if 1≤n then rd x fun v=>asD (.sl e) v fun y fr=>.fin Unit (chk (decide (n≤y.length))) (fun _=>.rpt (.arr n e) (y.take n)) (JaV fr) else .fail
  | _=>.fail
 | .makeSlice t n c=>match E.ty t with
  | some (.sl e)=>rd n fun v=>rd c fun u=>match v,u with
   | .val (.int k) n,.val (.int k') c=>.mem (Jaa d 0) fun en=>
    .fin _ (chk (decide (0≤toI k n)&&decide (toI k n≤toI k' c)&&decide (toI k' c≤(lim:Int)))) (fun _=>.ref (Jaa d 0) (nextVer en))
     [(Jaa d 0,fun _=>.own (nextVer en) e (List.replicate (toI k n).toNat e.zero) .full)]
   | _,_=>.fail
  | _=>.fail
 | .slice t x lo hi none=>rd x fun v=>Jdf lo fun l=>Jdf hi fun h=>
  JfP E d t v l h
 | .slice t x lo hi (some mx)=>rd x fun v=>Jdf lo fun l=>Jdf hi fun h=>Jdf (some mx) fun m=>match h,m with
  | some h,some m=>bif E.ded d then JlB E t v l h m else JgL E d t v l h m
  | _,_=>.fail
 | .fieldAddr t x f=>match E.ty t with
  | some (.st b)=>if (tyP b (Jaf f)).isSome=true then rd x fun v=>bif Jfp v then Jh8 b v f else Jex b v f else .fail
  | _=>.fail
 | .field t x f=>match E.ty t with
  | some (.st b)=>rd x fun v=>bif Jkd v then JgO b v f else JhY b v f
  | _=>.fail
 | .makeMap t r=>match E.mpt t with
  | some (K,V)=>match r with
   | none=>bif Jbb K then Jgi d K V else Jgh d K V
   | some x=>rd x fun v=>match v with
    | .val (.int _) _=>bif Jbb K then Jgi d K V else Jgh d K V
    | _=>.fail
  | none=>.fail
 | .mapUpdate t m k x=>match E.mpt t with
  | some (.arr n (.int .u8),V)=>rd m fun vm=>rd k fun vk=>rd x fun vx=>Jj9 n V vm vk vx
  | some (.st b,V)=>rd m fun vm=>rd k fun vk=>rd x fun vx=>Jdh (.st b) V vm vk vx
  | _=>.fail
 | .insert t m k x=>match E.mpt t with
  | some (.st b,V)=>rd m fun vm=>rd k fun vk=>rd x fun vx=>Jdh (.st b) V vm vk vx
  | _=>.fail
 | .range t x=>match E.ty t with
  | some (.mp K V)=>rd x fun v=>JlJ d K V v
  | _=>.fail
 | .entry x=>rd x JlK
 | .lookup t m k ok=>match E.mpt t with
  | some (.arr n (.int .u8),V)=>rd m fun vm=>rd k fun vk=>Jh4 n V vm vk ok
  | some (.st b,V)=>bif ok then .fail else rd m fun vm=>rd k fun vk=>Jh5 (.st b) V vm vk
  | _=>.fail
 | .indexAddr t x i=>rd x fun v=>rd i fun u=>bif E.psl t then JlH v u else bif JhT v then JlF E t v u else Jey E t v u
 | .index t x i=>rd x fun v=>rd i fun u=>JhZ E t v u
 | .extract x i=>rd x fun v=>match nth v i with
  | some u=>.ret u
  | none=>.fail
 | .makeFunc (.func g) first cap=>match first.toList with
  | []=>bif E.cfz d then Jh9 cap.toList fun c ws=>(bif Jb4 (ws.map (·.1)) then .fin Unit (some ()) (fun _=>.clo g c) (JaV ws) else .fail) else Jke cap.toList fun c=>.ret (.clo g c)
  | _=>.fail
 | .call c=>match c.callee,c.args.toList with
  | .value (.func f),os=>match E.pe f with
   | some q=>peM q os
   | none=>match E.fn f with
   | some F=>bif E.lnd d then Jj8 d F (os.map .inl) else Jfo d F (os.map .inl)
   | none=>.fail
  | .value (.tmp t),os=>.slot t fun v=>match v with
   | .clo g (.tcons x .tnil)=>match E.fn g with
    | some F=>Jfo d F (os.map .inl++[.inr x])
    | none=>.fail
   | _=>.fail
  | .builtin .len,[x]=>match c.argTypes.toList with
   | [t]=>rd x fun v=>bif E.psl t then match v with
    | .plist c=>match JfQ c with
     | some n=>.ret (.val (.int .i64) (n:Int))
     | none=>.fail
    | _=>.fail
    else match E.mpt t with
     | some _=>Jka v
     | none=>JlE E t v
   | _=>.fail
  | .builtin .clear,[x]=>match c.argTypes.toList with
   | [t]=>rd x fun v=>Jh3 E t v
   | _=>.fail
  | .builtin .cap,[x]=>match c.argTypes.toList with
   | [t]=>match E.ty t with
    | some (.sl _)=>rd x fun v=>match v with
     | .nil=>.ret (.val (.int .i64) (0:Int))
     | _=>.fail
    | _=>.fail
   | _=>.fail
  | .builtin .append,[x,y]=>match c.argTypes.toList with
   | [t,t']=>rd x fun v=>rd y fun u=>bif JmD v then JlG E t t' v u else Jjr E d t t' v u
   | _=>.fail
  | .builtin .copy,[x,y]=>match c.argTypes.toList with
   | [t,t']=>rd x fun v=>rd y fun u=>JmF E t t' v u
   | _=>.fail
  | .builtin .min,[x,y]=>rd x fun v=>rd y fun u=>mmM mnI v u
  | .builtin .max,[x,y]=>rd x fun v=>rd y fun u=>mmM mxI v u
  | _,_=>.fail
 | _=>.fail
end Go.Re
namespace Go.Re
set_option linter.unusedVariables false
set_option linter.unusedSimpArgs false
open Go.RowKit (Below)
abbrev Own:=Nat→Nat→Option Nat
def okI:(k:IntKind)→IntT k→Prop
 | .i64,x=>-9223372036854775808≤x∧x<9223372036854775808
 | .i32,x=>-2147483648≤x∧x<2147483648
 | .u8,_=>True | .u16,_=>True | .u32,_=>True | .u64,_=>True
 | _,_=>False
def big:Nat:=140737488355328
def mkV (τ:Ty) (cs:List Value):Value:=if τ.isAgg then .agg cs.toArray else cs.headD undef
def Ty.plain:Ty→Bool
 | .bool=>true | .int _=>true | .unit=>true | .pair a b=>a.plain&&b.plain | .st b=>b.plain | _=>false
def Ja4:(τ:Ty)→τ.D→List Value
 | .bool,x=>[.bool x] | .int k,x=>[.int k (toI k x)] | .unit,_=>[] | .pair a b,x=>Ja4 a x.1++Ja4 b x.2 | .st b,x=>Ja4 b x
 | _,_=>[]
def JaW (τ:Ty) (x:τ.D):Value:=mkV τ (Ja4 τ x)
def okD:(τ:Ty)→τ.D→Prop
 | .int k,x=>okI k x | .pair a b,x=>okD a x.1∧okD b x.2 | .st b,x=>okD b x
 | _,_=>True
structure BagR (K V:Ty) (es:Array MapEntry) (c:Nat) (xs:List (K.D×V.D)):Prop where
 plain:K.plain=true∧V.plain=true∧K.isVal=true∧V.isVal=true
 old:∀e∈es.toList,e.born<c
 born:(es.toList.map (·.born)).Nodup
 keys:(es.toList.map (·.key)).Nodup
 mem:∀e∈es.toList,∃p∈xs,e.key=JaW K p.1∧e.val=JaW V p.2
 dom:∀p∈xs,∃e∈es.toList,e.key=JaW K p.1
 ok:∀p∈xs,okD K p.1∧okD V p.2
def Jag (own:Own) (w:World):(τ:Ty)→List Value→τ.D→Prop
 | .bool,cs,x=>cs=[.bool x]
 | .str,cs,x=>∃s:ByteArray,cs=[.string s]∧s.data.toList.map UInt8.toBitVec=x∧x.length≤big
 | .unit,cs,_=>cs=[]
 | .int k,cs,x=>cs=[.int k (toI k x)]∧okI k x
 | .pair a b,cs,x=>∃c d,cs=c++d∧Jag own w a c x.1∧Jag own w b d x.2
 | .st b,cs,x=>Jag own w b cs x
 | .arr n e,cs,x=>x.length=n∧cs.length=n*e.size∧∀i (h:i<x.length),Jag own w e ((cs.drop (i*e.size)).take e.size) x[i]
 | .sl e,cs,x=>∃a cap,cs=[.slice a x.length cap]∧x.length≤cap∧cap<9223372036854775808∧x.length≤big ∧
  (cap=0∨∃b o,a=some ⟨b,o,none⟩∧∀i (h:i<x.length),∃es,es.length=e.size ∧
   (∀j v,es[j]?=some v→own b (o+i*e.size+j)=none∧w.cell? ⟨b,o+i*e.size+j,none⟩=some v)∧Jag own w e es x[i])
 | .mp K V,cs,x=>(cs=[.map none]∧x=[])∨∃r es c,cs=[.map (some r)]∧own r 0=none∧w.heap[r]?=some (.map es c)∧BagR K V es c x
structure Keeps (own own':Own) (w w':World):Prop where
 cell:∀b o v,own b o=none→w.cell? ⟨b,o,none⟩=some v→own' b o=none∧w'.cell? ⟨b,o,none⟩=some v
 map:∀r es c,own r 0=none→w.heap[r]?=some (.map es c)→own' r 0=none∧w'.heap[r]?=some (.map es c)
instance {own own':Own} {w w':World}:CoeFun (Keeps own own' w w') (fun _=>∀b o v,own b o=none→w.cell? ⟨b,o,none⟩=some v→own' b o=none∧w'.cell? ⟨b,o,none⟩=some v):=⟨Keeps.cell⟩
theorem Keeps.refl (own:Own) (w:World):Keeps own own w w:=⟨fun _ _ _ h h'=>⟨h,h'⟩,fun _ _ _ h h'=>⟨h,h'⟩⟩
theorem Keeps.trans {o1 o2 o3:Own} {w1 w2 w3:World} (h:Keeps o1 o2 w1 w2) (k:Keeps o2 o3 w2 w3):Keeps o1 o3 w1 w3:=
 ⟨fun b o v h1 h2=>let ⟨h3,h4⟩:=h.cell b o v h1 h2;k.cell b o v h3 h4,fun r es c h1 h2=>let ⟨h3,h4⟩:=h.map r es c h1 h2;k.map r es c h3 h4⟩
theorem Jag.keeps {own own':Own} {w w':World} (k:Keeps own own' w w'):∀{τ:Ty} {cs:List Value} {x:τ.D},Jag own w τ cs x→Jag own' w' τ cs x
 | .bool,_,_,h=>h
 | .str,_,_,h=>h
 | .unit,_,_,h=>h
 | .int _,_,_,h=>h
 | .pair a b,_,_,⟨c,d,e,h1,h2⟩=>⟨c,d,e,Jag.keeps k (τ:=a) h1,Jag.keeps k (τ:=b) h2⟩
 | .st b,_,_,h=>Jag.keeps k (τ:=b) h
 | .arr n e,_,_,⟨h1,h2,h3⟩=>⟨h1,h2,fun i hi=>Jag.keeps k (τ:=e) (h3 i hi)⟩
 | .sl e,_,_,⟨a,cap,h1,h2,h3,h4,h5⟩=>⟨a,cap,h1,h2,h3,h4,h5.imp id fun ⟨b,o,h6,h7⟩=>⟨b,o,h6,fun i hi=>
  let ⟨es,h8,h9,h10⟩:=h7 i hi;⟨es,h8,fun j v hv=>k _ _ _ (h9 j v hv).1 (h9 j v hv).2,Jag.keeps k (τ:=e) h10⟩⟩⟩
 | .mp _ _,_,_,.inl h=>.inl h
 | .mp _ _,_,_,.inr ⟨r,es,c,h1,h2,h3,h4⟩=>let ⟨h5,h6⟩:=k.map r es c h2 h3;.inr ⟨r,es,c,h1,h5,h6,h4⟩
theorem Jag.length {own:Own} {w:World}:∀{τ:Ty} {cs:List Value} {x:τ.D},Jag own w τ cs x→cs.length=τ.size
 | .bool,_,_,h=>by have h:_=_:=h;rw[h];rfl
 | .str,_,_,⟨s,h,_⟩=>by rw[h];rfl
 | .unit,_,_,h=>by have h:_=_:=h;rw[h];rfl
 | .int k,_,_,h=>by rw[h.1];rfl
 | .pair a b,_,_,⟨c,d,e,h1,h2⟩=>by rw[e,List.length_append,Jag.length (τ:=a) h1,Jag.length (τ:=b) h2];rfl
 | .st b,_,_,h=>Jag.length (τ:=b) h
 | .arr n e,_,_,h=>h.2.1
 | .sl e,_,_,⟨a,cap,h1,_⟩=>by rw[h1];rfl
 | .mp _ _,_,_,.inl h=>by rw[h.1];rfl
 | .mp _ _,_,_,.inr ⟨r,es,c,h1,_⟩=>by rw[h1];rfl
theorem Je6 {cs:List Value} {n s:Nat} (h:cs.length=n*s) {v:Value} (hv:v∈cs):∃i,i<n∧v∈(cs.drop (i*s)).take s:=by
 obtain⟨j,hj,rfl⟩:=List.getElem_of_mem hv
 have hs:0<s:=by
  rcases Nat.eq_zero_or_pos s with h0 | h0
  · rw[h0,Nat.mul_zero] at h;omega
  · exact h0
 refine⟨j/s,by rw[Nat.div_lt_iff_lt_mul hs];omega,?_⟩;rw[List.mem_iff_getElem?];refine⟨j%s,?_⟩;have h1:=Nat.mod_lt j hs;rw[List.getElem?_take,if_pos h1,List.getElem?_drop,Nat.div_add_mod' j s,List.getElem?_eq_getElem hj]
theorem Jag.one {own:Own} {w:World}:∀{τ:Ty} {cs:List Value} {x:τ.D},Jag own w τ cs x→∀v∈cs,v.oneCell'=true
 | .bool,_,_,h=>by have h:_=_:=h;rw[h];simp[Value.oneCell']
 | .str,_,_,⟨s,h,_⟩=>by rw[h];simp[Value.oneCell']
 | .unit,_,_,h=>by have h:_=_:=h;rw[h];simp
 | .int k,_,_,h=>by rw[h.1];simp[Value.oneCell']
 | .pair a b,_,_,⟨c,d,e,h1,h2⟩=>by
  intro v hv;rw[e,List.mem_append] at hv;rcases hv with hv | hv
  · exact Jag.one (τ:=a) h1 v hv
  · exact Jag.one (τ:=b) h2 v hv
 | .st b,_,_,h=>Jag.one (τ:=b) h
 | .arr n e,_,_,⟨h1,h2,h3⟩=>by
  intro v hv;obtain⟨i,hi,hv⟩:=Je6 h2 hv;exact Jag.one (τ:=e) (h3 i (by omega)) v hv
 | .sl e,_,_,⟨a,cap,h1,_⟩=>by rw[h1];simp[Value.oneCell']
 | .mp _ _,_,_,.inl h=>by rw[h.1];simp[Value.oneCell']
 | .mp _ _,_,_,.inr ⟨r,es,c,h1,_⟩=>by rw[h1];simp[Value.oneCell']
def Jab (own:Own) (w:World) (τ:Ty) (v:Value) (x:τ.D):Prop:=τ.isVal=true∧∃cs,v=mkV τ cs∧Jag own w τ cs x
theorem Jab.keeps {own own':Own} {w w':World} (k:Keeps own own' w w') {τ:Ty} {v:Value} {x:τ.D} (h:Jab own w τ v x):Jab own' w' τ v x:=
 ⟨h.1,let ⟨cs,h1,h2⟩:=h.2;⟨cs,h1,h2.keeps k⟩⟩
theorem Ja1 {own:Own} {w:World} {τ:Ty} {cs:List Value} {x:τ.D} (hv:τ.isVal=true) (h:Jag own w τ cs x):(mkV τ cs).cells.toList=cs:=by
 unfold mkV;split
 · rfl
 · rename_i ha
   cases τ with
   | st b=>simp[Ty.isAgg] at ha
   | arr n e=>simp[Ty.isAgg] at ha
   | unit=>simp[Ty.isVal] at hv
   | pair a b=>simp[Ty.isVal] at hv
   | bool=>have h:_=_:=h;rw[h];rfl
   | str=>obtain⟨s,h,_⟩:=h;rw[h];rfl
   | int k=>rw[h.1];rfl
   | sl e=>obtain⟨a,cap,h,_⟩:=h;rw[h];rfl
   | mp K V=>rcases h with h | ⟨r,es,c,h,_⟩<;>first | (rw[h.1];rfl) | (rw[h];rfl)
theorem Jab.cells {own:Own} {w:World} {τ:Ty} {v:Value} {x:τ.D} (h:Jab own w τ v x):Jag own w τ v.cells.toList x:=by
 obtain⟨hv,cs,rfl,h2⟩:=h;rw[Ja1 hv h2];exact h2
theorem Jab.mk {own:Own} {w:World} {τ:Ty} {cs:List Value} {x:τ.D} (hv:τ.isVal=true) (h:Jag own w τ cs x):Jab own w τ (mkV τ cs) x:=⟨hv,cs,rfl,h⟩
theorem Jab.int {own:Own} {w:World} {k:IntKind} {v:Value} {x:IntT k}:Jab own w (.int k) v x↔v= .int k (toI k x)∧okI k x:=by
 constructor
 · rintro⟨_,cs,rfl,h1,h2⟩;rw[h1];exact⟨rfl,h2⟩
 · rintro⟨rfl,h⟩;exact⟨rfl,[_],rfl,rfl,h⟩
theorem Jab.bool {own:Own} {w:World} {v:Value} {x:Bool}:Jab own w .bool v x↔v= .bool x:=by
 constructor
 · rintro⟨_,cs,rfl,h1⟩;have h1:_=_:=h1;rw[h1];rfl
 · rintro rfl;exact⟨rfl,[_],rfl,rfl⟩
theorem Jab.str {own:Own} {w:World} {v:Value} {x:List (BitVec 8)}:Jab own w .str v x↔∃s:ByteArray,v= .string s∧s.data.toList.map UInt8.toBitVec=x∧x.length≤big:=by
 constructor
 · rintro⟨_,cs,rfl,s,h1,h2⟩;rw[h1];exact⟨s,rfl,h2⟩
 · rintro⟨s,rfl,h⟩;exact⟨rfl,[_],rfl,s,rfl,h⟩
theorem Jab.sl {own:Own} {w:World} {e:Ty} {v:Value} {x:List e.D}:Jab own w (.sl e) v x↔Jag own w (.sl e) [v] x:=by
 constructor
 · rintro⟨_,cs,rfl,a,cap,h1,h2⟩;rw[h1];exact⟨a,cap,rfl,h2⟩
 · rintro⟨a,cap,h1,h2⟩;cases h1;exact⟨rfl,[_],rfl,a,cap,rfl,h2⟩
theorem Jab.agg {own:Own} {w:World} {τ:Ty} (h:τ.isAgg=true) {v:Value} {x:τ.D}:Jab own w τ v x↔∃cs,v= .agg cs.toArray∧Jag own w τ cs x:=by
 constructor
 · rintro⟨_,cs,rfl,h1⟩;exact⟨cs,by simp[mkV,h],h1⟩
 · rintro⟨cs,rfl,h1⟩;exact⟨by cases τ<;>simp_all [Ty.isAgg,Ty.isVal],cs,by simp[mkV,h],h1⟩
theorem cast?_some {τ τ':Ty} {x:τ.D} {y:τ'.D} (h:cast? τ τ' x=some y):∃e:τ=τ',e▸x=y:=by
 unfold cast? at h;split at h
 · rename_i e;exact⟨e,by simpa using h⟩
 · cases h
theorem JdO (τ:Ty) (x:τ.D) (τ':Ty):Jcx τ x [] τ'=cast? τ τ' x:=by cases τ<;>rfl
theorem Jia (τ:Ty) (x:τ.D) (τ':Ty) (y:τ'.D):Jcd τ x [] τ' y=cast? τ' τ y:=by cases τ<;>rfl
theorem Ja8 (τ:Ty):tyP τ []=some τ:=by cases τ<;>rfl
theorem Jao (τ:Ty):offP τ []=0:=by cases τ<;>rfl
theorem Jki {cs:List Value} {i s o t:Nat} (h:o+t≤s):((((cs.drop (i*s)).take s).drop o).take t)=(cs.drop (i*s+o)).take t:=by
 rw[List.drop_take,List.take_take,List.drop_drop,Nat.min_eq_left (by omega)]
theorem JnU:∀(τ:Ty) (x:τ.D) (p:List Stp) (τ':Ty) (y:τ'.D),Jcx τ x p τ'=some y→tyP τ p=some τ':=by
 intro τ
 induction τ with
 | pair a b iha ihb=>
  intro x p τ' y h
  match p,h with
  | [],h=>rw[JdO] at h;obtain⟨e,_⟩:=cast?_some h;rw[Ja8,e]
  | .fst::p,h=>exact iha x.1 p τ' y h
  | .snd::p,h=>exact ihb x.2 p τ' y h
 | st b ih=>
  intro x p τ' y h
  match p,h with
  | [],h=>rw[JdO] at h;obtain⟨e,_⟩:=cast?_some h;rw[Ja8,e]
  | s::p,h=>exact ih x (s::p) τ' y h
 | arr n e ih=>
  intro x p τ' y h
  match p,h with
  | [],h=>rw[JdO] at h;obtain⟨e,_⟩:=cast?_some h;rw[Ja8,e]
  | .idx i::p,h=>
   obtain⟨z,_,hz⟩:=Option.bind_eq_some_iff.1 h;exact ih z p τ' y hz
 | _=>
  intro x p τ' y h
  match p,h with
  | [],h=>rw[JdO] at h;obtain⟨e,_⟩:=cast?_some h;rw[Ja8,e]
theorem Jbv {own:Own} {w:World}:∀(τ:Ty) (x:τ.D) (cs:List Value) (p:List Stp) (τ':Ty) (y:τ'.D),Jag own w τ cs x→Jcx τ x p τ'=some y →
 offP τ p+τ'.size≤τ.size∧Jag own w τ' ((cs.drop (offP τ p)).take τ'.size) y:=by
 intro τ
 have base:∀(τ:Ty) (x:τ.D) (cs:List Value) (τ':Ty) (y:τ'.D),Jag own w τ cs x→Jcx τ x [] τ'=some y →
  offP τ []+τ'.size≤τ.size∧Jag own w τ' ((cs.drop (offP τ [])).take τ'.size) y:=by
  intro τ x cs τ' y hr h;rw[JdO] at h;obtain⟨e,h⟩:=cast?_some h;subst e;subst h;rw[Jao,List.drop_zero,←hr.length,List.take_length];exact⟨by omega,hr⟩
 induction τ with
 | pair a b iha ihb=>
  intro x cs p τ' y hr h
  match p,h with
  | [],h=>exact base _ x cs τ' y hr h
  | .fst::p,h=>
   obtain⟨c,d,rfl,h1,h2⟩:=hr;obtain⟨h3,h4⟩:=iha x.1 c p τ' y h1 h;have hl:=h1.length;refine⟨by simp only[offP,Ty.size];omega,?_⟩;simp only[offP]
   rwa [List.drop_append_of_le_length (by omega),List.take_append_of_le_length (by simp;omega)]
  | .snd::p,h=>
   obtain⟨c,d,rfl,h1,h2⟩:=hr;obtain⟨h3,h4⟩:=ihb x.2 d p τ' y h2 h;have hl:=h1.length;refine⟨by simp only[offP,Ty.size];omega,?_⟩;simp only[offP]
   rwa [←hl,List.drop_append,List.drop_eq_nil_of_le (by omega),List.nil_append,show c.length+offP b p-c.length=offP b p by omega]
 | st b ih=>
  intro x cs p τ' y hr h
  match p,h with
  | [],h=>exact base _ x cs τ' y hr h
  | s::p,h=>exact ih x cs (s::p) τ' y hr h
 | arr n e ih=>
  intro x cs p τ' y hr h
  match p,h with
  | [],h=>exact base _ x cs τ' y hr h
  | .idx i::p,h=>
   obtain⟨z,hz,h⟩:=Option.bind_eq_some_iff.1 h;obtain⟨hi,hz⟩:=List.getElem?_eq_some_iff.1 hz;obtain⟨h1,h2,h3⟩:=hr;have h4:=h3 i hi;rw[hz] at h4;obtain⟨h5,h6⟩:=ih z _ p τ' y h4 h
   have hb:i*e.size+e.size≤n*e.size:=by
    rw[←Nat.succ_mul];exact Nat.mul_le_mul_right _ (by omega)
   refine⟨by simp only[offP,Ty.size];omega,?_⟩;simp only[offP]
   rwa [Jki (by omega)] at h6
 | _=>
  intro x cs p τ' y hr h
  match p,h with
  | [],h=>exact base _ x cs τ' y hr h
def Jax (cs:List Value) (o:Nat) (ds:List Value):List Value:=cs.take o++ds++cs.drop (o+ds.length)
theorem JaS {cs ds:List Value} {o:Nat} (h:o+ds.length≤cs.length):(Jax cs o ds).length=cs.length:=by
 simp only[Jax,List.length_append,List.length_take,List.length_drop];omega
theorem getElem?_splice {cs ds:List Value} {o:Nat} (h:o+ds.length≤cs.length) (j:Nat):
 (Jax cs o ds)[j]?=if o≤j∧j<o+ds.length then ds[j-o]? else cs[j]?:=by
 unfold Jax;by_cases h1:j<o
 · rw[if_neg (by omega),List.append_assoc,List.getElem?_append_left (by simp;omega),List.getElem?_take,if_pos h1]
 · by_cases h2:j<o+ds.length
   · rw[if_pos ⟨by omega,h2⟩,List.append_assoc,List.getElem?_append_right (by simp;omega),List.getElem?_append_left (by simp;omega)]
     congr 1;simp;omega
   · rw[if_neg (by omega),List.getElem?_append_right (by simp;omega),List.getElem?_drop]
     congr 1;simp;omega
theorem Jd1 {cs ds:List Value} (h:ds.length=cs.length):Jax cs 0 ds=ds:=by
 simp[Jax,h]
theorem Jc5 {own:Own} {w:World}:∀(τ:Ty) (x:τ.D) (cs:List Value) (p:List Stp) (τ':Ty) (y:τ'.D) (ds:List Value) (x':τ.D),Jag own w τ cs x→Jag own w τ' ds y →
 Jcd τ x p τ' y=some x'→tyP τ p=some τ'∧offP τ p+τ'.size≤τ.size∧Jag own w τ (Jax cs (offP τ p) ds) x':=by
 intro τ
 have base:∀(τ:Ty) (x:τ.D) (cs:List Value) (τ':Ty) (y:τ'.D) (ds:List Value) (x':τ.D),Jag own w τ cs x→Jag own w τ' ds y →
  Jcd τ x [] τ' y=some x'→tyP τ []=some τ'∧offP τ []+τ'.size≤τ.size∧Jag own w τ (Jax cs (offP τ []) ds) x':=by
  intro τ x cs τ' y ds x' hr hs h;rw[Jia] at h;obtain⟨e,h⟩:=cast?_some h;subst e;subst h;rw[Jao,Jd1 (by rw[hs.length,hr.length])];exact⟨Ja8 _,by omega,hs⟩
 induction τ with
 | pair a b iha ihb=>
  intro x cs p τ' y ds x' hr hs h
  match p,h with
  | [],h=>exact base _ x cs τ' y ds x' hr hs h
  | .fst::p,h=>
   obtain⟨z,hz,rfl⟩:=Option.map_eq_some_iff.1 h;obtain⟨c,d,rfl,h1,h2⟩:=hr;obtain⟨h0,h3,h4⟩:=iha x.1 c p τ' y ds z h1 hs hz;have hl:=h1.length;have hl':=hs.length;refine⟨h0,by simp only[offP,Ty.size];omega,Jax c (offP a p) ds,d,?_,h4,h2⟩;simp only[offP,Jax];rw[List.take_append_of_le_length (by omega),List.drop_append_of_le_length (by omega)];simp[List.append_assoc]
  | .snd::p,h=>
   obtain⟨z,hz,rfl⟩:=Option.map_eq_some_iff.1 h;obtain⟨c,d,rfl,h1,h2⟩:=hr;obtain⟨h0,h3,h4⟩:=ihb x.2 d p τ' y ds z h2 hs hz;have hl:=h1.length;have hl':=hs.length;refine⟨h0,by simp only[offP,Ty.size];omega,c,Jax d (offP b p) ds,?_,h1,h4⟩;simp only[offP,Jax]
   rw[←hl,List.take_append,List.take_of_length_le (by omega),show c.length+offP b p-c.length=offP b p by omega,List.drop_append,List.drop_eq_nil_of_le (by omega),
    List.nil_append,show c.length+offP b p+ds.length-c.length=offP b p+ds.length by omega]
   simp[List.append_assoc]
 | st b ih=>
  intro x cs p τ' y ds x' hr hs h
  match p,h with
  | [],h=>exact base _ x cs τ' y ds x' hr hs h
  | s::p,h=>exact ih x cs (s::p) τ' y ds x' hr hs h
 | arr n e ih=>
  intro x cs p τ' y ds x' hr hs h
  match p,h with
  | [],h=>exact base _ x cs τ' y ds x' hr hs h
  | .idx i::p,h=>
   obtain⟨z,hz,h⟩:=Option.bind_eq_some_iff.1 h;obtain⟨u,hu,rfl⟩:=Option.map_eq_some_iff.1 h;obtain⟨hi,hz⟩:=List.getElem?_eq_some_iff.1 hz;obtain⟨h1,h2,h3⟩:=hr;have h4:=h3 i hi;rw[hz] at h4;obtain⟨h0,h5,h6⟩:=ih z _ p τ' y ds u h4 hs hu;have hl':=hs.length
   have hb:i*e.size+e.size≤n*e.size:=by
    rw[←Nat.succ_mul];exact Nat.mul_le_mul_right _ (by omega)
   refine⟨h0,by simp only[offP,Ty.size];omega,by simpa using h1,?_,?_⟩
   · rw[JaS (by simp only[offP];omega)];exact h2
   · intro k hk
     show Jag own w e (List.take e.size (List.drop (k*e.size) (Jax cs (i*e.size+offP e p) ds))) _;have hk':k<x.length:=by simpa using hk
     have hkb:k*e.size+e.size≤n*e.size:=by
      rw[←Nat.succ_mul];exact Nat.mul_le_mul_right _ (by omega)
     by_cases hki:k=i
     · subst hki
       rw[List.getElem_set_self]
       have:(List.take e.size (List.drop (k*e.size) (Jax cs (k*e.size+offP e p) ds)))=Jax ((cs.drop (k*e.size)).take e.size) (offP e p) ds:=by
        apply List.ext_getElem?;intro j;rw[List.getElem?_take,List.getElem?_drop,getElem?_splice (by omega),getElem?_splice (by simp;omega)];simp only[List.getElem?_take,List.getElem?_drop];by_cases hj:j<e.size
        · by_cases hj2:offP e p≤j∧j<offP e p+ds.length
          · rw[if_pos hj,if_pos (by omega),if_pos hj2];congr 1;omega
          · rw[if_pos hj,if_neg (by omega),if_neg hj2,if_pos hj]
        · rw[if_neg hj,if_neg (by omega),if_neg hj]
       rw[this];exact h6
     · rw[List.getElem_set_ne (Ne.symm hki)]
       have:(List.take e.size (List.drop (k*e.size) (Jax cs (i*e.size+offP e p) ds)))=((cs.drop (k*e.size)).take e.size):=by
        apply List.ext_getElem?;intro j;rw[List.getElem?_take,List.getElem?_drop,getElem?_splice (by omega),List.getElem?_take,List.getElem?_drop];by_cases hj:j<e.size
        · rw[if_pos hj,if_pos hj,if_neg]
          rintro⟨ha,hb'⟩;rcases Nat.lt_or_gt_of_ne hki with hlt | hgt
          · have:k*e.size+e.size≤i*e.size:=by rw[←Nat.succ_mul];exact Nat.mul_le_mul_right _ hlt
            omega
          · have:i*e.size+e.size≤k*e.size:=by rw[←Nat.succ_mul];exact Nat.mul_le_mul_right _ hgt
            omega
        · rw[if_neg hj,if_neg hj]
       rw[this];exact h3 k hk'
 | _=>
  intro x cs p τ' y ds x' hr hs h
  match p,h with
  | [],h=>exact base _ x cs τ' y ds x' hr hs h
theorem Jct:∀(τ:Ty) (p q:List Stp) (τ':Ty),tyP τ p=some τ'→tyP τ (p++q)=tyP τ' q∧offP τ (p++q)=offP τ p+offP τ' q:=by
 intro τ
 have base:∀(τ:Ty) (q:List Stp) (τ':Ty),tyP τ []=some τ'→tyP τ ([]++q)=tyP τ' q∧offP τ ([]++q)=offP τ []+offP τ' q:=by
  intro τ q τ' h;rw[Ja8] at h;cases h;rw[Jao];simp
 induction τ with
 | pair a b iha ihb=>
  intro p q τ' h
  match p,h with
  | [],h=>exact base _ q τ' h
  | .fst::p,h=>exact iha p q τ' h
  | .snd::p,h=>obtain⟨h1,h2⟩:=ihb p q τ' h;exact⟨h1,by simp only[List.cons_append,offP,h2];omega⟩
 | st b ih=>
  intro p q τ' h
  match p,h with
  | [],h=>exact base _ q τ' h
  | s::p,h=>exact ih (s::p) q τ' h
 | arr n e ih=>
  intro p q τ' h
  match p,h with
  | [],h=>exact base _ q τ' h
  | .idx i::p,h=>obtain⟨h1,h2⟩:=ih p q τ' h;exact⟨h1,by simp only[List.cons_append,offP,h2];omega⟩
 | _=>
  intro p q τ' h
  match p,h with
  | [],h=>exact base _ q τ' h
end Go.Re
namespace Go.Re
set_option linter.unusedVariables false
set_option linter.unusedSimpArgs false
open Go.RowKit (Below)
abbrev Jai:=Nat→Value
def Fit (τ:Ty) (u:Value):Prop:=τ.isVal=true∧u=mkV τ u.cells.toList∧u.cells.toList.length=τ.size∧∀v∈u.cells.toList,v.oneCell'=true
def Jbm:Ty→List Value→Prop
 | .pair a r,u::us=>Fit a u∧Jbm r us
 | .unit,[]=>True
 | _,_=>False
def Jac (own:Own) (w:World) (β:Jai) (mem:Nat→Entry):V→Value→Prop
 | .dead,_=>True
 | .val τ x,v=>Jab own w τ v x
 | .nil,v=>v= .slice none 0 0
 | .ptr s ver p,v=>ver<nextVer (mem s)∧∀τ x,mem s= .box ver τ x→∃b o,β s= .pointer (some ⟨b,o,none⟩)∧v= .pointer (some ⟨b,o+offP τ p,none⟩)
 | .ref s ver,v=>ver<nextVer (mem s)∧∀τ xs m,mem s= .own ver τ xs m→v=β s
 | .elp s ver i p,v=>ver<nextVer (mem s)∧∀τ xs m,mem s= .own ver τ xs m→i<xs.length ∧
  ∃b o n c,β s= .slice (some ⟨b,o,none⟩) n c∧v= .pointer (some ⟨b,o+i*τ.size+offP τ p,none⟩)
 | .rpt τ x,v=>τ.isVal=true∧∃b o cs,v= .pointer (some ⟨b,o,none⟩) ∧
  (∀j u,cs[j]?=some u→own b (o+j)=none∧w.cell? ⟨b,o+j,none⟩=some u)∧Jag own w τ cs x
 | .nilq emp neg,v=>∃b:Bool,v= .bool b∧(emp=false→b=neg)
 | .win s ver lo,v=>ver<nextVer (mem s)∧∀τ xs m,mem s= .own ver τ xs m→m.isMp=false→lo≤xs.length ∧
  ∃ad cap,β s= .slice ad xs.length cap∧v= .slice (if cap=lo then ad else ad.map (·.add (lo*τ.size))) (xs.length-lo) (cap-lo)
 | .pre s ver hi,v=>ver<nextVer (mem s)∧∀τ xs m,mem s= .own ver τ xs m→m.isMp=false→hi≤xs.length∧∃ad cap,β s= .slice ad xs.length cap∧v= .slice ad hi cap
 | .plist t,v=>∃us b o,v= .slice (some ⟨b,o,none⟩) us.length us.length∧us.length≤65536∧(∀j u,us[j]?=some u→own b (o+j)=none∧w.cell? ⟨b,o+j,none⟩=some u)∧Jac own w β mem t (.tuple (List.toArray us))
 | .pel x,v=>∃b o u,v= .pointer (some ⟨b,o,none⟩)∧own b o=none∧w.cell? ⟨b,o,none⟩=some u∧Jac own w β mem x u
 | .clo g t,v=>∃us,v= .func (.func g) #[] (List.toArray us)∧Jac own w β mem t (.tuple (List.toArray us))
 | .zval τ x z,v=>Jab own w τ v x∧∀q∈z,v.cells.toList[q.1]?=some (.slice none 0 0)
 | .tnil,v=>v= .tuple #[]
 | .tcons a r,v=>∃u us,v= .tuple (List.toArray (u::us))∧Jac own w β mem a u∧Jac own w β mem r (.tuple us.toArray)
 | .agg b t,v=>∃us,v= .agg (List.toArray (us.flatMap fun u=>u.cells.toList))∧Jbm b us∧Jac own w β mem t (.tuple (List.toArray us))
 | .asl n e x,v=>∃ad,v= .slice (some ad) n n∧Jac own w β mem x (.pointer (some ad))
 | .vpt s ver p,v=>ver<nextVer (mem s)∧∀τ x,mem s= .vb ver τ x→∃b o,β s= .pointer (some ⟨b,o,none⟩)∧v= .pointer (some ⟨b,o+offP τ p,none⟩)
def JaX (own:Own) (w:World) (q:Option Nat) (e:Ty) (b o:Nat) (xs:List e.D):Prop:=
 ∀i (h:i<xs.length),∃es,es.length=e.size ∧
  (∀j v,es[j]?=some v→own b (o+i*e.size+j)=q∧w.cell? ⟨b,o+i*e.size+j,none⟩=some v)∧Jag own w e es xs[i]
structure Base where
 w:World
 io:Nat→Nat→Prop
 own:Own
 pin:Nat→Option Value:=fun _=>none
 kb:Option (Own×World):=none
def Base.wr (Z:Base) (b o:Nat):Prop:=Z.w.heap.size≤b∨Z.io b o
def JaJ (Z:Base) (own:Own) (w:World) (s b lo hi:Nat):Prop:=
 ∀j,lo≤j→j<hi→own b j=some s∧Z.wr b j∧(∃v,w.cell? ⟨b,j,none⟩=some v)∧w.frozen? ⟨b,j,none⟩=false
def Mode.owner (m:Mode) (s:Nat):Option Nat:=
 match m with
 | .full=>some s | .gb _=>some s | _=>none
def JcQ (r r':Nat×Nat×Nat):Prop:=∀j,r.1=r'.1→r.2.1≤j→j<r.2.2→r'.2.1≤j→j<r'.2.2→False
def JdB (Z:Base) (own:Own) (w:World) (s b lo hi:Nat) (l:List (Nat×Nat)):Prop:=
 ∃reg:Nat→Nat×Nat×Nat,∀q∈l,lo+q.1<hi ∧
  (∃a n c,w.cell? ⟨b,lo+q.1,none⟩=some (.slice a n c)∧((c=0∧reg q.1=(0,0,0))∨∃b' o',a=some ⟨b',o',none⟩∧reg q.1=(b',o'+n*q.2,o'+c*q.2))) ∧
  JaJ Z own w s (reg q.1).1 (reg q.1).2.1 (reg q.1).2.2∧JcQ (reg q.1) (b,lo,hi)∧∀q'∈l,q'.1≠q.1→JcQ (reg q.1) (reg q'.1)
def shp (w:World) (b:Nat):Option (Nat×(Nat×Nat)):=
 match w.heap[b]? with
 | some (.cells c _ fz)=>some (c.size,fz)
 | _=>none
def Jc6 (w:World) (b n:Nat):Prop:=∃k fz,shp w b=some (k,fz)∧n≤k∧(fz=(0,0)∨fz=(k,k+1))
def Mode.rest (m:Mode) (Z:Base) (own:Own) (w:World) (s b o n cap sz:Nat):Prop:=
 match m with
 | .full=>Jc6 w b (o+cap*sz)∧JaJ Z own w s b o (o+cap*sz)
 | .gb l=>(Jc6 w b (o+cap*sz)∧JaJ Z own w s b o (o+cap*sz))∧JdB Z own w s b o (o+cap*sz) l∧cap=1
 | .tail=>JaJ Z own w s b (o+n*sz) (o+cap*sz)
 | _=>True
def Jef (Z:Base) (own:Own) (w:World) (s b o:Nat) (cs:List Value):Prop:=
 ∀j v,cs[j]?=some v→own b (o+j)=some s∧Z.wr b (o+j)∧w.cell? ⟨b,o+j,none⟩=some v∧w.frozen? ⟨b,o+j,none⟩=false
def JgQ (own:Own) (w:World) (K V:Ty) (es:Array MapEntry) (xs:List (K.D×V.D)):Prop:=
 es.size=xs.length∧xs.length≤lim∧∀i (h:i<xs.length),∃e,es[i]?=some e∧Jab own w K e.key xs[i].1∧Jab own w V e.val xs[i].2
def Jbh (B:Nat) (own:Own) (w:World) (s:Nat) (u:Value):(τ:Ty)→List τ.D→Prop
 | .pair K V,xs=>∃r es c,u= .map (some r)∧B≤r∧own r 0=some s∧w.heap[r]?=some (.map es c)∧JgQ own w K V es xs
 | _,_=>False
def BgR (B:Nat) (own:Own) (w:World) (s:Nat) (u:Value):(τ:Ty)→List τ.D→Prop
 | .pair K V,xs=>∃r es c,u= .map (some r)∧B≤r∧own r 0=some s∧w.heap[r]?=some (.map es c)∧BagR K V es c xs
 | _,_=>False
def ItR (b:Bool) (B:Nat) (own:Own) (w:World) (s:Nat) (u:Value):(τ:Ty)→List τ.D→Prop
 | .pair K V,xs=>∃r,u= .pointer (some ⟨r,0,none⟩)∧B≤r∧own r 0=some s∧((∃x y z,w.heap[r]?=some (.mapIter none x y z)∧b=false∧xs.tail=[]) ∨
  ∃m es c seen bag,w.heap[r]?=some (.mapIter (some m) c seen c)∧own m 0=none∧w.heap[m]?=some (.map es c)∧BagR K V es c bag ∧
   (b=true→∃e∈es.toList,seen.back?=some e.born∧∃p,xs.head?=some p∧e.key=JaW K p.1∧e.val=JaW V p.2∧okD K p.1∧okD V p.2) ∧
   (∀e∈es.toList,seen.contains e.born=false→∃p∈xs.tail,e.key=JaW K p.1∧e.val=JaW V p.2) ∧
   (∀p∈xs.tail,∃e∈es.toList,seen.contains e.born=false∧e.key=JaW K p.1)∧∀p∈xs.tail,okD K p.1∧okD V p.2)
 | _,_=>False
def SpR (m:Mode) (B:Nat) (own:Own) (w:World) (s:Nat) (u:Value) (τ:Ty) (xs:List τ.D):Prop:=
 match m with
 | .mp=>Jbh B own w s u τ xs
 | .bg=>BgR B own w s u τ xs
 | .it b=>ItR b B own w s u τ xs
 | _=>False
def Jaj (Z:Base) (own:Own) (w:World) (β:Jai) (s:Nat):Entry→Prop
 | .none=>True
 | .gone _=>True
 | .own _ τ xs .mp=>Jbh Z.w.heap.size own w s (β s) τ xs
 | .own _ τ xs .bg=>BgR Z.w.heap.size own w s (β s) τ xs
 | .own _ τ xs (.it b)=>ItR b Z.w.heap.size own w s (β s) τ xs
 | .vb _ _ _=>True
 | .box _ τ x=>τ.isVal=true∧∃b o cs,β s= .pointer (some ⟨b,o,none⟩)∧Jef Z own w s b o cs∧Jag own w τ cs x
 | .own _ τ xs m=>∃a cap,β s= .slice a xs.length cap∧xs.length≤cap∧cap<9223372036854775808∧xs.length≤big ∧
  ((cap=0∧(m= .full→a=none))∨∃b o,a=some ⟨b,o,none⟩∧JaX own w (m.owner s) τ b o xs∧m.rest Z own w s b o xs.length cap τ.size)
def JbA (Z:Base) (own:Own) (w:World) (β:Jai) (mem:Nat→Entry) (s:Nat):Entry→Prop
 | .vb _ τ v=>∃b o u,β s= .pointer (some ⟨b,o,none⟩)∧Jef Z own w s b o u.cells.toList∧Fit τ u∧Jac own w β mem v u
 | _=>True
def Ja5:Entry→Bool
 | .vb _ _ _=>true
 | _=>false
structure Frm (n:Nat) (io:Nat→Nat→Prop) (w w':World):Prop where
 os:w'.os=w.os
 tape:w'.tape=w.tape
 output:w'.output=w.output
 size:w.heap.size≤w'.heap.size
 cell:∀b o,b<n→¬io b o→w'.cell? ⟨b,o,none⟩=w.cell? ⟨b,o,none⟩
 live:∀b o v,b<n→w.cell? ⟨b,o,none⟩=some v→(∃v',w'.cell? ⟨b,o,none⟩=some v')∧w'.frozen? ⟨b,o,none⟩=w.frozen? ⟨b,o,none⟩
 shape:∀b k,b<n→Jc6 w b k→Jc6 w' b k
 block:∀b,b<n→(∀o,¬io b o)→w'.heap[b]?=w.heap[b]?
def JfR:Entry→Bool
 | .box 0 _ _=>true
 | .own 0 _ _ _=>true
 | _=>false
structure St (N:Nat) (Z:Base) (own:Own) (β:Jai) (σ:S) (a:Act) (w:World):Prop where
 frame:Frm Z.w.heap.size Z.io Z.w w
 old:∀b o,b<Z.w.heap.size→¬Z.io b o→own b o=Z.own b o
 size:a.tmps.size=N
 defers:a.defers=[]
 slots:∀t,Jac own w β σ.mem (σ.slots t) (a.tmps.getD t undef)
 mems:∀s,Jaj Z own w β s (σ.mem s)
 pins:∀s v,Z.pin s=some v→JfR (σ.mem s)=true→β s=v
 cells:∀s,JbA Z own w β σ.mem s (σ.mem s)
 kept:∀q,Z.kb=some q→Keeps q.1 own q.2 w
def StE (N:Nat) (Z:Base) (σ:S) (a:Act) (w:World):Prop:=∃own β,St N Z own β σ a w
theorem Frm.refl (n:Nat) (io:Nat→Nat→Prop) (w:World):Frm n io w w:=⟨rfl,rfl,rfl,Nat.le_refl _,fun _ _ _ _=>rfl,fun _ _ v _ h=>⟨⟨v,h⟩,rfl⟩,fun _ _ _ h=>h,fun _ _ _=>rfl⟩
theorem Frm.trans {n:Nat} {io:Nat→Nat→Prop} {w w' w'':World} (h:Frm n io w w') (k:Frm n io w' w''):Frm n io w w'':=
 ⟨k.os.trans h.os,k.tape.trans h.tape,k.output.trans h.output,Nat.le_trans h.size k.size,fun b o h1 h2=>(k.cell b o h1 h2).trans (h.cell b o h1 h2),
  fun b o v h1 h2=>let ⟨⟨v',h3⟩,h4⟩:=h.live b o v h1 h2;let ⟨h5,h6⟩:=k.live b o v' h1 h3;⟨h5,h6.trans h4⟩,fun b x h1 h2=>k.shape b x h1 (h.shape b x h1 h2),fun b h1 h2=>(k.block b h1 h2).trans (h.block b h1 h2)⟩
theorem Frm.below {n:Nat} {w w':World} (h:Frm n (fun _ _=>False) w w'):Below n w w':=⟨h.os,h.tape,h.output,h.size,fun b hb=>h.block b hb fun _=>id⟩
structure Evo (β β':Jai) (s:Nat) (e e':Entry):Prop where
 le:nextVer e≤nextVer e'
 box:∀ver τ x',e'= .box ver τ x'→ver<nextVer e→β' s=β s∧∃x,e= .box ver τ x
 own:∀ver τ xs' m',e'= .own ver τ xs' m'→ver<nextVer e→β' s=β s∧∃xs m,e= .own ver τ xs m∧xs.length≤xs'.length∧m.isMp=m'.isMp∧(m'.isMp=false→xs.length=xs'.length)
 vb:∀ver τ x',e'= .vb ver τ x'→ver<nextVer e→β' s=β s∧∃x,e= .vb ver τ x
theorem Evo.same {β β':Jai} {s:Nat} (e:Entry) (h:β' s=β s):Evo β β' s e e:=
 ⟨Nat.le_refl _,fun _ _ _ he _=>⟨h,_,he⟩,fun _ _ _ _ he _=>⟨h,_,_,he,Nat.le_refl _,rfl,fun _=>rfl⟩,fun _ _ _ he _=>⟨h,_,he⟩⟩
theorem Evo.newBox {β β':Jai} {s:Nat} (e:Entry) (τ:Ty) (x:τ.D):Evo β β' s e (.box (nextVer e) τ x):=
 ⟨by simp[nextVer],fun ver _ _ he hv=>by (cases he;omega),fun _ _ _ _ he _=>by (cases he),fun _ _ _ he _=>by (cases he)⟩
theorem Evo.newOwn {β β':Jai} {s:Nat} (e:Entry) (τ:Ty) (xs:List τ.D) (m:Mode):Evo β β' s e (.own (nextVer e) τ xs m):=
 ⟨by simp[nextVer],fun _ _ _ he _=>by (cases he),fun ver _ _ _ he hv=>by (cases he;omega),fun _ _ _ he _=>by (cases he)⟩
theorem Evo.setBox {β β':Jai} {s ver:Nat} {τ:Ty} {x x':τ.D} (h:β' s=β s):Evo β β' s (.box ver τ x) (.box ver τ x'):=
 ⟨Nat.le_refl _,fun _ _ _ he _=>by (cases he;exact⟨h,_,rfl⟩),fun _ _ _ _ he _=>by (cases he),fun _ _ _ he _=>by (cases he)⟩
theorem Evo.setOwn {β β':Jai} {s ver:Nat} {τ:Ty} {xs xs':List τ.D} {m m':Mode} (h:β' s=β s) (hl:xs.length=xs'.length) (hm:m.isMp=m'.isMp:=by rfl):Evo β β' s (.own ver τ xs m) (.own ver τ xs' m'):=
 ⟨Nat.le_refl _,fun _ _ _ he _=>by (cases he),fun _ _ _ _ he _=>by (cases he;exact⟨h,_,_,rfl,Nat.le_of_eq hl,hm,fun _=>hl⟩),fun _ _ _ he _=>by (cases he)⟩
theorem Evo.setMp {β β':Jai} {s ver:Nat} {τ:Ty} {xs xs':List τ.D} (h:β' s=β s) (hl:xs.length≤xs'.length):Evo β β' s (.own ver τ xs .mp) (.own ver τ xs' .mp):=
 ⟨Nat.le_refl _,fun _ _ _ he _=>by (cases he),fun _ _ _ _ he _=>by (cases he;exact⟨h,_,_,rfl,hl,rfl,fun h=>by cases h⟩),fun _ _ _ he _=>by (cases he)⟩
theorem Evo.gone {β β':Jai} {s ver:Nat} {τ:Ty} {xs:List τ.D} {m:Mode}:Evo β β' s (.own ver τ xs m) (.gone ver):=
 ⟨Nat.le_refl _,fun _ _ _ he _=>by (cases he),fun _ _ _ _ he _=>by (cases he),fun _ _ _ he _=>by (cases he)⟩
theorem Evo.trans {β β' β'':Jai} {s:Nat} {e e' e'':Entry} (h:Evo β β' s e e') (k:Evo β' β'' s e' e''):Evo β β'' s e e'' where
 le:=Nat.le_trans h.le k.le
 box ver τ x' he hv:=by
  obtain⟨h1,x,h2⟩:=k.box ver τ x' he (Nat.lt_of_lt_of_le hv h.le);obtain⟨h3,x0,h4⟩:=h.box ver τ x h2 hv;exact⟨h1.trans h3,x0,h4⟩
 own ver τ xs' m' he hv:=by
  obtain⟨h1,x,m,h2,h2',h2a,h2b⟩:=k.own ver τ xs' m' he (Nat.lt_of_lt_of_le hv h.le);obtain⟨h3,x0,m0,h4,h4',h4a,h4b⟩:=h.own ver τ x m h2 hv;exact⟨h1.trans h3,x0,m0,h4,Nat.le_trans h4' h2',h4a.trans h2a,fun hf=>(h4b (h2a.trans hf)).trans (h2b hf)⟩
 vb ver τ x' he hv:=by
  obtain⟨h1,x,h2⟩:=k.vb ver τ x' he (Nat.lt_of_lt_of_le hv h.le);obtain⟨h3,x0,h4⟩:=h.vb ver τ x h2 hv;exact⟨h1.trans h3,x0,h4⟩
theorem Jac.go {own own':Own} {w w':World} {β β':Jai} {mem mem':Nat→Entry} (k:Keeps own own' w w') (hm:∀s,Evo β β' s (mem s) (mem' s)):
 ∀{v:V} {u:Value},Jac own w β mem v u→Jac own' w' β' mem' v u
 | .dead,_,_=>trivial
 | .val τ x,_,h=>Jab.keeps k h
 | .nil,_,h=>h
 | .ptr s ver p,_,⟨h1,h2⟩=>⟨Nat.lt_of_lt_of_le h1 (hm s).le,fun τ x e=>by
  obtain⟨e1,x0,e2⟩:=(hm s).box ver τ x e h1;rw[e1];exact h2 τ x0 e2⟩
 | .ref s ver,_,⟨h1,h2⟩=>⟨Nat.lt_of_lt_of_le h1 (hm s).le,fun τ xs m e=>by
  obtain⟨e1,x0,m0,e2,_⟩:=(hm s).own ver τ xs m e h1;rw[e1];exact h2 τ x0 m0 e2⟩
 | .elp s ver i p,_,⟨h1,h2⟩=>⟨Nat.lt_of_lt_of_le h1 (hm s).le,fun τ xs m e=>by
  obtain⟨e1,x0,m0,e2,e3,_⟩:=(hm s).own ver τ xs m e h1;obtain⟨g1,g2⟩:=h2 τ x0 m0 e2;rw[e1];exact⟨Nat.lt_of_lt_of_le g1 e3,g2⟩⟩
 | .rpt τ x,_,⟨hv,b,o,cs,h1,h2,h3⟩=>⟨hv,b,o,cs,h1,fun j u e=>k _ _ _ (h2 j u e).1 (h2 j u e).2,h3.keeps k⟩
 | .nilq _ _,_,h=>h
 | .win s ver lo,_,⟨h1,h2⟩=>⟨Nat.lt_of_lt_of_le h1 (hm s).le,fun τ xs m e hf=>by
  obtain⟨e1,x0,m0,e2,_,e4,e3⟩:=(hm s).own ver τ xs m e h1;rw[e1,←e3 hf];exact h2 τ x0 m0 e2 (e4.trans hf)⟩
 | .pre s ver hi,_,⟨h1,h2⟩=>⟨Nat.lt_of_lt_of_le h1 (hm s).le,fun τ xs m e hf=>by
  obtain⟨e1,x0,m0,e2,_,e4,e3⟩:=(hm s).own ver τ xs m e h1;rw[e1,←e3 hf];exact h2 τ x0 m0 e2 (e4.trans hf)⟩
 | .plist t,_,⟨us,b,o,h1,h0,h2,h3⟩=>⟨us,b,o,h1,h0,fun j u e=>k _ _ _ (h2 j u e).1 (h2 j u e).2,Jac.go k hm h3⟩
 | .pel x,_,⟨b,o,u,h1,h2,h3,h4⟩=>⟨b,o,u,h1,(k _ _ _ h2 h3).1,(k _ _ _ h2 h3).2,Jac.go k hm h4⟩
 | .clo g t,_,⟨us,h1,h2⟩=>⟨us,h1,Jac.go k hm h2⟩
 | .zval τ x z,_,h=>⟨Jab.keeps k h.1,h.2⟩
 | .tnil,_,h=>h
 | .tcons a r,_,⟨u,us,h1,h2,h3⟩=>⟨u,us,h1,Jac.go k hm h2,Jac.go k hm h3⟩
 | .agg b t,_,⟨us,h1,h2,h3⟩=>⟨us,h1,h2,Jac.go k hm h3⟩
 | .asl n e x,_,⟨ad,h1,h2⟩=>⟨ad,h1,Jac.go k hm h2⟩
 | .vpt s ver p,_,⟨h1,h2⟩=>⟨Nat.lt_of_lt_of_le h1 (hm s).le,fun τ x e=>by
  obtain⟨e1,x0,e2⟩:=(hm s).vb ver τ x e h1;rw[e1];exact h2 τ x0 e2⟩
theorem PK.indep {own:Own} {w:World} {β β':Jai} {mem mem':Nat→Entry}:∀{k:PK} {x:k.ty.D} {u:Value},Jac own w β mem (k.V x) u→Jac own w β' mem' (k.V x) u
 | .rp _,_,_,h=>h
 | .clo _ _,_,_,h=>h
 | .cl _ c,_,_,⟨us,h1,h2⟩=>⟨us,h1,PK.indep (k:=c) h2⟩
 | .pel k,_,_,⟨b,o,u,h1,h2,h3,h4⟩=>⟨b,o,u,h1,h2,h3,PK.indep (k:=k) h4⟩
 | .nil,_,_,h=>h
 | .cons a r,_,_,⟨u,us,h1,h2,h3⟩=>⟨u,us,h1,PK.indep (k:=a) h2,PK.indep (k:=r) h3⟩
theorem PK.read_some:∀{k:PK} {v:Re.V} {x:k.ty.D},k.read v=some x→v=k.V x:=by
 intro k
 induction k with
 | cl g c ih=>
  intro v x h;cases v with
  | clo g' t=>
   have h2:(bif Nat.beq g g' then c.read t else none)=some x:=h;cases hb:Nat.beq g g' with
   | false=>rw[hb] at h2;cases h2
   | true=>
    rw[hb] at h2;have hb:=Nat.eq_of_beq_eq_true hb;subst hb;have:=ih h2;subst this;rfl
  | _=>cases h
 | pel k ih=>
  intro v x h;cases v with
  | pel y=>have:=ih (v:=y) h;subst this;rfl
  | _=>cases h
 | nil=>
  intro v x h;cases v with
  | tnil=>rfl
  | _=>cases h
 | cons a r iha ihr=>
  intro v x h;cases v with
  | tcons y t=>
   obtain⟨p,h1,h2⟩:=Option.bind_eq_some_iff.1 (show (a.read y).bind _=some x from h);obtain⟨q,h3,h4⟩:=Option.map_eq_some_iff.1 h2;subst h4;have e1:=iha h1;have e2:=ihr h3;subst e1;subst e2;rfl
  | _=>cases h
 | rp τ=>
  intro v x h;cases v with
  | rpt τ' x'=>
   obtain⟨e,h⟩:=cast?_some (show cast? τ' τ x'=some x from h);subst e;subst h;rfl
  | _=>cases h
 | clo g τ=>
  intro v x h;cases v with
  | clo g' t=>
   cases t with
   | tcons y r=>
    cases y with
    | rpt τ' x'=>
     cases r with
     | tnil=>
      have h2:(bif Nat.beq g g' then cast? τ' τ x' else none)=some x:=h;clear h;cases hb:Nat.beq g g' with
      | false=>rw[hb] at h2;cases h2
      | true=>
       rw[hb] at h2;have hb:=Nat.eq_of_beq_eq_true hb;obtain⟨e,h3⟩:=cast?_some h2;subst hb;subst e;subst h3;rfl
     | _=>cases h
    | _=>cases h
   | _=>cases h
  | _=>cases h
def Jez:Obj→Bool
 | .map _ _=>true | .mapIter _ _ _ _=>true | _=>false
def Jah (s:Nat) (own own':Own) (w w':World):Prop:=
 (∀b o v,own b o=some s→w.cell? ⟨b,o,none⟩=some v→own' b o=some s∧w'.cell? ⟨b,o,none⟩=some v∧w'.frozen? ⟨b,o,none⟩=w.frozen? ⟨b,o,none⟩) ∧
 ∀r ob (_:Jez ob=true),own r 0=some s→w.heap[r]?=some ob→own' r 0=some s∧w'.heap[r]?=some ob
theorem Jah.refl (s:Nat) (own:Own) (w:World):Jah s own own w w:=⟨fun _ _ _ h1 h2=>⟨h1,h2,rfl⟩,fun _ _ _ h1 h2=>⟨h1,h2⟩⟩
theorem JaX.keeps {own own':Own} {w w':World} {q:Option Nat} {e:Ty} {b o:Nat} {xs:List e.D} (k:Keeps own own' w w')
 (hq:∀b o v,own b o=q→w.cell? ⟨b,o,none⟩=some v→own' b o=q∧w'.cell? ⟨b,o,none⟩=some v) (h:JaX own w q e b o xs):JaX own' w' q e b o xs:=
 fun i hi=>let ⟨es,h1,h2,h3⟩:=h i hi
  ⟨es,h1,fun j v hv=>hq _ _ _ (h2 j v hv).1 (h2 j v hv).2,h3.keeps k⟩
theorem JaJ.keeps {Z:Base} {own own':Own} {w w':World} {s b lo hi:Nat} (k:Jah s own own' w w') (h:JaJ Z own w s b lo hi):JaJ Z own' w' s b lo hi:=
 fun j h1 h2=>by
  obtain⟨h3,hw,⟨v,h4⟩,h5⟩:=h j h1 h2;obtain⟨h6,h7,h8⟩:=k.1 b j v h3 h4;exact⟨h6,hw,⟨v,h7⟩,h8.trans h5⟩
theorem JdB.keeps {Z:Base} {own own':Own} {w w':World} {s b lo hi:Nat} {l:List (Nat×Nat)} (k:Jah s own own' w w') (ht:JaJ Z own w s b lo hi) (h:JdB Z own w s b lo hi l):JdB Z own' w' s b lo hi l:=by
 obtain⟨reg,h⟩:=h;refine⟨reg,fun q hq=>?_⟩;obtain⟨h0,⟨a,n,c,h1,h2⟩,h3,h4,h5⟩:=h q hq;exact⟨h0,⟨a,n,c,(k.1 _ _ _ (ht _ (by omega) h0).1 h1).2.1,h2⟩,h3.keeps k,h4,h5⟩
def Jbw (w w':World):Prop:=∀b k,Jc6 w b k→Jc6 w' b k
theorem Mode.rest.keeps {m:Mode} {Z:Base} {own own':Own} {w w':World} {s b o n cap sz:Nat} (k:Jah s own own' w w') (kh:Jbw w w') (h:m.rest Z own w s b o n cap sz):m.rest Z own' w' s b o n cap sz:=by
 cases m with
 | full=>exact⟨kh _ _ h.1,h.2.keeps k⟩
 | gb l=>exact⟨⟨kh _ _ h.1.1,h.1.2.keeps k⟩,JdB.keeps k h.1.2 h.2.1,h.2.2⟩
 | tail=>exact JaJ.keeps k h
 | view=>trivial
 | mp=>trivial
 | bg=>trivial
 | it b=>trivial
theorem Jef.keeps {Z:Base} {own own':Own} {w w':World} {s b o:Nat} {cs:List Value} (ks:Jah s own own' w w') (h:Jef Z own w s b o cs):Jef Z own' w' s b o cs:=fun j v e=>by
 obtain⟨e1,e0,e2,e3⟩:=h j v e;obtain⟨e4,e5,e6⟩:=ks.1 b (o+j) v e1 e2;exact⟨e4,e0,e5,e6.trans e3⟩
theorem JgQ.keeps {own own':Own} {w w':World} (k:Keeps own own' w w') {K V:Ty} {es:Array MapEntry} {xs:List (K.D×V.D)} (h:JgQ own w K V es xs):JgQ own' w' K V es xs:=
 ⟨h.1,h.2.1,fun i hi=>let ⟨e,h1,h2,h3⟩:=h.2.2 i hi;⟨e,h1,h2.keeps k,h3.keeps k⟩⟩
theorem Jbh.keeps {B:Nat} {own own':Own} {w w':World} {s:Nat} {u:Value} (k:Keeps own own' w w') (ks:Jah s own own' w w'):∀{τ:Ty} {xs:List τ.D},Jbh B own w s u τ xs→Jbh B own' w' s u τ xs
 | .pair K V,xs,⟨r,es,c,h1,h2,h3,h4,h5⟩=>let ⟨h6,h7⟩:=ks.2 r _ rfl h3 h4;⟨r,es,c,h1,h2,h6,h7,h5.keeps k⟩
 | .bool,_,h=>h.elim
 | .str,_,h=>h.elim
 | .unit,_,h=>h.elim
 | .int _,_,h=>h.elim
 | .st _,_,h=>h.elim
 | .sl _,_,h=>h.elim
 | .arr _ _,_,h=>h.elim
theorem BgR.keeps {B:Nat} {own own':Own} {w w':World} {s:Nat} {u:Value} (k:Keeps own own' w w') (ks:Jah s own own' w w'):∀{τ:Ty} {xs:List τ.D},BgR B own w s u τ xs→BgR B own' w' s u τ xs:=by
 intro τ xs h;cases τ with
 | pair K V=>
  obtain⟨r,es,c,h1,h2,h3,h4,h5⟩:=h;obtain⟨h6,h7⟩:=ks.2 r _ rfl h3 h4;exact⟨r,es,c,h1,h2,h6,h7,h5⟩
 | _=>exact h.elim
theorem ItR.keeps {b:Bool} {B:Nat} {own own':Own} {w w':World} {s:Nat} {u:Value} (k:Keeps own own' w w') (ks:Jah s own own' w w'):∀{τ:Ty} {xs:List τ.D},ItR b B own w s u τ xs→ItR b B own' w' s u τ xs:=by
 intro τ xs h;cases τ with
 | pair K V=>
  obtain⟨r,h1,h2,h3,h4⟩:=h;rcases h4 with ⟨x,y,z,h4,h5⟩ | ⟨m,es,c,seen,bag,h4,h5,h6,h7⟩
  · obtain⟨g1,g2⟩:=ks.2 r _ rfl h3 h4
    exact⟨r,h1,h2,g1,.inl ⟨x,y,z,g2,h5⟩⟩
  · obtain⟨g1,g2⟩:=ks.2 r _ rfl h3 h4
    obtain⟨g3,g4⟩:=k.map m es c h5 h6;exact⟨r,h1,h2,g1,.inr ⟨m,es,c,seen,bag,g2,g3,g4,h7⟩⟩
 | _=>exact h.elim
theorem Jbh.val {B:Nat} {own:Own} {w:World} {s:Nat} {u:Value}:∀{τ:Ty} {xs:List τ.D},Jbh B own w s u τ xs→∃r,u= .map (some r)
 | .pair K V,xs,⟨r,es,c,h1,_⟩=>⟨r,h1⟩
 | .bool,_,h=>h.elim
 | .str,_,h=>h.elim
 | .unit,_,h=>h.elim
 | .int _,_,h=>h.elim
 | .st _,_,h=>h.elim
 | .sl _,_,h=>h.elim
 | .arr _ _,_,h=>h.elim
theorem Jbh.base {B B':Nat} {own:Own} {w:World} {s:Nat} {u:Value} (hB:B'≤B):∀{τ:Ty} {xs:List τ.D},Jbh B own w s u τ xs→Jbh B' own w s u τ xs
 | .pair K V,xs,⟨r,es,c,h1,h2,h3⟩=>⟨r,es,c,h1,Nat.le_trans hB h2,h3⟩
 | .bool,_,h=>h.elim
 | .str,_,h=>h.elim
 | .unit,_,h=>h.elim
 | .int _,_,h=>h.elim
 | .st _,_,h=>h.elim
 | .sl _,_,h=>h.elim
 | .arr _ _,_,h=>h.elim
def JlO (Z:Base) (own:Own) (w:World) (β:Jai) (s:Nat) (τ:Ty) (xs:List τ.D) (m:Mode):Prop:=
 ∃a cap,β s= .slice a xs.length cap∧xs.length≤cap∧cap<9223372036854775808∧xs.length≤big ∧
  ((cap=0∧(m= .full→a=none))∨∃b o,a=some ⟨b,o,none⟩∧JaX own w (m.owner s) τ b o xs∧m.rest Z own w s b o xs.length cap τ.size)
theorem Jaj.row {Z:Base} {own:Own} {w:World} {β:Jai} {s ver:Nat} {τ:Ty} {xs:List τ.D} {m:Mode} (hm:m.isMp=false) (h:Jaj Z own w β s (.own ver τ xs m)):JlO Z own w β s τ xs m:=by
 cases m with
 | mp=>cases hm
 | bg=>cases hm
 | it b=>cases hm
 | full=>exact h
 | tail=>exact h
 | view=>exact h
 | gb l=>exact h
theorem BgR.val {B:Nat} {own:Own} {w:World} {s:Nat} {u:Value} {τ:Ty} {xs:List τ.D} (h:BgR B own w s u τ xs):∃r,u= .map (some r):=by
 cases τ with
 | pair K V=>obtain⟨r,es,c,h1,_⟩:=h;exact⟨r,h1⟩
 | _=>exact h.elim
theorem ItR.val {b:Bool} {B:Nat} {own:Own} {w:World} {s:Nat} {u:Value} {τ:Ty} {xs:List τ.D} (h:ItR b B own w s u τ xs):∃r,u= .pointer (some ⟨r,0,none⟩):=by
 cases τ with
 | pair K V=>obtain⟨r,h1,_⟩:=h;exact⟨r,h1⟩
 | _=>exact h.elim
theorem Jaj.rowV {Z:Base} {own:Own} {w:World} {β:Jai} {s ver:Nat} {τ:Ty} {xs:List τ.D} {m:Mode} {ad:Option Addr} {n c:Nat} (hb:β s= .slice ad n c) (h:Jaj Z own w β s (.own ver τ xs m)):m.isMp=false∧JlO Z own w β s τ xs m:=by
 cases m with
 | mp=>
  obtain⟨r,hr⟩:=Jbh.val h;rw[hr] at hb;cases hb
 | bg=>
  obtain⟨r,hr⟩:=BgR.val h;rw[hr] at hb;cases hb
 | it b=>
  obtain⟨r,hr⟩:=ItR.val h;rw[hr] at hb;cases hb
 | full=>exact⟨rfl,h⟩
 | tail=>exact⟨rfl,h⟩
 | view=>exact⟨rfl,h⟩
 | gb l=>exact⟨rfl,h⟩
theorem Jaj.ver {Z:Base} {own:Own} {w:World} {β:Jai} {s ver ver':Nat} {τ:Ty} {xs:List τ.D} {m:Mode} (h:Jaj Z own w β s (.own ver τ xs m)):Jaj Z own w β s (.own ver' τ xs m):=by
 cases m<;>exact h
theorem Jaj.ofRow {Z:Base} {own:Own} {w:World} {β:Jai} {s ver:Nat} {τ:Ty} {xs:List τ.D} {m:Mode} (hm:m.isMp=false) (h:JlO Z own w β s τ xs m):Jaj Z own w β s (.own ver τ xs m):=by
 cases m with
 | mp=>cases hm
 | bg=>cases hm
 | it b=>cases hm
 | full=>exact h
 | tail=>exact h
 | view=>exact h
 | gb l=>exact h
theorem Jaj.keeps {Z:Base} {own own':Own} {w w':World} {β β':Jai} {s:Nat} (k:Keeps own own' w w') (ks:Jah s own own' w w') (kh:Jbw w w') (hβ:β' s=β s):
 ∀{e:Entry},Jaj Z own w β s e→Jaj Z own' w' β' s e
 | .none,_=>trivial
 | .gone _,_=>trivial
 | .vb _ _ _,_=>trivial
 | .box _ τ x,⟨hv,b,o,cs,h1,h3,h4⟩=>⟨hv,b,o,cs,hβ.trans h1,h3.keeps ks,h4.keeps k⟩
 | .own _ τ xs .mp,h=>by
  show Jbh _ _ _ _ _ _ _;rw[hβ];exact Jbh.keeps k ks h
 | .own _ τ xs .bg,h=>by
  show BgR _ _ _ _ _ _ _;rw[hβ];exact BgR.keeps k ks h
 | .own _ τ xs (.it b),h=>by
  show ItR _ _ _ _ _ _ _ _;rw[hβ];exact ItR.keeps k ks h
 | .own _ τ xs .full,⟨a,cap,h1,h2,h3,h4,h5⟩=>⟨a,cap,hβ.trans h1,h2,h3,h4,h5.imp id fun ⟨b,o,h6,h7,h8⟩=>⟨b,o,h6,h7.keeps k (fun b o v e1 e2=>⟨(ks.1 b o v e1 e2).1,(ks.1 b o v e1 e2).2.1⟩),h8.keeps ks kh⟩⟩
 | .own _ τ xs (.gb l),⟨a,cap,h1,h2,h3,h4,h5⟩=>⟨a,cap,hβ.trans h1,h2,h3,h4,h5.imp id fun ⟨b,o,h6,h7,h8⟩=>⟨b,o,h6,h7.keeps k (fun b o v e1 e2=>⟨(ks.1 b o v e1 e2).1,(ks.1 b o v e1 e2).2.1⟩),h8.keeps ks kh⟩⟩
 | .own _ τ xs .tail,⟨a,cap,h1,h2,h3,h4,h5⟩=>⟨a,cap,hβ.trans h1,h2,h3,h4,h5.imp id fun ⟨b,o,h6,h7,h8⟩=>⟨b,o,h6,h7.keeps k (fun b o v e1 e2=>k b o v e1 e2),h8.keeps ks kh⟩⟩
 | .own _ τ xs .view,⟨a,cap,h1,h2,h3,h4,h5⟩=>⟨a,cap,hβ.trans h1,h2,h3,h4,h5.imp id fun ⟨b,o,h6,h7,h8⟩=>⟨b,o,h6,h7.keeps k (fun b o v e1 e2=>k b o v e1 e2),h8.keeps ks kh⟩⟩
theorem JfC (e:Entry):0<nextVer e:=by cases e<;>simp[nextVer]
theorem Evo.pin {β β':Jai} {s:Nat} {e e':Entry} (h:Evo β β' s e e') (h0:JfR e'=true):β' s=β s∧JfR e=true:=by
 unfold JfR at h0;split at h0
 · obtain⟨h1,x,h2⟩:=h.box 0 _ _ rfl (JfC e)
   exact⟨h1,by rw[h2];rfl⟩
 · obtain⟨h1,x,m,h2,_⟩:=h.own 0 _ _ _ rfl (JfC e)
   exact⟨h1,by rw[h2];rfl⟩
 · cases h0
theorem JbA.keeps {Z:Base} {own own':Own} {w w':World} {β β':Jai} {mem mem':Nat→Entry} {s:Nat} (k:Keeps own own' w w') (hm:∀s,Evo β β' s (mem s) (mem' s)) (ks:Jah s own own' w w') (he:mem' s=mem s)
 (h:JbA Z own w β mem s (mem s)):JbA Z own' w' β' mem' s (mem' s):=by
 rw[he];revert h;cases hx:mem s with
 | vb ver τ v=>
  rintro⟨b,o,u,h1,h2,h3,h4⟩;obtain⟨e1,_⟩:=(hm s).vb ver τ v (he.trans hx) (by rw[hx];simp[nextVer]);exact⟨b,o,u,e1.trans h1,h2.keeps ks,h3,h4.go k hm⟩
 | _=>intro _;trivial
theorem JbA.skip {Z:Base} {own:Own} {w:World} {β:Jai} {mem:Nat→Entry} {s:Nat} {e:Entry} (h:Ja5 e=false):JbA Z own w β mem s e:=by
 cases e with
 | vb=>cases h
 | _=>trivial
theorem St.go {N:Nat} {Z:Base} {own own':Own} {β β':Jai} {σ σ':S} {a:Act} {w w':World} (h:St N Z own β σ a w) (hb:Frm Z.w.heap.size Z.io w w')
 (ho:∀b o,b<Z.w.heap.size→¬Z.io b o→own' b o=own b o) (k:Keeps own own' w w') (hm:∀s,Evo β β' s (σ.mem s) (σ'.mem s)) (hs:σ'.slots=σ.slots)
 (he:∀s,Jaj Z own' w' β' s (σ'.mem s)) (hx:∀s,Ja5 (σ'.mem s)=true→σ'.mem s=σ.mem s∧Jah s own own' w w'):St N Z own' β' σ' a w' where
 frame:=h.frame.trans hb
 old b o hlt hi:=(ho b o hlt hi).trans (h.old b o hlt hi)
 size:=h.size
 defers:=h.defers
 slots t:=by rw[hs];exact (h.slots t).go k hm
 mems:=he
 pins s v hp h0:=by
  obtain⟨h1,h2⟩:=(hm s).pin h0;rw[h1];exact h.pins s v hp h2
 cells s:=by
  cases hv:Ja5 (σ'.mem s) with
  | false=>exact JbA.skip hv
  | true=>obtain⟨h1,h2⟩:=hx s hv;exact JbA.keeps k hm h2 h1 (h.cells s)
 kept q e:=(h.kept q e).trans k
theorem Jad {α:Type} (f:Nat→α) (n:Nat) (x:α) (k:Nat):upd f n x k=if k=n then x else f k:=by
 unfold upd;by_cases h:k=n
 · subst h;simp
 · rw[if_neg h,show Nat.beq k n=false from by
    cases hh:Nat.beq k n with
    | true=>exact absurd (Nat.eq_of_beq_eq_true hh) h
    | false=>rfl];rfl
theorem JaO {σ:S} {s0:Nat} {e:Entry} {own own':Own} {w w':World} (he:Ja5 e=false) (hk:∀s,s≠s0→Jah s own own' w w'):
 ∀s,Ja5 ((σ.set s0 e).mem s)=true→(σ.set s0 e).mem s=σ.mem s∧Jah s own own' w w':=by
 intro s hs;have hs':Ja5 (upd σ.mem s0 e s)=true:=hs;show upd σ.mem s0 e s=_∧_;rw[Jad] at hs' ⊢;split
 · rename_i h;rw[if_pos h,he] at hs';cases hs'
 · rename_i h;exact⟨rfl,hk s h⟩
theorem JmL {σ:S} {s0:Nat} {e:Entry} {own own':Own} {w w':World} (he:Ja5 e=false) (hk:∀s,s≠s0→Ja5 (σ.mem s)=true→Jah s own own' w w'):
 ∀s,Ja5 ((σ.set s0 e).mem s)=true→(σ.set s0 e).mem s=σ.mem s∧Jah s own own' w w':=by
 intro s hs;have hs':Ja5 (upd σ.mem s0 e s)=true:=hs;show upd σ.mem s0 e s=_∧_;rw[Jad] at hs' ⊢;split
 · rename_i h;rw[if_pos h,he] at hs';cases hs'
 · rename_i h;rw[if_neg h] at hs';exact⟨rfl,hk s h hs'⟩
theorem Jjs {σ:S} {s0 s1:Nat} {e e1:Entry} {own own':Own} {w w':World} (he:Ja5 e=false) (he1:Ja5 e1=false) (hk:∀s,s≠s0→s≠s1→Jah s own own' w w'):
 ∀s,Ja5 (((σ.set s0 e).set s1 e1).mem s)=true→((σ.set s0 e).set s1 e1).mem s=σ.mem s∧Jah s own own' w w':=by
 intro s hs;have hs':Ja5 (upd (upd σ.mem s0 e) s1 e1 s)=true:=hs;show upd (upd σ.mem s0 e) s1 e1 s=_∧_;rw[Jad,Jad] at hs' ⊢;split
 · rename_i h;rw[if_pos h,he1] at hs';cases hs'
 · rename_i h
   rw[if_neg h] at hs';split
   · rename_i h';rw[if_pos h',he] at hs';cases hs'
   · rename_i h';exact⟨rfl,hk s h' h⟩
theorem St.put {N:Nat} {Z:Base} {own:Own} {β:Jai} {σ:S} {a:Act} {w:World} (h:St N Z own β σ a w) {d:Nat} (hd:d<N) {v:V} {u:Value}
 (hv:Jac own w β σ.mem v u):St N Z own β (σ.put d v) (a.put (some d) u) w where
 frame:=h.frame
 old:=h.old
 size:=by simp[Act.put,h.size]
 defers:=h.defers
 slots t:=by
  show Jac own w β σ.mem (upd σ.slots d v t) ((a.tmps.setIfInBounds d u).getD t undef);rw[Jad];have hsz:=h.size;split
  · rename_i e;subst e
    simp only[Array.getD_eq_getD_getElem?];rw[Array.getElem?_setIfInBounds_self_of_lt (by omega)];exact hv
  · rename_i e
    have:=h.slots t;simp only[Array.getD_eq_getD_getElem?] at this ⊢;rw[Array.getElem?_setIfInBounds_ne (Ne.symm e)];exact this
 mems:=h.mems
 pins:=h.pins
 cells:=h.cells
 kept:=h.kept
theorem St.dropSlot {N:Nat} {Z:Base} {own:Own} {β:Jai} {σ:S} {a:Act} {w:World} (h:St N Z own β σ a w) {d:Nat} (u:Value):
 St N Z own β (σ.put d .dead) (a.put (some d) u) w where
 frame:=h.frame
 old:=h.old
 size:=by simp[Act.put,h.size]
 defers:=h.defers
 slots t:=by
  show Jac own w β σ.mem (upd σ.slots d .dead t) ((a.tmps.setIfInBounds d u).getD t undef);rw[Jad];split
  · trivial
  · rename_i e
    have:=h.slots t;simp only[Array.getD_eq_getD_getElem?] at this ⊢;rw[Array.getElem?_setIfInBounds_ne (Ne.symm e)];exact this
 mems:=h.mems
 pins:=h.pins
 cells:=h.cells
 kept:=h.kept
theorem cell?_lt {w:World} {b o:Nat} {v:Value} (h:w.cell? ⟨b,o,none⟩=some v):b<w.heap.size:=by
 unfold World.cell? at h;rcases Nat.lt_or_ge b w.heap.size with hb | hb
 · exact hb
 · simp[Array.getElem?_eq_none hb] at h
theorem cell?_of_heap {w w':World} {b o:Nat} (h:w'.heap[b]?=w.heap[b]?):w'.cell? ⟨b,o,none⟩=w.cell? ⟨b,o,none⟩:=by
 unfold World.cell?;rw[h]
theorem frozen?_of_heap {w w':World} {b o:Nat} (h:w'.heap[b]?=w.heap[b]?):w'.frozen? ⟨b,o,none⟩=w.frozen? ⟨b,o,none⟩:=by
 unfold World.frozen?;rw[h]
theorem JaY {w w':World} {b:Nat} (h:w'.heap[b]?=w.heap[b]?):shp w' b=shp w b:=by
 unfold shp;rw[h]
theorem Jep {w:World} {b:Nat} {x:Nat×(Nat×Nat)} (h:shp w b=some x):b<w.heap.size:=by
 unfold shp at h;rcases Nat.lt_or_ge b w.heap.size with hb | hb
 · exact hb
 · simp[Array.getElem?_eq_none hb] at h
theorem cell?_push (w:World) (c:Array Value) (t:TypeId) (fz:Nat×Nat) (d:Nat) (b o:Nat):
 ({w with heap:=w.heap.push (.cells c t fz),drawn:=d}:World).cell? ⟨b,o,none⟩=if b=w.heap.size then c[o]? else w.cell? ⟨b,o,none⟩:=by
 unfold World.cell?;simp only[Array.getElem?_push];by_cases h:b=w.heap.size
 · simp[h]
 · simp[h]
theorem frozen?_push (w:World) (c:Array Value) (t:TypeId) (fz:Nat×Nat) (d:Nat) (b o:Nat):
 ({w with heap:=w.heap.push (.cells c t fz),drawn:=d}:World).frozen? ⟨b,o,none⟩=if b=w.heap.size then (decide (fz.1≤o)&&decide (o<fz.2)) else w.frozen? ⟨b,o,none⟩:=by
 unfold World.frozen?;simp only[Array.getElem?_push];by_cases h:b=w.heap.size
 · simp[h]
 · simp[h]
structure Wrote (b o:Nat) (vs:List Value) (w w':World):Prop where
 os:w'.os=w.os
 tape:w'.tape=w.tape
 output:w'.output=w.output
 size:w'.heap.size=w.heap.size
 block:∀k,k≠b→w'.heap[k]?=w.heap[k]?
 inside:∀j v,vs[j]?=some v→w'.cell? ⟨b,o+j,none⟩=some v
 outside:∀k,(k<o∨o+vs.length≤k)→w'.cell? ⟨b,k,none⟩=w.cell? ⟨b,k,none⟩
 frozen:∀k,w'.frozen? ⟨b,k,none⟩=w.frozen? ⟨b,k,none⟩
 shape:shp w' b=shp w b
 empty:vs=[]→w'.heap[b]?=w.heap[b]?
theorem Wrote.shps {b o:Nat} {vs:List Value} {w w':World} (h:Wrote b o vs w w'):Jbw w w':=by
 rintro b' k ⟨x,fz,e1,e2⟩;refine⟨x,fz,?_,e2⟩;by_cases hb:b'=b
 · subst hb;rw[h.shape];exact e1
 · rw[JaY (h.block b' hb)];exact e1
theorem JcB {w:World} {r o:Nat} {ob:Obj} (ho:Jez ob=true) (h:w.heap[r]?=some ob):w.cell? ⟨r,o,none⟩=none:=by
 unfold World.cell?;rw[h];cases ob<;>first | rfl | cases ho
theorem JcC {w:World} {r o:Nat} {es:Array MapEntry} {c:Nat} (h:w.heap[r]?=some (.map es c)):w.cell? ⟨r,o,none⟩=none:=JcB rfl h
theorem Ja6 {w:World} {r:Nat} {ob:Obj} (h:w.heap[r]?=some ob):r<w.heap.size:=(Array.getElem?_eq_some_iff.1 h).1
theorem Wrote.objs {b o:Nat} {vs:List Value} {w w':World} (h:Wrote b o vs w w') {r:Nat} {ob:Obj} (ho:Jez ob=true) (hm:w.heap[r]?=some ob):w'.heap[r]?=some ob:=by
 by_cases hb:r=b
 · subst hb
   cases vs with
   | nil=>rw[h.empty rfl];exact hm
   | cons v vs=>
    exfalso;have h1:=h.inside 0 v rfl;have h2:=h.shape;have h3:shp w r=none:=by unfold shp;rw[hm];cases ob<;>first | rfl | cases ho
    rw[h3] at h2;unfold shp at h2;unfold World.cell? at h1;split at h2
    · cases h2
    · rename_i hx
      split at h1
      · rename_i q1 q2 q3;exact absurd q3 (by intro e;exact hx _ _ _ e)
      · cases h1
 · rw[h.block r hb];exact hm
theorem Wrote.maps {b o:Nat} {vs:List Value} {w w':World} (h:Wrote b o vs w w') {r:Nat} {es:Array MapEntry} {c:Nat} (hm:w.heap[r]?=some (.map es c)):w'.heap[r]?=some (.map es c):=h.objs rfl hm
theorem Wrote.frame {b o:Nat} {vs:List Value} {w w':World} (h:Wrote b o vs w w') {Z:Base} (hw:∀j,j<vs.length→Z.wr b (o+j)):Frm Z.w.heap.size Z.io w w' where
 os:=h.os
 tape:=h.tape
 output:=h.output
 size:=by rw[h.size];exact Nat.le_refl _
 cell b' o' hlt hio:=by
  by_cases hb:b'=b
  · subst hb
    apply h.outside;rcases Nat.lt_or_ge o' o with h1 | h1
    · exact .inl h1
    · rcases Nat.lt_or_ge o' (o+vs.length) with h2 | h2
      · have:=hw (o'-o) (by omega)
        rw[show o+(o'-o)=o' by omega] at this;rcases this with h3 | h3
        · omega
        · exact absurd h3 hio
      · exact .inr h2
  · exact cell?_of_heap (h.block b' hb)
 live b' o' v _ hv:=by
  by_cases hb:b'=b
  · subst hb
    refine⟨?_,h.frozen o'⟩;by_cases hj:o≤o'∧o'<o+vs.length
    · have:=h.inside (o'-o) vs[o'-o] (List.getElem?_eq_getElem (by omega))
      rw[show o+(o'-o)=o' by omega] at this;exact⟨_,this⟩
    · exact⟨v,by rw[h.outside o' (by omega)];exact hv⟩
  · exact⟨⟨v,by rw[cell?_of_heap (h.block b' hb)];exact hv⟩,frozen?_of_heap (h.block b' hb)⟩
 shape b' k _:=h.shps b' k
 block b' hlt hio:=by
  by_cases hb:b'=b
  · subst hb
    by_cases h0:vs.length=0
    · have:=hw
      exact h.empty (by simpa using h0)
    · rcases hw 0 (by omega) with h1 | h1
      · omega
      · exact absurd h1 (hio _)
  · exact h.block b' hb
theorem Jib {w:World} {b o:Nat} {v u:Value} (h:w.cell? ⟨b,o,none⟩=some u) (k:Nat):
 (w.setCell ⟨b,o,none⟩ v).cell? ⟨b,k,none⟩=if k=o then some v else w.cell? ⟨b,k,none⟩:=by
 unfold World.cell? World.setCell at *;simp only[Array.getElem?_modify,if_true] at *;cases hb:w.heap[b]? with
 | none=>simp[hb] at h
 | some x=>
  simp only[hb,Option.map_some] at *;cases x with
  | cells c t f=>
   simp only[Option.isSome_none,Bool.false_eq_true,if_false] at *;rw[Array.getElem?_setIfInBounds]
   have:o<c.size:=by
    rcases Nat.lt_or_ge o c.size with h' | h'
    · exact h'
    · simp[Array.getElem?_eq_none h'] at h
   by_cases e:k=o
   · subst e;simp[this]
   · rw[if_neg (Ne.symm e),if_neg e]
  | _=>simp at h
theorem Jeq {w:World} {b o:Nat} {v:Value} (k:Nat):
 (w.setCell ⟨b,o,none⟩ v).frozen? ⟨b,k,none⟩=w.frozen? ⟨b,k,none⟩:=by
 unfold World.frozen? World.setCell;simp only[Array.getElem?_modify,if_true];cases hb:w.heap[b]? with
 | none=>simp
 | some x=>cases x<;>simp
theorem Jja {w:World} {b o:Nat} {v:Value}:shp (w.setCell ⟨b,o,none⟩ v) b=shp w b:=by
 unfold shp World.setCell;simp only[Array.getElem?_modify,if_true];cases hb:w.heap[b]? with
 | none=>simp
 | some x=>cases x<;>simp
theorem Jic {w:World} {b o:Nat} {v:Value} (k:Nat) (h:k≠b):(w.setCell ⟨b,o,none⟩ v).heap[k]?=w.heap[k]?:=by
 simp only[World.setCell,Array.getElem?_modify];rw[if_neg (Ne.symm h)]
theorem Jbx (b o n:Nat):Addr.add ⟨b,o,none⟩ n=⟨b,o+n,none⟩:=by
 unfold Addr.add;split
 · rename_i h;subst h;rfl
 · rfl
theorem Jid {P:Program} {w:World} {b o:Nat} {v u:Value} (hv:v.oneCell'=true) (h:w.cell? ⟨b,o,none⟩=some u) (hf:w.frozen? ⟨b,o,none⟩=false):
 (store ⟨b,o,none⟩ v).run P w= .ok () (w.setCell ⟨b,o,none⟩ v):=by
 rw[run_store P w _ v _ hv,h];simp[hf]
theorem Jbs {P:Program} {b o:Nat}:∀(vs:List Value) (i:Nat) (w:World),(∀v∈vs,v.oneCell'=true) →
 (∀j,j<vs.length→∃u,w.cell? ⟨b,o+(i+j),none⟩=some u)→(∀j,j<vs.length→w.frozen? ⟨b,o+(i+j),none⟩=false) →
 ∃w',(storeCells ⟨b,o,none⟩ vs i).run P w= .ok () w'∧Wrote b (o+i) vs w w'
 | [],i,w,_,_,_=>⟨w,rfl,rfl,rfl,rfl,rfl,fun _ _=>rfl,fun j v h=>by simp at h,fun _ _=>rfl,fun _=>rfl,rfl,fun _=>rfl⟩
 | v::vs,i,w,hv,hc,hf=>by
  obtain⟨u,hu⟩:=hc 0 (by simp);have hf0:=hf 0 (by simp);simp only[Nat.add_zero] at hu hf0;have hrun:=Jid (P:=P) (hv v (by simp)) hu hf0;have hcell:=fun k=>Jib (v:=v) hu k
  obtain⟨w',h1,h2⟩:=Jbs (P:=P) (b:=b) (o:=o) vs (i+1) (w.setCell ⟨b,o+i,none⟩ v) (fun x hx=>hv x (by simp[hx]))
   (fun j hj=>by
    obtain⟨u',hu'⟩:=hc (j+1) (by simp;omega);refine⟨u',?_⟩;rw[hcell,if_neg (by omega),show o+(i+1+j)=o+(i+(j+1)) by omega];exact hu')
   (fun j hj=>by
    rw[Jeq,show o+(i+1+j)=o+(i+(j+1)) by omega];exact hf (j+1) (by simp;omega))
  refine⟨w',?_,?_⟩
  · simp only[storeCells,Sem.run_bind,Jbx,hrun,Result.andThen_ok];exact h1
  · refine⟨h2.os,h2.tape,h2.output,?_,?_,?_,?_,?_,?_,fun e=>by cases e⟩
    · rw[h2.size];simp[World.setCell]
    · intro k hk;rw[h2.block k hk,Jic k hk]
    · intro j x hx
      cases j with
      | zero=>
       simp at hx;subst hx;rw[h2.outside _ (by omega),hcell,if_pos (by omega)]
      | succ j=>
       simp at hx;rw[show o+i+(j+1)=o+(i+1)+j by omega];exact h2.inside j x hx
    · intro k hk
      simp only[List.length_cons] at hk;rw[h2.outside k (by omega),hcell,if_neg (by omega)]
    · intro k;rw[h2.frozen,Jeq]
    · rw[h2.shape,Jja]
theorem Jce {P:Program} {w:World} {b o:Nat} (cs:List Value) (n:Nat) (hn:cs.length=n) (h:∀j v,cs[j]?=some v→w.cell? ⟨b,o+j,none⟩=some v):
 (loadCells ⟨b,o,none⟩ n).run P w= .ok cs.toArray w:=by
 subst hn;exact run_loadCells_list w _ cs (fun j v hv=>by rw[Jbx];exact h j v hv)
end Go.Re
namespace Go.Re
set_option linter.unusedVariables false
set_option linter.unusedSimpArgs false
open Go.RowKit (Below)
theorem Jjt {k:IntKind} {n:Int} (h:okN k n=true):toI k (ofI k n)=n∧okI k (ofI k n):=by
 cases k<;>simp only[okN,Bool.and_eq_true,decide_eq_true_eq,Bool.false_eq_true] at h<;>simp only[toI,ofI,okI,BitVec.toNat_ofNat]
 all_goals first | exact⟨trivial,h⟩ | (refine⟨?_,trivial⟩;omega)
theorem Jgj {own:Own} {w:World} {β:Jai} {mem:Nat→Entry} (v:Value):Jac own w β mem (JcO v) v:=by
 cases v with
 | bool b=>exact Jab.bool.2 rfl
 | int k n=>
  cases h:okN k n with
  | true=>
   obtain⟨h1,h2⟩:=Jjt h;simp only[JcO,h];exact Jab.int.2 ⟨by rw[h1],h2⟩
  | false=>simp only[JcO,h];trivial
 | string s=>
  by_cases h:s.size≤140737488355328
  · simp only[JcO,decide_eq_true h]
    exact Jab.str.2 ⟨s,rfl,rfl,by simpa [big] using h⟩
  · simp only[JcO,decide_eq_false h];trivial
 | slice a n c=>
  cases a with
  | some a=>trivial
  | none=>cases n with
   | succ n=>trivial
   | zero=>cases c with
    | succ c=>trivial
    | zero=>exact rfl
 | _=>trivial
section
variable {N:Nat} {Z:Base} {own:Own} {β:Jai} {σ:S} {a:Act} {w:World}
theorem Jak (h:St N Z own β σ a w) {α:Type} {x:Operand} {k:V→M α} {r:α×S} (hr:(rd x k).run σ=some r):
 ∃v,Jac own w β σ.mem v (a.eval x)∧(k v).run σ=some r:=by
 cases x with
 | tmp t=>exact⟨_,h.slots t,hr⟩
 | const v=>exact⟨JcO v,Jgj v,hr⟩
 | global g=>cases hr
 | func f=>exact⟨.clo f .tnil,⟨[],rfl,rfl⟩,hr⟩
def Jds (own:Own) (w:World) (e:Ty) (u:Value) (x:List e.D):Prop:=
 ∃a cap q,u= .slice a x.length cap∧x.length≤cap∧cap<9223372036854775808∧x.length≤big ∧
  (cap=0∨∃b o,a=some ⟨b,o,none⟩∧JaX own w q e b o x)
theorem Jag.q {own:Own} {w:World} {e:Ty} {u:Value} {x:List e.D} (h:Jag own w (.sl e) [u] x):Jds own w e u x:=by
 obtain⟨a,cap,h1,h2,h3,h4,h5⟩:=h;cases h1;exact⟨a,cap,none,rfl,h2,h3,h4,h5⟩
theorem JaX.frozen {own:Own} {w:World} {e:Ty} {a:Option Addr} {cap:Nat} {x:List e.D} (h2:x.length≤cap) (h3:cap<9223372036854775808) (h4:x.length≤big)
 (h5:cap=0∨∃b o,a=some ⟨b,o,none⟩∧JaX own w none e b o x):Jab own w (.sl e) (.slice a x.length cap) x:=
 Jab.sl.2 ⟨a,cap,rfl,h2,h3,h4,h5⟩
def JeA (own:Own) (w:World) (τ:Ty) (u:Value) (x:τ.D):Prop:=
 match τ,x with
 | .sl e,x=>Jds own w e u x
 | .str,x=>Jab own w .str u x
 | _,_=>True
theorem Jab.r {own:Own} {w:World} {τ:Ty} {u:Value} {x:τ.D} (h:Jab own w τ u x):JeA own w τ u x:=by
 cases τ with
 | sl e=>exact (Jab.sl.1 h).q
 | str=>exact h
 | _=>trivial
def Frz (σ:S) (fr:List (Nat×Entry)):Prop:=
 ∀p∈fr,∃ver τ xs,σ.mem p.1= .own ver τ xs .full∧p.2= .own ver τ xs .tail
def Jie (own:Own) (w:World) (β:Jai) (mem:Nat→Entry) (fr:List (Nat×Entry)) (own1:Own):Prop:=
 Keeps own own1 w w∧∀s ver e xs,mem s= .own ver e xs .full→(s,Entry.own ver e xs .tail)∈fr→Jab own1 w (.sl e) (β s) xs
def Jch (own:Own) (w:World) (β:Jai) (mem:Nat→Entry) (fr:List (Nat×Entry)) (τ:Ty) (u:Value) (x:τ.D):Prop:=
 ∀own1,Jie own w β mem fr own1→Jab own1 w τ u x
theorem Jch.of {own:Own} {w:World} {β:Jai} {mem:Nat→Entry} {fr:List (Nat×Entry)} {τ:Ty} {u:Value} {x:τ.D} (h:Jab own w τ u x):Jch own w β mem fr τ u x:=fun _ h1=>h.keeps h1.1
theorem Jch.mono {own:Own} {w:World} {β:Jai} {mem:Nat→Entry} {fr fr':List (Nat×Entry)} {τ:Ty} {u:Value} {x:τ.D} (h:Jch own w β mem fr τ u x) (hs:∀p∈fr,p∈fr'):
 Jch own w β mem fr' τ u x:=fun own1 h1=>h own1 ⟨h1.1,fun s ver e xs e1 e2=>h1.2 s ver e xs e1 (hs _ e2)⟩
theorem Frz.append {fr fr':List (Nat×Entry)} (h:Frz σ fr) (h':Frz σ fr'):Frz σ (fr++fr'):=fun p hp=>by
 rcases List.mem_append.1 hp with hp | hp
 · exact h p hp
 · exact h' p hp
theorem JlP (h:St N Z own β σ a w) {α:Type}:∀{v:V} {τ:Ty} {u:Value} (_:Jac own w β σ.mem v u) {k:τ.D→List (Nat×Entry)→M α} {r:α×S}
 (_:(asD τ v k).run σ=some r),∃x fr,Frz σ fr∧(k x fr).run σ=some r∧(τ.isVal=true→Jch own w β σ.mem fr τ u x∧JeA own w τ u x) ∧
  ∀us,u= .tuple (List.toArray us)→Jbm τ us→∀own1,Jie own w β σ.mem fr own1→Jag own1 w τ (us.flatMap fun u=>u.cells.toList) x:=by
 intro v
 have noC:∀{τ:Ty} {us:List Value},τ.isVal=true→Jbm τ us→False:=by
  intro τ us h1 h2;cases τ<;>first | (cases us<;>exact h2) | cases h1
 induction v with
 | val τ' x=>
  intro τ u hv k r hr;simp only[asD] at hr;split at hr
  · rename_i y hy
    obtain⟨e,hy⟩:=cast?_some hy;subst e;have hy:x=y:=hy;subst hy;have hV:Jab own w τ' u x:=hv;exact⟨x,[],by simp[Frz],hr,fun _=>⟨.of hV,hV.r⟩,fun us _ h2=>(noC hV.1 h2).elim⟩
  · cases hr
 | nil=>
  intro τ u hv k r hr;cases τ with
  | sl e=>
   have hv:u= .slice none 0 0:=hv
   have h1:Jab own w (.sl e) u ([]:List e.D):=by
    rw[hv];exact Jab.sl.2 ⟨none,0,rfl,Nat.le_refl _,by omega,Nat.zero_le _,.inl rfl⟩
   exact⟨_,[],by simp[Frz],hr,fun _=>⟨.of h1,h1.r⟩,fun us _ h2=>(noC rfl h2).elim⟩
  | _=>cases hr
 | ref s ver=>
  intro τ u hv k r hr;simp only[asD,M.run] at hr;split at hr
  · rename_i ver' τe xs m hm
    cases hmp:m.noRd with
    | true=>rw[hmp] at hr;cases hr
    | false=>
    rw[hmp,cond_false] at hr;split at hr
    · rename_i e;subst e
      split at hr
      · rename_i y hy
        obtain⟨e,hy⟩:=cast?_some hy;subst e;have hy:xs=y:=hy;subst hy;obtain⟨hv1,hv2⟩:=hv;have hu:=hv2 τe xs m hm;have hE:=h.mems s;rw[hm] at hE;obtain⟨ad,cap,e1,e2,e3,e4,e5⟩:=Jaj.row (Mode.noRd_mp hmp) hE
        have hR:JeA own w (.sl τe) u xs:=by
         refine⟨ad,cap,m.owner s,hu.trans e1,e2,e3,e4,e5.imp (·.1) fun ⟨b,o,e6,e7,_⟩=>⟨b,o,e6,e7⟩⟩
        have hV:m.owner s=none→Jab own w (.sl τe) u xs:=fun hq=>by
         rw[hu,e1];exact JaX.frozen e2 e3 e4 (e5.imp (·.1) fun ⟨b,o,e6,e7,_⟩=>⟨b,o,e6,hq▸e7⟩)
        have noc:∀fr:List (Nat×Entry),∀us,u= .tuple (List.toArray us)→Jbm (.sl τe) us→∀own1,Jie own w β σ.mem fr own1→Jag own1 w (.sl τe) (us.flatMap fun u=>u.cells.toList) xs:=
         fun fr us _ h2=>(noC rfl h2).elim
        cases m with
        | full=>
         refine⟨xs,_,?_,hr,fun _=>⟨?_,hR⟩,noc _⟩
         · intro p hp
           rw[List.mem_singleton] at hp;subst hp;exact⟨ver,τe,xs,hm,rfl⟩
         · intro own1 h1
           rw[hu];exact h1.2 s ver τe xs hm (List.mem_singleton.2 rfl)
        | tail=>exact⟨xs,[],by simp[Frz],hr,fun _=>⟨.of (hV rfl),hR⟩,noc _⟩
        | view=>exact⟨xs,[],by simp[Frz],hr,fun _=>⟨.of (hV rfl),hR⟩,noc _⟩
        | mp=>cases hmp
        | bg=>cases hmp
        | it b=>cases hmp
        | gb l=>cases hmp
      · cases hr
    · cases hr
  · cases hr
 | agg b t ih=>
  intro τ u hv k r hr;cases τ with
  | st b'=>
   simp only[asD] at hr;split at hr
   · rename_i e;subst e
     obtain⟨us,e1,e2,e3⟩:=hv;obtain⟨x,fr,f1,f2,_,f4⟩:=ih e3 hr;refine⟨x,fr,f1,f2,fun _=>⟨fun own1 h1=>?_,trivial⟩,fun us _ h2=>(noC rfl h2).elim⟩;rw[e1];exact (Jab.agg rfl).2 ⟨_,rfl,f4 us rfl e2 own1 h1⟩
   · cases hr
  | _=>cases hr
 | tnil=>
  intro τ u hv k r hr;cases τ with
  | unit=>
   refine⟨(),[],by simp[Frz],hr,fun h=>(by cases h),fun us e1 e2 own1 h1=>?_⟩;cases us with
   | nil=>rfl
   | cons=>exact e2.elim
  | _=>cases hr
 | tcons v t ihv iht=>
  intro τ u hv k r hr;cases τ with
  | pair a0 r0=>
   obtain⟨u0,us0,e1,e2,e3⟩:=hv;obtain⟨x,fr,f1,f2,f3,_⟩:=ihv e2 hr;obtain⟨y,fr',g1,g2,_,g4⟩:=iht e3 f2;refine⟨(x,y),fr++fr',f1.append g1,g2,fun h=>(by cases h),fun us q1 q2 own1 h1=>?_⟩;rw[e1] at q1;have q1:u0::us0=us:=by simpa using q1
   subst q1;have h1a:Jie own w β σ.mem fr own1:=⟨h1.1,fun s ver e xs p1 p2=>h1.2 s ver e xs p1 (List.mem_append_left _ p2)⟩;have h1b:Jie own w β σ.mem fr' own1:=⟨h1.1,fun s ver e xs p1 p2=>h1.2 s ver e xs p1 (List.mem_append_right _ p2)⟩;exact⟨_,_,by rw[List.flatMap_cons],((f3 q2.1.1).1 own1 h1a).cells,g4 us0 rfl q2.2 own1 h1b⟩
  | _=>cases hr
 | _=>
  intro τ u hv k r hr;simp only[asD,M.run] at hr;cases hr
theorem JbK (h:St N Z own β σ a w) {α:Type} {τ:Ty} {v:V} {u:Value} (hv:Jac own w β σ.mem v u) {k:τ.D→List (Nat×Entry)→M α} {r:α×S}
 (hr:(asD τ v k).run σ=some r) (hτ:τ.isVal=true:=by rfl):∃x fr,Frz σ fr∧Jch own w β σ.mem fr τ u x∧JeA own w τ u x∧(k x fr).run σ=some r:=by
 obtain⟨x,fr,f1,f2,f3,_⟩:=JlP h hv hr;exact⟨x,fr,f1,(f3 hτ).1,(f3 hτ).2,f2⟩
theorem JdP (h:St N Z own β σ a w) {α:Type} {τ:Ty} {v:V} {u:Value} (hv:Jac own w β σ.mem v u) {k:τ.D→M α} {r:α×S}
 (hr:(JfO τ v k).run σ=some r) (hτ:τ.isVal=true:=by rfl):∃x,JeA own w τ u x∧(k x).run σ=some r:=by
 obtain⟨x,fr,_,_,h1,h2⟩:=JbK h hv hr hτ;exact⟨x,h1,h2⟩
def Jaz (σ:S):List (Nat×Entry)→S
 | []=>σ
 | p::r=>Jaz (σ.set p.1 p.2) r
theorem Jkj (fr:List (Nat×Entry)):∀σ:S,(Jaz σ fr).slots=σ.slots:=by
 induction fr with
 | nil=>intro σ;rfl
 | cons p r ih=>intro σ;exact ih _
theorem Jb6 {β:Type} (b:β) (l l':Ws β):∀σ:S,Jaw σ b (l++l')=Jaw (Jaw σ b l) b l':=by
 induction l with
 | nil=>intro σ;rfl
 | cons p r ih=>intro σ;exact ih _
theorem JaD {β:Type} (b:β) (fr:List (Nat×Entry)):∀σ:S,Jaw σ b (JaV fr)=Jaz σ fr:=by
 induction fr with
 | nil=>intro σ;rfl
 | cons p r ih=>intro σ;exact ih _
def JbL (own:Own) (b o n:Nat):Own:=fun b' o'=>if b'=b∧o≤o'∧o'<o+n then none else own b' o'
theorem St.freeze1 (h:St N Z own β σ a w) {s ver:Nat} {τ:Ty} {xs:List τ.D} (hm:σ.mem s= .own ver τ xs .full):
 ∃own',St N Z own' β (σ.set s (.own ver τ xs .tail)) a w∧Keeps own own' w w∧Jab own' w (.sl τ) (β s) xs:=by
 have hE:=h.mems s;rw[hm] at hE;obtain⟨ad,cap,e1,e2,e3,e4,e5⟩:=hE
 have hevo:∀s',Evo β β s' (σ.mem s') ((σ.set s (.own ver τ xs .tail)).mem s'):=by
  intro s';show Evo β β s' (σ.mem s') (upd σ.mem s _ s');rw[Jad];split
  · rename_i e;subst e;rw[hm];exact Evo.setOwn rfl rfl
  · exact Evo.same _ rfl
 rcases e5 with ⟨e6,e7⟩ | ⟨b,o,e6,e7,_,e9⟩
 · refine⟨own,h.go (Frm.refl _ _ _) (fun _ _ _ _=>rfl) (Keeps.refl _ _) hevo rfl ?_ (JaO rfl fun _ _=>Jah.refl _ _ _),Keeps.refl _ _,?_⟩
   · intro s'
     show Jaj Z own w β s' (upd σ.mem s _ s');rw[Jad];split
     · rename_i e;subst e;exact⟨ad,cap,e1,e2,e3,e4,.inl ⟨e6,fun _=>e7 rfl⟩⟩
     · exact h.mems s'
   · rw[e1];exact JaX.frozen e2 e3 e4 (.inl e6)
 ·
  have hown:∀b' o',(b'=b∧o≤o'∧o'<o+xs.length*τ.size)→own b' o'=some s:=by
   rintro b' o' ⟨rfl,h1,h2⟩
   have:o'<o+cap*τ.size:=by
    have:=Nat.mul_le_mul_right τ.size e2;omega
   exact (e9 o' h1 this).1
  have hk:Keeps own (JbL own b o (xs.length*τ.size)) w w:=by
   suffices hk0:∀b' o',own b' o'=none→JbL own b o (xs.length*τ.size) b' o'=none from ⟨fun b' o' v h1 h2=>⟨hk0 _ _ h1,h2⟩,fun r es c h1 h2=>⟨hk0 _ _ h1,h2⟩⟩
   intro b' o' h1;unfold JbL;split
   · rfl
   · exact h1
  have hrow:JaX (JbL own b o (xs.length*τ.size)) w none τ b o xs:=by
   intro i hi;obtain⟨es,h1,h2,h3⟩:=e7 i hi;refine⟨es,h1,fun j v hj=>⟨?_,(h2 j v hj).2⟩,h3.keeps hk⟩;unfold JbL;rw[if_pos];have hj':j<es.length:=(List.getElem?_eq_some_iff.1 hj).1;have:i*τ.size+τ.size≤xs.length*τ.size:=by rw[←Nat.succ_mul];exact Nat.mul_le_mul_right _ hi
   exact⟨rfl,by omega,by omega⟩
  have hks:∀s',s'≠s→Jah s' own (JbL own b o (xs.length*τ.size)) w w:=by
   intro s' hs'
   have keep:∀b' o',own b' o'=some s'→JbL own b o (xs.length*τ.size) b' o'=some s':=by
    intro b' o' h1;unfold JbL;split
    · rename_i hc;rw[hown b' o' hc] at h1;cases h1;exact absurd rfl hs'
    · exact h1
   exact⟨fun b' o' v h1 h2=>⟨keep _ _ h1,h2,rfl⟩,fun r es c h1 h2=>⟨keep _ _ h1,h2⟩⟩
  refine⟨JbL own b o (xs.length*τ.size),h.go (Frm.refl _ _ _) ?_ hk hevo rfl ?_ (JaO rfl hks),hk,?_⟩
  · intro b' o' hlt hio
    unfold JbL;split
    · rename_i hc;obtain⟨rfl,h1,h2⟩:=hc
      have h3:o'<o+cap*τ.size:=by
       have:=Nat.mul_le_mul_right τ.size e2;omega
      rcases (e9 o' h1 h3).2.1 with h4 | h4
      · omega
      · exact absurd h4 hio
    · rfl
  · intro s'
    show Jaj Z _ w β s' (upd σ.mem s _ s');rw[Jad];split
    · rename_i e;subst e
      refine⟨ad,cap,e1,e2,e3,e4,.inr ⟨b,o,e6,hrow,?_⟩⟩;intro j h1 h2;obtain⟨h3,hw,h4,h5⟩:=e9 j (by omega) h2;refine⟨?_,hw,h4,h5⟩;unfold JbL;rw[if_neg (by omega)];exact h3
    · rename_i e;exact (h.mems s').keeps hk (hks s' e) (fun _ _ e=>e) rfl
  · rw[e1];exact JaX.frozen e2 e3 e4 (.inr ⟨b,o,e6,hrow⟩)
theorem St.freezes:∀(fr:List (Nat×Entry)) {own:Own} {σ:S} (_:St N Z own β σ a w)
 (_:∀p∈fr,∃ver τ xs,(σ.mem p.1= .own ver τ xs .full∨σ.mem p.1= .own ver τ xs .tail)∧p.2= .own ver τ xs .tail),
 ∃own',St N Z own' β (Jaz σ fr) a w∧Keeps own own' w w ∧
  (∀s ver τ xs,(σ.mem s= .own ver τ xs .full∨σ.mem s= .own ver τ xs .tail)→(s,Entry.own ver τ xs .tail)∈fr→Jab own' w (.sl τ) (β s) xs)
 | [],own,σ,h,_=>⟨own,h,Keeps.refl _ _,fun _ _ _ _ _ hm=>by cases hm⟩
 | p::fr,own,σ,h,hf=>by
  obtain⟨ver,τ,xs,h1,h2⟩:=hf p (by simp)
  have step:∃own1,St N Z own1 β (σ.set p.1 p.2) a w∧Keeps own own1 w w∧Jab own1 w (.sl τ) (β p.1) xs:=by
   rw[h2];rcases h1 with h1 | h1
   · exact h.freeze1 h1
   · refine⟨own,?_,Keeps.refl _ _,?_⟩
     · refine h.go (Frm.refl _ _ _) (fun _ _ _ _=>rfl) (Keeps.refl _ _) ?_ rfl ?_ (JaO rfl fun _ _=>Jah.refl _ _ _)
       · intro s'
         show Evo β β s' (σ.mem s') (upd σ.mem p.1 _ s');rw[Jad];split
         · rename_i e;subst e;rw[h1];exact Evo.same _ rfl
         · exact Evo.same _ rfl
       · intro s'
         show Jaj Z own w β s' (upd σ.mem p.1 _ s');rw[Jad];split
         · rename_i e;subst e;rw[←h1];exact h.mems _
         · exact h.mems s'
     · have hE:=h.mems p.1
       rw[h1] at hE;obtain⟨ad,cap,e1,e2,e3,e4,e5⟩:=hE;rw[e1];exact JaX.frozen e2 e3 e4 (e5.imp (·.1) fun ⟨b,o,e6,e7,_⟩=>⟨b,o,e6,e7⟩)
  obtain⟨own1,s1,k1,v1⟩:=step;have hmem:∀s,(σ.set p.1 p.2).mem s=if s=p.1 then p.2 else σ.mem s:=fun s=>Jad _ _ _ _
  have hf':∀q∈fr,∃ver τ xs,((σ.set p.1 p.2).mem q.1= .own ver τ xs .full∨(σ.set p.1 p.2).mem q.1= .own ver τ xs .tail)∧q.2= .own ver τ xs .tail:=by
   intro q hq;obtain⟨ver',τ',xs',h3,h4⟩:=hf q (by simp[hq]);refine⟨ver',τ',xs',?_,h4⟩;rw[hmem];split
   · rename_i e
     rw[e] at h3
     right
     rw[h2];rcases h1 with h1 | h1<;>rcases h3 with h3 | h3<;>rw[h1] at h3<;>cases h3<;>rfl
   · exact h3
  obtain⟨own2,s2,k2,v2⟩:=St.freezes fr s1 hf';refine⟨own2,s2,k1.trans k2,?_⟩;intro s ver' τ' xs' h3 h4;rcases List.mem_cons.1 h4 with h5 | h5
  · rw[←h5] at h2
    cases h2;rw[←h5] at v1;exact v1.keeps k2
  · refine v2 s ver' τ' xs' ?_ h5
    rw[hmem];split
    · rename_i e
      subst e
      right
      rw[h2];rcases h1 with h1 | h1<;>rcases h3 with h3 | h3<;>rw[h1] at h3<;>cases h3<;>rfl
    · exact h3
theorem St.freeze (h:St N Z own β σ a w) {fr:List (Nat×Entry)} (hf:Frz σ fr):
 ∃own',St N Z own' β (Jaz σ fr) a w∧Keeps own own' w w∧∀τ u x,Jch own w β σ.mem fr τ u x→Jab own' w τ u x:=by
 obtain⟨own',h1,h2,h3⟩:=h.freezes fr (fun p hp=>let ⟨ver,τ,xs,e1,e2⟩:=hf p hp;⟨ver,τ,xs,.inl e1,e2⟩)
 exact⟨own',h1,h2,fun τ u x hA=>hA own' ⟨h2,fun s ver e xs e1 e2=>h3 s ver e xs (.inl e1) e2⟩⟩
theorem Ja9:∀(fr:List (Nat×Entry)) {σ:S} {s:Nat},(∀p∈fr,p.1≠s)→(Jaz σ fr).mem s=σ.mem s
 | [],_,_,_=>rfl
 | p::fr,σ,s,h=>by
  show (Jaz (σ.set p.1 p.2) fr).mem s=_;rw[Ja9 fr (fun q hq=>h q (by simp[hq]))];show upd σ.mem p.1 p.2 s=_;rw[Jad,if_neg (fun e=>h p (by simp) e.symm)]
theorem Jif {fr:List (Nat×Entry)} (hf:Frz σ fr) {s ver:Nat} {τ:Ty} {x:τ.D} (h:σ.mem s= .box ver τ x):(Jaz σ fr).mem s= .box ver τ x:=by
 rw[Ja9 fr,h];intro p hp e;obtain⟨_,_,_,h1,_⟩:=hf p hp;rw[e,h] at h1;cases h1
theorem JdQ:∀(fr:List (Nat×Entry)) {σ:S},(∀p∈fr,∃ver τ xs,(σ.mem p.1= .own ver τ xs .full∨σ.mem p.1= .own ver τ xs .tail)∧p.2= .own ver τ xs .tail) →
 ∀s,nextVer ((Jaz σ fr).mem s)=nextVer (σ.mem s)
 | [],_,_,_=>rfl
 | p::fr,σ,h,s=>by
  obtain⟨ver,τ,xs,h1,h2⟩:=h p (by simp);have hmem:∀s,(σ.set p.1 p.2).mem s=if s=p.1 then p.2 else σ.mem s:=fun s=>Jad _ _ _ _
  show nextVer ((Jaz (σ.set p.1 p.2) fr).mem s)=_;rw[JdQ fr,hmem]
  · split
    · rename_i e;subst e;rw[h2]
      rcases h1 with h1 | h1<;>rw[h1]<;>rfl
    · rfl
  · intro q hq
    obtain⟨ver',τ',xs',h3,h4⟩:=h q (by simp[hq]);refine⟨ver',τ',xs',?_,h4⟩;rw[hmem];split
    · rename_i e
      rw[e] at h3
      right
      rw[h2];rcases h1 with h1 | h1<;>rcases h3 with h3 | h3<;>rw[h1] at h3<;>cases h3<;>rfl
    · exact h3
theorem Frz.weak {fr:List (Nat×Entry)} (h:Frz σ fr):∀p∈fr,∃ver τ xs,(σ.mem p.1= .own ver τ xs .full∨σ.mem p.1= .own ver τ xs .tail)∧p.2= .own ver τ xs .tail:=
 fun p hp=>let ⟨ver,τ,xs,e1,e2⟩:=h p hp;⟨ver,τ,xs,.inl e1,e2⟩
end
end Go.Re
namespace Go.Re
set_option linter.unusedVariables false
set_option linter.unusedSimpArgs false
open Go.RowKit (Below)
theorem JdJ (n:Int):IntKind.u8.wrap n=n%256:=by simp[IntKind.wrap,IntKind.bits,IntKind.signed]
theorem Jc7 (n:Int):IntKind.u16.wrap n=n%65536:=by simp[IntKind.wrap,IntKind.bits,IntKind.signed]
theorem Jc8 (n:Int):IntKind.u32.wrap n=n%4294967296:=by simp[IntKind.wrap,IntKind.bits,IntKind.signed]
theorem Jc9 (n:Int):IntKind.u64.wrap n=n%18446744073709551616:=by simp[IntKind.wrap,IntKind.bits,IntKind.signed]
theorem Jig (n:Int):w64 n=if n%18446744073709551616≥9223372036854775808 then n%18446744073709551616-18446744073709551616 else n%18446744073709551616:=by
 unfold w64 IntKind.wrap;simp[IntKind.bits,IntKind.signed]
theorem JdR (n:Int): -9223372036854775808≤w64 n∧w64 n<9223372036854775808:=by rw[Jig];split<;>omega
theorem w64_in {n:Int} (h: -9223372036854775808≤n) (h':n<9223372036854775808):w64 n=n:=by rw[Jig];split<;>omega
theorem JkU (n:Int):w32 n=if n%4294967296≥2147483648 then n%4294967296-4294967296 else n%4294967296:=by
 unfold w32 IntKind.wrap;simp[IntKind.bits,IntKind.signed]
theorem JkV (n:Int): -2147483648≤w32 n∧w32 n<2147483648:=by rw[JkU];split<;>omega
theorem Jnr {n:Int} (h: -2147483648≤n) (h':n<2147483648):w32 n=n:=by rw[JkU];split<;>omega
theorem JfD {n:Nat} (x:BitVec n):BitVec.ofInt n (x.toNat:Int)=x:=by
 apply BitVec.eq_of_toNat_eq;simp
section
variable {P:Program} {w:World}
theorem JkW {k:IntKind} {x:IntT k} (h:okI k x):k.wrap (toI k x)=toI k x:=by
 cases k with
 | u8=>have:=BitVec.isLt (show BitVec 8 from x);rw[JdJ];simp only[toI];omega
 | u16=>have:=BitVec.isLt (show BitVec 16 from x);rw[Jc7];simp only[toI];omega
 | u32=>have:=BitVec.isLt (show BitVec 32 from x);rw[Jc8];simp only[toI];omega
 | u64=>have:=BitVec.isLt (show BitVec 64 from x);rw[Jc9];simp only[toI];omega
 | i64=>exact w64_in h.1 h.2
 | i32=>exact Jnr h.1 h.2
 | _=>exact h.elim
theorem JlQ (x y:Nat):(x:Int).tdiv (y:Int)=((x/y:Nat):Int):=by simp
theorem JlR (x y:Nat):(x:Int).tmod (y:Int)=((x%y:Nat):Int):=by rw[Int.tmod_eq_emod_of_nonneg (by omega)];simp
theorem JeB {n:Nat} {k:IntKind} (hk:∀m:Int,k.wrap m=m%((2^n:Nat):Int)) (hb:k.bits=n) {op:BinOp} {x y z:BitVec n} (h:arith.un n op x y=some z) (t:TypeId):
 (binOp op t (.int k (x.toNat:Int)) (.int k (y.toNat:Int))).run P w= .ok (.int k (z.toNat:Int)) w:=by
 have hx:=x.isLt;have hy:=y.isLt;subst hb;cases op<;>simp only[arith.un,Option.some.injEq,reduceCtorEq] at h
 case add=>subst h;simp only[binOp_add,Op.intArith,Sem.run_pure,hk];congr 2
 case sub=>
  subst h;simp only[binOp_sub,Op.intArith,Sem.run_pure,hk];congr 2;rw[BitVec.toNat_sub]
  have e:((2^k.bits-y.toNat+x.toNat:Nat):Int)=((x.toNat:Int)-(y.toNat:Int))+((2^k.bits:Nat):Int):=by
   have:=Nat.le_of_lt hy;omega
  rw[Int.natCast_emod,e];exact (Int.add_emod_right _ _).symm
 case mul=>subst h;simp only[binOp_mul,Op.intArith,Sem.run_pure,hk];congr 2
 case quo=>
  by_cases h0:y=0
  · subst h0;simp at h
  · have:(y==0)=false:=beq_eq_false_iff_ne.2 h0
    rw[this] at h;simp at h;subst h
    have hy0:(y.toNat:Int)≠0:=by
     intro e;apply h0;apply BitVec.eq_of_toNat_eq;simp;omega
    simp only[binOp_quo,Op.intDiv,if_neg hy0,Sem.run_pure,hk]
    congr 2
    rw[JlQ,BitVec.toNat_udiv,←Int.natCast_emod]
    congr 1
    exact Nat.mod_eq_of_lt (Nat.lt_of_le_of_lt (Nat.div_le_self _ _) hx)
 case rem=>
  by_cases h0:y=0
  · subst h0;simp at h
  · have:(y==0)=false:=beq_eq_false_iff_ne.2 h0
    rw[this] at h;simp at h;subst h
    have hy0:(y.toNat:Int)≠0:=by
     intro e;apply h0;apply BitVec.eq_of_toNat_eq;simp;omega
    simp only[binOp_rem,Op.intDiv,if_neg hy0,Sem.run_pure];rw[JlR,BitVec.toNat_umod]
 all_goals
  subst h;simp only[binOp_and,binOp_or,binOp_xor,binOp_andNot,Op.intBits,Sem.run_pure,hk,JfD]
  congr 2
  rw[←Int.natCast_emod]
  congr 1
  exact Nat.mod_eq_of_lt (BitVec.isLt _)
theorem JgR (r:BitVec 64):IntKind.i64.wrap (r.toNat:Int)=r.toInt:=by
 have:=r.isLt;show w64 _=_;rw[Jig,BitVec.toInt_eq_toNat_cond];split<;>split<;>omega
theorem Jjb (r:BitVec 64): -9223372036854775808≤r.toInt∧r.toInt<9223372036854775808:=by
 have h1:=BitVec.le_toInt r;have h2:=BitVec.toInt_lt (x:=r);omega
theorem Jkk {x y:Int} (h1: -9223372036854775808≤x) (h2:x<9223372036854775808): -9223372036854775808≤x.tmod y∧x.tmod y<9223372036854775808:=by
 have h3:(x.tmod y).natAbs≤x.natAbs:=by
  rw[Int.natAbs_tmod];exact Nat.mod_le _ _
 by_cases h4:0≤x
 · have:=Int.tmod_nonneg y h4;omega
 · have h5:=Int.tmod_nonneg (a:=-x) y (by omega)
   rw[Int.neg_tmod] at h5;omega
theorem arith_ok {op:BinOp} {k:IntKind} {x y z:IntT k} (hx:okI k x) (hy:okI k y) (h:arith op k x y=some z) (t:TypeId):
 (binOp op t (.int k (toI k x)) (.int k (toI k y))).run P w= .ok (.int k (toI k z)) w∧okI k z:=by
 cases k with
 | u8=>exact⟨JeB (n:=8) (k:=.u8) (fun m=>JdJ m) rfl h t,trivial⟩
 | u16=>exact⟨JeB (n:=16) (k:=.u16) (fun m=>Jc7 m) rfl h t,trivial⟩
 | u32=>exact⟨JeB (n:=32) (k:=.u32) (fun m=>Jc8 m) rfl h t,trivial⟩
 | u64=>exact⟨JeB (n:=64) (k:=.u64) (fun m=>Jc9 m) rfl h t,trivial⟩
 | i64=>
  have hx:(-9223372036854775808:Int)≤x∧x<9223372036854775808:=hx;have hy:(-9223372036854775808:Int)≤y∧y<9223372036854775808:=hy;cases op<;>simp only[arith,Option.some.injEq,reduceCtorEq] at h
  case add=>subst h;exact⟨by simp only[binOp_add,Op.intArith,toI];rfl,JdR _⟩
  case sub=>subst h;exact⟨by simp only[binOp_sub,Op.intArith,toI];rfl,JdR _⟩
  case mul=>subst h;exact⟨by simp only[binOp_mul,Op.intArith,toI];rfl,JdR _⟩
  case quo=>
   by_cases h0:y=(0:Int)
   · subst h0;simp at h
   · have:(y==(0:Int))=false:=beq_eq_false_iff_ne.2 h0
     rw[this] at h;simp at h;subst h;exact⟨by simp only[binOp_quo,Op.intDiv,toI];rw[if_neg h0];rfl,JdR _⟩
  case rem=>
   by_cases h0:y=(0:Int)
   · subst h0;simp at h
   · have:(y==(0:Int))=false:=beq_eq_false_iff_ne.2 h0
     rw[this] at h;simp at h;subst h;refine⟨by simp only[binOp_rem,Op.intDiv,toI];rw[if_neg h0];rfl,?_⟩;show (-9223372036854775808:Int)≤Int.tmod x y∧Int.tmod x y<9223372036854775808;exact Jkk hx.1 hx.2
  all_goals
   subst h;refine⟨?_,?_⟩
   · simp only[binOp_and,binOp_or,binOp_xor,binOp_andNot,Op.intBits,toI,Sem.run_pure]
     congr 2
     exact JgR _
   · exact Jjb _
 | i8=>exact hx.elim
 | i16=>exact hx.elim
 | i32=>first | cases h | exact hx.elim
theorem Jgk {n:Nat} {k:IntKind} {op:BinOp} {x y:BitVec n} {z:Bool} (h:cmp.un n op x y=some z) (t:TypeId):
 (binOp op t (.int k (x.toNat:Int)) (.int k (y.toNat:Int))).run P w= .ok (.bool z) w:=by
 have he:((x.toNat:Int)=(y.toNat:Int))↔x=y:=⟨fun e=>BitVec.eq_of_toNat_eq (by omega),fun e=>by rw[e]⟩;have hl:((x.toNat:Int)<(y.toNat:Int))↔x<y:=by rw[BitVec.lt_def];omega
 have hl':((y.toNat:Int)<(x.toNat:Int))↔y<x:=by rw[BitVec.lt_def];omega
 have hle:((x.toNat:Int)≤(y.toNat:Int))↔x≤y:=by rw[BitVec.le_def];omega
 have hle':((y.toNat:Int)≤(x.toNat:Int))↔y≤x:=by rw[BitVec.le_def];omega
 cases op<;>simp only[cmp.un,Option.some.injEq,reduceCtorEq] at h<;>subst h
 case eql=>simp only[binOp_eql,Sem.run_pure];congr 2;rw[Bool.eq_iff_iff];simp only[beq_iff_eq,decide_eq_true_eq];exact he
 case neq=>simp only[binOp_neq,Sem.run_pure];congr 2;rw[Bool.eq_iff_iff];simp only[bne_iff_ne,ne_eq,Bool.not_eq_true',decide_eq_false_iff_not];exact not_congr he
 case lss=>simp only[binOp_lss,Sem.run_pure];congr 2;rw[Bool.eq_iff_iff];simp only[decide_eq_true_eq];exact hl
 case leq=>simp only[binOp_leq,Sem.run_pure];congr 2;rw[Bool.eq_iff_iff];simp only[decide_eq_true_eq];exact hle
 case gtr=>simp only[binOp_gtr,Sem.run_pure];congr 2;rw[Bool.eq_iff_iff];simp only[decide_eq_true_eq];exact hl'
 case geq=>simp only[binOp_geq,Sem.run_pure];congr 2;rw[Bool.eq_iff_iff];simp only[decide_eq_true_eq];exact hle'
theorem Jns {op:BinOp} {k:IntKind} {x y:IntT k} {z:Bool} (h:cmp op k x y=some z) (t:TypeId):
 (binOp op t (.int k (toI k x)) (.int k (toI k y))).run P w= .ok (.bool z) w:=by
 cases k with
 | u8=>exact Jgk (n:=8) h t
 | u16=>exact Jgk (n:=16) h t
 | u32=>exact Jgk (n:=32) h t
 | u64=>exact Jgk (n:=64) h t
 | i64=>
  have key:∀(x y:Int),cmp.si op x y=some z→(binOp op t (.int .i64 x) (.int .i64 y)).run P w= .ok (.bool z) w:=by
   intro x y h';cases op<;>simp only[cmp.si,Option.some.injEq,reduceCtorEq] at h'<;>subst h'
   case eql=>simp only[binOp_eql,Sem.run_pure];congr 2
   case neq=>simp only[binOp_neq,Sem.run_pure];congr 2
   case lss=>simp only[binOp_lss,Sem.run_pure]
   case leq=>simp only[binOp_leq,Sem.run_pure]
   case gtr=>simp only[binOp_gtr,Sem.run_pure,gt_iff_lt]
   case geq=>simp only[binOp_geq,Sem.run_pure,ge_iff_le]
  exact key x y h
 | i8=>cases h
 | i16=>cases h
 | i32=>cases h
theorem JmM (x n w:Nat) (hw:x<2^w):x*2^(min n w)%2^w=x*2^n%2^w:=by
 rcases Nat.le_total n w with h | h
 · rw[Nat.min_eq_left h]
 · rw[Nat.min_eq_right h]
   have:2^n=2^w*2^(n-w):=by rw[←Nat.pow_add];congr 1;omega
   rw[this,←Nat.mul_assoc,Nat.mul_comm x (2^w),Nat.mul_assoc,Nat.mul_mod_right,Nat.mul_mod_right]
theorem JmN (x n w:Nat) (hw:x<2^w):x/2^(min n w)=x/2^n:=by
 rcases Nat.le_total n w with h | h
 · rw[Nat.min_eq_left h]
 · rw[Nat.min_eq_right h,Nat.div_eq_of_lt hw,Nat.div_eq_of_lt (Nat.lt_of_lt_of_le hw (Nat.pow_le_pow_right (by omega) h))]
theorem JeC {n:Nat} {k:IntKind} (hk:∀m:Int,k.wrap m=m%((2^n:Nat):Int)) (hb:k.bits=n) {op:BinOp} {x z:BitVec n} {y:Int} (h:shift.un n op x y=some z) (t:TypeId) (k':IntKind):
 (binOp op t (.int k (x.toNat:Int)) (.int k' y)).run P w= .ok (.int k (z.toNat:Int)) w:=by
 have hx:=x.isLt;subst hb;cases op<;>simp only[shift.un,reduceCtorEq] at h
 case shl=>
  by_cases h0:0≤y
  · simp only[h0,decide_true,cond_true,Option.some.injEq] at h;subst h
    simp only[binOp_shl,Op.shift,if_neg (Int.not_lt.2 h0),Sem.run_pure,hk]
    congr 2
    rw[BitVec.toNat_shiftLeft,Nat.shiftLeft_eq,Int.natCast_emod,←Int.natCast_emod,←JmM _ _ _ hx]
    push_cast
    rfl
  · simp[h0] at h
 case shr=>
  by_cases h0:0≤y
  · simp only[h0,decide_true,cond_true,Option.some.injEq] at h;subst h
    simp only[binOp_shr,Op.shift,if_neg (Int.not_lt.2 h0),Sem.run_pure]
    congr 2
    rw[BitVec.toNat_ushiftRight,Nat.shiftRight_eq_div_pow,←JmN _ _ _ hx];rw[show (2:Int)^(min y.toNat k.bits)=((2^(min y.toNat k.bits):Nat):Int) by push_cast;rfl];rw[Int.fdiv_eq_ediv_of_nonneg _ (Int.natCast_nonneg _)];rfl
  · simp[h0] at h
theorem Jkl {x:Int} {m:Nat} (hm:0<m) (h1: -9223372036854775808≤x) (h2:x<9223372036854775808): -9223372036854775808≤x.fdiv (m:Int)∧x.fdiv (m:Int)<9223372036854775808:=by
 rw[Int.fdiv_eq_ediv_of_nonneg _ (by omega)];have hm':(0:Int)<m:=by omega
 constructor
 · rw[Int.le_ediv_iff_mul_le hm']
   have:(-9223372036854775808:Int)*m≤-9223372036854775808*1:=by
    apply Int.mul_le_mul_of_nonpos_left<;>omega
   omega
 · apply Int.ediv_lt_of_lt_mul hm'
   have:(9223372036854775808:Int)*1≤9223372036854775808*m:=by
    apply Int.mul_le_mul_of_nonneg_left<;>omega
   omega
theorem JeD {op:BinOp} {k k':IntKind} {x z:IntT k} {y:IntT k'} (hx:okI k x) (h:shift op k x (toI k' y)=some z) (t:TypeId):
 (binOp op t (.int k (toI k x)) (.int k' (toI k' y))).run P w= .ok (.int k (toI k z)) w∧okI k z:=by
 cases k with
 | u8=>exact⟨JeC (n:=8) (k:=.u8) (fun m=>JdJ m) rfl h t k',trivial⟩
 | u16=>exact⟨JeC (n:=16) (k:=.u16) (fun m=>Jc7 m) rfl h t k',trivial⟩
 | u32=>exact⟨JeC (n:=32) (k:=.u32) (fun m=>Jc8 m) rfl h t k',trivial⟩
 | u64=>exact⟨JeC (n:=64) (k:=.u64) (fun m=>Jc9 m) rfl h t k',trivial⟩
 | i64=>
  generalize toI k' y=y at *
  have hx:(-9223372036854775808:Int)≤x∧x<9223372036854775808:=hx;cases op<;>simp only[shift,reduceCtorEq] at h
  case shl=>
   by_cases h0:0≤y
   · simp only[h0,decide_true,cond_true,Option.some.injEq] at h;subst h
     refine⟨?_,JdR _⟩;simp only[binOp_shl,Op.shift,if_neg (Int.not_lt.2 h0),Sem.run_pure,toI];rfl
   · simp[h0] at h
  case shr=>
   by_cases h0:0≤y
   · simp only[h0,decide_true,cond_true,Option.some.injEq] at h;subst h
     refine⟨?_,?_⟩
     · simp only[binOp_shr,Op.shift,if_neg (Int.not_lt.2 h0),Sem.run_pure,toI]
       rfl
     · have:=Jkl (x:=x) (m:=2^min y.toNat 64) (Nat.two_pow_pos _) hx.1 hx.2
       push_cast at this
       exact this
   · simp[h0] at h
 | i8=>exact hx.elim
 | i16=>exact hx.elim
 | i32=>first | cases h | exact hx.elim
theorem Jnt (x:Int):((BitVec.ofInt 8 x).toNat:Int)=x%256:=by rw[BitVec.toNat_ofInt];omega
theorem JmO (x:Int):((BitVec.ofInt 16 x).toNat:Int)=x%65536:=by rw[BitVec.toNat_ofInt];omega
theorem JmP (x:Int):((BitVec.ofInt 32 x).toNat:Int)=x%4294967296:=by rw[BitVec.toNat_ofInt];omega
theorem JmQ (x:Int):((BitVec.ofInt 64 x).toNat:Int)=x%18446744073709551616:=by rw[BitVec.toNat_ofInt];omega
theorem JgS (x:BitVec 8):(-9223372036854775808:Int)≤(x.toNat:Int)∧(x.toNat:Int)<9223372036854775808:=by have:=x.isLt;omega
theorem JfS (x:BitVec 16):(-9223372036854775808:Int)≤(x.toNat:Int)∧(x.toNat:Int)<9223372036854775808:=by have:=x.isLt;omega
theorem JfT (x:BitVec 32):(-9223372036854775808:Int)≤(x.toNat:Int)∧(x.toNat:Int)<9223372036854775808:=by have:=x.isLt;omega
theorem Jih {k k':IntKind} {x:IntT k} {z:IntT k'} (hx:okI k x) (h:JhS k k' x=some z):k'.wrap (toI k x)=toI k' z∧okI k' z:=by
 cases k<;>cases k'<;>simp only[JhS,Option.some.injEq,reduceCtorEq] at h<;>subst h
 case i64.i64=>exact⟨JkW hx,hx⟩
 case u8.i64=>exact⟨w64_in (JgS x).1 (JgS x).2,JgS x⟩
 case u16.i64=>exact⟨w64_in (JfS x).1 (JfS x).2,JfS x⟩
 case u32.i64=>exact⟨w64_in (JfT x).1 (JfT x).2,JfT x⟩
 case u64.i64=>exact⟨rfl,JdR _⟩
 case u64.i32=>exact⟨rfl,JkV _⟩
 case i64.i32=>exact⟨rfl,JkV _⟩
 case i64.u8=>refine⟨?_,trivial⟩;rw[JdJ];exact (Jnt _).symm
 case i64.u16=>refine⟨?_,trivial⟩;rw[Jc7];exact (JmO _).symm
 case i64.u32=>refine⟨?_,trivial⟩;rw[Jc8];exact (JmP _).symm
 case i64.u64=>refine⟨?_,trivial⟩;rw[Jc9];exact (JmQ _).symm
 all_goals
  refine⟨?_,trivial⟩;simp only[JdJ,Jc7,Jc8,Jc9,toI,BitVec.toNat_setWidth]
  first
   | (have:=BitVec.isLt (show BitVec 8 from x);omega)
   | (have:=BitVec.isLt (show BitVec 16 from x);omega)
   | (have:=BitVec.isLt (show BitVec 32 from x);omega)
   | (have:=BitVec.isLt (show BitVec 64 from x);omega)
theorem Jkm (n:Nat):BitVec.ofInt n ((2:Int)^n-1)=BitVec.allOnes n:=by
 apply BitVec.eq_of_toNat_eq;rw[BitVec.toNat_ofInt,BitVec.toNat_allOnes];have:=Nat.two_pow_pos n
 have e:((2:Int)^n-1)=((2^n-1:Nat):Int):=by
  rw[Int.natCast_sub (by omega)];push_cast;rfl
 rw[e,←Int.natCast_emod,Int.toNat_natCast];exact Nat.mod_eq_of_lt (by omega)
theorem Jgl {n:Nat} {k:IntKind} (hk:∀m:Int,k.wrap m=m%((2^n:Nat):Int)) (hb:k.bits=n) (hs:k.signed=false) {op:UnOp} {x z:BitVec n} (h:unI.un n op x=some z):
 (Op.unary op (.int k (x.toNat:Int))).run P w= .ok (.int k (z.toNat:Int)) w:=by
 have hx:=x.isLt;subst hb;cases op<;>simp only[unI.un,Option.some.injEq,reduceCtorEq] at h<;>subst h
 case neg=>
  simp only[Op.unary,Op.intArith,Sem.run_pure,hk];congr 2;rw[BitVec.toNat_sub]
  have e:((2^k.bits-x.toNat+(0:BitVec k.bits).toNat:Nat):Int)=(0-(x.toNat:Int))+((2^k.bits:Nat):Int):=by
   have:=Nat.le_of_lt hx;have e0:(0:BitVec k.bits).toNat=0:=by simp
   omega
  rw[Int.natCast_emod,e];exact (Int.add_emod_right _ _).symm
 case xor=>
  simp only[Op.unary,hs,IntKind.max,Bool.false_eq_true,if_false,Op.intBits,Sem.run_pure,hk,JfD,Jkm]
  congr 2
  rw[←Int.natCast_emod]
  congr 1
  rw[Nat.mod_eq_of_lt (BitVec.isLt _),BitVec.allOnes_xor]
theorem JkX {op:UnOp} {k:IntKind} {x z:IntT k} (hx:okI k x) (h:unI op k x=some z):
 (Op.unary op (.int k (toI k x))).run P w= .ok (.int k (toI k z)) w∧okI k z:=by
 cases k with
 | u8=>exact⟨Jgl (n:=8) (k:=.u8) (fun m=>JdJ m) rfl rfl h,trivial⟩
 | u16=>exact⟨Jgl (n:=16) (k:=.u16) (fun m=>Jc7 m) rfl rfl h,trivial⟩
 | u32=>exact⟨Jgl (n:=32) (k:=.u32) (fun m=>Jc8 m) rfl rfl h,trivial⟩
 | u64=>exact⟨Jgl (n:=64) (k:=.u64) (fun m=>Jc9 m) rfl rfl h,trivial⟩
 | i64=>
  cases op<;>simp only[unI,Option.some.injEq,reduceCtorEq] at h<;>subst h;exact⟨rfl,JdR _⟩
 | i8=>exact hx.elim
 | i16=>exact hx.elim
 | i32=>first | cases h | exact hx.elim
end
end Go.Re
namespace Go.Re
set_option linter.unusedVariables false
set_option linter.unusedSimpArgs false
open Go.RowKit (Below)
def Ty.good:Ty→Bool
 | .int .i8=>false | .int .i16=>false
 | .pair a b=>a.good&&b.good | .st b=>b.good | .sl e=>e.good | .arr _ e=>e.good | .mp k v=>(k.good&&v.good)&&((k.plain&&v.plain)&&(k.isVal&&v.isVal))
 | _=>true
def JbG (ty:Nat→Option Ty):(off:Nat)→List Field→Ty→Prop
 | _,[],.unit=>True
 | off,f::fs,.pair a b=>f.offset=off∧ty f.type=some a∧0<a.size∧JbG ty (off+a.size) fs b
 | _,_,_=>False
def JkY (P:Program) (ty:Nat→Option Ty) (t:Nat):Ty→Prop
 | .bool=>P.underlying t=some .bool
 | .str=>P.underlying t=some .string
 | .int k=>P.underlying t=some (.int k)
 | .sl e=>∃te,P.underlying t=some (.slice te)∧ty te=some e
 | .arr n e=>∃te,P.underlying t=some (.array n te)∧ty te=some e
 | .st b=>∃fs,P.underlying t=some (.struct fs)∧JbG ty 0 fs.toList b
 | .mp k v=>∃tk tv,P.underlying t=some (.map tk tv)∧ty tk=some k∧ty tv=some v
 | _=>False
structure TyOk (P:Program) (ty:Nat→Option Ty) (t:Nat) (τ:Ty):Prop where
 good:τ.good=true
 info:∃i,P.info? t=some i∧i.size=τ.size∧i.bytes≤32768∧i.zero=some (mkV τ (zeroC τ))
 desc:JkY P ty t τ
theorem TyOk.isVal {P:Program} {ty:Nat→Option Ty} {t:Nat} {τ:Ty} (h:TyOk P ty t τ):τ.isVal=true:=by
 have:=h.desc;cases τ<;>first | rfl | exact this.elim
theorem Jat {own:Own} {w:World}:∀{τ:Ty},τ.good=true→Jag own w τ (zeroC τ) τ.zero
 | .bool,_=>rfl
 | .str,_=>⟨⟨#[]⟩,rfl,rfl,Nat.zero_le _⟩
 | .unit,_=>rfl
 | .int k,h=>by cases k<;>first | (simp[Ty.good] at h;done) | exact⟨rfl,trivial⟩ | exact⟨rfl,by simp[okI,Ty.zero]⟩
 | .pair a b,h=>by
  simp only[Ty.good,Bool.and_eq_true] at h;exact⟨_,_,rfl,Jat h.1,Jat h.2⟩
 | .st b,h=>Jat (τ:=b) h
 | .sl e,_=>⟨none,0,rfl,Nat.le_refl _,by omega,Nat.zero_le _,.inl rfl⟩
 | .mp k v,_=>.inl ⟨rfl,rfl⟩
 | .arr n e,h=>by
  have ih:=Jat (own:=own) (w:=w) (τ:=e) h;have hl:=ih.length
  have hfl:∀n,((List.replicate n (zeroC e)).flatten).length=n*e.size:=by
   intro n;simp[List.length_flatten,hl]
  refine⟨by simp[Ty.zero],hfl n,?_⟩;intro i hi;have hi':i<n:=by simpa [Ty.zero] using hi
  have hx:(Ty.zero (.arr n e))[i]=e.zero:=by simp[Ty.zero]
  rw[hx]
  have:List.take e.size (List.drop (i*e.size) (zeroC (.arr n e)))=zeroC e:=by
   show List.take e.size (List.drop (i*e.size) (List.replicate n (zeroC e)).flatten)=zeroC e;have e1:n=i+(1+(n-i-1)):=by omega
   rw[e1,←List.replicate_append_replicate,List.flatten_append,List.drop_append,List.drop_eq_nil_of_le (by rw[hfl];exact Nat.le_refl _),hfl,Nat.sub_self,List.drop_zero,List.nil_append,
    ←List.replicate_append_replicate,List.flatten_append]
   simp[hl.symm]
  rw[this];exact ih
def JaF (r:Nat×Nat×Nat) (b o:Nat):Prop:=b=r.1∧r.2.1≤o∧o<r.2.1+r.2.2
def IoR (own:Own) (w:World) (id:Nat) (reg:Nat×Nat×Nat) (p:Par) (v:Value) (x:p.ty.D):Prop:=
 match p,x with
 | .val τ,x=>Jab own w τ v x∧reg.2.2=0
 | .nils _,_=>v= .slice none 0 0∧reg.2.2=0
 | .pv k,x=>(∀β mem,Jac own w β mem (k.V x) v)∧reg.2.2=0
 | .box τ,x=>τ.isVal=true∧∃b o cs,v= .pointer (some ⟨b,o,none⟩)∧reg=(b,o,τ.size)∧Jag own w τ cs x ∧
  ∀j u,cs[j]?=some u→own b (o+j)=some id∧w.cell? ⟨b,o+j,none⟩=some u∧w.frozen? ⟨b,o+j,none⟩=false
 | .row e,x=>∃a cap,v= .slice a x.length cap∧x.length≤cap∧cap<9223372036854775808∧x.length≤big ∧
  ((a=none∧cap=0∧reg.2.2=0)∨∃b o,a=some ⟨b,o,none⟩∧reg=(b,o,cap*e.size)∧JaX own w (some id) e b o x∧Jc6 w b (o+cap*e.size) ∧
   ∀j,o≤j→j<o+cap*e.size→own b j=some id∧(∃v,w.cell? ⟨b,j,none⟩=some v)∧w.frozen? ⟨b,j,none⟩=false)
 | .take e,x=>∃a cap,v= .slice a x.length cap∧x.length≤cap∧cap<9223372036854775808∧x.length≤big ∧
  ((a=none∧cap=0∧reg.2.2=0)∨∃b o,a=some ⟨b,o,none⟩∧reg=(b,o,cap*e.size)∧JaX own w (some id) e b o x∧Jc6 w b (o+cap*e.size) ∧
   ∀j,o≤j→j<o+cap*e.size→own b j=some id∧(∃v,w.cell? ⟨b,j,none⟩=some v)∧w.frozen? ⟨b,j,none⟩=false)
def JbD (own:Own) (w:World) (ids:Nat→Nat) (regs:Nat→Nat×Nat×Nat):(i:Nat)→(ps:List Par)→List Value→Ds (ps.map Par.ty)→Prop
 | _,[],vs,_=>vs=[]
 | i,[p],vs,x=>∃v,vs=[v]∧IoR own w (ids i) (regs i) p v x
 | i,p::q::r,vs,x=>∃v us,vs=v::us∧IoR own w (ids i) (regs i) p v x.1∧JbD own w ids regs (i+1) (q::r) us x.2
def JaE (own:Own) (w:World) (ids:Nat→Nat) (regs:Nat→Nat×Nat×Nat):(i:Nat)→(ps:List Par)→List Value→Ds (ioTys ps)→Prop
 | _,[],_,_=>True
 | i,.val _::r,vs,y=>JaE own w ids regs (i+1) r vs.tail y
 | i,.nils _::r,vs,y=>JaE own w ids regs (i+1) r vs.tail y
 | i,.pv _::r,vs,y=>JaE own w ids regs (i+1) r vs.tail y
 | i,.box τ::r,vs,y=>IoR own w (ids i) (regs i) (.box τ) (vs.headD undef) (dsH τ (ioTys r) y)∧JaE own w ids regs (i+1) r vs.tail (dsT τ (ioTys r) y)
 | i,.row e::r,vs,y=>IoR own w (ids i) (regs i) (.row e) (vs.headD undef) (dsH (.sl e) (ioTys r) y)∧JaE own w ids regs (i+1) r vs.tail (dsT (.sl e) (ioTys r) y)
 | i,.take _::r,vs,y=>JaE own w ids regs (i+1) r vs.tail y
def Jci (own:Own) (w:World) (B q:Nat) (p:Ty×Mode) (u:Value) (x:p.1.D):Prop:=
 match p,x with
 | (.sl e,.full),x=>∃a cap,u= .slice a x.length cap∧x.length≤cap∧cap<9223372036854775808∧x.length≤big ∧
  ((a=none∧cap=0)∨∃b o,a=some ⟨b,o,none⟩∧(0<cap*e.size→B≤b)∧JaX own w (some q) e b o x∧Jc6 w b (o+cap*e.size) ∧
   ∀j,o≤j→j<o+cap*e.size→own b j=some q∧(∃v,w.cell? ⟨b,j,none⟩=some v)∧w.frozen? ⟨b,j,none⟩=false)
 | (.sl e,.tail),x=>∃a cap,u= .slice a x.length cap∧x.length≤cap∧cap<9223372036854775808∧x.length≤big ∧
  (cap=0∨∃b o,a=some ⟨b,o,none⟩∧JaX own w none e b o x∧(x.length*e.size<cap*e.size→B≤b) ∧
   ∀j,o+x.length*e.size≤j→j<o+cap*e.size→own b j=some q∧(∃v,w.cell? ⟨b,j,none⟩=some v)∧w.frozen? ⟨b,j,none⟩=false)
 | (.sl e,.mp),x=>Jbh B own w q u e x
 | (τ,_),x=>Jab own w τ u x
def JbM (own:Own) (w:World) (B:Nat) (rid:Nat→Nat):(i:Nat)→(ps:List (Ty×Mode))→List Value→Ds (ps.map (·.1))→Prop
 | _,[],us,_=>us=[]
 | i,[p],us,x=>∃u,us=[u]∧Jci own w B (rid i) p u x
 | i,p::p'::r,us,x=>∃u us',us=u::us'∧Jci own w B (rid i) p u x.1∧JbM own w B rid (i+1) (p'::r) us' x.2
def Jdt:List Value→Value
 | [u]=>u
 | us=>.tuple us.toArray
structure FnOk (P:Program) (f:Nat) (F:Fun):Prop where
 fn:∃fn,P.funcs[f]?=some fn∧fn.body.isNone=false∧(fn.name== "runtime.NumGoroutine")=false
 calls:∀(w:World) (own0:Own) (ids rid:Nat→Nat) (regs:Nat→Nat×Nat×Nat) (vs:List Value) (x:Ds (F.args.map Par.ty)) r,JbD own0 w ids regs 0 F.args vs x →
  (∀i j,i≠j→0<(regs i).2.2→0<(regs j).2.2→ids i≠ids j)→F.f x=some r →
  Calls P f vs.toArray w fun e w'=>∃own us,e= .returned (Jdt us)∧Frm w.heap.size (fun b o=>∃i,JaF (regs i) b o) w w' ∧
   (∀b o,b<w.heap.size→(¬∃i,JaF (regs i) b o)→own b o=own0 b o) ∧
   JbM own w' w.heap.size rid 0 F.res us (dsL (F.res.map (·.1)) (ioTys F.args) r)∧JaE own w' ids regs 0 F.args vs (dsR (F.res.map (·.1)) (ioTys F.args) r)
def Jgm (E:Env) (t:Nat):Ty→Prop
 | .st _=>E.eq t=true
 | .arr _ (.int _)=>E.eq t=true
 | .bool=>True | .str=>True | .int _=>True
 | _=>False
structure PeOk (P:Program) (f:Nat) (q:Ty×List Stp×Ty):Prop where
 fn:∃fn,P.funcs[f]?=some fn∧fn.body.isNone=false∧(fn.name== "runtime.NumGoroutine")=false
 calls:∀(w:World) (b o b1 o1 n c i:Nat),w.cell? ⟨b,o+offP (.st q.1) q.2.1,none⟩=some (.slice (some ⟨b1,o1,none⟩) n c)→i<n→n≤big →
  Calls P f #[.pointer (some ⟨b,o,none⟩),.int .i64 ((i:Int)+1)] w fun e w'=>e= .returned (.pointer (some ⟨b1,o1+i*q.2.2.size,none⟩))∧w'=w
structure EnvOk (P:Program) (E:Env):Prop where
 ty:∀t τ,E.ty t=some τ→TyOk P E.ty t τ
 eq:∀t,E.eq t=true→P.eqGuardType P.depth t=false∧P.stoodInHeld t=false ∧
  ∀fs,P.underlying t=some (.struct fs)→∀f∈fs.toList,f.name≠ "_"∧∀τ,E.ty f.type=some τ→Jgm E f.type τ
 fn:∀f F,E.fn f=some F→FnOk P f F
 ptr:∀t,E.ptr t=true→∃d,P.underlying t=some d∧((∃ta,d= .pointer ta)∨∃a b c,d= .func a b c)
 psl:∀t,E.psl t=true→∃te ta i,P.underlying t=some (.slice te)∧P.underlying te=some (.pointer ta)∧P.info? te=some i∧i.size=1∧i.zero=some (.pointer none)
 mixed:P.follows .mixedOrders=true
 pe:∀f q,E.pe f=some q→PeOk P f q
 bd:∀f fn,E.bd f=some fn→P.funcs[f]?=some fn∧fn.body.isNone=false∧(fn.name== "runtime.NumGoroutine")=false
 mpt:∀t K V,E.mpt t=some (K,V)→∃tk tv,P.underlying t=some (.map tk tv)∧E.ty tk=some K∧E.ty tv=some V∧(Jbb K=true→E.eq tk=true)
 parr:∀t n e,E.parr t=some (n,e)→∃ta te,P.underlying t=some (.pointer ta)∧P.underlying ta=some (.array n te)∧E.ty te=some e
def Did (P:Program) (N:Nat) (Z:Base) (o:Oper) (a:Act) (w:World) (σ':S) (v:V):Prop:=
 ∀Q,o.wp P a w (fun a' w'=>∃u,a'=a.put o.dst u∧∃own β,St N Z own β σ' a w'∧Jac own w' β σ'.mem v u) Q
section
variable {P:Program} {E:Env} {N:Nat} {Z:Base} {own:Own} {β:Jai} {σ:S} {a:Act} {w:World} {o:Oper}
theorem Jae {own':Own} {β':Jai} {σ':S} {w':World} {u:Value} {v:V} (hr:(execOp a.eval o).run P w= .ok (.value u) w') (hs:St N Z own' β' σ' a w')
 (hv:Jac own' w' β' σ'.mem v u):Did P N Z o a w σ' v:=by
 intro Q;unfold Oper.wp;rw[hr];exact⟨u,rfl,own',β',hs,hv⟩
theorem Jcj {own':Own} {β':Jai} {σ':S} {w':World} (hr:(execOp a.eval o).run P w= .ok .skip w') (hs:St N Z own' β' σ' a w'):Did P N Z o a w σ' .dead:=by
 intro Q;unfold Oper.wp;rw[hr];exact⟨undef,rfl,own',β',hs,trivial⟩
theorem JnN {s:Sem Value} {u:Value} {w':World} (h:s.run P w= .ok u w'):((do pure (.value (←s)):Sem Next)).run P w= .ok (.value u) w':=by
 simp only[Sem.run_bind,h,Result.andThen_ok];rfl
theorem JeE {s:Sem Unit} {w':World} (h:s.run P w= .ok () w'):((do s;pure .skip:Sem Next)).run P w= .ok .skip w':=by
 simp only[Sem.run_bind,h,Result.andThen_ok];rfl
theorem Jaq {α:Type} {v:α} {r:α×S} (h:(M.ret v).run σ=some r):r=(v,σ):=by
 simp only[M.ret,M.run,Option.map_some,Option.some.injEq,Jaw] at h;exact h.symm
theorem Jal {α β:Type} {x:Option β} {g:β→α} {ws:Ws β} {r:α×S} (h:(M.fin β x g ws).run σ=some r):∃y,x=some y∧r=(g y,Jaw σ y ws):=by
 simp only[M.run] at h;obtain⟨y,h1,h2⟩:=Option.map_eq_some_iff.1 h;exact⟨y,h1,h2.symm⟩
theorem Jap {b:Bool} {y:Unit} (h:chk b=some y):b=true:=by
 unfold chk at h;cases b
 · cases h
 · rfl
theorem TyOk.cells {t:Nat} {τ:Ty} (h:TyOk P E.ty t τ) (w:World):(sizeOf t).run P w= .ok τ.size w:=by
 obtain⟨i,h1,h2,_⟩:=h.info;simp[sizeOf,typeInfo,h1,h2]
theorem TyOk.zeroRun {t:Nat} {τ:Ty} (h:TyOk P E.ty t τ) (w:World):(zeroValue t).run P w= .ok (mkV τ (zeroC τ)) w:=by
 obtain⟨i,h1,h2,_,h3⟩:=h.info;simp[zeroValue,typeInfo,h1,h3]
theorem TyOk.isAggRun {t:Nat} {τ:Ty} (h:TyOk P E.ty t τ) (w:World):(isAgg t).run P w= .ok τ.isAgg w:=by
 have hd:=h.desc;unfold isAgg;cases τ with
 | bool=>have hd:_=_:=hd;simp[run_underlying hd,Ty.isAgg]
 | str=>have hd:_=_:=hd;simp[run_underlying hd,Ty.isAgg]
 | int k=>have hd:_=_:=hd;simp[run_underlying hd,Ty.isAgg]
 | sl e=>obtain⟨te,hd,_⟩:=hd;simp[run_underlying hd,Ty.isAgg]
 | mp k v=>obtain⟨tk,tv,hd,_⟩:=hd;simp[run_underlying hd,Ty.isAgg]
 | arr n e=>obtain⟨te,hd,_⟩:=hd;simp[run_underlying hd,Ty.isAgg]
 | st b=>obtain⟨te,hd,_⟩:=hd;simp[run_underlying hd,Ty.isAgg]
 | unit=>exact hd.elim
 | pair a b=>exact hd.elim
theorem TyOk.loadL {t:Nat} {τ:Ty} (h:TyOk P E.ty t τ) {w:World} {b off:Nat} {cs:List Value} (hl:cs.length=τ.size)
 (hc:∀j v,cs[j]?=some v→w.cell? ⟨b,off+j,none⟩=some v):(loadVar t ⟨b,off,none⟩).run P w= .ok (mkV τ cs) w:=by
 unfold loadVar;simp only[Sem.run_bind,h.isAggRun w,Result.andThen_ok];cases ha:τ.isAgg with
 | true=>
  simp only[if_true,Sem.run_bind,h.cells w,Result.andThen_ok];rw[Jce cs τ.size hl hc];simp[mkV,ha]
 | false=>
  simp only[Bool.false_eq_true,if_false,mkV,ha];have hv:=h.isVal;have:τ.size=1:=by cases τ<;>first | rfl | (simp[Ty.isAgg] at ha;done) | (simp[Ty.isVal] at hv;done)
  match cs,hl,hc with
  | [v],_,hc=>
   have:=hc 0 v rfl;simp only[Nat.add_zero] at this;simp[run_load,this]
  | [],hl,_=>simp at hl;omega
  | _::_::_,hl,_=>simp at hl;omega
theorem TyOk.load {t:Nat} {τ:Ty} (h:TyOk P E.ty t τ) {w:World} {own:Own} {b off:Nat} {cs:List Value} {x:τ.D} (hr:Jag own w τ cs x)
 (hc:∀j v,cs[j]?=some v→w.cell? ⟨b,off+j,none⟩=some v):(loadVar t ⟨b,off,none⟩).run P w= .ok (mkV τ cs) w:=h.loadL hr.length hc
theorem TyOk.storeL {t:Nat} {τ:Ty} (h:TyOk P E.ty t τ) {w:World} {b off:Nat} {u:Value} (hl:u.cells.toList.length=τ.size) (h1:∀v∈u.cells.toList,v.oneCell'=true)
 (hc:∀j,j<τ.size→(∃v,w.cell? ⟨b,off+j,none⟩=some v)∧w.frozen? ⟨b,off+j,none⟩=false):
 ∃w',(storeVar t ⟨b,off,none⟩ u).run P w= .ok () w'∧Wrote b off u.cells.toList w w':=by
 obtain⟨w',h2,h3⟩:=Jbs (P:=P) (b:=b) (o:=off) u.cells.toList 0 w h1 (fun j hj=>by rw[Nat.zero_add];exact (hc j (by omega)).1) (fun j hj=>by rw[Nat.zero_add];exact (hc j (by omega)).2);refine⟨w',?_,h3⟩;unfold storeVar;have hsz:u.cells.size=τ.size:=by rw[←hl,Array.length_toList]
 simp only[Sem.run_bind,h.cells w,Result.andThen_ok,hsz,ne_eq,not_true_eq_false,if_false];exact h2
theorem TyOk.store {t:Nat} {τ:Ty} (h:TyOk P E.ty t τ) {w:World} {own:Own} {b off:Nat} {u:Value} {y:τ.D} (hr:Jab own w τ u y)
 (hc:∀j,j<τ.size→(∃v,w.cell? ⟨b,off+j,none⟩=some v)∧w.frozen? ⟨b,off+j,none⟩=false):
 ∃w',(storeVar t ⟨b,off,none⟩ u).run P w= .ok () w'∧Wrote b off u.cells.toList w w':=h.storeL hr.cells.length hr.cells.one hc
theorem TyOk.partL {t:Nat} {τ:Ty} (h:TyOk P E.ty t τ) {w:World} {cs:List Value} {off:Nat} (hl:off+τ.size≤cs.length):
 (Go.part t cs.toArray off).run P w= .ok (mkV τ ((cs.drop off).take τ.size)) w:=by
 unfold Go.part;simp only[Sem.run_bind,h.isAggRun w,Result.andThen_ok];cases ha:τ.isAgg with
 | true=>
  simp only[if_true,Sem.run_bind,h.cells w,Result.andThen_ok,Sem.run_pure,mkV,ha]
  congr 2
  apply Array.ext';rw[Array.toList_extract];simp[List.extract_eq_take_drop]
 | false=>
  have hv:=h.isVal;have h1:τ.size=1:=by cases τ<;>first | rfl | (simp[Ty.isAgg] at ha;done) | (simp[Ty.isVal] at hv;done)
  simp only[Bool.false_eq_true,if_false,mkV,ha];have hlt:off<cs.length:=by omega
  rw[h1]
  have e:(cs.drop off).take 1=[cs[off]]:=by
   rw[List.drop_eq_getElem_cons hlt];rfl
  rw[e];simp[hlt]
theorem TyOk.partRun {t:Nat} {τ:Ty} (h:TyOk P E.ty t τ) {w:World} {own:Own} {cs:List Value} {off:Nat} {y:τ.D} (hr:Jag own w τ ((cs.drop off).take τ.size) y) (hl:off+τ.size≤cs.length):
 (Go.part t cs.toArray off).run P w= .ok (mkV τ ((cs.drop off).take τ.size)) w:=h.partL hl
end
end Go.Re
namespace Go.Re
set_option linter.unusedVariables false
set_option linter.unusedSimpArgs false
open Go.RowKit (Below)
section
variable {P:Program} {E:Env} {N:Nat} {Z:Base} {own:Own} {β:Jai} {σ:S} {a:Act} {w:World} {o:Oper}
structure Alloc1 (w w':World) (c:List Value):Prop where
 os:w'.os=w.os
 tape:w'.tape=w.tape
 output:w'.output=w.output
 size:w'.heap.size=w.heap.size+1
 block:∀k,k<w.heap.size→w'.heap[k]?=w.heap[k]?
 cell:∀j,w'.cell? ⟨w.heap.size,j,none⟩=c[j]?
 free:∀j,j<c.length→w'.frozen? ⟨w.heap.size,j,none⟩=false
 shape:∃fz,shp w' w.heap.size=some (c.length,fz)∧(fz=(0,0)∨fz=(c.length,c.length+1))
theorem Jca (w:World) (c:List Value) (t:TypeId) (d:Nat):Alloc1 w {w with heap:=w.heap.push (.cells c.toArray t (0,0)),drawn:=d} c where
 os:=rfl
 tape:=rfl
 output:=rfl
 size:=by simp
 block k hk:=by simp[Array.getElem?_push];omega
 cell j:=by rw[cell?_push];simp
 free j _:=by rw[frozen?_push];simp
 shape:=⟨(0,0),by simp[shp,Array.getElem?_push],.inl rfl⟩
theorem JgT (w:World) (c:List Value) (t:TypeId) (d:Nat) (fz:Nat×Nat) (hf:fz=(c.length,c.length+1)):Alloc1 w {w with heap:=w.heap.push (.cells c.toArray t fz),drawn:=d} c where
 os:=rfl
 tape:=rfl
 output:=rfl
 size:=by simp
 block k hk:=by simp[Array.getElem?_push];omega
 cell j:=by rw[cell?_push];simp
 free j hj:=by rw[frozen?_push,hf];simp;omega
 shape:=⟨fz,by simp[shp,Array.getElem?_push],.inr hf⟩
def Jam (own:Own) (n s:Nat):Own:=fun b o=>if b=n then some s else own b o
theorem Alloc1.keeps {w w':World} {c:List Value} (h:Alloc1 w w' c) (own:Own) (s:Nat):Keeps own (Jam own w.heap.size s) w w':=by
 refine⟨?_,?_⟩
 · intro b o v h1 h2
   have hlt:=cell?_lt h2;refine⟨?_,by rw[cell?_of_heap (h.block b hlt)];exact h2⟩;unfold Jam;rw[if_neg (by omega)];exact h1
 · intro r es c h1 h2
   have hlt:=Ja6 h2;refine⟨?_,by rw[h.block r hlt];exact h2⟩;unfold Jam;rw[if_neg (by omega)];exact h1
theorem Alloc1.ownKeeps {w w':World} {c:List Value} (h:Alloc1 w w' c) (own:Own) (s s':Nat):Jah s' own (Jam own w.heap.size s) w w':=by
 refine⟨?_,?_⟩
 · intro b o v h1 h2
   have hlt:=cell?_lt h2;refine⟨?_,by rw[cell?_of_heap (h.block b hlt)];exact h2,frozen?_of_heap (h.block b hlt)⟩;unfold Jam;rw[if_neg (by omega)];exact h1
 · intro r es c h1 h2
   have hlt:=Ja6 h2;refine⟨?_,by rw[h.block r hlt];exact h2⟩;unfold Jam;rw[if_neg (by omega)];exact h1
theorem Alloc1.shps {w w':World} {c:List Value} (h:Alloc1 w w' c):Jbw w w':=
 fun b _ ⟨x,fz,e1,e2⟩=>⟨x,fz,by rw[JaY (h.block b (Jep e1))];exact e1,e2⟩
theorem Alloc1.frame {w w':World} {c:List Value} (h:Alloc1 w w' c) {n:Nat} (io:Nat→Nat→Prop) (hB:n≤w.heap.size):Frm n io w w':=
 ⟨h.os,h.tape,h.output,by rw[h.size];omega,fun b o hb _=>cell?_of_heap (h.block b (by omega)),fun b o v hb hv=>⟨⟨v,by rw[cell?_of_heap (h.block b (by omega))];exact hv⟩,frozen?_of_heap (h.block b (by omega))⟩,
  fun b k hb ⟨x,fz,e1,e2⟩=>⟨x,fz,by rw[JaY (h.block b (by omega))];exact e1,e2⟩,fun b hb _=>h.block b (by omega)⟩
theorem St.newSite (h:St N Z own β σ a w) {s:Nat} {e':Entry} {c:Value} {w':World} {own':Own} (hb:Frm Z.w.heap.size Z.io w w')
 (ho:∀b o,b<Z.w.heap.size→¬Z.io b o→own' b o=own b o) (k:Keeps own own' w w') (hks:∀s',s'≠s→Jah s' own own' w w') (kh:Jbw w w')
 (hev:∀β',Evo β β' s (σ.mem s) e') (he:Jaj Z own' w' (upd β s c) s e') (hv:Ja5 e'=false:=by rfl):St N Z own' (upd β s c) (σ.set s e') a w':=by
 refine h.go hb ho k ?_ rfl ?_ (JaO hv hks)
 · intro s'
   show Evo β (upd β s c) s' (σ.mem s') (upd σ.mem s e' s');rw[Jad σ.mem];split
   · rename_i e;subst e;exact hev _
   · rename_i e;exact Evo.same _ (by rw[Jad,if_neg e])
 · intro s'
   show Jaj Z own' w' (upd β s c) s' (upd σ.mem s e' s');rw[Jad σ.mem];split
   · rename_i e;subst e;exact he
   · rename_i e;exact (h.mems s').keeps k (hks s' e) kh (by rw[Jad,if_neg e])
theorem St.base (h:St N Z own β σ a w):Z.w.heap.size≤w.heap.size:=h.frame.size
theorem St.newBox (h:St N Z own β σ a w) {w':World} {cs:List Value} (ha:Alloc1 w w' cs) (s:Nat) {τ:Ty} {x:τ.D} (hv:τ.isVal=true) (hr:Jag own w τ cs x):
 St N Z (Jam own w.heap.size s) (upd β s (.pointer (some ⟨w.heap.size,0,none⟩))) (σ.set s (.box (nextVer (σ.mem s)) τ x)) a w':=by
 have hB:=h.base;refine h.newSite (ha.frame _ hB) ?_ (ha.keeps own s) (fun s' _=>ha.ownKeeps own s s') ha.shps (fun β'=>Evo.newBox _ _ _) ?_
 · intro b o hlt _;unfold Jam;rw[if_neg (by omega)]
 · refine⟨hv,w.heap.size,0,cs,by rw[Jad,if_pos rfl],?_,hr.keeps (ha.keeps own s)⟩
   intro j v hj;have hlt:j<cs.length:=(List.getElem?_eq_some_iff.1 hj).1;rw[Nat.zero_add];exact⟨by simp[Jam],.inl hB,by rw[ha.cell,hj],ha.free j hlt⟩
def JaB (own:Own) (w:World) (τ:Ty) (c:List Value) (xs:List τ.D):Prop:=
 xs.length*τ.size≤c.length∧∀i (h:i<xs.length),Jag own w τ ((c.drop (i*τ.size)).take τ.size) xs[i]
theorem JaB.row {own own':Own} {w w':World} {τ:Ty} {c:List Value} {xs:List τ.D} (h:JaB own w τ c xs) (k:Keeps own own' w w') {q:Option Nat} {b o:Nat}
 (hc:∀j v,c[j]?=some v→own' b (o+j)=q∧w'.cell? ⟨b,o+j,none⟩=some v):JaX own' w' q τ b o xs:=by
 intro i hi;refine⟨_,(h.2 i hi).length,?_,(h.2 i hi).keeps k⟩;intro j v hj;rw[List.getElem?_take] at hj;split at hj
 · rw[List.getElem?_drop] at hj
   have:=hc _ _ hj
   rwa [←Nat.add_assoc] at this
 · cases hj
theorem St.newRow (h:St N Z own β σ a w) {w':World} {c:List Value} (ha:Alloc1 w w' c) (s:Nat) {τ:Ty} {xs:List τ.D} (hr:JaB own w τ c xs) (cap:Nat)
 (h1:xs.length≤cap) (h2:cap<9223372036854775808) (h3:xs.length≤big) (h4:c.length=cap*τ.size):
 St N Z (Jam own w.heap.size s) (upd β s (.slice (some ⟨w.heap.size,0,none⟩) xs.length cap)) (σ.set s (.own (nextVer (σ.mem s)) τ xs .full)) a w':=by
 have hB:=h.base;refine h.newSite (ha.frame _ hB) ?_ (ha.keeps own s) (fun s' _=>ha.ownKeeps own s s') ha.shps (fun β'=>Evo.newOwn _ _ _ _) ?_
 · intro b o hlt _;unfold Jam;rw[if_neg (by omega)]
 · refine⟨_,cap,by rw[Jad,if_pos rfl],h1,h2,h3,.inr ⟨w.heap.size,0,rfl,?_,let ⟨fz,f1,f2⟩:=ha.shape;⟨_,fz,f1,by omega,f2⟩,?_⟩⟩
   · refine hr.row (ha.keeps own s) ?_
     intro j v hj;rw[Nat.zero_add];exact⟨by simp[Jam,Mode.owner],by rw[ha.cell,hj]⟩
   · intro j _ hlt
     have hlt:j<c.length:=by omega
     exact⟨by simp[Jam],.inl hB,⟨c[j],by rw[ha.cell,List.getElem?_eq_getElem hlt]⟩,ha.free j hlt⟩
theorem St.newNil (h:St N Z own β σ a w) (s:Nat) (τ:Ty):
 St N Z own (upd β s (.slice none 0 0)) (σ.set s (.own (nextVer (σ.mem s)) τ [] .full)) a w:=by
 refine h.newSite (Frm.refl _ _ _) (fun _ _ _ _=>rfl) (Keeps.refl _ _) (fun _ _=>Jah.refl _ _ _) (fun _ _ e=>e) (fun β'=>Evo.newOwn _ _ _ _) ?_;exact⟨none,0,by rw[Jad,if_pos rfl];rfl,Nat.le_refl _,by omega,Nat.zero_le _,.inl ⟨rfl,fun _=>rfl⟩⟩
theorem JeF {t:Nat} (u:Value) (w:World):(newVar t u).run P w= .ok ⟨w.heap.size,0,none⟩ {w with heap:=w.heap.push (.cells u.cells t (0,0))}:=by
 simp[newVar,newRow]
theorem Jcu (u:Value) (t:Nat) (w:World):Alloc1 w {w with heap:=w.heap.push (.cells u.cells t (0,0))} u.cells.toList:=
 Jca w u.cells.toList t w.drawn
theorem JeG {γ:Type} (b:γ) {fr:List (Nat×Entry)} {s:Nat} {e:Entry}:Jaw σ b (JaV fr++[(s,fun _=>e)])=(Jaz σ fr).set s e:=by
 rw[Jb6,JaD];rfl
theorem Ja0 (own:Own) (w:World) (β:Jai) (mem:Nat→Entry) (s:Nat) (c:Value) (e:Entry) (τ:Ty) (xs:List τ.D) (m:Mode):
 Jac own w (upd β s c) (upd mem s (.own (nextVer e) τ xs m)) (.ref s (nextVer e)) c:=by
 refine⟨by rw[Jad,if_pos rfl];simp[nextVer],fun _ _ _ _=>by rw[Jad,if_pos rfl]⟩
theorem JmR (own:Own) (w:World) (β:Jai) (mem:Nat→Entry) (s b:Nat) (e:Entry) (τ:Ty) (x:τ.D):
 Jac own w (upd β s (.pointer (some ⟨b,0,none⟩))) (upd mem s (.box (nextVer e) τ x)) (.ptr s (nextVer e) []) (.pointer (some ⟨b,0,none⟩)):=by
 refine⟨by rw[Jad,if_pos rfl];simp[nextVer],fun τ' x' _=>⟨b,0,by rw[Jad,if_pos rfl],by rw[Jao]⟩⟩
theorem Jju (h:St N Z own β σ a w) {d:Nat} {τ:Ty} {x:τ.D} {fr:List (Nat×Entry)} (hf:Frz σ fr) (hv:τ.isVal=true) {u:Value} (hu:Jch own w β σ.mem fr τ u x) {t:Nat}
 (hrun:∀w,(execOp a.eval o).run P w= .ok (.value (.pointer (some ⟨w.heap.size,0,none⟩))) {w with heap:=w.heap.push (.cells u.cells t (0,0))})
 {r:V×S} (hr:(Jj2 d τ x fr).run σ=some r):Did P N Z o a w r.2 r.1:=by
 unfold Jj2 at hr;simp only[M.run] at hr;obtain⟨_,h1,h2⟩:=Option.map_eq_some_iff.1 hr;subst h2;obtain⟨own1,s1,k1,v1⟩:=h.freeze hf;have hrep:=(v1 _ _ _ hu).cells;have s2:=s1.newBox (Jcu u t w) (Jaa d 0) hv hrep;rw[JdQ fr hf.weak] at s2;refine Jae (hrun w) (by simpa only[JeG] using s2) ?_;simp only[JeG];exact JmR _ _ _ _ _ _ _ _ _
theorem JmS (h:St N Z own β σ a w) {d:Nat} {τ:Ty} {x:τ.D} {u:Value} (hu:Jab own w τ u x) {t:Nat}
 (hrun:∀w,(execOp a.eval o).run P w= .ok (.value (.pointer (some ⟨w.heap.size,0,none⟩))) {w with heap:=w.heap.push (.cells u.cells t (0,0))})
 {r:V×S} (hr:(Jlw d τ x).run σ=some r):Did P N Z o a w r.2 r.1:=by
 unfold Jlw at hr;simp only[M.run] at hr;obtain⟨_,h1,h2⟩:=Option.map_eq_some_iff.1 hr;subst h2;have hrep:=hu.cells;have hl:=hrep.length
 have hel:JaB own w τ u.cells.toList [x]:=by
  refine⟨by rw[hl,List.length_singleton,Nat.one_mul];exact Nat.le_refl _,fun i hi=>?_⟩;obtain rfl:i=0:=by simpa using hi
  rw[Nat.zero_mul,List.drop_zero,←hl,List.take_length];exact hrep
 have s2:=h.newRow (Jcu u t w) (Jaa d 0) hel 1 (by simp) (by omega) (by simp[big]) (by rw[hl,Nat.one_mul]);refine Jae (hrun w) s2 ?_;refine⟨by show _<nextVer (upd σ.mem _ _ _);rw[Jad,if_pos rfl];simp[nextVer],fun τ' xs m e=>?_⟩;have e:upd σ.mem (Jaa d 0) (Entry.own (nextVer (σ.mem (Jaa d 0))) τ [x] .full) (Jaa d 0)=_:=e;rw[Jad,if_pos rfl] at e;cases e;exact⟨by simp,w.heap.size,0,1,1,by rw[Jad,if_pos rfl];rfl,by rw[Jao,Nat.zero_mul]⟩
theorem St.newRead (h:St N Z own β σ a w) {w':World} {cs:List Value} (ha:Alloc1 w w' cs):
 ∃own',St N Z own' β σ a w'∧Keeps own own' w w'∧∀j v,cs[j]?=some v→own' w.heap.size (0+j)=none∧w'.cell? ⟨w.heap.size,0+j,none⟩=some v:=by
 have hB:=h.base
 have hk:Keeps own (fun b o=>if b=w.heap.size then none else own b o) w w':=by
  refine⟨?_,?_⟩
  · intro b o v h1 h2
    have hlt:=cell?_lt h2;exact⟨by show (if b=w.heap.size then none else own b o)=_;rw[if_neg (by omega)];exact h1,by rw[cell?_of_heap (ha.block b hlt)];exact h2⟩
  · intro r es c h1 h2
    have hlt:=Ja6 h2;exact⟨by show (if r=w.heap.size then none else own r 0)=_;rw[if_neg (by omega)];exact h1,by rw[ha.block r hlt];exact h2⟩
 have hks:∀s',Jah s' own (fun b o=>if b=w.heap.size then none else own b o) w w':=by
  intro s';refine⟨?_,?_⟩
  · intro b o v h1 h2
    have hlt:=cell?_lt h2;exact⟨by show (if b=w.heap.size then none else own b o)=_;rw[if_neg (by omega)];exact h1,by rw[cell?_of_heap (ha.block b hlt)];exact h2,frozen?_of_heap (ha.block b hlt)⟩
  · intro r es c h1 h2
    have hlt:=Ja6 h2;exact⟨by show (if r=w.heap.size then none else own r 0)=_;rw[if_neg (by omega)];exact h1,by rw[ha.block r hlt];exact h2⟩
 refine⟨_,h.go (ha.frame _ hB) ?_ hk (fun s=>Evo.same _ rfl) rfl (fun s=>(h.mems s).keeps hk (hks s) ha.shps rfl) (fun s _=>⟨rfl,hks s⟩),hk,?_⟩
 · intro b o hlt _;show (if b=w.heap.size then none else own b o)=_;rw[if_neg (by omega)]
 · intro j v hj
   rw[Nat.zero_add];exact⟨by show (if w.heap.size=w.heap.size then none else own w.heap.size j)=_;rw[if_pos rfl],by rw[ha.cell,hj]⟩
theorem JlS (h:St N Z own β σ a w) {τ:Ty} {x:τ.D} {fr:List (Nat×Entry)} (hf:Frz σ fr) (hv:τ.isVal=true) {u:Value} (hu:Jch own w β σ.mem fr τ u x) {t:Nat}
 (hrun:∀w,(execOp a.eval o).run P w= .ok (.value (.pointer (some ⟨w.heap.size,0,none⟩))) {w with heap:=w.heap.push (.cells u.cells t (0,0))})
 {r:V×S} (hr:(M.fin Unit (some ()) (fun _=>V.rpt τ x) (JaV fr)).run σ=some r):Did P N Z o a w r.2 r.1:=by
 obtain⟨_,h1,h2⟩:=Jal hr;subst h2;obtain⟨own1,s1,k1,v1⟩:=h.freeze hf;have hrep:=(v1 _ _ _ hu).cells;obtain⟨own2,s2,k2,hc⟩:=s1.newRead (Jcu u t w);simp only[JaD];exact Jae (hrun w) s2 ⟨hv,w.heap.size,0,_,rfl,hc,hrep.keeps k2⟩
end
end Go.Re
namespace Go.Re
set_option linter.unusedVariables false
set_option linter.unusedSimpArgs false
open Go.RowKit (Below)
section
variable {P:Program} {E:Env} {N:Nat} {Z:Base} {own:Own} {β:Jai} {σ:S} {a:Act} {w:World} {o:Oper}
theorem exec_v {s:Sem Value} {u:Value} {w':World} (he:execOp a.eval o=(do pure (.value (←s)))) (h:s.run P w= .ok u w'):(execOp a.eval o).run P w= .ok (.value u) w':=by
 rw[he];exact JnN h
theorem Jii {s t:ByteArray} {x y:List (BitVec 8)} (hs:s.data.toList.map UInt8.toBitVec=x) (ht:t.data.toList.map UInt8.toBitVec=y):(s.toList==t.toList)=decide (x=y):=by
 subst hs;subst ht;rw[Bool.eq_iff_iff,beq_iff_eq,decide_eq_true_eq,ByteArray.toList_eq,ByteArray.toList_eq];exact (List.map_inj_right (fun a b e=>UInt8.toBitVec_inj.1 e)).symm
theorem Jab.toStr {v:Value} {x:List (BitVec 8)} (h:Jab own w .str v x):∃s:ByteArray,v= .string s∧s.data.toList.map UInt8.toBitVec=x∧x.length≤big:=Jab.str.1 h
theorem Je7 (hE:EnvOk P E) {t n d:Nat} {x y:List (BitVec 8)} {u v:Value} (ht:E.ty t=some (.arr n (.int .u8))) (hu:Jab own w (.arr n (.int .u8)) u x) (hv:Jab own w (.arr n (.int .u8)) v y):
 (Op.equalIn (d+2) t u v).run P w= .ok (decide (x=y)) w:=by
 obtain⟨cs,rfl,hx1,hx2,hx3⟩:=(Jab.agg rfl).1 hu;obtain⟨ds,rfl,hy1,hy2,hy3⟩:=(Jab.agg rfl).1 hv;obtain⟨te,q1,q2⟩:=(hE.ty t _ ht).desc;have hT:=hE.ty te _ q2;obtain⟨i,g1,_⟩:=hT.info
 have hcell:P.cellsOf te=1:=by
  have h1:=hT.cells (P:=P) w;rw[run_sizeOf w g1] at h1;have:P.cellsOf te=Ty.size (.int .u8):=by injection h1
  exact this
 have hs1:Ty.size (.int .u8)=1:=rfl;rw[run_equalIn_array w (d+1) _ _ q1 g1,hcell]
 have step:∀is:List Nat,(∀j∈is,j<n)→(Op.eqItems (d+1) te 1 cs.toArray ds.toArray is).run P w= .ok (is.all fun j=>decide (x.getD j 0#8=y.getD j 0#8)) w:=by
  intro is
  induction is with
  | nil=>intro _;rfl
  | cons j is ih=>
   intro hj;have hjn:=hj j (by simp);have a1:=hx3 j (by omega);have a2:=hy3 j (by omega);have e1:=hT.partRun (w:=w) (own:=own) (cs:=cs) (off:=j*1) a1 (by rw[hx2,hs1];omega);have e2:=hT.partRun (w:=w) (own:=own) (cs:=ds) (off:=j*1) a2 (by rw[hy2,hs1];omega);have v1:=Jab.int.1 (Jab.mk (τ:=.int .u8) rfl a1);have v2:=Jab.int.1 (Jab.mk (τ:=.int .u8) rfl a2);simp only[hs1] at e1 e2 v1 v2;simp only[Op.eqItems,Sem.run_bind,e1,e2,Result.andThen_ok,v1.1,v2.1,run_equalIn_int w d te .u8 .u8 _ _ hT.desc,List.all_cons]
   have inj:((toI .u8 x[j]==toI .u8 y[j]):Bool)=decide (x.getD j 0#8=y.getD j 0#8):=by
    rw[Bool.eq_iff_iff,beq_iff_eq,decide_eq_true_eq,List.getD_eq_getElem?_getD,List.getD_eq_getElem?_getD,List.getElem?_eq_getElem (by omega),List.getElem?_eq_getElem (by omega)];show ((x[j].toNat:Int)=(y[j].toNat:Int))↔x[j]=y[j];exact⟨fun e=>BitVec.eq_of_toNat_eq (by omega),fun e=>by rw[e]⟩
   rw[inj];cases hb:decide (x.getD j 0#8=y.getD j 0#8) with
   | true=>simp only[Bool.not_true,Bool.false_eq_true,if_false,Bool.true_and];exact ih (fun k hk=>hj k (by simp[hk]))
   | false=>simp
 rw[step _ (fun j hj=>List.mem_range.1 hj)]
 congr 1
 rw[Bool.eq_iff_iff,List.all_eq_true,decide_eq_true_eq]
 constructor
 · intro h
   apply List.ext_getElem (by omega);intro j h1 h2;have:=of_decide_eq_true (h j (List.mem_range.2 (by omega)));simpa [List.getD_eq_getElem?_getD,List.getElem?_eq_getElem h1,List.getElem?_eq_getElem h2] using this
 · intro h j _;rw[h];simp
theorem JkZ (hE:EnvOk P E):∀(τ:Ty),
 (∀(t d:Nat) (f:τ.D→τ.D→Bool) (x y:τ.D) (u v:Value),E.ty t=some τ→eqD τ=some f→Jgm E t τ→τ.dep≤d→Jab own w τ u x→Jab own w τ v y →
  (Op.equalIn d t u v).run P w= .ok (f x y) w) ∧
 (∀(fs:List Field) (off d:Nat) (f:τ.D→τ.D→Bool) (x y:τ.D) (cs ds:List Value),JbG E.ty off fs τ→eqD τ=some f→(∀g∈fs,g.name≠ "_"∧∀τ,E.ty g.type=some τ→Jgm E g.type τ)→τ.dep≤d →
  Jag own w τ ((cs.drop off).take τ.size) x→off+τ.size≤cs.length→Jag own w τ ((ds.drop off).take τ.size) y→off+τ.size≤ds.length →
  (Op.eqFields d cs.toArray ds.toArray fs).run P w= .ok (f x y) w):=by
 intro τ
 have nofields:∀{τ:Ty} {off:Nat} {fs:List Field} {Q:Prop},(∀a b,τ≠ .pair a b)→τ≠ .unit→JbG E.ty off fs τ→Q:=by
  intro τ off fs Q h1 h2 h;cases τ with
  | pair a b=>exact absurd rfl (h1 a b)
  | unit=>exact absurd rfl h2
  | _=>cases fs<;>exact h.elim
 induction τ with
 | bool=>
  refine⟨?_,fun _ _ _ _ _ _ _ _ h=>nofields (by simp) (by simp) h⟩;intro t d f x y u v ht hf _ hd hu hv;obtain⟨d,rfl⟩:∃m,d=m+1:=⟨d-1,by simp[Ty.dep] at hd;omega⟩;rw[Jab.bool.1 hu,Jab.bool.1 hv,run_equalIn_bool' w d t x y ((hE.ty t _ ht).desc)];cases hf;cases x<;>cases y<;>rfl
 | str=>
  refine⟨?_,fun _ _ _ _ _ _ _ _ h=>nofields (by simp) (by simp) h⟩;intro t d f x y u v ht hf _ hd hu hv;obtain⟨d,rfl⟩:∃m,d=m+1:=⟨d-1,by simp[Ty.dep] at hd;omega⟩;obtain⟨s,rfl,h1,_⟩:=Jab.str.1 hu;obtain⟨s',rfl,h2,_⟩:=Jab.str.1 hv;rw[run_equalIn_string w d t s s' ((hE.ty t _ ht).desc),Jii h1 h2];cases hf;rfl
 | unit=>
  refine⟨fun t d f x y u v ht=>by have:=(hE.ty t _ ht).desc;exact this.elim,?_⟩;intro fs off d f x y cs ds h hf _ _ _ _ _ _;cases fs with
  | nil=>cases hf;rfl
  | cons g gs=>exact h.elim
 | int k=>
  refine⟨?_,fun _ _ _ _ _ _ _ _ h=>nofields (by simp) (by simp) h⟩;intro t d f x y u v ht hf _ hd hu hv;obtain⟨d,rfl⟩:∃m,d=m+1:=⟨d-1,by simp[Ty.dep] at hd;omega⟩;obtain⟨rfl,h1⟩:=Jab.int.1 hu;obtain⟨rfl,h2⟩:=Jab.int.1 hv;rw[run_equalIn_int w d t k k _ _ ((hE.ty t _ ht).desc)]
  congr 1
  have inj:∀{n:Nat} (x y:BitVec n),((x.toNat:Int)==(y.toNat:Int))=decide (x=y):=fun x y=>by
   rw[Bool.eq_iff_iff,beq_iff_eq,decide_eq_true_eq];exact⟨fun e=>BitVec.eq_of_toNat_eq (by omega),fun e=>by rw[e]⟩
  cases k with
  | u8=>cases hf;exact inj _ _
  | u16=>cases hf;exact inj _ _
  | u32=>cases hf;exact inj _ _
  | u64=>cases hf;exact inj _ _
  | i64=>cases hf;rw[Bool.eq_iff_iff,beq_iff_eq,decide_eq_true_eq];exact Iff.rfl
  | i8=>cases hf
  | i16=>cases hf
  | i32=>cases hf
 | pair p q ihp ihq=>
  refine⟨fun t d f x y u v ht=>by have:=(hE.ty t _ ht).desc;exact this.elim,?_⟩;intro fs off d f x y cs ds h hf hg hd hx hxl hy hyl;cases fs with
  | nil=>exact h.elim
  | cons g gs=>
   obtain⟨h1,h2,h3,h4⟩:=h;simp only[eqD] at hf;split at hf
   · rename_i fp fq hfp hfq
     cases hf;obtain⟨g1,g2⟩:=hg g (by simp);have hT:=hE.ty g.type p h2
     have part1:∀{cs:List Value} {x:p.D×q.D},Jag own w (.pair p q) ((cs.drop off).take (p.size+q.size)) x→off+(p.size+q.size)≤cs.length →
      Jag own w p ((cs.drop off).take p.size) x.1∧Jag own w q ((cs.drop (off+p.size)).take q.size) x.2:=by
      intro cs x hx hl;obtain⟨c,e,he,hc,hd⟩:=hx;have hcl:=hc.length;have hdl:=hd.length
      have e1:(cs.drop off).take p.size=c:=by
       have:=congrArg (List.take p.size) he
       rwa [List.take_take,Nat.min_eq_left (by omega),List.take_left' hcl] at this
      have e2:(cs.drop (off+p.size)).take q.size=e:=by
       have:=congrArg (List.drop p.size) he
       rwa [List.drop_take,List.drop_drop,show p.size+q.size-p.size=q.size by omega,List.drop_left' hcl] at this
      rw[e1,e2];exact⟨hc,hd⟩
     have hxl':off+(p.size+q.size)≤cs.length:=hxl;have hyl':off+(p.size+q.size)≤ds.length:=hyl;obtain⟨hx1,hx2⟩:=part1 hx hxl';obtain⟨hy1,hy2⟩:=part1 hy hyl';have hd1:p.dep≤d:=Nat.le_trans (Nat.le_max_left _ _) hd;have hd2:q.dep≤d:=Nat.le_trans (Nat.le_max_right _ _) hd;have e1:=hT.partRun (w:=w) (off:=off) hx1 (by omega);have e2:=hT.partRun (w:=w) (off:=off) hy1 (by omega);have e3:=ihp.1 g.type d fp x.1 y.1 _ _ h2 hfp (g2 p h2) hd1 (Jab.mk hT.isVal hx1) (Jab.mk hT.isVal hy1);have e4:=ihq.2 gs (off+p.size) d fq x.2 y.2 cs ds h4 hfq (fun z hz=>hg z (by simp[hz])) hd2 hx2 (by omega) hy2 (by omega);rw[Op.eqFields,if_pos g1,h1];simp only[Sem.run_bind,e1,Result.andThen_ok,e2,e3];cases hb:fp x.1 y.1 with
     | true=>simp only[Bool.not_true,Bool.false_eq_true,if_false,e4,Bool.true_and]
     | false=>simp only[Bool.not_false,if_true,Sem.run_pure,Bool.false_and]
   · cases hf
 | st b ih=>
  refine⟨?_,fun _ _ _ _ _ _ _ _ h=>nofields (by simp) (by simp) h⟩;intro t d f x y u v ht hf he hd hu hv;obtain⟨d,rfl⟩:∃m,d=m+1:=⟨d-1,by simp[Ty.dep] at hd;omega⟩;obtain⟨cs,rfl,hx⟩:=(Jab.agg rfl).1 hu;obtain⟨ds,rfl,hy⟩:=(Jab.agg rfl).1 hv;obtain⟨fs,h1,h2⟩:=(hE.ty t _ ht).desc;obtain⟨_,h4,h5⟩:=hE.eq t he;have hfo:P.fieldsOf t=fs:=by simp[Program.fieldsOf,h1]
  rw[run_equalIn_agg w d t _ _ (by rw[hfo];exact h1) h4,hfo];have hxl:=hx.length;have hyl:=hy.length;refine ih.2 fs.toList 0 d f x y cs ds h2 hf (h5 fs h1) (by simp only[Ty.dep] at hd;omega) ?_ ?_ ?_ ?_
  · rw[List.drop_zero,show b.size=cs.length from hxl.symm,List.take_length];exact hx
  · rw[Nat.zero_add];exact Nat.le_of_eq hxl.symm
  · rw[List.drop_zero,show b.size=ds.length from hyl.symm,List.take_length];exact hy
  · rw[Nat.zero_add];exact Nat.le_of_eq hyl.symm
 | sl e _=>exact⟨fun _ _ _ _ _ _ _ _ hf=>by simp[eqD] at hf,fun _ _ _ _ _ _ _ _ h=>nofields (by simp) (by simp) h⟩
 | mp k v _ _=>exact⟨fun _ _ _ _ _ _ _ _ hf=>by simp[eqD] at hf,fun _ _ _ _ _ _ _ _ h=>nofields (by simp) (by simp) h⟩
 | arr n e _=>
  refine⟨?_,fun _ _ _ _ _ _ _ _ h=>nofields (by simp) (by simp) h⟩;intro t d f x y u v ht hf _ hd hu hv;cases e with
  | int k=>
   cases k with
   | u8=>
    cases hf;obtain⟨d,rfl⟩:∃m,d=m+2:=⟨d-2,by simp[Ty.dep] at hd;omega⟩;exact Je7 hE ht hu hv
   | _=>cases hf
  | _=>cases hf
theorem Jjv (hE:EnvOk P E) {t:Nat} {τ:Ty} {f:τ.D→τ.D→Bool} {x y:τ.D} {u v:Value} (ht:E.ty t=some τ) (hf:eqD τ=some f) (hc:Jgd E t τ=true)
 (hu:Jab own w τ u x) (hv:Jab own w τ v y) (ox oy:Operand):
 (do eqGuard .eql t ox oy u v;binOp .eql t u v:Sem Value).run P w= .ok (.bool (f x y)) w ∧
 (do eqGuard .neq t ox oy u v;binOp .neq t u v:Sem Value).run P w= .ok (.bool (!f x y)) w:=by
 cases τ with
 | st b=>
  simp only[Jgd,Bool.and_eq_true,decide_eq_true_eq] at hc;have h:=(JkZ (own:=own) (w:=w) hE (.st b)).1 t 10000 f x y u v ht hf hc.1 (by simp only[Ty.dep];omega) hu hv;obtain⟨cs,rfl,hx⟩:=(Jab.agg rfl).1 hu;obtain⟨ds,rfl,hy⟩:=(Jab.agg rfl).1 hv;have hg:=(hE.eq t hc.1).1
  constructor
  · simp only[Sem.run_bind,run_eqGuard_agg w .eql t ox oy _ _ hg,Result.andThen_ok,run_eql_struct,h]
  · simp only[Sem.run_bind,run_eqGuard_agg w .neq t ox oy _ _ hg,Result.andThen_ok,run_neq_struct,h]
 | arr n e=>
  cases e with
  | int k=>
   cases k with
   | u8=>
    cases hf;have h:=Je7 (own:=own) (w:=w) (d:=9998) hE ht hu hv;obtain⟨cs,rfl,hx⟩:=(Jab.agg rfl).1 hu;obtain⟨ds,rfl,hy⟩:=(Jab.agg rfl).1 hv;have hg:=(hE.eq t hc).1
    constructor
    · simp only[Sem.run_bind,run_eqGuard_agg w .eql t ox oy _ _ hg,Result.andThen_ok,run_eql_struct,h]
    · simp only[Sem.run_bind,run_eqGuard_agg w .neq t ox oy _ _ hg,Result.andThen_ok,run_neq_struct,h]
   | _=>cases hc
  | _=>cases hc
 | bool=>
  cases hf;rw[Jab.bool.1 hu,Jab.bool.1 hv];have e:=run_equal_bool w t x y ((hE.ty t _ ht).desc);have e0:(x==y)=decide (x=y):=by cases x<;>cases y<;>rfl
  constructor
  · rw[eqGuard_at_bool];simp[binOp,e,e0]
  · rw[eqGuard_at_bool];simp[binOp,e,e0]
 | str=>
  cases hf;obtain⟨s,rfl,h1,_⟩:=Jab.str.1 hu;obtain⟨s',rfl,h2,_⟩:=Jab.str.1 hv
  constructor
  · rw[eqGuard_at_string];simp[binOp,Op.stringOp,Jii h1 h2]
  · rw[eqGuard_at_string];simp[binOp,Op.stringOp,Jii h1 h2]
 | _=>simp[Jgd] at hc
end
end Go.Re
namespace Go.Re
set_option linter.unusedVariables false
set_option linter.unusedSimpArgs false
open Go.RowKit (Below)
section
variable {P:Program} {E:Env} {N:Nat} {Z:Base} {own:Own} {β:Jai} {σ:S} {a:Act} {w:World} {o:Oper}
theorem Jac.int {k:IntKind} {x:IntT k} {u:Value} (h:Jac own w β σ.mem (.val (.int k) x) u):u= .int k (toI k x)∧okI k x:=Jab.int.1 h
def Jck (P:Program) (own:Own) (w:World) (β:Jai) (σ:S) (s:Sem Value) (r:V×S):Prop:=∃u,s.run P w= .ok u w∧r.2=σ∧Jac own w β σ.mem r.1 u
theorem Jck.did {s:Sem Value} {r:V×S} (h:St N Z own β σ a w) (he:execOp a.eval o=(do pure (.value (←s)))) (hp:Jck P own w β σ s r):Did P N Z o a w r.2 r.1:=by
 obtain⟨u,h1,h2,h3⟩:=hp;rw[h2];exact Jae (exec_v he h1) h h3
theorem Jbi {τ:Ty} {x:Option τ.D} {r:V×S} (hr:(M.fin τ.D x (fun z=>V.val τ z) []).run σ=some r) {s:Sem Value}
 (h:∀z,x=some z→∃u,s.run P w= .ok u w∧Jab own w τ u z):Jck P own w β σ s r:=by
 obtain⟨y,h1,h2⟩:=Jal hr;obtain⟨u,h3,h4⟩:=h y h1;rw[h2];exact⟨u,h3,rfl,h4⟩
theorem bind_guard (op:BinOp) (t:Nat) (ox oy:Operand) (k:IntKind) (n:Int) (v:Value):(do eqGuard op t ox oy (.int k n) v;binOp op t (.int k n) v:Sem Value)=binOp op t (.int k n) v:=by
 rw[eqGuard_at_int];rfl
theorem Jjw {t te:Nat} (hd:P.underlying t=some (.slice te)) (ad:Option Addr) (n m:Nat):(Op.equal t (.slice ad n m) (.slice none 0 0)).run P w= .ok ad.isNone w:=by
 show (Op.equalIn (9999+1) t (.slice ad n m) (.slice none 0 0)).run P w=_;unfold Op.equalIn;simp only[Sem.run_bind,run_underlying hd,Result.andThen_ok];cases ad<;>rfl
theorem Jij {α:Type} {ad:Option Addr} {cap:Nat} {x:List α} {q:Nat→Nat→Prop} (h2:x.length≤cap) (h5:cap=0∨∃b o,ad=some ⟨b,o,none⟩∧q b o) (h:List.isEmpty x=false):ad.isNone=false:=by
 rcases h5 with h5 | ⟨b,o,h5,_⟩
 · have:x=[]:=List.eq_nil_of_length_eq_zero (by omega)
   subst this;cases h
 · rw[h5];rfl
theorem JlT (hE:EnvOk P E) {t:Nat} {op:BinOp} {vx vy:V} {ox oy:Operand} {u v:Value} {r:V×S} (hu:Jac own w β σ.mem vx u) (hv:Jac own w β σ.mem vy v)
 (hr:(Jlv E t op vx vy).run σ=some r):Jck P own w β σ (do eqGuard op t ox oy u v;binOp op t u v) r:=by
 unfold Jlv at hr;split at hr
 · obtain⟨rfl,h1⟩:=Jac.int hu
   obtain⟨rfl,h2⟩:=Jac.int hv;refine Jbi (τ:=.int _) hr fun z hz=>⟨_,?_,Jab.int.2 ⟨rfl,?_⟩⟩
   · rw[bind_guard];exact (JeD h1 hz t).1
   · exact (JeD (P:=P) (w:=w) h1 hz t).2
 · obtain⟨rfl,h1⟩:=Jac.int hu
   obtain⟨rfl,h2⟩:=Jac.int hv;refine Jbi (τ:=.int _) hr fun z hz=>⟨_,?_,Jab.int.2 ⟨rfl,?_⟩⟩
   · rw[bind_guard];exact (JeD h1 hz t).1
   · exact (JeD (P:=P) (w:=w) h1 hz t).2
 · rename_i op' k x τ' y _ _
   obtain⟨rfl,h1⟩:=Jac.int hu;split at hr
   · rename_i y' hy'
     obtain⟨e,hy'⟩:=cast?_some hy';subst e;subst hy';obtain⟨rfl,h2⟩:=Jac.int hv;rw[bind_guard];split at hr
     case h_7=>exact Jbi (τ:=.int _) hr fun z hz=>⟨_,(arith_ok h1 h2 hz t).1,Jab.int.2 ⟨rfl,(arith_ok (P:=P) (w:=w) h1 h2 hz t).2⟩⟩
     all_goals exact Jbi (τ:=.bool) hr fun z hz=>⟨_,Jns hz t,Jab.bool.2 rfl⟩
   · cases hr
 · rename_i e x
   split at hr
   · rename_i e' ht
     obtain⟨te,hd,_⟩:=(hE.ty t _ ht).desc;have hv:v= .slice none 0 0:=hv;obtain⟨ad,cap,e1,h2,_,_,h5⟩:=Jab.sl.1 hu;cases e1;subst hv;rw[Jaq hr];refine⟨.bool ad.isNone,?_,rfl,ad.isNone,rfl,fun hemp=>Jij h2 h5 hemp⟩;rw[eqGuard_at_slice];simp only[pure_bind,binOp,Sem.run_bind,Jjw hd,Result.andThen_ok];rfl
   · cases hr
 · rename_i e x
   split at hr
   · rename_i e' ht
     obtain⟨te,hd,_⟩:=(hE.ty t _ ht).desc;have hv:v= .slice none 0 0:=hv;obtain⟨ad,cap,e1,h2,_,_,h5⟩:=Jab.sl.1 hu;cases e1;subst hv;rw[Jaq hr];refine⟨.bool (!ad.isNone),?_,rfl,!ad.isNone,rfl,fun hemp=>by rw[Jij h2 h5 hemp];rfl⟩;rw[eqGuard_at_slice];simp only[pure_bind,binOp,Sem.run_bind,Jjw hd,Result.andThen_ok];rfl
   · cases hr
 · obtain⟨s,rfl,h1,h1'⟩:=Jab.str.1 hu
   obtain⟨s',rfl,h2,h2'⟩:=Jab.str.1 hv;obtain⟨y,h3,h4⟩:=Jal hr;have h5:=of_decide_eq_true (Jap h3);subst h1;subst h2;have hsz:∀s:ByteArray,(s.data.toList.map UInt8.toBitVec).length=s.size:=fun s=>by simp
   simp only[hsz,lim] at h5;have h6:¬(((s.size+s'.size:Nat):Int)>9223372036854775807):=by omega
   refine⟨.string (s++s'),?_,by rw[h4];rfl,?_⟩
   · rw[eqGuard_at_string]
     simp only[binOp,Op.stringOp,IntKind.max_i64];rw[if_neg h6];rfl
   · rw[h4]
     refine Jab.str.2 ⟨_,rfl,?_,?_⟩
     · simp[ByteArray.data_append]
     · simp only[List.length_append,hsz,big];omega
 · rename_i τ x τ' y _
   split at hr
   · rename_i hc
     split at hr
     · rename_i y' f hy' hf
       obtain⟨e,hy'⟩:=cast?_some hy';subst e;subst hy';have h:=Jjv hE hc.1 hf hc.2 hu hv ox oy;rw[Jaq hr];exact⟨_,h.1,rfl,Jab.bool.2 rfl⟩
     · cases hr
   · cases hr
 · rename_i τ x τ' y _
   split at hr
   · rename_i hc
     split at hr
     · rename_i y' f hy' hf
       obtain⟨e,hy'⟩:=cast?_some hy';subst e;subst hy';have h:=Jjv hE hc.1 hf hc.2 hu hv ox oy;rw[Jaq hr];exact⟨_,h.2,rfl,Jab.bool.2 rfl⟩
     · cases hr
   · cases hr
 · cases hr
theorem JmT {op:UnOp} {v:V} {u:Value} {r:V×S} (hu:Jac own w β σ.mem v u) (hr:(unM op v).run σ=some r):Jck P own w β σ (Op.unary op u) r:=by
 unfold unM at hr;split at hr
 · rw[Jab.bool.1 hu,Jaq hr]
   exact⟨_,rfl,rfl,Jab.bool.2 rfl⟩
 · obtain⟨rfl,h1⟩:=Jac.int hu
   exact Jbi (τ:=.int _) hr fun z hz=>⟨_,(JkX h1 hz).1,Jab.int.2 ⟨rfl,(JkX (P:=P) (w:=w) h1 hz).2⟩⟩
 · cases hr
theorem Jds.loads {e:Ty} {u:Value} {x:List e.D} (h:Jds own w e u x):∃a cap,u= .slice a x.length cap∧x.length≤cap∧cap<9223372036854775808∧x.length≤big ∧
 ((cap=0∧x=[])∨∃b o cs,a=some ⟨b,o,none⟩∧cs.length=x.length*e.size∧JaB own w e cs x∧∀j v,cs[j]?=some v→w.cell? ⟨b,o+j,none⟩=some v):=by
 obtain⟨a,cap,q,h1,h2,h3,h4,h5⟩:=h;refine⟨a,cap,h1,h2,h3,h4,?_⟩;rcases h5 with h6 | ⟨b,o,h5,h6⟩
 · left;exact⟨h6,List.eq_nil_of_length_eq_zero (by omega)⟩
 · right
   clear h1 h2 h3 h4;refine⟨b,o,?_⟩
   have key:∀n,n≤x.length→∃cs:List Value,cs.length=n*e.size∧(∀i (h:i<n) (h':i<x.length),Jag own w e ((cs.drop (i*e.size)).take e.size) x[i]) ∧
    ∀j v,cs[j]?=some v→w.cell? ⟨b,o+j,none⟩=some v:=by
    intro n
    induction n with
    | zero=>exact fun _=>⟨[],by simp,fun i h=>by omega,fun j v h=>by simp at h⟩
    | succ n ih=>
     intro hn;obtain⟨cs,k1,k2,k3⟩:=ih (by omega);obtain⟨es,g1,g2,g3⟩:=h6 n hn;refine⟨cs++es,by rw[List.length_append,k1,g1,Nat.succ_mul],?_,?_⟩
     · intro i hi hi'
       rcases Nat.lt_or_ge i n with h | h
       · have hb:i*e.size+e.size≤n*e.size:=by rw[←Nat.succ_mul];exact Nat.mul_le_mul_right _ h
         rw[List.drop_append_of_le_length (by omega),List.take_append_of_le_length (by simp;omega)];exact k2 i h hi'
       · have:i=n:=by omega
         subst this;rw[List.drop_append,List.drop_eq_nil_of_le (by omega),List.nil_append,k1,Nat.sub_self,List.drop_zero,←g1,List.take_length];exact g3
     · intro j v hj
       rcases Nat.lt_or_ge j cs.length with h | h
       · rw[List.getElem?_append_left h] at hj;exact k3 j v hj
       · rw[List.getElem?_append_right h] at hj
         have:=(g2 _ _ hj).2
         rwa [show o+n*e.size+(j-cs.length)=o+j by omega] at this
   obtain⟨cs,k1,k2,k3⟩:=key x.length (Nat.le_refl _);exact⟨cs,h5,k1,⟨by omega,fun i hi=>k2 i hi hi⟩,k3⟩
theorem JgU {cs:List Value} {x:List (BitVec 8)} (hl:cs.length=x.length*Ty.size (.int .u8)) (h:JaB own w (.int .u8) cs x):cs=x.map fun b=>.int .u8 (b.toNat:Int):=by
 have hl:cs.length=x.length:=by simpa [Ty.size] using hl
 apply List.ext_getElem
 · simp[hl]
 · intro i h1 h2
   have hi:i<x.length:=by omega
   have h3:Jag own w (.int .u8) ((cs.drop (i*1)).take 1) x[i]:=h.2 i hi;have h4:=h3.1;rw[Nat.mul_one,List.drop_eq_getElem_cons h1] at h4;simp only[List.take_succ_cons,List.take_zero,List.cons.injEq,and_true] at h4;rw[h4];simp[toI]
theorem Jjc (f:Value→ByteArray→Sem (ForInStep ByteArray)) (hf:∀(b:BitVec 8) (s:ByteArray),f (.int .u8 (b.toNat:Int)) s=pure (.yield (s.push (UInt8.ofNat (Int.toNat (b.toNat:Int)))))) (x:List (BitVec 8)):
 ∀(s:ByteArray),(forIn (m:=Sem) (x.map fun b=>Value.int .u8 (b.toNat:Int)) s f).run P w= .ok ⟨s.data++(x.map UInt8.ofBitVec).toArray⟩ w:=by
 induction x with
 | nil=>intro s;simp
 | cons b x ih=>
  intro s;simp only[List.map_cons,List.forIn_cons,Sem.run_bind,hf,Sem.run_pure,Result.andThen_ok,ih]
  congr 1
  have:(UInt8.ofNat (Int.toNat (b.toNat:Int)))=UInt8.ofBitVec b:=by
   apply UInt8.toBitVec_inj.1;apply BitVec.eq_of_toNat_eq;simp
  rw[this];simp[ByteArray.push]
theorem Jk0 (x:List (BitVec 8)):(x.map UInt8.ofBitVec).map UInt8.toBitVec=x:=by
 rw[List.map_map]
 conv=>rhs;rw[←List.map_id x]
 rfl
theorem Jdm (ad:Addr) (w:World):(loadCells ad 0).run P w= .ok #[] w:=by
 simp[loadCells,loadCellsFrom]
theorem Jk1 {u:Value} {x:List (BitVec 8)} (h:Jds own w (.int .u8) u x):∃s,(Conv.bytesToString u).run P w= .ok (.string s) w∧s.data.toList.map UInt8.toBitVec=x:=by
 obtain⟨a,cap,rfl,_,_,_,h5⟩:=h.loads;rcases h5 with ⟨rfl,rfl⟩ | ⟨b,o,cs,rfl,h6,h7,h8⟩
 · refine⟨.empty,?_,rfl⟩
   cases a with
   | none=>rfl
   | some ad=>simp only[List.length_nil,Conv.bytesToString,Sem.run_bind,Jdm,Result.andThen_ok];rfl
 · have h9:=JgU h6 h7
   have hl:cs.length=x.length:=by simpa [Ty.size] using h6
   have hrun:=Jce (P:=P) cs x.length hl h8;refine⟨⟨(x.map UInt8.ofBitVec).toArray⟩,?_,by simpa using Jk0 x⟩;simp only[Conv.bytesToString,Sem.run_bind,hrun,Result.andThen_ok,h9];rw[←Array.forIn_toList];rw[Jjc _ (fun b s=>rfl) x ByteArray.empty];simp
end
end Go.Re
namespace Go.Re
set_option linter.unusedVariables false
set_option linter.unusedSimpArgs false
open Go.RowKit (Below)
section
variable {P:Program} {E:Env} {N:Nat} {Z:Base} {own:Own} {β:Jai} {σ:S} {a:Act} {w:World} {o:Oper}
theorem JeA.str {u:Value} {x:List (BitVec 8)} (h:JeA own w .str u x):Jab own w .str u x:=h
theorem JeA.q {e:Ty} {u:Value} {x:List e.D} (h:JeA own w (.sl e) u x):Jds own w e u x:=h
theorem Jfq {n:Nat} (h:n≤big):Jab own w (.int .i64) (goInt n) (n:Int):=by
 refine Jab.int.2 ⟨rfl,?_⟩;have:n≤140737488355328:=h;show (-9223372036854775808:Int)≤(n:Int)∧(n:Int)<9223372036854775808;omega
theorem JlU (hE:EnvOk P E) (h:St N Z own β σ a w) {t ty:Nat} {v:V} {u:Value} {r:V×S} (hu:Jac own w β σ.mem v u) (hr:(JlD E t v).run σ=some r):
 Jck P own w β σ (Builtin.len_ #[t] ty #[u]) r:=by
 unfold JlD at hr;split at hr
 · rename_i ht
   obtain⟨x,h1,h2⟩:=JdP h hu hr;obtain⟨s,rfl,h3,h4⟩:=Jab.str.1 h1.str;rw[Jaq h2];have hd:P.underlying t=some .string:=(hE.ty t _ ht).desc;refine⟨goInt s.size,by simp[Builtin.len_,run_underlying hd],rfl,?_⟩;subst h3;have e:(List.map UInt8.toBitVec s.data.toList).length=s.size:=by simp
   show Jab own w (.int .i64) _ ((List.map UInt8.toBitVec s.data.toList).length:Int);rw[e] at h4 ⊢;exact Jfq h4
 · rename_i e ht
   obtain⟨x,h1,h2⟩:=JdP h hu hr;obtain⟨ad,cap,q,rfl,h3,h4,h5,_⟩:=h1.q;rw[Jaq h2];obtain⟨te,hd,_⟩:=(hE.ty t _ ht).desc;exact⟨goInt x.length,by simp[Builtin.len_,run_underlying hd],rfl,Jfq h5⟩
 · cases hr
theorem Jnu {k:IntKind} {x y z:IntT k} (hx:okI k x) (hy:okI k y) (h:mnI k x y=some z):(Builtin.min2 (.int k (toI k x)) (.int k (toI k y))).run P w= .ok (.int k (toI k z)) w∧okI k z:=by
 cases k with
 | i64=>
  cases h
  have key:∀x y:Int,(Builtin.min2 (.int .i64 x) (.int .i64 y)).run P w= .ok (.int .i64 (bif decide (y<x) then y else x)) w:=fun x y=>by
   simp only[Builtin.min2,Sem.run_pure];by_cases h:y<x<;>simp[h]
  refine⟨key x y,?_⟩;cases (decide (@LT.lt Int _ y x))<;>assumption
 | u8=>cases h;exact⟨mn x y,trivial⟩
 | u16=>cases h;exact⟨mn x y,trivial⟩
 | u32=>cases h;exact⟨mn x y,trivial⟩
 | u64=>cases h;exact⟨mn x y,trivial⟩
 | i8=>cases h
 | i16=>cases h
 | i32=>cases h
where
 mn {n:Nat} {k:IntKind} (x y:BitVec n):(Builtin.min2 (.int k (x.toNat:Int)) (.int k (y.toNat:Int))).run P w= .ok (.int k ((bif decide (y<x) then y else x).toNat:Int)) w:=by
  simp only[Builtin.min2,Sem.run_pure];have:((y.toNat:Int)<(x.toNat:Int))↔y<x:=by rw[BitVec.lt_def];omega
  by_cases h:y<x<;>simp[this,h]
theorem Jnv {k:IntKind} {x y z:IntT k} (hx:okI k x) (hy:okI k y) (h:mxI k x y=some z):(Builtin.max2 (.int k (toI k x)) (.int k (toI k y))).run P w= .ok (.int k (toI k z)) w∧okI k z:=by
 cases k with
 | i64=>
  cases h
  have key:∀x y:Int,(Builtin.max2 (.int .i64 x) (.int .i64 y)).run P w= .ok (.int .i64 (bif decide (x<y) then y else x)) w:=fun x y=>by
   simp only[Builtin.max2,Sem.run_pure,gt_iff_lt];by_cases h:x<y<;>simp[h]
  refine⟨key x y,?_⟩;cases (decide (@LT.lt Int _ x y))<;>assumption
 | u8=>cases h;exact⟨mn x y,trivial⟩
 | u16=>cases h;exact⟨mn x y,trivial⟩
 | u32=>cases h;exact⟨mn x y,trivial⟩
 | u64=>cases h;exact⟨mn x y,trivial⟩
 | i8=>cases h
 | i16=>cases h
 | i32=>cases h
where
 mn {n:Nat} {k:IntKind} (x y:BitVec n):(Builtin.max2 (.int k (x.toNat:Int)) (.int k (y.toNat:Int))).run P w= .ok (.int k ((bif decide (x<y) then y else x).toNat:Int)) w:=by
  simp only[Builtin.max2,Sem.run_pure,gt_iff_lt];have:((x.toNat:Int)<(y.toNat:Int))↔x<y:=by rw[BitVec.lt_def];omega
  by_cases h:x<y<;>simp[this,h]
theorem Jjx {f:(k:IntKind)→IntT k→IntT k→Option (IntT k)} {g:Value→Value→Sem Value} {v v':V} {u u':Value} {r:V×S}
 (hf:∀{k:IntKind} {x y z:IntT k},okI k x→okI k y→f k x y=some z→(g (.int k (toI k x)) (.int k (toI k y))).run P w= .ok (.int k (toI k z)) w∧okI k z)
 (hu:Jac own w β σ.mem v u) (hu':Jac own w β σ.mem v' u') (hr:(mmM f v v').run σ=some r):Jck P own w β σ (g u u') r:=by
 unfold mmM at hr;split at hr
 · rename_i k x τ' y
   split at hr
   · rename_i y' hy'
     obtain⟨e,hy'⟩:=cast?_some hy';subst e;subst hy';obtain⟨rfl,h1⟩:=Jac.int hu;obtain⟨rfl,h2⟩:=Jac.int hu';exact Jbi (τ:=.int _) hr fun z hz=>⟨_,(hf h1 h2 hz).1,Jab.int.2 ⟨rfl,(hf h1 h2 hz).2⟩⟩
   · cases hr
 · cases hr
theorem JlV (hE:EnvOk P E) {src dst:Nat} {k k':IntKind} {x:IntT k} {z:IntT k'} (h1:E.ty src=some (.int k)) (h2:E.ty dst=some (.int k')) (hx:okI k x) (hz:JhS k k' x=some z):
 (convert src dst (.int k (toI k x))).run P w= .ok (.int k' (toI k' z)) w:=by
 have e1:P.underlying src=some (.int k):=(hE.ty src _ h1).desc;have e2:P.underlying dst=some (.int k'):=(hE.ty dst _ h2).desc;simp only[convert,Sem.run_bind,run_underlying e1,run_underlying e2,Result.andThen_ok,Conv.intToInt,Sem.run_pure,(Jih hx hz).1]
theorem JlW (hE:EnvOk P E) {src dst:Nat} {u:Value} {x:List (BitVec 8)} (h1:E.ty src=some (.sl (.int .u8))) (h2:E.ty dst=some .str) (hu:Jds own w (.int .u8) u x):
 ∃s,(convert src dst u).run P w= .ok (.string s) w∧s.data.toList.map UInt8.toBitVec=x:=by
 obtain⟨te,e1,e3⟩:=(hE.ty src _ h1).desc;have e2:P.underlying dst=some .string:=(hE.ty dst _ h2).desc;have e4:P.underlying te=some (.int .u8):=(hE.ty te _ e3).desc;obtain⟨s,h3,h4⟩:=Jk1 (P:=P) hu;refine⟨s,?_,h4⟩;obtain⟨ad,cap,q,rfl,_⟩:=hu;simp only[convert,Sem.run_bind,run_underlying e1,run_underlying e2,Result.andThen_ok,run_underlying e4];exact h3
theorem Ja2 (ty:Nat→Option Ty):∀(f:Nat) (b:Ty) (off:Nat) (fs:List Field) (τ':Ty),JbG ty off fs b→tyP b (Jaf f)=some τ' →
 ∃fd,fs[f]?=some fd∧fd.offset=off+offP b (Jaf f)∧ty fd.type=some τ'∧0<τ'.size
 | 0,b,off,fs,τ',h,ht=>by
  cases b with
  | pair p q=>
   cases fs with
   | nil=>exact h.elim
   | cons g gs=>
    obtain⟨h1,h2,h3,h4⟩:=h;have ht:tyP p []=some τ':=ht;rw[Ja8] at ht;cases ht;exact⟨g,rfl,by rw[h1];simp[Jaf,offP,Jao],h2,h3⟩
  | unit=>cases ht
  | _=>cases fs<;>exact h.elim
 | f+1,b,off,fs,τ',h,ht=>by
  cases b with
  | pair p q=>
   cases fs with
   | nil=>exact h.elim
   | cons g gs=>
    obtain⟨h1,h2,h3,h4⟩:=h;obtain⟨fd,e1,e2,e3,e4⟩:=Ja2 ty f q (off+p.size) gs τ' h4 ht;exact⟨fd,e1,by rw[e2];show _=off+(p.size+offP q (Jaf f));omega,e3,e4⟩
  | unit=>cases ht
  | _=>cases fs<;>exact h.elim
theorem Jkn (hE:EnvOk P E) {t:Nat} {b:Ty} {v:V} {u:Value} {f:Nat} {r:V×S} (ht:E.ty t=some (.st b)) (hu:Jac own w β σ.mem v u) (hr:(JhY b v f).run σ=some r):
 Jck P own w β σ (Instr.field t u f) r:=by
 unfold JhY at hr;split at hr
 · rename_i τ x
   split at hr
   · rename_i x' τ' hx' hp
     obtain⟨e,hx'⟩:=cast?_some hx';subst e;subst hx';obtain⟨cs,rfl,hc⟩:=(Jab.agg rfl).1 hu;obtain⟨fs,e1,e2⟩:=(hE.ty t _ ht).desc;obtain⟨fd,e3,e4,e5,e6⟩:=Ja2 E.ty f b 0 fs.toList τ' e2 hp;have hc:Jag own w b cs x:=hc;have e3':fs[f]?=some fd:=by simpa using e3
     refine Jbi (τ:=τ') hr fun z hz=>?_;obtain⟨h1,h2⟩:=Jbv b x cs (Jaf f) τ' z hc hz;have hT:=hE.ty fd.type τ' e5;rw[Nat.zero_add] at e4;refine⟨_,?_,Jab.mk hT.isVal h2⟩;simp only[Instr.field,Sem.run_bind,run_underlying e1,Result.andThen_ok,e3',asAgg,Sem.run_pure,e4];exact hT.partRun h2 (by rw[hc.length];exact h1)
   · cases hr
 · cases hr
theorem Jko (hE:EnvOk P E) {t:Nat} {v iv:V} {u i:Value} {r:V×S} (hu:Jac own w β σ.mem v u) (hi:Jac own w β σ.mem iv i) (hr:(JhZ E t v iv).run σ=some r):
 Jck P own w β σ (Instr.index t u i) r:=by
 unfold JhZ at hr;split at hr
 · rename_i n e τ xs k x ht
   split at hr
   · rename_i xs' hx'
     obtain⟨eq,hx'⟩:=cast?_some hx';subst eq;subst hx';obtain⟨rfl,h1⟩:=Jac.int hi;obtain⟨cs,rfl,hl,hcl,hc⟩:=(Jab.agg rfl).1 hu;obtain⟨te,e1,e2⟩:=(hE.ty t _ ht).desc;have hT:=hE.ty te e e2;refine Jbi (τ:=e) hr fun z hz=>?_;unfold ix at hz;by_cases h0:0≤toI k x
     · simp only[h0,decide_true,cond_true] at hz
       obtain⟨h2,h3⟩:=List.getElem?_eq_some_iff.1 hz;have h4:=hc _ h2;rw[h3] at h4;refine⟨_,?_,Jab.mk hT.isVal h4⟩;have hb:(toI k x).toNat*e.size+e.size≤n*e.size:=by rw[←Nat.succ_mul];exact Nat.mul_le_mul_right _ (by omega)
       simp only[Instr.index,asIntOf,Sem.run_bind,Sem.run_pure,Result.andThen_ok,run_underlying e1];rw[if_pos ⟨h0,by omega⟩];simp only[Sem.run_bind,hT.cells,Result.andThen_ok];exact hT.partRun h4 (by omega)
     · simp[h0] at hz
   · cases hr
 · rename_i s k x ht
   obtain⟨rfl,h1⟩:=Jac.int hi;obtain⟨b,rfl,h2,h3⟩:=Jab.str.1 hu;have e1:P.underlying t=some .string:=(hE.ty t _ ht).desc;refine Jbi (τ:=.int .u8) hr fun z hz=>?_;unfold ix at hz;by_cases h0:0≤toI k x
   · simp only[h0,decide_true,cond_true] at hz
     subst h2;rw[List.getElem?_map] at hz;obtain⟨c,h4,rfl⟩:=Option.map_eq_some_iff.1 hz
     have h5:b[(toI k x).toNat]?=some c:=by
      have h6:=(List.getElem?_eq_some_iff.1 h4).1;have h7:=(List.getElem?_eq_some_iff.1 h4).2;rw[getElem?_pos b _ (by simpa using h6)];exact congrArg some h7
     refine⟨_,?_,Jab.int.2 ⟨rfl,trivial⟩⟩;simp only[Instr.index,asIntOf,Sem.run_bind,Sem.run_pure,Result.andThen_ok,run_underlying e1,if_pos h0,h5];rfl
   · simp[h0] at hz
 · cases hr
theorem Jk2 (hE:EnvOk P E) (h:St N Z own β σ a w) {t:Nat} {τ:Ty} {v:V} {u:Value} {r:V×S} (ht:E.ty t=some τ) (hu:Jac own w β σ.mem v u) (hr:(Jj1 τ v).run σ=some r):
 Jck P own w β σ (Instr.loadAt t u) r:=by
 have hT:=hE.ty t τ ht;unfold Jj1 at hr;split at hr
 · rename_i s ver p
   simp only[M.run] at hr;split at hr
   · rename_i ver' τb x hm
     split at hr
     · rename_i e;subst e
       refine Jbi (τ:=τ) hr fun z hz=>?_;obtain⟨b,o,h1,rfl⟩:=hu.2 τb x hm;have hE':=h.mems s;rw[hm] at hE';obtain⟨hv,b',o',cs,h2,h3,h4⟩:=hE';rw[h1] at h2;cases h2;obtain⟨h5,h6⟩:=Jbv τb x cs p τ z h4 hz;refine⟨_,?_,Jab.mk hT.isVal h6⟩;simp only[Instr.loadAt,Instr.sureAddr,Sem.run_bind,Sem.run_pure,Result.andThen_ok];refine hT.load h6 fun j v hj=>?_;rw[List.getElem?_take] at hj;split at hj
       · rw[List.getElem?_drop] at hj
         have:=(h3 _ _ hj).2.2.1
         rwa [←Nat.add_assoc] at this
       · cases hj
     · cases hr
   · cases hr
 · rename_i s ver i p
   simp only[M.run] at hr;split at hr
   · rename_i ver' τe xs m hm
     split at hr
     · rename_i e;subst e
       refine Jbi (τ:=τ) hr fun z hz=>?_;obtain⟨y,hy,hz⟩:=Option.bind_eq_some_iff.1 hz;obtain⟨hi,b,o,n,c,h1,rfl⟩:=hu.2 τe xs m hm;have hE':=h.mems s;rw[hm] at hE';obtain⟨ad,cap,h2,h3,h4,h5,h6⟩:=(Jaj.rowV h1 hE').2;rw[h1] at h2;cases h2;rcases h6 with ⟨h6,_⟩ | ⟨b',o',h6,h7,_⟩
       · omega
       · cases h6
         obtain⟨es,g1,g2,g3⟩:=h7 i hi;have hyi:xs[i]=y:=(List.getElem?_eq_some_iff.1 hy).2;rw[hyi] at g3;obtain⟨h8,h9⟩:=Jbv τe y es p τ z g3 hz;refine⟨_,?_,Jab.mk hT.isVal h9⟩;simp only[Instr.loadAt,Instr.sureAddr,Sem.run_bind,Sem.run_pure,Result.andThen_ok];refine hT.load h9 fun j v hj=>?_;rw[List.getElem?_take] at hj;split at hj
         · rw[List.getElem?_drop] at hj
           have:=(g2 _ _ hj).2
           rwa [←Nat.add_assoc] at this
         · cases hj
     · cases hr
   · cases hr
 · rename_i τ' x
   split at hr
   · rename_i y hy
     obtain⟨e,hy⟩:=cast?_some hy;subst e;subst hy;obtain⟨hv,b,o,cs,rfl,h1,h2⟩:=hu;rw[Jaq hr];refine⟨_,?_,rfl,Jab.mk hT.isVal h2⟩;simp only[Instr.loadAt,Instr.sureAddr,Sem.run_bind,Sem.run_pure,Result.andThen_ok];exact hT.load h2 fun j v hj=>(h1 j v hj).2
   · cases hr
 · cases hr
theorem fieldAt_run (hE:EnvOk P E) {t:Nat} {b:Ty} (ht:E.ty t=some (.st b)) {f:Nat} {τ':Ty} (hp:tyP b (Jaf f)=some τ') (bl off:Nat):
 (Instr.fieldAt t (.pointer (some ⟨bl,off,none⟩)) f).run P w= .ok (.pointer (some ⟨bl,off+offP b (Jaf f),none⟩)) w:=by
 obtain⟨fs,e1,e2⟩:=(hE.ty t _ ht).desc;obtain⟨fd,e3,e4,e5,e6⟩:=Ja2 E.ty f b 0 fs.toList τ' e2 hp;have e3':fs[f]?=some fd:=by simpa using e3
 have hT:=hE.ty fd.type τ' e5;rw[Nat.zero_add] at e4;have:¬τ'.size=0:=by omega
 simp only[Instr.fieldAt,Sem.run_bind,run_underlying e1,Result.andThen_ok,e3',Instr.sureAddr,Sem.run_pure,fieldPlace,hT.cells,if_neg this,Jbx,e4]
theorem JcK {τb b:Ty} {p:List Stp} (h:tyP τb p=some (.st b)) (f:Nat):offP τb (p++Jaf f)=offP τb p+offP b (Jaf f):=by
 obtain⟨_,h2⟩:=Jct τb p (Jaf f) _ h;rw[h2];cases f<;>rfl
theorem JgV (hE:EnvOk P E) (h:St N Z own β σ a w) {t:Nat} {b:Ty} {v:V} {u:Value} {f:Nat} {r:V×S} (ht:E.ty t=some (.st b)) (hf:(tyP b (Jaf f)).isSome=true) (hu:Jac own w β σ.mem v u)
 (hr:(Jex b v f).run σ=some r):Jck P own w β σ (Instr.fieldAt t u f) r:=by
 obtain⟨τ',hp⟩:=Option.isSome_iff_exists.1 hf;unfold Jex at hr;split at hr
 · rename_i s ver p
   simp only[M.run] at hr;split at hr
   · rename_i ver' τb x hm
     split at hr
     · rename_i e
       obtain⟨e,e'⟩:=e;subst e;obtain⟨bl,off,h1,rfl⟩:=hu.2 τb x hm;rw[Jaq hr];refine⟨_,fieldAt_run hE ht hp _ _,rfl,hu.1,fun τ x' hm'=>?_⟩;rw[hm] at hm';cases hm';exact⟨bl,off,h1,by rw[JcK e'];simp[Nat.add_assoc]⟩
     · cases hr
   · cases hr
 · rename_i s ver i p
   simp only[M.run] at hr;split at hr
   · rename_i ver' τe xs m hm
     split at hr
     · rename_i e
       obtain⟨e,e'⟩:=e;subst e;obtain⟨hi,bl,off,n,c,h1,rfl⟩:=hu.2 τe xs m hm;rw[Jaq hr];refine⟨_,fieldAt_run hE ht hp _ _,rfl,hu.1,fun τ x' m' hm'=>?_⟩;rw[hm] at hm';cases hm';exact⟨hi,bl,off,n,c,h1,by rw[JcK e'];simp[Nat.add_assoc]⟩
     · cases hr
   · cases hr
 · rename_i τ x
   split at hr
   · rename_i x' τ'' hx' hp'
     rw[hp] at hp';cases hp';obtain⟨e,hx'⟩:=cast?_some hx';subst e;subst hx';obtain⟨hv,bl,off,cs,rfl,h1,h2⟩:=hu;obtain⟨y,h3,h4⟩:=Jal hr;have h2:Jag own w b cs x:=h2;obtain⟨h5,h6⟩:=Jbv b x cs (Jaf f) τ' y h2 h3
     have hT:τ'.isVal=true:=by
      obtain⟨fs,e1,e2⟩:=(hE.ty t _ ht).desc;obtain⟨fd,e3,e4,e5,e6⟩:=Ja2 E.ty f b 0 fs.toList τ' e2 hp;exact (hE.ty fd.type τ' e5).isVal
     rw[h4];refine⟨_,fieldAt_run hE ht hp _ _,rfl,hT,bl,_,_,rfl,?_,h6⟩;intro j u hj;rw[List.getElem?_take] at hj;split at hj
     · rw[List.getElem?_drop] at hj
       have:=h1 _ _ hj
       rwa [←Nat.add_assoc] at this
     · cases hj
   · cases hr
 · cases hr
end
end Go.Re
namespace Go.Re
set_option linter.unusedVariables false
set_option linter.unusedSimpArgs false
open Go.RowKit (Below)
section
variable {P:Program} {E:Env} {N:Nat} {Z:Base} {own:Own} {β:Jai} {σ:S} {a:Act} {w:World} {o:Oper}
theorem Jdn {i:Int} {n:Nat} (h:inLen i n=true):0≤i∧i<(n:Int):=by
 simpa [inLen] using h
theorem indexAt_slice (hE:EnvOk P E) {t:Nat} {e:Ty} (ht:E.ty t=some (.sl e)) (b off len cap:Nat) (k:IntKind) {i:Int} (h0:0≤i) (h1:i<(len:Int)):
 (Instr.indexAt t (.slice (some ⟨b,off,none⟩) len cap) (.int k i)).run P w= .ok (.pointer (some ⟨b,off+i.toNat*e.size,none⟩)) w:=by
 obtain⟨te,e1,e2⟩:=(hE.ty t _ ht).desc;have hT:=hE.ty te e e2;simp[Instr.indexAt,run_underlying e1,asIntOf,h0,h1,hT.cells,Jbx]
theorem Jdu (hE:EnvOk P E) {t n:Nat} {e:Ty} (ht:E.ty t=some (.arr n e)) (b off:Nat) (k:IntKind) {i:Int} (h0:0≤i) (h1:i<(n:Int)):
 (Instr.indexAt t (.pointer (some ⟨b,off,none⟩)) (.int k i)).run P w= .ok (.pointer (some ⟨b,off+i.toNat*e.size,none⟩)) w:=by
 obtain⟨te,e1,e2⟩:=(hE.ty t _ ht).desc;have hT:=hE.ty te e e2;simp[Instr.indexAt,run_underlying e1,asIntOf,h0,h1,hT.cells,Jbx,Instr.sureAddr]
theorem TyOk.elem (hE:EnvOk P E) {t:Nat} {e:Ty} (ht:E.ty t=some (.sl e)):e.isVal=true:=by
 obtain⟨te,e1,e2⟩:=(hE.ty t _ ht).desc;exact (hE.ty te e e2).isVal
theorem TyOk.elemA (hE:EnvOk P E) {t n:Nat} {e:Ty} (ht:E.ty t=some (.arr n e)):e.isVal=true:=by
 obtain⟨te,e1,e2⟩:=(hE.ty t _ ht).desc;exact (hE.ty te e e2).isVal
theorem Jfr {α:Type} {xs:List α} {i:Int} {x:α} (h:ix xs i=some x):0≤i∧i<(xs.length:Int)∧∃h:i.toNat<xs.length,xs[i.toNat]=x:=by
 unfold ix at h;by_cases h0:0≤i
 · simp only[h0,decide_true,cond_true] at h
   obtain⟨h1,h2⟩:=List.getElem?_eq_some_iff.1 h;exact⟨h0,by omega,h1,h2⟩
 · simp[h0] at h
theorem Jjy {e:Ty} (hv:e.isVal=true) {u:Value} {xs:List e.D} (hq:Jab own w (.sl e) u xs) {i:Int} {x:e.D} (hx:ix xs i=some x):
 ∃b off cap,u= .slice (some ⟨b,off,none⟩) xs.length cap∧Jac own w β σ.mem (.rpt e x) (.pointer (some ⟨b,off+i.toNat*e.size,none⟩)):=by
 obtain⟨h0,h1,h2,h3⟩:=Jfr hx;obtain⟨ad,cap,e1,e2,e3,e4,e5⟩:=Jab.sl.1 hq;cases e1;rcases e5 with ⟨_,e6⟩ | ⟨b,off,rfl,e6⟩
 · omega
 · obtain⟨es,g1,g2,g3⟩:=e6 i.toNat h2
   rw[h3] at g3;exact⟨b,off,cap,rfl,hv,b,_,es,rfl,g2,g3⟩
theorem JgW (hE:EnvOk P E) (h:St N Z own β σ a w) {t:Nat} {v iv:V} {u i:Value} {r:V×S} (hu:Jac own w β σ.mem v u) (hi:Jac own w β σ.mem iv i)
 (hr:(Jey E t v iv).run σ=some r):Jck P own w β σ (Instr.indexAt t u i) r:=by
 unfold Jey at hr;split at hr
 · rename_i k x
   obtain⟨rfl,hx⟩:=Jac.int hi;split at hr
   ·
    rename_i e ht;have hv:=TyOk.elem hE ht;split at hr
    · rename_i τ xs
      split at hr
      · rename_i xs' hx'
        obtain⟨eq,hx'⟩:=cast?_some hx';subst eq;subst hx';obtain⟨y,h1,h2⟩:=Jal hr;obtain⟨h3,h4,_⟩:=Jfr h1;obtain⟨b,off,cap,rfl,h5⟩:=Jjy (β:=β) (σ:=σ) hv hu h1;rw[h2];exact⟨_,indexAt_slice hE ht _ _ _ _ k h3 h4,rfl,h5⟩
      · cases hr
    · rename_i s ver
      simp only[M.run] at hr;split at hr
      · rename_i ver' e' xs m hm
        split at hr
        · rename_i eq;subst eq
          split at hr
          · rename_i xs' hx'
            obtain⟨eq,hx'⟩:=cast?_some hx';cases eq;have hx':xs=xs':=hx';subst hx';have hus:=hu.2 e xs m hm;have hmm:=h.mems s;rw[hm] at hmm;have hnm:m.isMp=false:=by cases m<;>first | rfl | (exfalso;cases hr)
            obtain⟨ad,cap,e1,e2,e3,e4,e5⟩:=Jaj.row hnm hmm;split at hr
            ·
             obtain⟨y,h1,h2⟩:=Jal hr;obtain⟨h3,h4⟩:=Jdn (Jap h1);rcases e5 with ⟨e6,_⟩ | ⟨b,off,rfl,e6,_⟩
             · omega
             · rw[h2,hus,e1]
               refine⟨_,indexAt_slice hE ht b off xs.length cap k h3 h4,rfl,hu.1,?_⟩;intro τ xs' m' hm';rw[hm] at hm';cases hm';exact⟨by omega,b,off,xs.length,cap,e1,by simp[Jao]⟩
            · cases hr
            · cases hr
            · cases hr
            · cases hr
            · rename_i hnf _ hng _ _
              obtain⟨y,h1,h2⟩:=Jal hr;obtain⟨h3,h4,_⟩:=Jfr h1
              have hq:Jab own w (.sl e) u xs:=by
               rw[hus,e1];refine JaX.frozen e2 e3 e4 (e5.imp (·.1) fun ⟨b,o,e6,e7,_⟩=>⟨b,o,e6,?_⟩);cases m with
               | full=>exact absurd rfl hnf
               | tail=>exact e7
               | view=>exact e7
               | mp=>cases hnm
               | gb l=>exact absurd rfl (hng l)
               | bg=>cases hnm
               | it b=>cases hnm
              obtain⟨b,off,cap',hu',h5⟩:=Jjy (β:=β) (σ:=σ) hv hq h1;rw[h2,hu'];exact⟨_,indexAt_slice hE ht _ _ _ _ k h3 h4,rfl,h5⟩
          · cases hr
        · cases hr
      · cases hr
    · cases hr
   ·
    rename_i n e ht;split at hr
    · cases hr
    · split at hr
      · rename_i s ver p
        simp only[M.run] at hr;split at hr
        · rename_i ver' τb y hm
          split at hr
          · rename_i eq
            obtain⟨eq,eq'⟩:=eq;subst eq;obtain⟨z,h1,h2⟩:=Jal hr;obtain⟨h3,h4⟩:=Jdn (Jap h1);obtain⟨bl,off,h5,rfl⟩:=hu.2 τb y hm;rw[h2];refine⟨_,Jdu hE ht _ _ k h3 h4,rfl,hu.1,fun τ x' hm'=>?_⟩;rw[hm] at hm';cases hm';refine⟨bl,off,h5,?_⟩;rw[(Jct τb p [.idx (toI k x).toNat] _ eq').2];simp[offP,Jao,Nat.add_assoc]
          · cases hr
        · cases hr
      · rename_i s ver j p
        simp only[M.run] at hr;split at hr
        · rename_i ver' τe xs m hm
          split at hr
          · rename_i eq
            obtain⟨eq,eq'⟩:=eq;subst eq;obtain⟨z,h1,h2⟩:=Jal hr;obtain⟨h3,h4⟩:=Jdn (Jap h1);obtain⟨hj,bl,off,nn,cc,h5,rfl⟩:=hu.2 τe xs m hm;rw[h2];refine⟨_,Jdu hE ht _ _ k h3 h4,rfl,hu.1,fun τ x' m' hm'=>?_⟩;rw[hm] at hm';cases hm';refine⟨hj,bl,off,nn,cc,h5,?_⟩;rw[(Jct τe p [.idx (toI k x).toNat] _ eq').2];simp[offP,Jao,Nat.add_assoc]
          · cases hr
        · cases hr
      · rename_i τ xs
        split at hr
        · rename_i xs' hx'
          obtain⟨eq,hx'⟩:=cast?_some hx';subst eq;subst hx';obtain⟨y,h1,h2⟩:=Jal hr;obtain⟨h3,h4,h6,h7⟩:=Jfr h1;obtain⟨hv,bl,off,cs,rfl,h8,h9⟩:=hu;obtain⟨g1,g2,g3⟩:=h9;rw[h2];have h4':toI k x<(n:Int):=by rw[←g1];exact h4
          refine⟨_,Jdu hE ht _ _ k h3 h4',rfl,TyOk.elemA hE ht,bl,_,_,rfl,?_,h7▸g3 _ h6⟩;intro j v hj;rw[List.getElem?_take] at hj;split at hj
          · rw[List.getElem?_drop] at hj
            have:=h8 _ _ hj
            rwa [←Nat.add_assoc] at this
          · cases hj
        · cases hr
      · cases hr
   · cases hr
 · cases hr
theorem JdS {lo hi:Option Int} {n:Nat} (h:Jcs lo hi n=true):∃l m:Nat,(∀x,lo=some x→x=(l:Int))∧(lo=none→l=0)∧(∀x,hi=some x→x=(m:Int))∧(hi=none→m=n)∧l≤m∧m≤n ∧
 ∀{α:Type} (xs:List α),xs.length=n→Jdr xs lo hi=(xs.take m).drop l:=by
 cases lo with
 | none=>cases hi with
  | none=>exact⟨0,n,by simp,by simp,by simp,by simp,by omega,by omega,fun xs hx=>by simp[Jdr,←hx]⟩
  | some h'=>
   simp[Jcs] at h;exact⟨0,h'.toNat,by simp,by simp,by simp;omega,by simp,by omega,by omega,fun xs hx=>by simp[Jdr]⟩
 | some l'=>cases hi with
  | none=>
   simp[Jcs] at h;refine⟨l'.toNat,n,by simp;omega,by simp,by simp,by simp,by omega,by omega,fun xs hx=>?_⟩;simp[Jdr,←hx]
  | some h'=>
   simp[Jcs] at h;exact⟨l'.toNat,h'.toNat,by simp;omega,by simp,by simp;omega,by simp,by omega,by omega,fun xs hx=>by simp[Jdr,slc]⟩
theorem Jab.piece {e:Ty} {ad:Option Addr} {n cap:Nat} {x:List e.D} (h:Jab own w (.sl e) (.slice ad n cap) x) {l m:Nat} (h1:l≤m) (h2:m≤n):
 n=x.length∧n≤cap∧Jab own w (.sl e) (.slice (if cap=l then ad else ad.map (·.add (l*e.size))) (m-l) (cap-l)) ((x.take m).drop l):=by
 obtain⟨a',cap',e1,e2,e3,e4,e5⟩:=Jab.sl.1 h;cases e1;have hlen:((x.take m).drop l).length=m-l:=by simp;omega
 refine⟨rfl,e2,Jab.sl.2 ⟨if cap=l then ad else ad.map (·.add (l*e.size)),cap-l,by rw[hlen],by rw[hlen];omega,by omega,by rw[hlen];omega,?_⟩⟩
 · rcases e5 with e6 | ⟨b,o,rfl,e6⟩
   · left;omega
   · right
     by_cases hc:cap=l
     · refine⟨b,o,by simp[hc],?_⟩
       intro i hi;rw[hlen] at hi;omega
     · refine⟨b,o+l*e.size,by simp[hc,Jbx],?_⟩
       intro i hi;have hi':=hi;rw[hlen] at hi';obtain⟨es,g1,g2,g3⟩:=e6 (l+i) (by omega);refine⟨es,g1,?_,?_⟩
       · intro j v hj
         have:=g2 j v hj
         rwa [show o+(l+i)*e.size+j=o+l*e.size+i*e.size+j by rw[Nat.add_mul];omega] at this
       · have:((x.take m).drop l)[i]'hi=x[l+i]'(by omega):=by simp
         rw[this];exact g3
theorem Jdo (h:St N Z own β σ a w) {α:Type} {x:Option Operand} {k:Option Int→M α} {r:α×S} (hr:(Jdf x k).run σ=some r):
 (x=none∧(k none).run σ=some r)∨∃op kd i,x=some op∧a.eval op= .int kd i∧(k (some i)).run σ=some r:=by
 unfold Jdf at hr;cases x with
 | none=>exact .inl ⟨rfl,hr⟩
 | some op=>
  right
  obtain⟨v,h1,h2⟩:=Jak h hr;split at h2
  · rename_i kd i
    obtain⟨h3,_⟩:=Jac.int h1;exact⟨op,kd,toI kd i,rfl,h3,h2⟩
  · cases h2
theorem Jcv {kd:IntKind} {n y:Nat} (code:BoundsCode) (h:n≤y):(Instr.sliceBound (.int kd (n:Int)) y code).run P w= .ok n w:=by
 simp[Instr.sliceBound,asIntOf,h]
theorem JbE {isSl:Bool} {n cap l m:Nat} (hl:l≤m) (hm:m≤n) (hc:n≤cap) {lo hi:Option Value} (h1:lo=none∧l=0∨∃k,lo=some (.int k (l:Int)))
 (h2:hi=none∧m=n∨∃k,hi=some (.int k (m:Int))):(Instr.sliceBounds isSl n cap lo hi none).run P w= .ok (l,m,cap) w:=by
 rcases h1 with ⟨rfl,rfl⟩ | ⟨k,rfl⟩<;>rcases h2 with ⟨rfl,rfl⟩ | ⟨k',rfl⟩ <;>
  simp[Instr.sliceBounds,Jcv,hl,Nat.le_trans hm hc]
end
end Go.Re
