/- The library of the reflection: an evaluator of the program's code, and that it is sound. -/
import Derived.Test.YthnpgnabfcaaiaaGreatLib2
import Derived.Orders
import Derived.Still
namespace Go.Re
set_option linter.unusedVariables false
set_option linter.unusedSimpArgs false
open Go.RowKit (Below)
section
variable {P:Program} {E:Env} {N:Nat} {Z:Base} {own:Own} {β:Jai} {σ:S} {a:Act} {w:World} {o:Oper}
theorem Jm7 (h:St N Z own β σ a w) {v:Re.V} {u:Value} (hu:Jac own w β σ.mem v u) (he:execOp a.eval o=pure (.value u)) {r:Re.V×S} (hr:(JlI v).run σ=some r):Did P N Z o a w r.2 r.1:=by
 unfold JlI at hr;split at hr
 case h_2=>cases hr
 rename_i s ver;simp only[M.run] at hr;split at hr
 case h_2=>cases hr
 rename_i ver' K V xs hen;split at hr
 case isFalse=>cases hr
 rename_i hver;subst hver;obtain⟨_,_,h9⟩:=Option.map_eq_some_iff.1 hr;subst h9;have hmm:=h.mems s;rw[hen] at hmm;obtain⟨rr,es,c,m1,m2,m3,m4,m5⟩:=hmm;have hum:u= .map (some rr):=(hu.2 _ _ _ hen).trans m1;have hk0:∀b j,own b j=none→(if b=rr then none else own b j)=none:=fun b j e=>by split<;>first | rfl | exact e
 have hk:Keeps own (fun b j=>if b=rr then none else own b j) w w:=⟨fun b j v e1 e2=>⟨hk0 b j e1,e2⟩,fun b es c e1 e2=>⟨hk0 b 0 e1,e2⟩⟩
 have hks:∀s',s'≠s→Jah s' own (fun b j=>if b=rr then none else own b j) w w:=fun s' hs=>by
  refine⟨fun b j v e1 e2=>⟨?_,e2,rfl⟩,fun b ob hob e1 e2=>⟨?_,e2⟩⟩
  · show (if b=rr then none else own b j)=_
    rw[if_neg (fun e=>by rw[e,JcC m4] at e2;cases e2)];exact e1
  · show (if b=rr then none else own b 0)=_
    rw[if_neg (fun e=>by rw[e,m3] at e1;cases e1;exact hs rfl)];exact e1
 refine Jae (own':=fun b j=>if b=rr then none else own b j) (β':=β) (u:=u) (w':=w) (by rw[he];rfl) ?_ ?_
 · refine h.go (Frm.refl _ _ _) (fun b j hlt _=>by show (if b=rr then none else own b j)=_;rw[if_neg (by have:=h.base;omega)]) hk ?_ rfl ?_ (JaO rfl hks)
   · intro s'
     show Evo β β s' (σ.mem s') (upd σ.mem s _ s');rw[Jad];split
     · rename_i e;subst e;rw[hen];exact Evo.gone
     · exact Evo.same _ rfl
   · intro s'
     show Jaj Z _ w β s' (upd σ.mem s _ s');rw[Jad];split
     · trivial
     · rename_i e;exact (h.mems s').keeps hk (hks s' e) (fun _ _ e=>e) rfl
 · rw[hum]
   exact⟨rfl,[.map (some rr)],rfl,.inr ⟨rr,es,c,rfl,by simp,m4,m5⟩⟩
theorem Jm8 (hE:EnvOk P E) (h:St N Z own β σ a w) {d t:Nat} {K V:Ty} {v:Re.V} {u:Value} (ht:E.ty t=some (.mp K V)) (hu:Jac own w β σ.mem v u)
 (he:execOp a.eval o=(do pure (.value (←Instr.range t u)))) {r:Re.V×S} (hr:(JlJ d K V v).run σ=some r):Did P N Z o a w r.2 r.1:=by
 obtain⟨tk,tv,q1,q2,q3⟩:=(hE.ty t _ ht).desc;unfold JlJ at hr;split at hr
 case h_2=>cases hr
 rename_i τ xs0;split at hr
 case h_2=>cases hr
 rename_i xs hxs;obtain⟨e1,hxs⟩:=cast?_some hxs;subst e1;have hxs:xs0=xs:=hxs;subst hxs;simp only[M.run] at hr;obtain⟨_,_,h9⟩:=Option.map_eq_some_iff.1 hr;subst h9;have hv:Jab own w (.mp K V) u xs0:=hu;obtain⟨_,cs,hcs,hrep⟩:=hv;have hB:=h.base;rcases hrep with ⟨rfl,rfl⟩ | ⟨m,es,c,rfl,m1,m2,m3⟩
 · have hu:u= .map none:=hcs
   have hn:=Jeh w (.mapIter none 0 #[] 0) rfl
   have hrun:(Instr.range t u).run P w= .ok (.pointer (some ⟨w.heap.size,0,none⟩)) {w with heap:=w.heap.push (.mapIter none 0 #[] 0)}:=by
    rw[hu];exact run_range_nilMap w t tk tv q1
   have hst:=h.newObj hn (Jaa d 0) (.own (nextVer (σ.mem (Jaa d 0))) (.pair K V) [(K.zero,V.zero)] (.it false)) (.pointer (some ⟨w.heap.size,0,none⟩)) (fun β'=>Evo.newOwn _ _ _ _)
    ⟨w.heap.size,by rw[Jad,if_pos rfl],hB,by simp[Jam],.inl ⟨_,_,_,hn.self,rfl,rfl⟩⟩
   exact Jae (exec_v he hrun) hst (Ja0 _ _ _ _ _ _ _ _ _ _)
 · have hu:u= .map (some m):=hcs
   have hn:=Jeh w (.mapIter (some m) c #[] c) rfl
   have hrun:(Instr.range t u).run P w= .ok (.pointer (some ⟨w.heap.size,0,none⟩)) {w with heap:=w.heap.push (.mapIter (some m) c #[] c)}:=by
    rw[hu];exact run_range_map w t tk tv m es c q1 m2
   have hlt:=Ja6 m2
   have hst:=h.newObj hn (Jaa d 0) (.own (nextVer (σ.mem (Jaa d 0))) (.pair K V) ((K.zero,V.zero)::xs0) (.it false)) (.pointer (some ⟨w.heap.size,0,none⟩)) (fun β'=>Evo.newOwn _ _ _ _)
    ⟨w.heap.size,by rw[Jad,if_pos rfl],hB,by simp[Jam],.inr ⟨m,es,c,#[],xs0,hn.self,by unfold Jam;rw[if_neg (by omega)];exact m1,by rw[hn.old m hlt];exact m2,m3,
     fun hb=>(by cases hb),fun e he _=>m3.mem e he,fun p hp=>(by obtain⟨e,e1,e2⟩:=m3.dom p hp;exact⟨e,e1,by simp,e2⟩),m3.ok⟩⟩
   exact Jae (exec_v he hrun) hst (Ja0 _ _ _ _ _ _ _ _ _ _)
theorem Jb7 {r:Nat} {ob:Obj} (ho:Jez ob=true) (hb:w.heap[r]?=some ob):(getObj r).run P w= .ok ob w:=by
 simp only[getObj,Sem.run,hb];cases ob<;>first | rfl | cases ho
theorem JhP {r:Nat} {ob0 ob:Obj} (ho:Jez ob0=true) (hb:w.heap[r]?=some ob0):(setObj r ob).run P w= .ok () {w with heap:=w.heap.setIfInBounds r ob}:=by
 simp only[setObj,Sem.run,hb];cases ob0<;>first | rfl | cases ho
theorem Jm9 (h:St N Z own β σ a w) {v:Re.V} {u:Value} (hu:Jac own w β σ.mem v u) (he:execOp a.eval o=(do pure (.value (←Instr.entry u)))) {r:Re.V×S} (hr:(JlK v).run σ=some r):Did P N Z o a w r.2 r.1:=by
 unfold JlK at hr;split at hr
 case h_2=>cases hr
 rename_i s ver;simp only[M.run] at hr;split at hr
 case h_2=>cases hr
 rename_i ver' K V xs hen;split at hr
 case isFalse=>cases hr
 rename_i hver;subst hver;obtain⟨p,h1,h2⟩:=Jal hr;rw[h2];have hmm:=h.mems s;rw[hen] at hmm;obtain⟨rr,m1,m2,m3,m4⟩:=hmm;have hum:u= .pointer (some ⟨rr,0,none⟩):=(hu.2 _ _ _ hen).trans m1;rcases m4 with ⟨_,_,_,_,hf,_⟩ | ⟨m,es,c,seen,bag,g1,g2,g3,g4,g5,_⟩
 · cases hf
 obtain⟨e,e1,e2,p',e3,e4,e5,e6,e7⟩:=g5 rfl;rw[h1] at e3;cases e3
 have hrun:(Instr.entry u).run P w= .ok (.tuple #[e.key,e.val]) w:=by
  rw[hum];unfold Instr.entry;have hfind:es.find? (fun x=>x.born==e.born)=some e:=by rw[←Array.find?_toList];exact find_born e es.toList g4.born e1
  simp only[Sem.run_bind,Jb7 rfl g1,Result.andThen_ok,e2,Jb7 rfl g3,bne_self_eq_false,Bool.false_eq_true,if_false,hfind,Sem.run_pure]
 refine Jae (exec_v he hrun) h ⟨e.key,[e.val],rfl,?_,e.val,[],rfl,?_,rfl⟩
 · show Jab own w K e.key p.1
   rw[e4];exact Jab.ofEnc g4.plain.1 g4.plain.2.2.1 e6
 · show Jab own w V e.val p.2
   rw[e5];exact Jab.ofEnc g4.plain.2.1 g4.plain.2.2.2 e7
theorem Jjh (ty:TypeId) {r m c:Nat} {seen:Array Nat} {es:Array MapEntry} (hr:w.heap[r]?=some (.mapIter (some m) c seen c)) (hm:w.heap[m]?=some (.map es c)) (hold:∀x∈es.toList,x.born<c):
 ((leftOf es seen).size=0∧(Instr.next (.pointer (some ⟨r,0,none⟩)) false ty).run P w= .ok (.tuple #[.bool false]) w) ∨
 ∃e∈(leftOf es seen).toList,∃w1:World,ObjSet r (.mapIter (some m) c (seen.push e.born) c) w w1∧(Instr.next (.pointer (some ⟨r,0,none⟩)) false ty).run P w= .ok (.tuple #[.bool true,e.key,e.val]) w1:=by
 simp only[Instr.next,Sem.run_bind,Jb7 rfl hr,Jb7 rfl hm,Result.andThen_ok,next_test_false seen es c c hold (Nat.le_refl _),Bool.false_eq_true,if_false];unfold leftOf;have hmem:∀x∈(Array.filter (fun e=>!seen.contains e.born) es).toList,x.born<c:=fun x hx=>hold x (by simp at hx ⊢;exact hx.1)
 generalize Array.filter (fun e=>!seen.contains e.born) es=L at hmem ⊢
 have e1:L.filter (fun x=>decide (x.born<c))=L:=Array.filter_eq_self.2 (fun x hx=>by simpa using hmem x (by simpa using hx))
 have e2:L.filter (fun x=>decide (x.born≥c))=#[]:=by
  rw[Array.filter_eq_empty_iff];intro x hx;have:=hmem x (by simpa using hx);simp;omega
 simp only[e1,e2,Array.append_empty];by_cases h0:L.size=0
 · left
   have:L=#[]:=Array.eq_empty_of_size_eq_zero h0;subst this;refine⟨rfl,?_⟩;simp[choose,Sem.run,Question.forced]
 · right
   have hne:L.isEmpty=false:=by simp[Array.isEmpty,h0]
   simp only[hne,Bool.false_eq_true,if_false,Array.empty_append,Array.size_map]
   have hch:∃(j:Nat) (w1:World),j<L.size∧w1.heap=w.heap∧w1.os=w.os∧w1.tape=w.tape∧w1.output=w.output∧(choose (Question.mapNext L.size)).run P w= .ok j w1:=by
    by_cases hf:L.size≤1
    · exact⟨0,w,by omega,rfl,rfl,rfl,rfl,by simp[choose,Sem.run,Question.forced,hf]⟩
    · exact⟨_,w.drew,Nat.mod_lt _ (by omega),rfl,rfl,rfl,rfl,by
       simp only[choose,Sem.run,Question.forced,decide_eq_true_eq,hf,if_false,Question.cut];rfl⟩
   obtain⟨j,w1,hj,f1,f2,f3,f4,hrun⟩:=hch;have hr1:w1.heap[r]?=some (.mapIter (some m) c seen c):=by rw[f1];exact hr
   refine⟨L[j],by simp,{w1 with heap:=w1.heap.setIfInBounds r (.mapIter (some m) c (seen.push L[j].born) c)},?_,?_⟩
   · refine⟨f2,f3,f4,by simp[f1],⟨_,rfl,hr⟩,rfl,?_,fun b hb=>?_⟩
     · show (w1.heap.setIfInBounds r _)[r]?=_
       rw[Array.getElem?_setIfInBounds_self_of_lt (Ja6 hr1)]
     · show (w1.heap.setIfInBounds r _)[b]?=_
       rw[Array.getElem?_setIfInBounds_ne (Ne.symm hb),f1]
   · have hset:=JhP (P:=P) (ob:=.mapIter (some m) c (seen.push L[j].born) c) rfl hr1
     simp only[hrun,Result.andThen_ok,Array.getElem?_map,Array.getElem?_eq_getElem hj,Option.map_some,Sem.run_bind,hset,Sem.run_pure]
end
end Go.Re
namespace Go.Re
set_option linter.unusedVariables false
set_option linter.unusedSimpArgs false
open Go.RowKit (Below)
section
variable {P:Program} {E:Env} {N:Nat} {Z:Base} {own:Own} {β:Jai} {mem:Nat→Entry} {σ:S} {a:Act} {w w':World} {o:Oper}
theorem Jab.fit {τ:Ty} {u:Value} {x:τ.D} (h:Jab own w τ u x):Fit τ u:=by
 have hc:=h.cells;obtain⟨hv,cs,rfl,h2⟩:=h;have he:=Ja1 hv h2;exact⟨hv,by rw[he],hc.length,hc.one⟩
theorem Fit.mk {τ:Ty} {cs:List Value} (hv:τ.isVal=true) (hl:cs.length=τ.size) (h1:∀v∈cs,v.oneCell'=true) (hc:(mkV τ cs).cells.toList=cs):Fit τ (mkV τ cs):=
 ⟨hv,by rw[hc],by rw[hc];exact hl,by rw[hc];exact h1⟩
theorem Fit.slice {e:Ty} {a:Option Addr} {n c:Nat}:Fit (.sl e) (.slice a n c):=⟨rfl,rfl,rfl,by intro v hv;obtain rfl:=List.mem_singleton.1 hv;rfl⟩
theorem Jg0 (h:St N Z own β σ a w) {α:Type} {τ:Ty} {v:V} {u:Value} (hu:Jac own w β σ.mem v u) {k:M α} {r:α×S} (hr:(okV τ v k).run σ=some r):Fit τ u∧k.run σ=some r:=by
 unfold okV at hr;split at hr
 · split at hr
   · rename_i e;subst e
     exact⟨Jab.fit hu,hr⟩
   · cases hr
 · split at hr
   · rename_i e;subst e
     obtain⟨us,e1,e2,e3⟩:=hu;refine⟨?_,hr⟩;rename_i b t
     have key:∀{b:Ty} {us:List Value},Jbm b us→(us.flatMap fun u=>u.cells.toList).length=b.size∧∀v∈us.flatMap (fun u=>u.cells.toList),v.oneCell'=true:=by
      intro b
      induction b with
      | pair p q ihp ihq=>
       intro us hf;cases us with
       | nil=>exact hf.elim
       | cons x xs=>
        obtain⟨h1,h2⟩:=hf;obtain⟨h3,h4⟩:=ihq h2;refine⟨by rw[List.flatMap_cons,List.length_append,h3,h1.2.2.1];rfl,fun v hv=>?_⟩;rw[List.flatMap_cons] at hv;rcases List.mem_append.1 hv with hv | hv
        · exact h1.2.2.2 v hv
        · exact h4 v hv
      | unit=>
       intro us hf;cases us with
       | nil=>exact⟨rfl,by simp⟩
       | cons x xs=>exact hf.elim
      | _=>intro us hf;cases us<;>exact hf.elim
     obtain⟨k1,k2⟩:=key e2;rw[e1];exact⟨rfl,rfl,k1,k2⟩
   · cases hr
 · split at hr
   · have hu:u= .slice none 0 0:=hu
     rw[hu];exact⟨.slice,hr⟩
   · cases hr
 · rename_i s ver
   simp only[M.run] at hr;split at hr
   · rename_i ver' e' xs m hm
     split at hr
     · rename_i hc
       obtain⟨rfl,rfl,hmp⟩:=hc;have h1:=hu.2 e' xs m hm;have hE:=h.mems s;rw[hm] at hE;obtain⟨ad,cap,g1,_⟩:=Jaj.row hmp hE;rw[h1,g1];exact⟨.slice,hr⟩
     · cases hr
   · cases hr
 · cases hr
theorem Jbm.noVal {τ:Ty} {us:List Value} (h:Jbm τ us) (hv:τ.isVal=true):False:=by
 cases τ<;>first | (cases us<;>exact h) | cases hv
theorem Jbm.length:∀{b:Ty} {us:List Value},Jbm b us→(us.flatMap fun u=>u.cells.toList).length=b.size
 | .pair p q,x::xs,⟨h1,h2⟩=>by rw[List.flatMap_cons,List.length_append,Jbm.length h2,h1.2.2.1];rfl
 | .unit,[],_=>rfl
 | .pair _ _,[],h=>h.elim
 | .unit,_::_,h=>h.elim
 | .bool,us,h=>by cases us<;>exact h.elim
 | .str,us,h=>by cases us<;>exact h.elim
 | .int _,us,h=>by cases us<;>exact h.elim
 | .st _,us,h=>by cases us<;>exact h.elim
 | .sl _,us,h=>by cases us<;>exact h.elim
 | .arr _ _,us,h=>by cases us<;>exact h.elim
 | .mp _ _,us,h=>by cases us<;>exact h.elim
theorem Fit.agg {b:Ty} {us:List Value} (h:Jbm b us):Fit (.st b) (.agg (List.toArray (us.flatMap fun u=>u.cells.toList))):=by
 refine⟨rfl,rfl,h.length,?_⟩;show ∀v∈us.flatMap (fun u=>u.cells.toList),_;revert us
 induction b with
 | pair p q ihp ihq=>
  intro us hf v hv;cases us with
  | nil=>exact hf.elim
  | cons x xs=>
   rw[List.flatMap_cons] at hv;rcases List.mem_append.1 hv with hv | hv
   · exact hf.1.2.2.2 v hv
   · exact ihq hf.2 v hv
 | unit=>
  intro us hf v hv;cases us with
  | nil=>simp at hv
  | cons x xs=>exact hf.elim
 | _=>intro us hf;cases us<;>exact hf.elim
theorem Jiu:∀{b:Ty} {cs:List Value} {x:b.D},Jag own w b cs x→Jcg b=true→∃us,Jbm b us∧cs=us.flatMap (fun u=>u.cells.toList)∧Jac own w β mem (Jkc b x) (.tuple (List.toArray us))
 | .pair p q,_,x,⟨c,d,rfl,h1,h2⟩,hb=>by
  simp only[Jcg,Bool.and_eq_true] at hb;obtain⟨us,e1,e2,e3⟩:=Jiu h2 hb.2;have hV:=Jab.mk hb.1 h1;have hc:=Ja1 hb.1 h1;refine⟨mkV p c::us,⟨hV.fit,e1⟩,by rw[List.flatMap_cons,hc,e2],?_⟩;simp only[Jkc,hb.1,cond_true];exact⟨_,us,rfl,hV,e3⟩
 | .unit,cs,x,h,_=>by
  have h:cs=[]:=h;subst h;exact⟨[],trivial,rfl,rfl⟩
 | .bool,_,_,_,h=>by cases h
 | .str,_,_,_,h=>by cases h
 | .int _,_,_,_,h=>by cases h
 | .st _,_,_,_,h=>by cases h
 | .sl _,_,_,_,h=>by cases h
 | .arr _ _,_,_,_,h=>by cases h
 | .mp _ _,_,_,_,h=>by cases h
theorem JcM:∀(τ:Ty),(∀(v:V) (u:Value) (p:List Stp) (y:V) (τ2:Ty),Jac own w β mem v u→Fit τ u→Jbl τ v p=some y→tyP τ p=some τ2→τ2.isVal=true →
 ∃u2,Jac own w β mem y u2∧Fit τ2 u2∧u2.cells.toList=(u.cells.toList.drop (offP τ p)).take τ2.size∧offP τ p+τ2.size≤τ.size) ∧
 (∀(v:V) (us:List Value) (p:List Stp) (y:V) (τ2:Ty),Jac own w β mem v (.tuple (List.toArray us))→Jbm τ us→Jbl τ v p=some y→tyP τ p=some τ2→τ2.isVal=true →
  ∃u2,Jac own w β mem y u2∧Fit τ2 u2∧u2.cells.toList=((us.flatMap fun u=>u.cells.toList).drop (offP τ p)).take τ2.size∧offP τ p+τ2.size≤τ.size):=by
 intro τ
 have base:∀(τ:Ty) (v:V) (u:Value) (y:V) (τ2:Ty),Jac own w β mem v u→Fit τ u→Jbl τ v []=some y→tyP τ []=some τ2→τ2.isVal=true →
  ∃u2,Jac own w β mem y u2∧Fit τ2 u2∧u2.cells.toList=(u.cells.toList.drop (offP τ [])).take τ2.size∧offP τ []+τ2.size≤τ.size:=by
  intro τ v u y τ2 h1 h2 h3 h4 _;rw[Ja8] at h4;cases h4;have h3:v=y:=by cases τ<;>exact Option.some.inj h3
  subst h3;exact⟨u,h1,h2,by rw[Jao,List.drop_zero,←h2.2.2.1,List.take_length],by rw[Jao];omega⟩
 have noC:∀(τ:Ty),τ.isVal=true→∀(v:V) (us:List Value) (p:List Stp) (y:V) (τ2:Ty),Jac own w β mem v (.tuple (List.toArray us))→Jbm τ us→Jbl τ v p=some y→tyP τ p=some τ2→τ2.isVal=true →
  ∃u2,Jac own w β mem y u2∧Fit τ2 u2∧u2.cells.toList=((us.flatMap fun u=>u.cells.toList).drop (offP τ p)).take τ2.size∧offP τ p+τ2.size≤τ.size:=
  fun τ hv _ _ _ _ _ _ h _ _ _=>(h.noVal hv).elim
 have noV:∀(τ:Ty),τ.isVal=true→(∀v s p,Jbl τ v (s::p)=none)→∀(v:V) (u:Value) (p:List Stp) (y:V) (τ2:Ty),Jac own w β mem v u→Fit τ u→Jbl τ v p=some y→tyP τ p=some τ2→τ2.isVal=true →
  ∃u2,Jac own w β mem y u2∧Fit τ2 u2∧u2.cells.toList=(u.cells.toList.drop (offP τ p)).take τ2.size∧offP τ p+τ2.size≤τ.size:=by
  intro τ hv hn v u p y τ2 h1 h2 h3 h4 h5;cases p with
  | nil=>exact base τ v u y τ2 h1 h2 h3 h4 h5
  | cons s p=>rw[hn] at h3;cases h3
 induction τ with
 | st b ih=>
  refine⟨fun v u p y τ2 h1 h2 h3 h4 h5=>?_,noC _ rfl⟩;cases p with
  | nil=>exact base _ v u y τ2 h1 h2 h3 h4 h5
  | cons s p=>
   cases v with
   | agg b' t=>
    simp only[Jbl] at h3;split at h3
    · rename_i e;subst e
      obtain⟨us,e1,e2,e3⟩:=h1;obtain⟨u2,g1,g2,g3,g4⟩:=ih.2 t us (s::p) y τ2 e3 e2 h3 h4 h5;rw[e1];exact⟨u2,g1,g2,g3,g4⟩
    · cases h3
   | val τ' x=>
    simp only[Jbl] at h3;split at h3
    · rename_i x' τ3 hx hp
      obtain⟨eq,hx⟩:=cast?_some hx;subst eq;have hx:x=x':=hx;subst hx;have h4:tyP (.st b) (s::p)=some τ2:=h4;rw[hp] at h4;cases h4;obtain⟨z,hz,rfl⟩:=Option.map_eq_some_iff.1 h3;have hV:Jab own w (.st b) u x:=h1;obtain⟨k1,k2⟩:=Jbv (.st b) x _ (s::p) τ2 z hV.cells hz;have hV2:=Jab.mk h5 k2;exact⟨_,hV2,hV2.fit,Ja1 h5 k2,k1⟩
    · cases h3
   | _=>cases h3
 | pair p0 q0 ihp ihq=>
  refine⟨fun v u p y τ2 h1 h2=>(by cases h2.1),fun v us p y τ2 h1 h2 h3 h4 h5=>?_⟩;cases us with
  | nil=>exact h2.elim
  | cons u0 us0=>
   cases p with
   | nil=>rw[Ja8] at h4;cases h4;cases h5
   | cons s p=>
    cases s with
    | fst=>
     cases v with
     | tcons v t=>
      obtain⟨u1,us1,e1,e2,e3⟩:=h1;have e1:u0::us0=u1::us1:=by simpa using e1
      cases e1;obtain⟨u2,g1,g2,g3,g4⟩:=ihp.1 v u0 p y τ2 e2 h2.1 h3 h4 h5;have hl:=h2.1.2.2.1;refine⟨u2,g1,g2,?_,by simp only[offP,Ty.size];omega⟩;rw[List.flatMap_cons,g3];simp only[offP];rw[List.drop_append_of_le_length (by omega),List.take_append_of_le_length (by simp only[List.length_drop];omega)]
     | _=>cases h3
    | snd=>
     cases v with
     | tcons v t=>
      obtain⟨u1,us1,e1,e2,e3⟩:=h1;have e1:u0::us0=u1::us1:=by simpa using e1
      cases e1;obtain⟨u2,g1,g2,g3,g4⟩:=ihq.2 t us0 p y τ2 e3 h2.2 h3 h4 h5;have hl:=h2.1.2.2.1;refine⟨u2,g1,g2,?_,by simp only[offP,Ty.size];omega⟩;rw[List.flatMap_cons,g3];simp only[offP];rw[←hl,List.drop_length_add_append]
     | _=>cases h3
    | idx i=>cases v<;>cases h3
 | unit=>exact⟨fun v u p y τ2 h1 h2=>(by cases h2.1),fun v us p y τ2 h1 h2 h3 h4 h5=>by
  cases p with
  | nil=>rw[Ja8] at h4;cases h4;cases h5
  | cons s p=>cases h4⟩
 | _=>exact⟨noV _ rfl (fun _ _ _=>rfl),noC _ rfl⟩
theorem Jkx (a b ds:List Value) (o:Nat):Jax (a++b) (a.length+o) ds=a++Jax b o ds:=by
 unfold Jax;rw[List.take_length_add_append,Nat.add_assoc,List.drop_length_add_append];simp[List.append_assoc]
theorem Jd8:∀(τ:Ty),(∀(v:V) (u:Value) (p:List Stp) (y:V) (uy:Value) (v':V) (τ2:Ty),Jac own w β mem v u→Fit τ u→Jcy τ v p y=some v'→tyP τ p=some τ2→τ2.isVal=true→Jac own w β mem y uy→Fit τ2 uy→JbC τ p=true →
 ∃u',Jac own w β mem v' u'∧Fit τ u'∧u'.cells.toList=Jax u.cells.toList (offP τ p) uy.cells.toList∧offP τ p+τ2.size≤τ.size) ∧
 (∀(v:V) (us:List Value) (p:List Stp) (y:V) (uy:Value) (v':V) (τ2:Ty),Jac own w β mem v (.tuple (List.toArray us))→Jbm τ us→Jcy τ v p y=some v'→tyP τ p=some τ2→τ2.isVal=true→Jac own w β mem y uy→Fit τ2 uy→JbC τ p=true →
  ∃us',Jac own w β mem v' (.tuple (List.toArray us'))∧Jbm τ us'∧(us'.flatMap fun u=>u.cells.toList)=Jax (us.flatMap fun u=>u.cells.toList) (offP τ p) uy.cells.toList∧offP τ p+τ2.size≤τ.size):=by
 intro τ
 have base:∀(τ:Ty) (v:V) (u:Value) (y:V) (uy:Value) (v':V) (τ2:Ty),Jac own w β mem v u→Fit τ u→Jcy τ v [] y=some v'→tyP τ []=some τ2→τ2.isVal=true→Jac own w β mem y uy→Fit τ2 uy →
  ∃u',Jac own w β mem v' u'∧Fit τ u'∧u'.cells.toList=Jax u.cells.toList (offP τ []) uy.cells.toList∧offP τ []+τ2.size≤τ.size:=by
  intro τ v u y uy v' τ2 h1 h2 h3 h4 _ h6 h7;rw[Ja8] at h4;cases h4;have h3:y=v':=by cases τ<;>exact Option.some.inj h3
  subst h3;exact⟨uy,h6,h7,by rw[Jao,Jd1 (by rw[h7.2.2.1,h2.2.2.1])],by rw[Jao];omega⟩
 have noC:∀(τ:Ty),τ.isVal=true→∀(v:V) (us:List Value) (p:List Stp) (y:V) (uy:Value) (v':V) (τ2:Ty),Jac own w β mem v (.tuple (List.toArray us))→Jbm τ us→Jcy τ v p y=some v'→tyP τ p=some τ2→τ2.isVal=true→Jac own w β mem y uy→Fit τ2 uy→JbC τ p=true →
  ∃us',Jac own w β mem v' (.tuple (List.toArray us'))∧Jbm τ us'∧(us'.flatMap fun u=>u.cells.toList)=Jax (us.flatMap fun u=>u.cells.toList) (offP τ p) uy.cells.toList∧offP τ p+τ2.size≤τ.size:=
  fun τ hv _ _ _ _ _ _ _ _ h _ _ _ _ _ _=>(h.noVal hv).elim
 have noV:∀(τ:Ty),τ.isVal=true→(∀v s p y,Jcy τ v (s::p) y=none)→∀(v:V) (u:Value) (p:List Stp) (y:V) (uy:Value) (v':V) (τ2:Ty),Jac own w β mem v u→Fit τ u→Jcy τ v p y=some v'→tyP τ p=some τ2→τ2.isVal=true→Jac own w β mem y uy→Fit τ2 uy→JbC τ p=true →
  ∃u',Jac own w β mem v' u'∧Fit τ u'∧u'.cells.toList=Jax u.cells.toList (offP τ p) uy.cells.toList∧offP τ p+τ2.size≤τ.size:=by
  intro τ hv hn v u p y uy v' τ2 h1 h2 h3 h4 h5 h6 h7 h8;cases p with
  | nil=>exact base τ v u y uy v' τ2 h1 h2 h3 h4 h5 h6 h7
  | cons s p=>rw[hn] at h3;cases h3
 induction τ with
 | st b ih=>
  refine⟨fun v u p y uy v' τ2 h1 h2 h3 h4 h5 h6 h7 h8=>?_,noC _ rfl⟩;cases p with
  | nil=>exact base _ v u y uy v' τ2 h1 h2 h3 h4 h5 h6 h7
  | cons s p=>
   simp only[JbC,Bool.and_eq_true] at h8;cases v with
   | agg b' t=>
    simp only[Jcy] at h3;split at h3
    · rename_i e;subst e
      obtain⟨t',ht,rfl⟩:=Option.map_eq_some_iff.1 h3;obtain⟨us,e1,e2,e3⟩:=h1;obtain⟨us',g1,g2,g3,g4⟩:=ih.2 t us (s::p) y uy t' τ2 e3 e2 ht h4 h5 h6 h7 h8.2;refine⟨_,⟨us',rfl,g2,g1⟩,Fit.agg g2,?_,g4⟩;rw[e1];exact g3
    · cases h3
   | val τ' x=>
    simp only[Jcy] at h3;split at h3
    · rename_i x' hx
      obtain⟨eq,hx⟩:=cast?_some hx;subst eq;have hx:x=x':=hx;subst hx;obtain⟨t',ht,rfl⟩:=Option.map_eq_some_iff.1 h3;have hV:Jab own w (.st b) u x:=h1;obtain⟨us,e2,e1,e3⟩:=Jiu (β:=β) (mem:=mem) (show Jag own w b u.cells.toList x from hV.cells) h8.1;obtain⟨us',g1,g2,g3,g4⟩:=ih.2 _ us (s::p) y uy t' τ2 e3 e2 ht h4 h5 h6 h7 h8.2;refine⟨_,⟨us',rfl,g2,g1⟩,Fit.agg g2,?_,g4⟩;rw[e1];exact g3
    · cases h3
   | _=>cases h3
 | pair p0 q0 ihp ihq=>
  refine⟨fun v u p y uy v' τ2 h1 h2=>(by cases h2.1),fun v us p y uy v' τ2 h1 h2 h3 h4 h5 h6 h7 h8=>?_⟩;cases us with
  | nil=>exact h2.elim
  | cons u0 us0=>
   cases p with
   | nil=>rw[Ja8] at h4;cases h4;cases h5
   | cons s p=>
    cases s with
    | fst=>
     cases v with
     | tcons v t=>
      obtain⟨u1,us1,e1,e2,e3⟩:=h1;have e1:u0::us0=u1::us1:=by simpa using e1
      cases e1;obtain⟨v2,hv2,rfl⟩:=Option.map_eq_some_iff.1 h3;obtain⟨u',g1,g2,g3,g4⟩:=ihp.1 v u0 p y uy v2 τ2 e2 h2.1 hv2 h4 h5 h6 h7 h8;have hl:=h2.1.2.2.1;have hly:=h7.2.2.1;refine⟨u'::us0,⟨u',us0,rfl,g1,e3⟩,⟨g2,h2.2⟩,?_,by simp only[offP,Ty.size];omega⟩;rw[List.flatMap_cons,List.flatMap_cons,g3];simp only[offP,Jax];rw[List.take_append_of_le_length (by omega),List.drop_append_of_le_length (by omega)];simp[List.append_assoc]
     | _=>cases h3
    | snd=>
     cases v with
     | tcons v t=>
      obtain⟨u1,us1,e1,e2,e3⟩:=h1;have e1:u0::us0=u1::us1:=by simpa using e1
      cases e1;obtain⟨t2,ht2,rfl⟩:=Option.map_eq_some_iff.1 h3;obtain⟨us',g1,g2,g3,g4⟩:=ihq.2 t us0 p y uy t2 τ2 e3 h2.2 ht2 h4 h5 h6 h7 h8;have hl:=h2.1.2.2.1;refine⟨u0::us',⟨u0,us',rfl,e2,g1⟩,⟨h2.1,g2⟩,?_,by simp only[offP,Ty.size];omega⟩;rw[List.flatMap_cons,List.flatMap_cons,g3];simp only[offP];rw[←hl,Jkx]
     | _=>cases h3
    | idx i=>cases v<;>cases h3
 | unit=>exact⟨fun v u p y uy v' τ2 h1 h2=>(by cases h2.1),fun v us p y uy v' τ2 h1 h2 h3 h4 h5=>by
  cases p with
  | nil=>rw[Ja8] at h4;cases h4;cases h5
  | cons s p=>cases h4⟩
 | _=>exact⟨noV _ rfl (fun _ _ _ _=>rfl),noC _ rfl⟩
theorem Evo.newVb {β β':Jai} {s:Nat} (e:Entry) (τ:Ty) (x:V):Evo β β' s e (.vb (nextVer e) τ x):=
 ⟨by simp[nextVer],fun _ _ _ he _=>by (cases he),fun _ _ _ _ he _=>by (cases he),fun ver _ _ he hv=>by (cases he;omega)⟩
theorem Evo.setVb {β β':Jai} {s ver:Nat} {τ:Ty} {x x':V} (h:β' s=β s):Evo β β' s (.vb ver τ x) (.vb ver τ x'):=
 ⟨Nat.le_refl _,fun _ _ _ he _=>by (cases he),fun _ _ _ _ he _=>by (cases he),fun _ _ _ he _=>by (cases he;exact⟨h,_,rfl⟩)⟩
theorem St.goX {own':Own} {β':Jai} {σ':S} (h:St N Z own β σ a w) (hb:Frm Z.w.heap.size Z.io w w')
 (ho:∀b o,b<Z.w.heap.size→¬Z.io b o→own' b o=own b o) (k:Keeps own own' w w') (hm:∀s,Evo β β' s (σ.mem s) (σ'.mem s)) (hs:σ'.slots=σ.slots)
 (he:∀s,Jaj Z own' w' β' s (σ'.mem s)) (hx:∀s,JbA Z own' w' β' σ'.mem s (σ'.mem s)):St N Z own' β' σ' a w' where
 frame:=h.frame.trans hb
 old b o hlt hi:=(ho b o hlt hi).trans (h.old b o hlt hi)
 size:=h.size
 defers:=h.defers
 slots t:=by rw[hs];exact (h.slots t).go k hm
 mems:=he
 pins s v hp h0:=by
  obtain⟨h1,h2⟩:=(hm s).pin h0;rw[h1];exact h.pins s v hp h2
 cells:=hx
 kept q e:=(h.kept q e).trans k
theorem Jgr:∀{τ:Ty},τ.good=true→Jb5 τ=true→(τ.isVal=true→Jac own w β mem (Jdi τ) (mkV τ (zeroC τ))) ∧
 (Jcg τ=true→∃us,Jbm τ us∧us.flatMap (fun u=>u.cells.toList)=zeroC τ∧Jac own w β mem (Jdi τ) (.tuple (List.toArray us))):=by
 intro τ
 have leaf:∀{τ:Ty},τ.good=true→τ.isVal=true→Jdi τ= .val τ τ.zero→Jac own w β mem (Jdi τ) (mkV τ (zeroC τ)):=fun h1 h2 h3=>by
  rw[h3];exact Jab.mk h2 (Jat h1)
 induction τ with
 | st b ih=>
  intro h1 h2;refine⟨fun _=>?_,fun h=>by cases h⟩;simp only[Jb5,Bool.and_eq_true] at h2;obtain⟨us,e1,e2,e3⟩:=(ih h1 h2.2).2 h2.1;exact⟨us,by show Value.agg (zeroC b).toArray=_;rw[e2],e1,e3⟩
 | pair a r iha ihr=>
  intro h1 h2;refine⟨fun h=>(by cases h),fun h=>?_⟩;simp only[Jb5,Bool.and_eq_true] at h2;simp only[Jcg,Bool.and_eq_true] at h;simp only[Ty.good,Bool.and_eq_true] at h1;have ha:=(iha h1.1 h2.1).1 h.1;obtain⟨us,e1,e2,e3⟩:=(ihr h1.2 h2.2).2 h.2;have hz:Jab own w a (mkV a (zeroC a)) a.zero:=Jab.mk h.1 (Jat h1.1);refine⟨mkV a (zeroC a)::us,⟨hz.fit,e1⟩,?_,_,us,rfl,ha,e3⟩;rw[List.flatMap_cons,e2,Ja1 (own:=own) (w:=w) h.1 (Jat h1.1)];rfl
 | unit=>intro _ _;exact⟨fun h=>(by cases h),fun _=>⟨[],trivial,rfl,rfl⟩⟩
 | sl e=>intro _ _;exact⟨fun _=>rfl,fun h=>by cases h⟩
 | bool=>intro h _;exact⟨fun hv=>leaf h hv rfl,fun h=>by cases h⟩
 | str=>intro h _;exact⟨fun hv=>leaf h hv rfl,fun h=>by cases h⟩
 | int k=>intro h _;exact⟨fun hv=>leaf h hv rfl,fun h=>by cases h⟩
 | arr n e=>intro h _;exact⟨fun hv=>leaf h hv rfl,fun h=>by cases h⟩
 | mp K V=>intro h _;exact⟨fun hv=>leaf h hv rfl,fun h=>by cases h⟩
theorem Jiv (h:St N Z own β σ a w) {d:Nat} {τ:Ty} {v:V} {u:Value} (hu:Jac own w β σ.mem v u) (hf:Fit τ u) {t:Nat}
 (hrun:∀w,(execOp a.eval o).run P w= .ok (.value (.pointer (some ⟨w.heap.size,0,none⟩))) {w with heap:=w.heap.push (.cells u.cells t (0,0))})
 {r:V×S} (hr:(JhW d τ v).run σ=some r):Did P N Z o a w r.2 r.1:=by
 unfold JhW at hr;simp only[M.run] at hr;obtain⟨_,h1,h2⟩:=Option.map_eq_some_iff.1 hr;subst h2;have ha:=Jcu u t w;have hB:=h.base;have hk:=ha.keeps own (Jaa d 0);have hβ:∀s',upd β (Jaa d 0) (.pointer (some ⟨w.heap.size,0,none⟩)) s'=if s'=Jaa d 0 then .pointer (some ⟨w.heap.size,0,none⟩) else β s':=fun s'=>Jad _ _ _ _
 have hmem:∀s',(σ.set (Jaa d 0) (.vb (nextVer (σ.mem (Jaa d 0))) τ v)).mem s'=if s'=Jaa d 0 then .vb (nextVer (σ.mem (Jaa d 0))) τ v else σ.mem s':=fun s'=>Jad _ _ _ _
 have hevo:∀s',Evo β (upd β (Jaa d 0) (.pointer (some ⟨w.heap.size,0,none⟩))) s' (σ.mem s') ((σ.set (Jaa d 0) (.vb (nextVer (σ.mem (Jaa d 0))) τ v)).mem s'):=by
  intro s';rw[hmem];split
  · rename_i e;subst e;exact Evo.newVb _ _ _
  · rename_i e;exact Evo.same _ (by rw[hβ,if_neg e])
 refine Jae (own':=Jam own w.heap.size (Jaa d 0)) (β':=upd β (Jaa d 0) (.pointer (some ⟨w.heap.size,0,none⟩))) (hrun w) ?_ ?_
 · refine h.goX (ha.frame _ hB) (fun b o hlt _=>by unfold Jam;rw[if_neg (by omega)]) hk hevo rfl ?_ ?_
   · intro s'
     show Jaj Z _ _ _ s' ((σ.set (Jaa d 0) (.vb (nextVer (σ.mem (Jaa d 0))) τ v)).mem s');rw[hmem];split
     · trivial
     · rename_i e;exact (h.mems s').keeps hk (ha.ownKeeps own (Jaa d 0) s') ha.shps (by rw[hβ,if_neg e])
   · intro s'
     by_cases e:s'=Jaa d 0
     · show JbA Z _ _ _ _ s' ((σ.set (Jaa d 0) (.vb (nextVer (σ.mem (Jaa d 0))) τ v)).mem s')
       rw[hmem,if_pos e];subst e;refine⟨w.heap.size,0,u,by rw[hβ,if_pos rfl],?_,hf,hu.go hk hevo⟩;intro j v hj;have hlt:j<u.cells.toList.length:=(List.getElem?_eq_some_iff.1 hj).1;rw[Nat.zero_add];exact⟨by simp[Jam],.inl hB,by rw[ha.cell,hj],ha.free j hlt⟩
     · exact JbA.keeps hk hevo (ha.ownKeeps own (Jaa d 0) s') ((hmem s').trans (if_neg e)) (h.cells s')
 · exact⟨by show _<nextVer ((σ.set (Jaa d 0) (.vb (nextVer (σ.mem (Jaa d 0))) τ v)).mem (Jaa d 0));rw[hmem,if_pos rfl];simp[nextVer],fun τ' x' _=>⟨w.heap.size,0,by rw[hβ,if_pos rfl],by rw[Jao]⟩⟩
theorem St.vb (h:St N Z own β σ a w) {s ver:Nat} {τ:Ty} {v:V} (hm:σ.mem s= .vb ver τ v):∃b o u,β s= .pointer (some ⟨b,o,none⟩)∧Jef Z own w s b o u.cells.toList∧Fit τ u∧Jac own w β σ.mem v u:=by
 have:=h.cells s;rw[hm] at this;exact this
theorem Jlc (hE:EnvOk P E) (h:St N Z own β σ a w) {t:Nat} {τ:Ty} {v:V} {u:Value} {r:V×S} (ht:E.ty t=some τ) (hu:Jac own w β σ.mem v u)
 (he:execOp a.eval o=(do pure (.value (←Instr.loadAt t u)))) (hr:(Jh6 τ v).run σ=some r):Did P N Z o a w r.2 r.1:=by
 have hT:=hE.ty t τ ht;unfold Jh6 at hr;split at hr
 · rename_i s ver p
   simp only[M.run] at hr;split at hr
   · rename_i ver' τ0 x hm
     split at hr
     · rename_i hc
       obtain⟨rfl,hp⟩:=hc;split at hr
       · rename_i y hy
         obtain⟨b,off,g1,g2⟩:=hu.2 τ0 x hm;obtain⟨b',off',uu,k1,k2,k3,k4⟩:=h.vb hm;rw[k1] at g1;cases g1;obtain⟨u2,l1,l2,l3,l4⟩:=(JcM τ0).1 x uu p y τ k4 k3 hy hp hT.isVal;rw[Jaq hr];refine Jae (exec_v he (u:=u2) (w':=w) ?_) h l1;rw[g2];simp only[Instr.loadAt,Instr.sureAddr,Sem.run_bind,Sem.run_pure,Result.andThen_ok]
         have:=hT.loadL (w:=w) (b:=b) (off:=off+offP τ0 p) (cs:=u2.cells.toList) l2.2.2.1 (fun j v hj=>by
          rw[l3,List.getElem?_take] at hj;split at hj
          · rw[List.getElem?_drop] at hj
            have:=(k2 _ _ hj).2.2.1
            rwa [←Nat.add_assoc] at this
          · cases hj)
         rw[this,←l2.2.1]
       · cases hr
     · cases hr
   · cases hr
 · cases hr
theorem Jky (hE:EnvOk P E) (h:St N Z own β σ a w) {t:Nat} {τ:Ty} {v v':V} {u u':Value} {r:V×S} (ht:E.ty t=some τ) (hu:Jac own w β σ.mem v u) (hu':Jac own w β σ.mem v' u')
 (he:execOp a.eval o=(do Instr.storeAt t u u';pure .skip)) (hr:(JgN τ v v').run σ=some r):Did P N Z o a w r.2 r.1:=by
 have hT:=hE.ty t τ ht;unfold JgN at hr;split at hr
 · rename_i s ver p
   obtain⟨hf,hr⟩:=Jg0 h hu' hr;simp only[M.run] at hr;split at hr
   · rename_i ver' τ0 x hm
     split at hr
     · rename_i hc
       obtain⟨rfl,hp,hbi⟩:=hc;split at hr
       · rename_i x' hx
         simp only[M.run] at hr;obtain⟨_,_,h2⟩:=Option.map_eq_some_iff.1 hr;subst h2;obtain⟨b,off,g1,g2⟩:=hu.2 τ0 x hm;obtain⟨b',off',uu,k1,k2,k3,k4⟩:=h.vb hm;rw[k1] at g1;cases g1;obtain⟨u2,l1,l2,l3,l4⟩:=(Jd8 τ0).1 x uu p v' u' x' τ k4 k3 hx hp hT.isVal hu' hf hbi;have hcl:=k3.2.2.1;have hdl:=hf.2.2.1;have hin:∀j,j<τ.size→∃v,uu.cells.toList[offP τ0 p+j]?=some v:=fun j hj=>⟨_,List.getElem?_eq_getElem (by omega)⟩
         obtain⟨w',h9,h10⟩:=hT.storeL (w:=w) (b:=b) (off:=off+offP τ0 p) (u:=u') hdl hf.2.2.2 (fun j hj=>by
          obtain⟨v,hv⟩:=hin j hj;obtain⟨_,_,e3,e4⟩:=k2 _ v hv;rw[←Nat.add_assoc] at e3 e4;exact⟨⟨v,e3⟩,e4⟩)
         have hown:∀j,j<u'.cells.toList.length→own b (off+offP τ0 p+j)=some s:=fun j hj=>by
          obtain⟨v,hv⟩:=hin j (by omega);have:=(k2 _ v hv).1
          rwa [←Nat.add_assoc] at this
         have hwr:∀j,j<u'.cells.toList.length→Z.wr b (off+offP τ0 p+j):=fun j hj=>by
          obtain⟨v,hv⟩:=hin j (by omega);have:=(k2 _ v hv).2.1
          rwa [←Nat.add_assoc] at this
         have hmem:∀s',(σ.set s (.vb ver τ0 x')).mem s'=if s'=s then .vb ver τ0 x' else σ.mem s':=fun s'=>Jad _ _ _ _
         have hk:=h10.keeps hown
         have hevo:∀s',Evo β β s' (σ.mem s') ((σ.set s (.vb ver τ0 x')).mem s'):=by
          intro s';rw[hmem];split
          · rename_i e;subst e;rw[hm];exact Evo.setVb rfl
          · exact Evo.same _ rfl
         refine Jcj (β':=β) (own':=own) (w':=w') ?_ ?_
         · rw[he,g2];exact JeE (by simp only[Instr.storeAt,Instr.sureAddr,Sem.run_bind,Sem.run_pure,Result.andThen_ok];exact h9)
         · refine h.goX (h10.frame hwr) (fun _ _ _ _=>rfl) hk hevo rfl ?_ ?_
           · intro s'
             show Jaj Z own w' β s' ((σ.set s (.vb ver τ0 x')).mem s');rw[hmem];split
             · trivial
             · rename_i e;exact (h.mems s').keeps hk (h10.ownKeeps hown e) h10.shps rfl
           · intro s'
             by_cases e:s'=s
             · show JbA Z own w' β _ s' ((σ.set s (.vb ver τ0 x')).mem s')
               rw[hmem,if_pos e];subst e;refine⟨b,off,u2,k1,?_,l2,l1.go hk hevo⟩;rw[l3];exact k2.wrote h10 (by omega)
             · exact JbA.keeps hk hevo (h10.ownKeeps hown e) ((hmem s').trans (if_neg e)) (h.cells s')
       · cases hr
     · cases hr
   · cases hr
 · cases hr
theorem Jkz (hE:EnvOk P E) {t:Nat} {b:Ty} {v:V} {u:Value} {f:Nat} {r:V×S} (ht:E.ty t=some (.st b)) (hf:(tyP b (Jaf f)).isSome=true) (hu:Jac own w β σ.mem v u)
 (hr:(Jh8 b v f).run σ=some r):Jck P own w β σ (Instr.fieldAt t u f) r:=by
 obtain⟨τ',hp⟩:=Option.isSome_iff_exists.1 hf;unfold Jh8 at hr;split at hr
 · rename_i s ver p
   simp only[M.run] at hr;split at hr
   · rename_i ver' τb x hm
     split at hr
     · rename_i e
       obtain⟨e,e'⟩:=e;subst e;obtain⟨bl,off,h1,rfl⟩:=hu.2 τb x hm;rw[Jaq hr];refine⟨_,fieldAt_run hE ht hp _ _,rfl,hu.1,fun τ x' hm'=>?_⟩;rw[hm] at hm';cases hm';exact⟨bl,off,h1,by rw[JcK e'];simp[Nat.add_assoc]⟩
     · cases hr
   · cases hr
 · cases hr
theorem Jji (hE:EnvOk P E) {t:Nat} {b:Ty} {v:V} {u:Value} {f:Nat} {r:V×S} (ht:E.ty t=some (.st b)) (hv:Jkd v=true) (hu:Jac own w β σ.mem v u) (hr:(JgO b v f).run σ=some r):
 Jck P own w β σ (Instr.field t u f) r:=by
 unfold JgO at hr;split at hr
 · rename_i y τ hy hp
   cases hiv:τ.isVal with
   | false=>rw[hiv] at hr;cases hr
   | true=>
   rw[hiv,cond_true] at hr;cases v with
   | agg b' t'=>
    have hb:b'=b:=by
     cases f with
     | zero=>simp only[Jaf,Jbl] at hy;split at hy
             · assumption
             · cases hy
     | succ f=>simp only[Jaf,Jbl] at hy;split at hy
               · assumption
               · cases hy
    subst hb;have hu0:=hu;obtain⟨us,e1,e2,e3⟩:=hu;have hfit:Fit (.st b') u:=by rw[e1];exact Fit.agg e2
    have hp':tyP (.st b') (Jaf f)=some τ:=hp;have hp:tyP b' (Jaf f)=some τ:=by cases f<;>exact hp'
    obtain⟨u2,l1,l2,l3,l4⟩:=(JcM (.st b')).1 _ u (Jaf f) y τ hu0 hfit hy hp' hiv;have ho:offP (.st b') (Jaf f)=offP b' (Jaf f):=by cases f<;>rfl
    rw[ho] at l3 l4;obtain⟨fs,q1,q2⟩:=(hE.ty t _ ht).desc;obtain⟨fd,q3,q4,q5,q6⟩:=Ja2 E.ty f b' 0 fs.toList τ q2 hp;rw[Nat.zero_add] at q4;have q3':fs[f]?=some fd:=by simpa using q3
    have hT:=hE.ty fd.type τ q5;rw[Jaq hr];refine⟨u2,?_,rfl,l1⟩;rw[e1] at l3 ⊢;have l3:u2.cells.toList=((us.flatMap fun u=>u.cells.toList).drop (offP b' (Jaf f))).take τ.size:=l3;simp only[Instr.field,Sem.run_bind,run_underlying q1,Result.andThen_ok,q3',asAgg,Sem.run_pure,q4];have:=hT.partL (w:=w) (cs:=us.flatMap fun u=>u.cells.toList) (off:=offP b' (Jaf f)) (by rw[e2.length];exact l4);rw[this,←l3,←l2.2.1]
   | _=>cases hv
 · cases hr
theorem JfH (h:St N Z own β σ a w) {b:Ty} {place:Nat→Option (Nat×Nat)} (hpl:∀i τ',tyP b (Jaf i)=some τ'→place i=some (offP b (Jaf i),τ'.size)):
 ∀(ps:List (Nat×Operand)) {acc:V} {us:List Value} {r:V×S},Jac own w β σ.mem acc (.tuple (List.toArray us))→Jbm b us→(Jeo b acc ps).run σ=some r →
  ∃acc' us',r=(.agg b acc',σ)∧Jac own w β σ.mem acc' (.tuple (List.toArray us'))∧Jbm b us' ∧
   Instr.fill place (us.flatMap fun u=>u.cells.toList).toArray (ps.map fun p=>(p.1,a.eval p.2))=some (us'.flatMap fun u=>u.cells.toList).toArray
 | [],acc,us,r,h1,h2,hr=>⟨acc,us,by rw[Jaq hr],h1,h2,rfl⟩
 | (i,op)::ps,acc,us,r,h1,h2,hr=>by
  unfold Jeo at hr;obtain⟨v,e1,e2⟩:=Jak h hr;split at e2
  · rename_i τ' hp
    cases hc:Jcg b&&(τ'.isVal&&JbC b (Jaf i)) with
    | false=>rw[hc] at e2;cases e2
    | true=>
    rw[hc,cond_true] at e2;simp only[Bool.and_eq_true] at hc;obtain⟨hc1,hc2,hc3⟩:=hc;obtain⟨hf,e3⟩:=Jg0 h e1 e2;split at e3
    · rename_i acc' hacc
      obtain⟨us1,g1,g2,g3,g4⟩:=(Jd8 b).2 acc us (Jaf i) v (a.eval op) acc' τ' h1 h2 hacc hp hc2 e1 hf hc3;obtain⟨acc2,us2,k1,k2,k3,k4⟩:=JfH h hpl ps g1 g2 e3;refine⟨acc2,us2,k1,k2,k3,?_⟩;have hl:=hf.2.2.1;have hcl:=h2.length
      generalize (us.flatMap fun u=>u.cells.toList)=cs at g3 hcl ⊢
      rw[Array.length_toList] at hl;simp only[List.map_cons,Instr.fill,hpl i τ' hp];rw[if_neg (by simp;omega)];have e:=Jhe (a.eval op).cells.toList cs.toArray (offP b (Jaf i)) (by simp;omega);simp only[Array.toArray_toList] at e;rw[e,←g3];exact k4
    · cases e3
  · cases e2
theorem JkA (hE:EnvOk P E) (h:St N Z own β σ a w) {t:Nat} {b:Ty} {ps:Array (Nat×Operand)} {r:V×S} (ht:E.ty t=some (.st b)) (hdo:Jb5 (.st b)=true)
 (he:execOp a.eval o=(do pure (.value (←Instr.build t (ps.map fun (i,x)=>(i,a.eval x))))))
 (hr:(Jeo b (Jdi b) ps.toList).run σ=some r):Did P N Z o a w r.2 r.1:=by
 have hT:=hE.ty t _ ht;obtain⟨fs,e1,e2⟩:=hT.desc
 have hpl:∀i τ',tyP b (Jaf i)=some τ'→((fs.toList.map fun f=>(f.offset,P.cellsOf f.type)).toArray[i]?)=some (offP b (Jaf i),τ'.size):=by
  intro i τ' hp;obtain⟨fd,e3,e4,e5,e6⟩:=Ja2 E.ty i b 0 fs.toList τ' e2 hp;have hT':=hE.ty fd.type τ' e5
  have hsz':P.cellsOf fd.type=τ'.size:=by
   obtain⟨i,g1,g2,_⟩:=hT'.info;simp[Program.cellsOf,g1,g2]
  simp only[List.getElem?_toArray,List.getElem?_map,e3,Option.map_some,hsz',e4,Nat.zero_add]
 simp only[Jb5,Bool.and_eq_true] at hdo;obtain⟨us0,q1,q2,q3⟩:=(Jgr (own:=own) (w:=w) (β:=β) (mem:=σ.mem) (τ:=b) hT.good hdo.2).2 hdo.1;obtain⟨acc',us',k1,k2,k3,k4⟩:=JfH (place:=fun i=>(fs.toList.map fun f=>(f.offset,P.cellsOf f.type)).toArray[i]?) h hpl ps.toList q3 q1 hr;rw[k1];rw[q2] at k4;refine Jae (exec_v he (u:=.agg (us'.flatMap fun u=>u.cells.toList).toArray) (w':=w) ?_) h ⟨us',rfl,k3,k2⟩;have hm:=JdC (w:=w) hE fs.toList b 0 e2;have hz0:(mkV (.st b) (zeroC (.st b))).cells=(zeroC b).toArray:=rfl;simp only[Instr.build,Sem.run_bind,hT.zeroRun,Result.andThen_ok,Sem.run_pure,run_underlying e1,hz0]
 have hm':(fs.mapM fun f=>(do pure (f.offset,←sizeOf f.type):Sem (Nat×Nat))).run P w= .ok (fs.toList.map fun f=>(f.offset,P.cellsOf f.type)).toArray w:=by
  have:(fs.mapM fun f=>(do pure (f.offset,←sizeOf f.type):Sem (Nat×Nat)))=List.toArray <$> (fs.toList.mapM fun f=>(do pure (f.offset,←sizeOf f.type):Sem (Nat×Nat))):=by
   rw[Array.mapM_eq_mapM_toList]
  rw[this,Sem.run_map,hm];rfl
 rw[hm'];simp only[Result.andThen_ok];have hps:(Array.map (fun x=>match x with | (i,x)=>(i,a.eval x)) ps).toList=ps.toList.map fun p=>(p.1,a.eval p.2):=by simp
 rw[hps,k4];rfl
theorem JhQ (hE:EnvOk P E):∀{fs:List Field} {off:Nat} {b:Ty},JbG E.ty off fs b→Jcg b=true
 | [],_,.unit,_=>rfl
 | f::fs,_,.pair p q,⟨_,h2,_,h4⟩=>by
  simp only[Jcg,Bool.and_eq_true];exact⟨(hE.ty f.type p h2).isVal,JhQ hE h4⟩
 | [],_,.pair _ _,h=>h.elim
 | _::_,_,.unit,h=>h.elim
 | [],_,.bool,h=>h.elim
 | [],_,.str,h=>h.elim
 | [],_,.int _,h=>h.elim
 | [],_,.st _,h=>h.elim
 | [],_,.sl _,h=>h.elim
 | [],_,.arr _ _,h=>h.elim
 | [],_,.mp _ _,h=>h.elim
 | _::_,_,.bool,h=>h.elim
 | _::_,_,.str,h=>h.elim
 | _::_,_,.int _,h=>h.elim
 | _::_,_,.st _,h=>h.elim
 | _::_,_,.sl _,h=>h.elim
 | _::_,_,.arr _ _,h=>h.elim
 | _::_,_,.mp _ _,h=>h.elim
end
end Go.Re
namespace Go.Re
set_option linter.unusedVariables false
set_option linter.unusedSimpArgs false
open Go.RowKit (Below)
section
variable {P:Program} {E:Env} {N:Nat} {Z:Base} {own:Own} {β:Jai} {σ:S} {a:Act} {w:World} {o:Oper}
theorem Jag.flat {own own':Own} {w w':World}:∀{τ:Ty} {cs:List Value} {x:τ.D},τ.flat=true→Jag own w τ cs x→Jag own' w' τ cs x
 | .bool,_,_,_,h=>h
 | .str,_,_,_,h=>h
 | .unit,_,_,_,h=>h
 | .int _,_,_,_,h=>h
 | .pair a b,_,_,hf,⟨c,d,e,h1,h2⟩=>by
  have hf:(a.flat&&b.flat)=true:=hf;simp only[Bool.and_eq_true] at hf;exact⟨c,d,e,Jag.flat (τ:=a) hf.1 h1,Jag.flat (τ:=b) hf.2 h2⟩
 | .st b,_,_,hf,h=>Jag.flat (τ:=b) hf h
 | .arr n e,_,_,hf,⟨h1,h2,h3⟩=>⟨h1,h2,fun i hi=>Jag.flat (τ:=e) hf (h3 i hi)⟩
 | .sl e,_,_,hf,_=>by cases hf
 | .mp _ _,_,_,hf,_=>by cases hf
theorem Jab.flat {own own':Own} {w w':World} {τ:Ty} {v:Value} {x:τ.D} (hf:τ.flat=true) (h:Jab own w τ v x):Jab own' w' τ v x:=
 ⟨h.1,let ⟨cs,h1,h2⟩:=h.2;⟨cs,h1,h2.flat hf⟩⟩
theorem JeM:∀{ps:List Par} {io:Io ps},ps.all Par.isIn=true→Jar ps io=[]
 | [],_,_=>rfl
 | .val _::r,io,h=>JeM (ps:=r) (by simpa [Par.isIn] using h)
 | .nils _::r,io,h=>JeM (ps:=r) (by simpa [Par.isIn] using h)
 | .pv _::r,io,h=>JeM (ps:=r) (by simpa [Par.isIn] using h)
 | .box _::r,io,h=>by simp[Par.isIn] at h
 | .row _::r,io,h=>by simp[Par.isIn] at h
 | .take _::r,io,h=>by simp[Par.isIn] at h
def Jcc:Own:=fun _ _=>none
theorem Jcw:Keeps own Jcc w w:=⟨fun _ _ _ _ h=>⟨rfl,h⟩,fun _ _ _ _ h=>⟨rfl,h⟩⟩
theorem Jiw (h:St N Z own β σ a w) {α:Type} {p:Par} {v:Re.V} {u:Value} (hu:Jac own w β σ.mem v u) (hin:p.isIn=true) {k:p.ty.D→M α} {r:α×S} (hr:(Jj7 p v k).run σ=some r):
 ∃x,IoR Jcc w 0 (0,0,0) p u x∧(k x).run σ=some r:=by
 have plain:∀{p:Par} {k:p.ty.D→M α},p.isIn=true→(Jc3 p v fun x _ _=>k x).run σ=some r→∃x,IoR Jcc w 0 (0,0,0) p u x∧(k x).run σ=some r:=by
  intro p k hin hr;obtain⟨x,fr,io,hf,hA,h3⟩:=JfW h hu hr;refine⟨x,?_,h3⟩;obtain⟨own1,s1,k1,v1⟩:=h.freeze hf;cases p with
  | val τ=>exact⟨(v1 _ _ _ hA).keeps Jcw,rfl⟩
  | nils e=>exact⟨hA,rfl⟩
  | pv q=>exact⟨fun β mem=>Jac.go Jcw (fun s=>Evo.same _ rfl) (hA β mem),rfl⟩
  | box τ=>cases hin
  | row e=>cases hin
  | take e=>cases hin
 unfold Jj7 at hr;split at hr
 · rename_i τ k'
   split at hr
   · rename_i s ver q
     simp only[M.run] at hr;split at hr
     · rename_i ver' τb xb hm
       split at hr
       · rename_i hc
         obtain⟨rfl,hp,hn,hv⟩:=hc;refine⟨_,?_,hr⟩;obtain⟨b,off,g1,g2⟩:=hu.2 τb xb hm;have hmm:=h.mems s;rw[hm] at hmm;obtain⟨hvb,b',off',cs,e1,e2,e3⟩:=hmm;rw[g1] at e1;cases e1;obtain⟨q1,q2⟩:=Jbv τb xb cs q τ _ e3 (Jd4 τb xb q τ hp hn)
         have hcell:∀j v,((cs.drop (offP τb q)).take τ.size)[j]?=some v→Jcc b (off+offP τb q+j)=none∧w.cell? ⟨b,off+offP τb q+j,none⟩=some v:=by
          intro j v hj;rw[List.getElem?_take] at hj;split at hj
          · rw[List.getElem?_drop] at hj
            have:=(e2 _ _ hj).2.2.1;rw[←Nat.add_assoc] at this;exact⟨rfl,this⟩
          · cases hj
         have:∀β mem,Jac Jcc w β mem (.rpt τ (JcJ τb xb q τ)) u:=fun β mem=>⟨hv,_,_,_,g2,hcell,q2.keeps Jcw⟩;exact⟨this,rfl⟩
       · cases hr
     · cases hr
   ·
    rename_i s ver q;simp only[M.run] at hr;split at hr
    · rename_i ver' τb x hm
      split at hr
      · rename_i hc
        obtain⟨rfl,rfl,rfl,hv⟩:=hc;obtain⟨y,fr,hf,hA,_,h3⟩:=JbK h (h.vb hm).choose_spec.choose_spec.choose_spec.2.2.2 hr hv;obtain⟨own1,s1,k1,v1⟩:=h.freeze hf;refine⟨y,?_,h3⟩;obtain⟨k2,k3,k4⟩:=(h.vb hm).choose_spec.choose_spec.choose_spec;obtain⟨b,off,g1,g2⟩:=hu.2 τb x hm;rw[k2] at g1;cases g1;have hV:=(v1 _ _ _ hA).keeps (Jcw (own:=own1) (w:=w));obtain⟨_,cs,e1,e2⟩:=hV;have hcs:=Ja1 hv e2;rw[←e1] at hcs;rw[Jao,Nat.add_zero] at g2
        have hcell:∀j v,cs[j]?=some v→Jcc ((h.vb hm).choose) ((h.vb hm).choose_spec.choose+j)=none∧w.cell? ⟨(h.vb hm).choose,(h.vb hm).choose_spec.choose+j,none⟩=some v:=fun j v hj=>by
         rw[←hcs] at hj;exact⟨rfl,(k3 j v hj).2.2.1⟩
        have:∀β mem,Jac Jcc w β mem (.rpt τb y) u:=fun β mem=>⟨hv,_,_,cs,g2,hcell,e2⟩;exact⟨this,rfl⟩
      · cases hr
    · cases hr
   · split at hr
     · rename_i x hx
       have:=PK.read_some hx;subst this;exact⟨x,⟨fun β mem=>Jac.go Jcw (fun s=>Evo.same _ rfl) (PK.indep hu),rfl⟩,hr⟩
     · cases hr
 ·
  rename_i τ k'
  have arr:∀{b off n:Nat} {e:Ty} {τb:Ty} {xb:τb.D} {cs:List Value} {q:List Stp} {y:τ.D},n≤65536→Jag own w τb cs xb→(∀j v,cs[j]?=some v→w.cell? ⟨b,off+j,none⟩=some v) →
   tyP τb q=some (.arr n e)→JcP q=true→cast? (.sl e) τ (JcJ τb xb q (.arr n e))=some y→Jab Jcc w τ (.slice (some ⟨b,off+offP τb q,none⟩) n n) y:=by
   intro b off n e τb xb cs q y hn hrep hcell hp hq hy;obtain⟨eq,hy⟩:=cast?_some hy;subst eq;obtain⟨q1,q2⟩:=Jbv τb xb cs q (.arr n e) _ hrep (Jd4 τb xb q (.arr n e) hp hq);have hy:JcJ τb xb q (.arr n e)=y:=hy;rw[←hy];refine Je8 hn (q2.keeps Jcw) (fun j v hj=>⟨rfl,?_⟩);rw[List.getElem?_take] at hj;split at hj
   · rw[List.getElem?_drop] at hj
     have:=hcell _ _ hj
     rwa [←Nat.add_assoc] at this
   · cases hj
  split at hr
  · rename_i n e x
    obtain⟨ad,g1,g2⟩:=hu;split at hr
    · rename_i s ver q
      simp only[M.run] at hr;split at hr
      · rename_i ver' τb xb hm
        split at hr
        · rename_i hc
          obtain⟨rfl,hp,hq,hn⟩:=hc;split at hr
          · rename_i y hy
            refine⟨y,⟨?_,rfl⟩,hr⟩;obtain⟨b,off,g3,g4⟩:=g2.2 τb xb hm;injection g4 with g4;injection g4 with g4
            have hmm:=h.mems s;rw[hm] at hmm;obtain⟨hvb,b',off',cs,e1,e2,e3⟩:=hmm;rw[g3] at e1;cases e1;rw[g1,g4];exact arr hn e3 (fun j v hj=>(e2 j v hj).2.2.1) hp hq hy
          · cases hr
        · cases hr
      · cases hr
    · rename_i s ver i q
      simp only[M.run] at hr;split at hr
      · rename_i ver' τe xs hm
        split at hr
        · rename_i hc
          obtain⟨rfl,hp,hq,hn⟩:=hc;split at hr
          · rename_i y hy
            refine⟨y,⟨?_,rfl⟩,hr⟩;obtain⟨hi,b,off,n',c',g3,g4⟩:=g2.2 τe xs .full hm;injection g4 with g4;injection g4 with g4
            have hmm:=h.mems s;rw[hm] at hmm;obtain⟨ad',cap,f1,f2,f3,f4,f5⟩:=hmm;rw[g3] at f1;cases f1;rcases f5 with ⟨f6,_⟩ | ⟨b',off',f6,f7,_⟩
            · omega
            cases f6;obtain⟨es,q1,q2,q3⟩:=f7 i hi;rw[g1,g4];have:xs.getD i τe.zero=xs[i]:=by simp[List.getD_eq_getElem?_getD,hi]
            rw[this] at hy;exact arr hn q3 (fun j v hj=>(q2 j v hj).2) hp hq hy
          · cases hr
        · cases hr
      · cases hr
    · cases hr
  · exact plain hin hr
 · exact plain hin hr
theorem Jho (h:St N Z own β σ a w) {α:Type}:∀(ps:List Par) (i:Nat) (os:List (Operand⊕Re.V)) (us:List Value) {k:Ds (ps.map Par.ty)→M α} {r:α×S},Xs own w β σ.mem a os us→ps.all Par.isIn=true→(JhV ps os k).run σ=some r →
 ∃x,JbD Jcc w (fun _=>0) (fun _=>(0,0,0)) i ps us x∧(k x).run σ=some r
 | [],i,[],us,k,r,hx,_,hr=>⟨(),hx,hr⟩
 | [p],i,[op],us,k,r,hx,hin,hr=>by
  obtain⟨v,u,us',h0,h0',h1,h2⟩:=Jfs h hx hr;simp only[List.all_cons,List.all_nil,Bool.and_true] at hin;obtain⟨x,h3,h4⟩:=Jiw h h1 hin h2;have h0':us'=[]:=h0';exact⟨x,⟨_,by rw[h0,h0'],h3⟩,h4⟩
 | p::q::ps,i,op::os,us,k,r,hx,hin,hr=>by
  obtain⟨v,u,us',h0,h0',h1,h2⟩:=Jfs h hx hr;subst h0;rw[List.all_cons,Bool.and_eq_true] at hin;obtain⟨x,h3,h4⟩:=Jiw h h1 hin.1 h2;obtain⟨xs,h5,h6⟩:=Jho h (q::ps) (i+1) os us' h0' hin.2 h4;exact⟨(x,xs),⟨_,_,rfl,h3,h5⟩,h6⟩
 | [],_,_::_,_,k,r,_,_,hr=>by cases hr
 | _::_,_,[],_,k,r,_,_,hr=>by
  unfold JhV at hr;split at hr<;>first | cases hr | (rename_i h1 h2;cases h1;done) | (rename_i h1 h2;cases h2;done) | skip
  all_goals simp_all
 | [p],_,_::_::_,_,k,r,_,_,hr=>by cases hr
theorem Jme (hE:EnvOk P E) (h:St N Z own β σ a w) {f:Nat} {F:Fun} {args:Array Operand} {ats:Array TypeId} (hF:E.fn f=some F) (ho:o.op= .call {callee:=.value (.func f),args,argTypes:=ats})
 {r:Re.V×S} {d:Nat} (hr:(Jj8 d F (args.toList.map .inl)).run σ=some r):Did P N Z o a w r.2 r.1:=by
 have hX:=Xs.ops own w β σ.mem a args.toList [] [] rfl;rw[List.append_nil,List.append_nil] at hX;have hC:=hE.fn f F hF
 have hexec:(execOp a.eval o).run P w= .ok (.enter f (args.toList.map a.eval).toArray) w:=by
  rw[Jd5 ho hC.fn]
  congr 2
  apply Array.ext';simp
 unfold Jj8 at hr;cases hcond:F.args.all Par.isIn&&Jc4 F.res with
 | false=>rw[hcond] at hr;cases hr
 | true=>
 rw[hcond,cond_true] at hr;simp only[Bool.and_eq_true] at hcond;obtain⟨hin,hflat⟩:=hcond;obtain⟨x,a1,h3⟩:=Jho h F.args 0 _ _ hX hin hr;obtain⟨res,hres1,hr1⟩:=Jal h3
 let regs:Nat→Nat×Nat×Nat:=fun _=>(0,0,0)
 have hreg:∀k b j,¬JaF (regs k) b j:=by
  rintro k b j ⟨_,c1,c2⟩;exact absurd c2 (Nat.not_lt_zero _)
 have hcall:=hC.calls w Jcc (fun _=>0) (fun k=>Jaa d k) regs _ x res a1 (fun i j _ h=>absurd h (Nat.lt_irrefl 0)) hres1;intro Q;unfold Oper.wp;rw[hexec,Oper.upon_enter];refine hcall.mono ?_;rintro e w' ⟨own2,us,rfl,hfr,hold,hret,hout⟩;have hno2:∀b j,¬∃i,JaF (regs i) b j:=fun b j ⟨i,hi⟩=>hreg i b j hi;have hk:Keeps own own w w':=⟨fun b j v e1 e2=>⟨e1,by rw[hfr.cell b j (cell?_lt e2) (hno2 b j)];exact e2⟩,fun b es c e1 e2=>⟨e1,by rw[hfr.block b (Ja6 e2) (hno2 b)];exact e2⟩⟩
 have hks:∀s,Jah s own own w w':=fun s=>⟨fun b j v e1 e2=>⟨e1,by rw[hfr.cell b j (cell?_lt e2) (hno2 b j)];exact e2,(hfr.live b j v (cell?_lt e2) e2).2⟩,
  fun b es c e1 e2=>⟨e1,by rw[hfr.block b (Ja6 e2) (hno2 b)];exact e2⟩⟩
 have hshp:Jbw w w':=fun b k hfree=>hfr.shape b k (by obtain⟨_,_,e1,_⟩:=hfree;exact Jep e1) hfree
 have hst:St N Z own β σ a w':=by
  refine h.go ⟨hfr.os,hfr.tape,hfr.output,hfr.size,fun b j hb _=>hfr.cell b j (Nat.lt_of_lt_of_le hb h.base) (hno2 b j),fun b j v hb hv=>hfr.live b j v (Nat.lt_of_lt_of_le hb h.base) hv,
   fun b k hb=>hfr.shape b k (Nat.lt_of_lt_of_le hb h.base),fun b hb _=>hfr.block b (Nat.lt_of_lt_of_le hb h.base) (hno2 b)⟩ (fun _ _ _ _=>rfl) hk (fun s=>Evo.same _ rfl) rfl (fun s=>(h.mems s).keeps hk (hks s) hshp rfl) (fun s _=>⟨rfl,hks s⟩)
 refine⟨Jdt us,rfl,own,β,?_,?_⟩
 · rw[hr1];exact hst
 · rw[hr1]
   have one:∀(τ:Ty) (m:Mode) (y:τ.D) (i:Nat) (u:Value) (rid:Nat),τ.flat=true→Jci own2 w' w.heap.size rid (τ,m) u y→Jac own w' β σ.mem (JgM (Jaa d i) 0 (τ,m) y) u:=by
    intro τ m y i u rid h1 e2;cases τ with
    | sl e=>cases h1
    | mp k v=>cases h1
    | bool=>cases m<;>exact Jab.flat h1 e2
    | str=>cases m<;>exact Jab.flat h1 e2
    | unit=>cases m<;>exact Jab.flat h1 e2
    | int k=>cases m<;>exact Jab.flat h1 e2
    | pair p q=>cases m<;>exact Jab.flat h1 e2
    | st b=>cases m<;>exact Jab.flat h1 e2
    | arr n e=>cases m<;>exact Jab.flat h1 e2
   have many:∀(ps:List (Ty×Mode)) (i:Nat) (us:List Value) (y:Ds (ps.map (·.1))),Jc4 ps=true→JbM own2 w' w.heap.size (fun k=>Jaa d k) i ps us y →
    Jac own w' β σ.mem (Jgf d (fun _=>0) i ps y) (.tuple us.toArray):=by
    intro ps
    induction ps with
    | nil=>intro i us y _ h2;obtain rfl:us=[]:=h2;rfl
    | cons p r ih=>
     intro i us y h1 h2;simp only[Jc4,Bool.and_eq_true] at h1;cases r with
     | nil=>
      obtain⟨u,e1,e2⟩:=h2;subst e1;exact⟨u,[],rfl,one p.1 p.2 y i u _ h1.1 e2,rfl⟩
     | cons q r=>
      obtain⟨u,us',e1,e2,e3⟩:=h2;subst e1;exact⟨u,us',rfl,one p.1 p.2 y.1 i u _ h1.1 e2,ih (i+1) us' y.2 h1.2 e3⟩
   have key:∀(ps:List (Ty×Mode)) (y:Ds (ps.map (·.1))),Jc4 ps=true→JbM own2 w' w.heap.size (fun k=>Jaa d k) 0 ps us y→Jac own w' β σ.mem (Jgg d (fun _=>0) ps y) (Jdt us):=by
    intro ps y h1 h2
    match ps,y,h1,h2 with
    | [],y,h1,h2=>obtain rfl:us=[]:=h2;rfl
    | [(τ,m)],y,h1,h2=>
     obtain⟨u,e1,e2⟩:=h2;subst e1;simp only[Jc4,Bool.and_eq_true] at h1;exact one τ m y 0 u _ h1.1 e2
    | p::q::r,y,h1,h2=>
     have h3:=h2;obtain⟨u,us',e1,e2,e3⟩:=h2
     have:us'.length≠0:=by
      intro e0;have e0:=List.length_eq_zero_iff.1 e0;subst e0;cases r with
      | nil=>obtain⟨u,e,_⟩:=e3;cases e
      | cons _ _=>obtain⟨u,_,e,_⟩:=e3;cases e
     obtain⟨u2,us2,rfl⟩:∃u2 us2,us'=u2::us2:=by
      cases us' with
      | nil=>simp at this
      | cons a b=>exact⟨a,b,rfl⟩
     subst e1;exact many (p::q::r) 0 _ y h1 h3
   exact key _ _ hflat hret
theorem Jld (hE:EnvOk P E) (h:St N Z own β σ a w) {t ty:Nat} {v:V} {u:Value} {r:V×S} (hu:Jac own w β σ.mem v u) (hr:(JlE E t v).run σ=some r):
 Jck P own w β σ (Builtin.len_ #[t] ty #[u]) r:=by
 unfold JlE at hr;split at hr
 · rename_i n e x
   split at hr
   · rename_i hc
     obtain⟨ht,hn⟩:=hc;obtain⟨te,hd,hte⟩:=(hE.ty t _ ht).desc;obtain⟨ad,g1,_⟩:=hu;rw[Jaq hr];refine⟨.int .i64 (n:Int),?_,rfl,Jab.int.2 ⟨rfl,?_⟩⟩
     · rw[g1]
       simp[Builtin.len_,run_underlying hd,goInt]
     · show (-9223372036854775808:Int)≤(n:Int)∧(n:Int)<9223372036854775808
       omega
   · cases hr
 · rename_i s ver k
   simp only[M.run] at hr;split at hr
   · rename_i ver' e' xs hm
     split at hr
     · rename_i hc
       obtain⟨rfl,ht⟩:=hc;obtain⟨te,hd,hte⟩:=(hE.ty t _ ht).desc;obtain⟨g0,ad,cap,g1,g2⟩:=hu.2 e' xs .full hm rfl;have hmm:=h.mems s;rw[hm] at hmm;obtain⟨ad',cap',f1,f2,f3,f4,f5⟩:=hmm;have f4:xs.length≤big:=f4;simp only[big] at f4;rw[Jaq hr];refine⟨.int .i64 (k:Int),?_,rfl,Jab.int.2 ⟨rfl,?_⟩⟩
       · rw[g2]
         simp[Builtin.len_,run_underlying hd,goInt]
       · show (-9223372036854775808:Int)≤(k:Int)∧(k:Int)<9223372036854775808
         omega
     · cases hr
   · cases hr
 · exact JlU (ty:=ty) hE h hu hr
theorem Jmf (hE:EnvOk P E) (h:St N Z own β σ a w) {t:Nat} {v iv:V} {u i:Value} {r:V×S} (hu:Jac own w β σ.mem v u) (hi:Jac own w β σ.mem iv i) (hr:(JlF E t v iv).run σ=some r):
 Jck P own w β σ (Instr.indexAt t u i) r:=by
 unfold JlF at hr;split at hr
 · rename_i n e x k y
   obtain⟨rfl,hx⟩:=Jac.int hi;split at hr
   · rename_i hc
     obtain⟨ht,hn2,hn⟩:=hc;obtain⟨ad,rfl,g2⟩:=hu;split at hr
     · rename_i s ver p
       simp only[M.run] at hr;split at hr
       · rename_i ver' τb z hm
         split at hr
         · rename_i hc2
           obtain⟨rfl,hp⟩:=hc2;obtain⟨_,h1,h2⟩:=Jal hr;obtain⟨h3,h4⟩:=Jdn (Jap h1);obtain⟨bl,off,h5,h6⟩:=g2.2 τb z hm;injection h6 with h6;injection h6 with h6
           subst h6;rw[h2];refine⟨_,indexAt_slice hE ht _ _ n n k h3 h4,rfl,g2.1,fun τ x' hm'=>?_⟩;rw[hm] at hm';cases hm';refine⟨bl,off,h5,?_⟩;rw[(Jct τb p [.idx (toI k y).toNat] _ hp).2];simp[offP,Jao,Nat.add_assoc]
         · cases hr
       · cases hr
     · rename_i s ver j p
       simp only[M.run] at hr;split at hr
       · rename_i ver' τe xs m hm
         split at hr
         · rename_i hc2
           obtain⟨rfl,hp⟩:=hc2;obtain⟨_,h1,h2⟩:=Jal hr;obtain⟨h3,h4⟩:=Jdn (Jap h1);obtain⟨hj,bl,off,nn,cc,h5,h6⟩:=g2.2 τe xs m hm;injection h6 with h6;injection h6 with h6
           subst h6;rw[h2];refine⟨_,indexAt_slice hE ht _ _ n n k h3 h4,rfl,g2.1,fun τ x' m' hm'=>?_⟩;rw[hm] at hm';cases hm';refine⟨hj,bl,off,nn,cc,h5,?_⟩;rw[(Jct τe p [.idx (toI k y).toNat] _ hp).2];simp[offP,Jao,Nat.add_assoc]
         · cases hr
       · cases hr
     · cases hr
   · cases hr
 · cases hr
theorem Jna (hE:EnvOk P E) (h:St N Z own β σ a w) {t t' ty:Nat} {v v':V} {u u':Value} {r:V×S} (hu:Jac own w β σ.mem v u) (hu':Jac own w β σ.mem v' u')
 (he:execOp a.eval o=(do pure (.value (←Builtin.append_ #[t,t'] ty #[u,u'])))) (hr:(JlG E t t' v v').run σ=some r):Did P N Z o a w r.2 r.1:=by
 unfold JlG at hr;split at hr
 · rename_i s ver k s' ver' lo
   simp only[M.run] at hr;split at hr
   · rename_i v1 e xs hm
     split at hr
     · rename_i hc
       obtain⟨rfl,rfl,rfl,ht,ht'⟩:=hc;obtain⟨_,h5,h6⟩:=Jal hr;have hkl:k≤lo:=of_decide_eq_true (Jap h5);obtain⟨g0,ad,cap,g1,g2⟩:=hu.2 e xs .full hm rfl;obtain⟨l0,ad2,cap2,l1,l2⟩:=hu'.2 e xs .full hm rfl;rw[g1] at l1;cases l1;have hmm:=h.mems s';rw[hm] at hmm;obtain⟨ad',cap',f1,f2,f3,f4,f5⟩:=hmm;rw[g1] at f1;cases f1;obtain⟨te,hd,hte⟩:=(hE.ty t _ ht).desc;obtain⟨te',hd',hte'⟩:=(hE.ty t' _ ht').desc;have hT:=hE.ty te e hte;have hbig:xs.length≤big:=f4
       have hq:Jds own w e u' (xs.drop lo):=by
        refine⟨if cap=lo then ad else ad.map (·.add (lo*e.size)),cap-lo,some s',by rw[List.length_drop];exact l2,by rw[List.length_drop];omega,by omega,by rw[List.length_drop];omega,?_⟩
        by_cases hcl:cap=lo
        · left;omega
        · right
          rcases f5 with ⟨f6,_⟩ | ⟨b,off,f6,f7,_⟩
          · omega
          · rw[if_neg hcl,f6]
            refine⟨b,off+lo*e.size,by simp[Jbx],fun i hi=>?_⟩;rw[List.length_drop] at hi;obtain⟨es,q1,q2,q3⟩:=f7 (lo+i) (by omega);refine⟨es,q1,fun j v hj=>?_,by rw[List.getElem_drop];exact q3⟩;have:=q2 j v hj
            rwa [show off+(lo+i)*e.size+j=off+lo*e.size+i*e.size+j by rw[Nat.add_mul];omega] at this
       obtain⟨s1,s2,yc,s3,s4,s5,s6⟩:=hq.src;rw[List.length_drop] at s1 s6
       have hyc:∀w',w'.heap=w.heap→(Builtin.firstCells e.size (xs.drop lo).length u').run P w'= .ok yc.toArray w':=fun w' hw'=>by
        have:=s6 (xs.length-lo) (Nat.le_refl _) w' hw';rw[List.length_drop];rw[List.length_drop] at s3
        rwa [←s3,List.take_length] at this
       have hpos:k+(xs.length-lo)≤cap:=by omega
       have hrun:(Builtin.append_ #[t,t'] ty #[u,u']).run P w=((match ad with | some b=>storeCells (b.add (k*e.size)) yc | none=>pure ()).run P w).andThen fun _ w'=>.ok (.slice ad (k+(xs.length-lo)) cap) w':=by
        rw[g2];have hy0:=hyc w rfl;rw[List.length_drop] at hy0;simp only[Builtin.append_,List.getElem?_toArray,List.getElem?_cons_zero,List.getElem?_cons_succ,Sem.run_bind,run_underlying hd,run_underlying hd',Result.andThen_ok,hT.cells,Sem.run_pure,Bool.false_eq_true,if_false,s1,hpos,if_true,Bool.not_false,hy0];cases ad with
        | none=>simp
        | some b=>simp
       rw[h6];have hk:min (xs.drop lo).length (xs.length-k)=xs.length-lo:=by rw[List.length_drop];omega
       have hlk:yc.take ((xs.length-lo)*e.size)=yc:=by rw[List.take_of_length_le];rw[s3,List.length_drop];exact Nat.le_refl _
       have hov:(overAt k xs (xs.drop lo)).length=xs.length:=Jdw k xs _ g0;show Did P N Z o a w (σ.set s' (.own ver' (e) (overAt k xs (xs.drop lo)) .full)) (.pre s' ver' (k+(xs.length-lo)))
       refine JjA (P:=P) (E:=E) (N:=N) (Z:=Z) (o:=o) (a:=a) (u:=.slice ad (k+(xs.length-lo)) cap) hE h ht hm g0 g1 s3 s4 s5 (fun own w=>?_) hk (fun A w' hA hst=>by
        refine exec_v he ?_;rw[hlk] at hst;rw[hrun];by_cases hcl:cap=k
        · have hz:xs.length-lo=0:=by omega
          have hyn:yc=[]:=by
           have:yc.length=0:=by rw[s3,List.length_drop,hz,Nat.zero_mul]
           exact List.length_eq_zero_iff.1 this
          subst hyn;rw[if_pos hcl] at hA
          have hw:w'=w:=by
           cases A with
           | none=>exact hst.1
           | some b=>have:(storeCells b [] 0).run P w= .ok () w':=hst
                     simpa [storeCells,eq_comm] using this
          subst hw;cases ad with
          | none=>simp
          | some b=>simp[storeCells]
        · rw[if_neg hcl] at hA
          cases ad with
          | none=>
           simp only[Option.map_none] at hA;subst hA;obtain⟨rfl,_⟩:=hst;simp
          | some b=>
           simp only[Option.map_some] at hA;subst hA;have hst:(storeCells (b.add (k*e.size)) yc 0).run P w= .ok () w':=hst;simp[hst])
       refine⟨?_,fun τ ys m hm' _=>?_⟩
       · show ver'<nextVer (upd σ.mem s' _ s')
         rw[Jad,if_pos rfl];exact Nat.lt_succ_self _
       · have hm':upd σ.mem s' (.own ver' e (overAt k xs (xs.drop lo)) .full) s'= .own ver' τ ys m:=hm'
         rw[Jad,if_pos rfl] at hm';cases hm';exact⟨by rw[hov];omega,ad,cap,by rw[hov];exact g1,rfl⟩
     · cases hr
   · cases hr
 · cases hr
theorem JkB (hE:EnvOk P E) (h:St N Z own β σ a w) {t:Nat} {τ:Ty} {v:V} {u:Value} {r:V×S} (ht:E.ty t=some τ) (hu:Jac own w β σ.mem v u)
 (he:execOp a.eval o=(do pure (.value (←Instr.loadAt t u)))) (hr:(Jh7 τ v).run σ=some r):Did P N Z o a w r.2 r.1:=by
 have hT:=hE.ty t τ ht;unfold Jh7 at hr;split at hr
 · rename_i s ver p
   simp only[M.run] at hr;split at hr
   · rename_i ver' τ0 x hm
     split at hr
     · rename_i hc
       obtain⟨rfl,hp,hv⟩:=hc;split at hr
       · rename_i y hy
         obtain⟨b,off,g1,g2⟩:=hu.2 τ0 x hm;obtain⟨b',off',uu,k1,k2,k3,k4⟩:=h.vb hm;rw[k1] at g1;cases g1;obtain⟨u2,l1,l2,l3,l4⟩:=(JcM τ0).1 x uu p y τ k4 k3 hy hp hT.isVal;obtain⟨z,fr,hf,hA,_,h3⟩:=JbK h l1 hr hv;obtain⟨own1,s1,kk,v1⟩:=h.freeze hf;obtain⟨_,_,h6⟩:=Jal h3;rw[h6];simp only[JaD];refine Jae (exec_v he (u:=u2) (w':=w) ?_) s1 (v1 _ _ _ hA);rw[g2];simp only[Instr.loadAt,Instr.sureAddr,Sem.run_bind,Sem.run_pure,Result.andThen_ok]
         have:=hT.loadL (w:=w) (b:=b) (off:=off+offP τ0 p) (cs:=u2.cells.toList) l2.2.2.1 (fun j v hj=>by
          rw[l3,List.getElem?_take] at hj;split at hj
          · rw[List.getElem?_drop] at hj
            have:=(k2 _ _ hj).2.2.1
            rwa [←Nat.add_assoc] at this
          · cases hj)
         rw[this,←l2.2.1]
       · cases hr
     · cases hr
   · cases hr
 · cases hr
theorem Jnx (hE:EnvOk P E) (h:St N Z own β σ a w) {f:Nat} {q:Ty×List Stp×Ty} {args:Array Operand} {ats:Array TypeId} (hq:E.pe f=some q) (ho:o.op= .call {callee:=.value (.func f),args,argTypes:=ats})
 {r:V×S} (hr:(peM q args.toList).run σ=some r):Did P N Z o a w r.2 r.1:=by
 have hC:=hE.pe f q hq;unfold peM at hr;split at hr
 · rename_i o1 o2 hargs
   obtain rfl:args=#[o1,o2]:=Array.ext' (by simpa using hargs);obtain⟨v,h1,h2⟩:=Jak h hr;obtain⟨u,h3,h4⟩:=Jak h h2;split at h4
   · rename_i s ver p i
     obtain⟨e1,e2⟩:=Jac.int h3;simp only[M.run] at h4;split at h4
     · rename_i ver' τ0 x hm
       split at h4
       · rename_i hc
         obtain⟨rfl,hp,hpq⟩:=hc;split at h4
         · rename_i s2 ver2 hgv
           simp only[M.run] at h4;split at h4
           · rename_i v3 τe xs hm2
             split at h4
             · rename_i hc2
               obtain⟨rfl,rfl⟩:=hc2;obtain⟨_,h5,h6⟩:=Option.map_eq_some_iff.1 h4;subst h6;have h5:=Jap h5;simp only[Bool.and_eq_true,decide_eq_true_eq] at h5;obtain⟨h5,h7⟩:=h5;obtain⟨z,hz⟩:∃z:Int,z=i:=⟨i,rfl⟩;have h50:1≤z:=by rw[hz];exact h5
               have h70:z≤(xs.length:Int):=by rw[hz];exact h7
               obtain⟨k,hk⟩:∃k:Nat,z=(k:Int)+1:=⟨(z-1).toNat,by omega⟩;have hkl:k<xs.length:=by omega
               obtain⟨b,off,g1,g2⟩:=h1.2 τ0 x hm;obtain⟨b',off',uu,k1,k2,k3,k4⟩:=h.vb hm;rw[k1] at g1;cases g1;obtain⟨t1,t2⟩:=Jct τ0 p q.2.1 _ hp;obtain⟨u2,l1,l2,l3,l4⟩:=(JcM τ0).1 x uu (p++q.2.1) _ (.sl q.2.2) k4 k3 hgv (t1.trans hpq) rfl;have hu2:u2=β s2:=l1.2 _ xs .full hm2;have hmm:=h.mems s2;rw[hm2] at hmm;obtain⟨ad,cap,f1,f2,f3,f4,f5⟩:=hmm;rcases f5 with ⟨f6,_⟩ | ⟨b1,o1',f6,f7,_⟩
               · omega
               subst f6;have hsl:u2= .slice (some ⟨b1,o1',none⟩) xs.length cap:=hu2.trans f1
               have hcell:w.cell? ⟨b,off+offP τ0 p+offP (.st q.1) q.2.1,none⟩=some (.slice (some ⟨b1,o1',none⟩) xs.length cap):=by
                have h0:u2.cells.toList[0]?=some u2:=by rw[hsl];rfl
                rw[l3,List.getElem?_take,if_pos (by simp[Ty.size]),List.getElem?_drop,Nat.add_zero] at h0;have:=(k2 _ _ h0).2.2.1;rw[t2,←Nat.add_assoc] at this;rw[this,hsl]
               have hcall:=hC.calls w b (off+offP τ0 p) b1 o1' xs.length cap k hcell hkl f4
               have hexec:(execOp a.eval o).run P w= .ok (.enter f #[.pointer (some ⟨b,off+offP τ0 p,none⟩),.int .i64 ((k:Int)+1)]) w:=by
                rw[Jd5 ho hC.fn]
                congr 2
                have e3:a.eval o2= .int .i64 ((k:Int)+1):=by rw[e1,←hk,hz];rfl
                simp[g2,e3]
               intro Q;unfold Oper.wp;rw[hexec,Oper.upon_enter];refine hcall.mono ?_;rintro e w' ⟨rfl,rfl⟩;refine⟨_,rfl,own,β,h,l1.1,fun τ ys m hm'=>?_⟩;have hm':σ.mem s2= .own ver2 τ ys m:=hm';rw[hm2] at hm';cases hm'
               have hik:((i:Int)-1).toNat=k:=by
                have:(z-1).toNat=k:=by omega
                rw[hz] at this;exact this
               exact⟨by rw[hik];exact hkl,b1,o1',xs.length,cap,f1,by rw[hik];simp[Jao]⟩
             · cases h4
           · cases h4
         · cases h4
       · cases h4
     · cases h4
   · cases h4
 · cases hr
end
end Go.Re
namespace Go.Re
set_option linter.unusedVariables false
set_option linter.unusedSimpArgs false
open Go.RowKit (Below)
section
variable {P:Program} {E:Env} {N:Nat} {Z:Base} {own:Own} {β:Jai} {σ:S} {a:Act} {w:World} {o:Oper}
theorem Jda (h:St N Z own β σ a w) {u:Value} {v:V} {r:V×S} (he:execOp a.eval o=pure (.value u)) (hu:Jac own w β σ.mem v u) (hr:(M.ret v).run σ=some r):Did P N Z o a w r.2 r.1:=by
 rw[Jaq hr];exact Jae (by rw[he];rfl) h hu
theorem Jg1:∀(i:Nat) {v x:V} {vs:List Value},nth v i=some x→Jac own w β σ.mem v (.tuple vs.toArray)→∃u,vs[i]?=some u∧Jac own w β σ.mem x u
 | 0,.tcons _ _,_,vs,h,⟨u,us,h1,h2,h3⟩=>by
  cases h;have e:vs=u::us:=by simpa using h1
  subst e;exact⟨u,rfl,h2⟩
 | i+1,.tcons _ _,_,vs,h,⟨u,us,h1,h2,h3⟩=>by
  have e:vs=u::us:=by simpa using h1
  subst e;exact Jg1 i h h3
 | 0,.dead,_,_,h,_=>by cases h
 | 0,.val _ _,_,_,h,_=>by cases h
 | 0,.nil,_,_,h,_=>by cases h
 | 0,.ptr _ _ _,_,_,h,_=>by cases h
 | 0,.ref _ _,_,_,h,_=>by cases h
 | 0,.elp _ _ _ _,_,_,h,_=>by cases h
 | 0,.rpt _ _,_,_,h,_=>by cases h
 | 0,.nilq _ _,_,_,h,_=>by cases h
 | 0,.pre _ _ _,_,_,h,_=>by cases h
 | 0,.plist _,_,_,h,_=>by cases h
 | 0,.pel _,_,_,h,_=>by cases h
 | 0,.clo _ _,_,_,h,_=>by cases h
 | 0,.zval _ _ _,_,_,h,_=>by cases h
 | 0,.tnil,_,_,h,_=>by cases h
 | _+1,.dead,_,_,h,_=>by cases h
 | _+1,.val _ _,_,_,h,_=>by cases h
 | _+1,.nil,_,_,h,_=>by cases h
 | _+1,.ptr _ _ _,_,_,h,_=>by cases h
 | _+1,.ref _ _,_,_,h,_=>by cases h
 | _+1,.elp _ _ _ _,_,_,h,_=>by cases h
 | _+1,.rpt _ _,_,_,h,_=>by cases h
 | _+1,.nilq _ _,_,_,h,_=>by cases h
 | _+1,.pre _ _ _,_,_,h,_=>by cases h
 | _+1,.plist _,_,_,h,_=>by cases h
 | _+1,.pel _,_,_,h,_=>by cases h
 | _+1,.clo _ _,_,_,h,_=>by cases h
 | _+1,.zval _ _ _,_,_,h,_=>by cases h
 | _+1,.tnil,_,_,h,_=>by cases h
theorem Jhp:∀{c:V} {n:Nat} {us:List Value},JfQ c=some n→Jac own w β σ.mem c (.tuple us.toArray)→n=us.length
 | .tnil,_,us,h,hr=>by
  cases h;have hr:Value.tuple us.toArray= .tuple #[]:=hr;have:us=[]:=by simpa using hr
  rw[this];rfl
 | .tcons x r,_,us,h,hr=>by
  obtain⟨m,h1,rfl⟩:=Option.map_eq_some_iff.1 h;obtain⟨u,us',h2,h3,h4⟩:=hr;have e:us=u::us':=by simpa using h2
  subst e;rw[Jhp h1 h4];rfl
 | .dead,_,_,h,_=>by cases h
 | .val _ _,_,_,h,_=>by cases h
 | .nil,_,_,h,_=>by cases h
 | .ptr _ _ _,_,_,h,_=>by cases h
 | .ref _ _,_,_,h,_=>by cases h
 | .elp _ _ _ _,_,_,h,_=>by cases h
 | .rpt _ _,_,_,h,_=>by cases h
 | .nilq _ _,_,_,h,_=>by cases h
 | .win _ _ _,_,_,h,_=>by cases h
 | .pre _ _ _,_,_,h,_=>by cases h
 | .plist _,_,_,h,_=>by cases h
 | .pel _,_,_,h,_=>by cases h
 | .clo _ _,_,_,h,_=>by cases h
 | .zval _ _ _,_,_,h,_=>by cases h
theorem Jix (h:St N Z own β σ a w):∀(l:List Operand) {k:V→M V} {r:V×S},(Jke l k).run σ=some r→∃c,Jac own w β σ.mem c (.tuple (l.map a.eval).toArray)∧(k c).run σ=some r
 | [],k,r,hr=>⟨.tnil,rfl,hr⟩
 | o::l,k,r,hr=>by
  unfold Jke at hr;obtain⟨v,h1,h2⟩:=Jak h hr;obtain⟨c,h3,h4⟩:=Jix h l h2;exact⟨.tcons v c,⟨a.eval o,l.map a.eval,rfl,h1,h3⟩,h4⟩
theorem St.thawBoxes:∀(ws:List (Nat×Entry)) {own:Own} {σ:S},St N Z own β σ a w→(∀p∈ws,∃ver τ x,σ.mem p.1= .box ver τ x∧p.2= .gone ver)→(ws.map (·.1)).Nodup →
 ∃own',St N Z own' β (Jaz σ ws) a w∧Keeps own own' w w∧(∀s,Evo β β s (σ.mem s) ((Jaz σ ws).mem s))∧∀p∈ws,∀ver τ x,σ.mem p.1= .box ver τ x →
  τ.isVal=true∧∃b o cs,β p.1= .pointer (some ⟨b,o,none⟩)∧(∀j v,cs[j]?=some v→own' b (o+j)=none∧w.cell? ⟨b,o+j,none⟩=some v)∧Jag own' w τ cs x
 | [],own,σ,h,_,_=>⟨own,h,Keeps.refl _ _,fun _=>Evo.same _ rfl,fun _ h=>by cases h⟩
 | p::ws,own,σ,h,hb,hn=>by
  obtain⟨ver,τ,x,e1,e2⟩:=hb p List.mem_cons_self;have hmm:=h.mems p.1;rw[e1] at hmm;obtain⟨hv,b,o,cs,g1,g2,g3⟩:=hmm;obtain⟨own1,s1,k1,t1⟩:=h.thawBox e1 g1 g2 rfl;rw[←e2] at s1;have hn':p.1∉ws.map (·.1)∧(ws.map (·.1)).Nodup:=List.nodup_cons.1 hn;have hmem:∀s,(σ.set p.1 p.2).mem s=if s=p.1 then p.2 else σ.mem s:=fun s=>Jad _ _ _ _
  have hsame:∀q∈ws,(σ.set p.1 p.2).mem q.1=σ.mem q.1:=fun q hq=>by
   rw[hmem,if_neg];rintro e;exact hn'.1 (by rw[←e];exact List.mem_map_of_mem hq)
  obtain⟨own2,s2,k2,v2,t2⟩:=St.thawBoxes ws s1 (fun q hq=>by rw[hsame q hq];exact hb q (List.mem_cons_of_mem _ hq)) hn'.2;refine⟨own2,s2,k1.trans k2,fun s=>?_,fun q hq ver' τ' x' hm=>?_⟩
  · refine Evo.trans ?_ (v2 s)
    rw[hmem];split
    · rename_i e;subst e;rw[e1,e2]
      exact⟨Nat.le_refl _,fun _ _ _ he _=>by (cases he),fun _ _ _ _ he _=>by (cases he),fun _ _ _ he _=>by (cases he)⟩
    · exact Evo.same _ rfl
  · rcases List.mem_cons.1 hq with rfl | hq
    · rw[e1] at hm;cases hm
      exact⟨hv,b,o,cs,g1,fun j v hj=>k2 _ _ _ (t1 j v hj).1 (t1 j v hj).2,g3.keeps (k1.trans k2)⟩
    · exact t2 q hq ver' τ' x' (by rw[hsame q hq];exact hm)
theorem Jf1 (h:St N Z own β σ a w):∀(l:List Operand) {k:V→List (Nat×Entry)→M V} {r:V×S},(Jh9 l k).run σ=some r→∃c ws,(k c ws).run σ=some r∧(∀p∈ws,∃ver τ x,σ.mem p.1= .box ver τ x∧p.2= .gone ver) ∧
 ∀(own':Own) (mem':Nat→Entry),Keeps own own' w w→(∀s,Evo β β s (σ.mem s) (mem' s))→(∀p∈ws,∀ver τ x,σ.mem p.1= .box ver τ x →
  τ.isVal=true∧∃b o cs,β p.1= .pointer (some ⟨b,o,none⟩)∧(∀j v,cs[j]?=some v→own' b (o+j)=none∧w.cell? ⟨b,o+j,none⟩=some v)∧Jag own' w τ cs x) →
  Jac own' w β mem' c (.tuple (l.map a.eval).toArray)
 | [],k,r,hr=>⟨.tnil,[],hr,fun _ h=>(by cases h),fun _ _ _ _ _=>rfl⟩
 | o::l,k,r,hr=>by
  unfold Jh9 at hr;obtain⟨v,h1,h2⟩:=Jak h hr;split at h2
  · rename_i s ver
    simp only[M.run] at h2;split at h2
    · rename_i ver' τ x hm
      split at h2
      · rename_i e;subst e
        obtain⟨c,ws,h3,h4,h5⟩:=Jf1 h l h2;refine⟨_,_,h3,fun p hp=>?_,fun own' mem' hK hE hW=>?_⟩
        · rcases List.mem_cons.1 hp with rfl | hp
          · exact⟨_,τ,x,hm,rfl⟩
          · exact h4 p hp
        · obtain⟨hv,b,off,cs,g1,g2,g3⟩:=hW _ List.mem_cons_self _ τ x hm
          obtain⟨b',o',q1,q2⟩:=h1.2 τ x hm;rw[g1] at q1;cases q1;rw[Jao,Nat.add_zero] at q2;exact⟨a.eval o,l.map a.eval,rfl,⟨hv,b,off,cs,q2,g2,g3⟩,h5 own' mem' hK hE fun p hp=>hW p (List.mem_cons_of_mem _ hp)⟩
      · cases h2
    · cases h2
  · obtain⟨c,ws,h3,h4,h5⟩:=Jf1 h l h2
    exact⟨_,_,h3,h4,fun own' mem' hK hE hW=>⟨a.eval o,l.map a.eval,rfl,Jac.go hK hE h1,h5 own' mem' hK hE hW⟩⟩
theorem Jco (h:St N Z own β σ a w) {v:V} {u:Value} (h1:Jac own w β σ.mem v u) (hu:u.cells.toList[0]?=some u) {t:Nat}
 (hrun:∀w,(execOp a.eval o).run P w= .ok (.value (.pointer (some ⟨w.heap.size,0,none⟩))) {w with heap:=w.heap.push (.cells u.cells t (0,0))}):Did P N Z o a w σ (.pel v):=by
 obtain⟨own2,s2,k2,hc⟩:=h.newRead (Jcu u t w);exact Jae (hrun w) s2 ⟨w.heap.size,0,u,rfl,(hc 0 u hu).1,(hc 0 u hu).2,Jac.go k2 (fun s=>Evo.same _ rfl) h1⟩
theorem Jiy (h:St N Z own β σ a w) {v:V} {u:Value} (h1:Jac own w β σ.mem v u) {t:Nat}
 (hrun:∀w,(execOp a.eval o).run P w= .ok (.value (.pointer (some ⟨w.heap.size,0,none⟩))) {w with heap:=w.heap.push (.cells u.cells t (0,0))})
 {r:V×S} (hr:(Jkf v).run σ=some r):Did P N Z o a w r.2 r.1:=by
 unfold Jkf at hr;split at hr
 · rename_i s ver p
   simp only[M.run] at hr;split at hr
   · rename_i ver' τ x hm
     cases hv:Nat.beq ver ver' with
     | false=>rw[hv] at hr;cases hr
     | true=>
      rw[hv,cond_true] at hr;have hv:=Nat.eq_of_beq_eq_true hv;subst hv;obtain⟨b,off,e1,e2⟩:=h1.2 τ x hm;rw[Jaq hr];exact Jco h h1 (by rw[e2];rfl) hrun
   · cases hr
 · rename_i s ver i p
   simp only[M.run] at hr;split at hr
   · rename_i ver' τ xs m hm
     cases hv:Nat.beq ver ver' with
     | false=>rw[hv] at hr;cases hr
     | true=>
      rw[hv,cond_true] at hr;have hv:=Nat.eq_of_beq_eq_true hv;subst hv;obtain⟨_,b,off,n,c,e1,e2⟩:=h1.2 τ xs m hm;rw[Jaq hr];exact Jco h h1 (by rw[e2];rfl) hrun
   · cases hr
 · rename_i s ver p
   simp only[M.run] at hr;split at hr
   · rename_i ver' τ x hm
     cases hv:Nat.beq ver ver' with
     | false=>rw[hv] at hr;cases hr
     | true=>
      rw[hv,cond_true] at hr;have hv:=Nat.eq_of_beq_eq_true hv;subst hv;obtain⟨b,off,e1,e2⟩:=h1.2 τ x hm;rw[Jaq hr];exact Jco h h1 (by rw[e2];rfl) hrun
   · cases hr
 · rw[Jaq hr]
   have h2:=h1;obtain⟨_,b,off,cs,e1,_⟩:=h2;exact Jco h h1 (by rw[e1];rfl) hrun
 · rw[Jaq hr]
   have h2:=h1;obtain⟨ad,e1,_⟩:=h2;exact Jco h h1 (by rw[e1];rfl) hrun
 · rw[Jaq hr]
   have h2:=h1;obtain⟨b,off,u',e1,_⟩:=h2;exact Jco h h1 (by rw[e1];rfl) hrun
 · rw[Jaq hr]
   have h2:=h1;obtain⟨us,e1,_⟩:=h2;exact Jco h h1 (by rw[e1];rfl) hrun
 · cases hr
theorem JjF (h:St N Z own β σ a w):∀(ps:List (Nat×Operand)) (j:Nat) (cells:List Value) {k:V→M V} {r:V×S},(plM ps j k).run σ=some r→cells.length=j+ps.length →
 ∃c us,us.length=ps.length∧Jac own w β σ.mem c (.tuple (List.toArray us))∧(k c).run σ=some r ∧
  Instr.fill (fun i=>some (i*1,1)) cells.toArray (ps.map fun p=>(p.1,a.eval p.2))=some (cells.take j++us).toArray
 | [],j,cells,k,r,hr,hl=>by
  refine⟨.tnil,[],rfl,rfl,hr,?_⟩;rw[List.append_nil,List.take_of_length_le (by simp at hl;omega)];rfl
 | (i,o)::ps,j,cells,k,r,hr,hl=>by
  unfold plM at hr;cases hb:Nat.beq i j with
  | false=>rw[hb] at hr;cases hr
  | true=>
   rw[hb] at hr;have hb:=Nat.eq_of_beq_eq_true hb;subst hb;simp only[cond_true] at hr;obtain⟨v,h1,h2⟩:=Jak h hr;split at h2
   · rename_i s ver p
     simp only[M.run] at h2;split at h2
     · rename_i ver' τ x hm
       cases hv:Nat.beq ver ver' with
       | false=>rw[hv] at h2;cases h2
       | true=>
        rw[hv] at h2;have hv:=Nat.eq_of_beq_eq_true hv;subst hv;simp only[cond_true] at h2;obtain⟨b,off,e1,e2⟩:=h1.2 τ x hm;simp only[List.length_cons] at hl;obtain⟨c,us,g1,g2,g3,g4⟩:=JjF h ps (i+1) (cells.set i (a.eval o)) h2 (by simp;omega);refine⟨.tcons (.ptr s ver p) c,a.eval o::us,by simp[g1],⟨_,_,rfl,h1,g2⟩,g3,?_⟩;have hcell:(a.eval o).cells=#[a.eval o]:=by rw[e2];rfl
        simp only[List.map_cons,Instr.fill,hcell];have hsz:i*1+1≤cells.length:=by omega
        have hset:(#[a.eval o].zipIdx.foldl (fun cs (p:Value×Nat)=>cs.setIfInBounds (i*1+p.2) p.1) cells.toArray)=(cells.set i (a.eval o)).toArray:=by
         simp
        have hcond:¬((decide ((#[a.eval o]:Array Value).size≠1)||decide (i*1+(#[a.eval o]:Array Value).size>cells.toArray.size))=true):=by
         simp;omega
        rw[if_neg (by simpa using hcond)];refine Eq.trans (congrArg (fun z=>Instr.fill (fun i=>some (i*1,1)) z (ps.map fun p=>(p.1,a.eval p.2))) hset) ?_;rw[g4]
        congr 2
        rw[List.take_add_one,List.getElem?_set_self (by omega),List.take_set_of_le (Nat.le_refl _)];simp
     · cases h2
   · cases h2
theorem Jle (hE:EnvOk P E) (h:St N Z own β σ a w) {t n:Nat} {ps:Array (Nat×Operand)} (ht:E.psl t=true) (hn:ps.toList.length=n) (hn2:n≤65536)
 (he:execOp a.eval o=(do pure (.value (←Instr.buildSlice t n (ps.map fun (i,x)=>(i,a.eval x)))))) {r:V×S} (hr:(plM ps.toList 0 fun c=>.ret (.plist c)).run σ=some r):Did P N Z o a w r.2 r.1:=by
 obtain⟨te,ta,i,q1,q2,q3,q4,q5⟩:=hE.psl t ht;obtain⟨c,us,g1,g2,g3,g4⟩:=JjF h ps.toList 0 (List.replicate n (.pointer none)) hr (by simp[hn]);rw[List.take_zero,List.nil_append] at g4;rw[Jaq g3];have hul:us.length=n:=by omega
 obtain⟨own',s1,k1,hc⟩:=h.newRead (Jca w us te w.drawn);refine Jae (exec_v he (u:=.slice (some ⟨w.heap.size,0,none⟩) n n) (w':={w with heap:=w.heap.push (.cells us.toArray te (0,0))}) ?_) s1 ⟨us,w.heap.size,0,by rw[hul],by omega,hc,Jac.go k1 (fun s=>Evo.same _ rfl) g2⟩
 have hps:(Array.map (fun x=>match x with | (i,x)=>(i,a.eval x)) ps).toList=ps.toList.map fun p=>(p.1,a.eval p.2):=by simp
 have hsize:(sizeOf te).run P w= .ok 1 w:=by simp[sizeOf,typeInfo,q3,q4]
 have hzero:(zeroValue te).run P w= .ok (.pointer none) w:=by simp[zeroValue,typeInfo,q3,q5]
 have hbig:¬(n*1>2^24):=by omega
 simp only[Instr.buildSlice,Sem.run_bind,run_underlying q1,Result.andThen_ok,Sem.run_pure,hsize];rw[if_neg hbig];simp only[Sem.run_pure,Result.andThen_ok,Sem.run_bind,Sem.run_ite];by_cases hz0:n*1=0
 · have hn0:n=0:=by omega
   subst hn0;have hus:us=[]:=List.eq_nil_of_length_eq_zero hul;subst hus;rw[if_pos hz0];simp only[Result.andThen_ok,hz0,Array.range_zero',Array.map_empty,hps];have g4':Instr.fill (fun i=>some (i*1,1)) #[] (ps.toList.map fun p=>(p.1,a.eval p.2))=some #[]:=g4;rw[g4'];simp[newRow]
 · rw[if_neg hz0]
   have hcells:((Array.range (n*1)).map fun i=>(Value.cells (.pointer none))[i%(Value.cells (.pointer none)).size]!)=(List.replicate n (Value.pointer none)).toArray:=by
    apply Array.ext';apply List.ext_getElem
    · simp
    · intro j h1 h2
      simp[Value.cells,Nat.mod_one]
   simp only[Sem.run_bind,hzero,Result.andThen_ok,Sem.run_pure,hps];rw[hcells,g4];simp[newRow]
theorem Jmg (hE:EnvOk P E) (h:St N Z own β σ a w) {t:Nat} {v vi:V} {u ui:Value} {r:V×S} (ht:E.psl t=true) (hu:Jac own w β σ.mem v u) (hi:Jac own w β σ.mem vi ui)
 (he:execOp a.eval o=(do pure (.value (←Instr.indexAt t u ui)))) (hr:(JlH v vi).run σ=some r):Did P N Z o a w r.2 r.1:=by
 obtain⟨te,ta,i,q1,q2,q3,q4,q5⟩:=hE.psl t ht;unfold JlH at hr;split at hr
 · rename_i c k j
   obtain⟨e1,e2⟩:=Jac.int hi;obtain⟨us,b,off,f1,f0,f2,f3⟩:=hu;split at hr
   · rename_i y hy
     obtain⟨_,h1,h2⟩:=Jal hr;have h1:=of_decide_eq_true (Jap h1);obtain⟨uy,g1,g2⟩:=Jg1 _ hy f3;have hlt:(toI k j).toNat<us.length:=(List.getElem?_eq_some_iff.1 g1).1;obtain⟨g3,g4⟩:=f2 _ _ g1;have hsize:∀w,(sizeOf te).run P w= .ok 1 w:=fun w=>by simp[sizeOf,typeInfo,q3,q4]
     rw[h2];refine Jae (exec_v he (u:=.pointer (some ⟨b,off+(toI k j).toNat,none⟩)) (w':=w) ?_) h ⟨b,_,uy,rfl,g3,g4,g2⟩;have hlt':toI k j<(us.length:Int):=by omega
     rw[f1,e1];simp[Instr.indexAt,run_underlying q1,asIntOf,h1,hlt',hsize,Jbx]
   · cases hr
 · cases hr
theorem Jjj {v:V} {i:Nat} {x:V} {u:Value} (h:nth v i=some x) (hr:Jac own w β σ.mem v u):∃vs:List Value,u= .tuple vs.toArray:=by
 cases v with
 | tcons a r=>obtain⟨u',us,h1,_⟩:=hr;exact⟨_,h1⟩
 | _=>cases i<;>cases h
theorem Jbe {b:Builtin} {args:Array Operand} {ats:Array TypeId} (ho:o.op= .call {callee:=.builtin b,args,argTypes:=ats}):
 execOp a.eval o=builtin b ats o.type (args.map fun | .const _=>true | _=>false) (args.map a.eval):=by
 unfold execOp;rw[ho];rfl
theorem Jlf {n:Int} (h1:0≤n) (h2:n<128):(Utf8.encode n).data.toList.map UInt8.toBitVec=[BitVec.ofInt 8 n]:=by
 obtain⟨m,rfl⟩:∃m:Nat,n=(m:Int):=⟨n.toNat,by omega⟩
 have hv:Utf8.valid (m:Int)=true:=by
  unfold Utf8.valid;simp only[Bool.or_eq_true,Bool.and_eq_true,decide_eq_true_eq];omega
 have hm:m<128:=by omega
 unfold Utf8.encode;simp[hv,hm];rfl
theorem Jnb (hE:EnvOk P E) (h:St N Z own β σ a w) {r:V×S} (hr:(opM E o).run σ=some r):Did P N Z o a w r.2 r.1:=by
 have hx:∀{s:Sem Value},(execOp a.eval o=(do pure (.value (←s))))→execOp a.eval o=(do pure (.value (←s))):=fun h=>h
 unfold opM at hr;split at hr
 ·
  rename_i x ho;obtain⟨v,h1,h2⟩:=Jak h hr;cases hmz:E.mfz (o.dst.getD 0) with
  | true=>
   rw[hmz,cond_true] at h2;exact Jm7 h h1 (by unfold execOp;rw[ho]) h2
  | false=>
   rw[hmz,cond_false] at h2;cases hct:E.cut (o.dst.getD 0) with
   | true=>rw[hct,cond_true] at h2;exact JlY h h1 (by unfold execOp;rw[ho]) h2
   | false=>
    rw[hct,cond_false] at h2;exact Jda h (by unfold execOp;rw[ho]) h1 h2
 ·
  rename_i x ho;obtain⟨v,h1,h2⟩:=Jak h hr;have he:execOp a.eval o=pure (.value (a.eval x)):=by unfold execOp;rw[ho]
  split at h2
  · split at h2
    · rename_i e ht
      have h1:a.eval x= .slice none 0 0:=h1;unfold Jh0 at h2;simp only[M.run] at h2;obtain⟨_,_,h5⟩:=Option.map_eq_some_iff.1 h2;subst h5;exact Jae (u:=.slice none 0 0) (w':=w) (by rw[he,h1];rfl) (h.newNil _ e) (Ja0 _ _ _ σ.mem _ _ (σ.mem _) e [] .full)
    · cases h2
  · exact Jda h he h1 h2
 ·
  rename_i c x y ho;obtain⟨vc,h1,h2⟩:=Jak h hr;obtain⟨vx,h3,h4⟩:=Jak h h2;obtain⟨vy,h5,h6⟩:=Jak h h4;split at h6
  · rename_i b
    have hc:a.eval c= .bool b:=Jab.bool.1 h1
    have he:execOp a.eval o=pure (.value (if b then a.eval x else a.eval y)):=by
     unfold execOp;rw[ho];simp[hc,asBool]
    split at h6
    · rename_i τ p τ' q
      split at h6
      · rename_i q' hq
        obtain⟨e,hq⟩:=cast?_some hq;subst e;subst hq;refine Jda h he ?_ h6;cases b
        · exact h5
        · exact h3
      · cases h6
    · obtain⟨_,h7,h8⟩:=Jal h6
      have h7:=Jap h7;rw[h8];cases b with
      | false=>exact Jae (by rw[he];rfl) h h5
      | true=>cases h7
    · obtain⟨_,h7,h8⟩:=Jal h6
      have h7:=Jap h7;rw[h8];cases b with
      | false=>exact Jae (by rw[he];rfl) h h5
      | true=>cases h7
    · obtain⟨_,h7,h8⟩:=Jal h6
      have h7:=Jap h7;rw[h8];cases b with
      | true=>exact Jae (by rw[he];rfl) h h3
      | false=>cases h7
    · obtain⟨_,h7,h8⟩:=Jal h6
      have h7:=Jap h7;rw[h8];cases b with
      | true=>exact Jae (by rw[he];rfl) h h3
      | false=>cases h7
    · cases h6
  · cases h6
 ·
  rename_i t ho;split at hr
  · rename_i τ ht
    have hT:=hE.ty t τ ht
    have hrun:∀w,(execOp a.eval o).run P w= .ok (.value (.pointer (some ⟨w.heap.size,0,none⟩))) {w with heap:=w.heap.push (.cells (mkV τ (zeroC τ)).cells t (0,0))}:=by
     intro w;unfold execOp;rw[ho];simp only[Sem.run_bind,Instr.alloc,hT.zeroRun,Result.andThen_ok,JeF,Sem.run_pure]
    cases hgal:E.gal (o.dst.getD 0) with
    | cons q l=>
     dsimp only at hr
     rw[hgal] at hr;exact Jma h hT.isVal hT.good (t:=t) hrun hr
    | nil=>
    dsimp only at hr
    rw[hgal] at hr;cases hvb:E.vbd (o.dst.getD 0) with
    | true=>
     dsimp only at hr
     rw[hvb,cond_true] at hr;have hz:Jab own w τ (mkV τ (zeroC τ)) τ.zero:=Jab.mk hT.isVal (Jat hT.good);cases hdo:Jb5 τ with
     | false=>rw[hdo] at hr;cases hr
     | true=>
      rw[hdo,cond_true] at hr;exact Jiv h ((Jgr hT.good hdo).1 hT.isVal) hz.fit (t:=t) hrun hr
    | false=>
    dsimp only at hr
    rw[hvb,cond_false] at hr;cases h1:E.one (o.dst.getD 0) with
    | true=>
     rw[h1,cond_true] at hr;exact JmS h (Jab.mk hT.isVal (Jat hT.good)) (t:=t) hrun hr
    | false=>
     rw[h1,cond_false] at hr;exact Jju h (fr:=[]) (by simp[Frz]) hT.isVal (.of (Jab.mk hT.isVal (Jat hT.good))) (t:=t) hrun hr
  · cases hr
 ·
  rename_i t x ho;split at hr
  · rename_i τ ht
    have hT:=hE.ty t τ ht;obtain⟨v,h1,h2⟩:=Jak h hr
    have hrun:∀w,(execOp a.eval o).run P w= .ok (.value (.pointer (some ⟨w.heap.size,0,none⟩))) {w with heap:=w.heap.push (.cells (a.eval x).cells t (0,0))}:=by
     intro w;unfold execOp;rw[ho];simp only[Sem.run_bind,Instr.box,Result.andThen_ok,JeF,Sem.run_pure]
    cases hvb:E.vbd (o.dst.getD 0) with
    | true=>
     rw[hvb,cond_true] at h2;obtain⟨hf,h3⟩:=Jg0 h h1 h2;exact Jiv h h1 hf (t:=t) hrun h3
    | false=>
    rw[hvb,cond_false] at h2;cases hal:JhT v with
    | true=>rw[hal,cond_true] at h2;exact Jiy h h1 hrun h2 (t:=t)
    | false=>
    rw[hal,cond_false] at h2;obtain⟨y,fr,hf,hA,_,h3⟩:=JbK h h1 h2 hT.isVal;cases h4:E.one (o.dst.getD 0) with
    | true=>
     rw[h4,cond_true] at h3;exact JlS h hf hT.isVal hA (t:=t) hrun h3
    | false=>
     rw[h4,cond_false] at h3;exact Jju h hf hT.isVal hA (t:=t) hrun h3
  · cases hp:E.ptr t with
    | false=>rw[hp] at hr;cases hr
    | true=>
     rw[hp,cond_true] at hr;obtain⟨v,h1,h2⟩:=Jak h hr;refine Jiy h h1 (fun w=>?_) h2 (t:=t);unfold execOp;rw[ho];simp only[Sem.run_bind,Instr.box,Result.andThen_ok,JeF,Sem.run_pure]
 ·
  rename_i t ps ho;split at hr
  · rename_i b ht
    cases hgb:E.gbd (o.dst.getD 0) with
    | nil=>
     dsimp only at hr
     rw[hgb] at hr;cases hvg:E.vag (o.dst.getD 0) with
     | true=>
      dsimp only at hr
      rw[hvg,cond_true] at hr;cases hdo:Jb5 (.st b) with
      | false=>rw[hdo] at hr;cases hr
      | true=>
       rw[hdo,cond_true] at hr;exact JkA hE h ht hdo (by unfold execOp;rw[ho]) hr
     | false=>
     dsimp only at hr
     rw[hvg,cond_false] at hr;exact Jk5 hE h ht (by unfold execOp;rw[ho]) hr
    | cons q z=>
     dsimp only at hr
     rw[hgb] at hr;cases hz:zOk b ps.toList (q::z) with
     | false=>dsimp only at hr;rw[hz] at hr;cases hr
     | true=>
      dsimp only at hr
      rw[hz,cond_true] at hr;exact Jkr hE h hz ht (by unfold execOp;rw[ho]) hr
  · rename_i n e ht
    exact Jil hE h ht (by unfold execOp;rw[ho]) hr
  · cases hr
 ·
  rename_i t n ps ho;split at hr
  · rename_i e ht
    split at hr
    · rename_i hc
      exact JgY hE h ht hc.1 hc.2 (by unfold execOp;rw[ho]) hr
    · cases hr
  · cases hp:E.psl t&&(Nat.beq ps.toList.length n&&Nat.ble n 65536) with
    | false=>rw[hp] at hr;cases hr
    | true=>
     rw[hp] at hr;simp only[Bool.and_eq_true] at hp;exact Jle hE h hp.1 (Nat.eq_of_beq_eq_true hp.2.1) (Nat.le_of_ble_eq_true hp.2.2) (by unfold execOp;rw[ho]) hr
 ·
  rename_i t x ho;split at hr
  · rename_i τ ht
    obtain⟨v,h1,h2⟩:=Jak h hr;cases hvp:Jfp v with
    | true=>
     rw[hvp,cond_true] at h2;cases hvl:E.vld (o.dst.getD 0) with
     | true=>rw[hvl,cond_true] at h2;exact JkB hE h ht h1 (by unfold execOp;rw[ho]) h2
     | false=>rw[hvl,cond_false] at h2;exact Jlc hE h ht h1 (by unfold execOp;rw[ho]) h2
    | false=>
    rw[hvp,cond_false] at h2;cases hpl:JmE v with
    | true=>
     rw[hpl,cond_true] at h2;split at h2
     · rename_i n e x0
       split at h2
       · rename_i he
         subst he;obtain⟨b,off,u,e1,e2,e3,e4⟩:=h1;have hT:=hE.ty t _ ht;rw[Jaq h2];refine Jae (exec_v (s:=Instr.loadAt t (a.eval x)) (by unfold execOp;rw[ho]) (u:=u) (w':=w) ?_) h e4;obtain⟨ad,e5,_⟩:=e4;rw[e1];simp only[Instr.loadAt,Instr.sureAddr,Sem.run_bind,Sem.run_pure,Result.andThen_ok]
         have:=hT.loadL (w:=w) (b:=b) (off:=off) (cs:=[u]) rfl (fun j v hj=>by
          cases j with
          | zero=>cases hj;exact e3
          | succ j=>simp at hj)
         rw[this];rfl
       · cases h2
     · cases h2
    | false=>
    rw[hpl,cond_false] at h2;cases hgl:E.gld (o.dst.getD 0) with
    | true=>
     rw[hgl,cond_true] at h2;exact Jm3 hE h ht h1 (by unfold execOp;rw[ho]) h2
    | false=>
     rw[hgl,cond_false] at h2;exact (Jk2 hE h ht h1 h2).did h (by unfold execOp;rw[ho])
  · cases hp:E.ptr t with
    | false=>rw[hp] at hr;cases hr
    | true=>
     rw[hp] at hr;simp only[cond_true] at hr;obtain⟨v,h1,h2⟩:=Jak h hr;split at h2
     · obtain⟨b,off,u,e1,e2,e3,e4⟩:=h1
       obtain⟨d0,hd,hk⟩:=hE.ptr t hp;rw[Jaq h2];refine Jae (exec_v (s:=Instr.loadAt t (a.eval x)) (by unfold execOp;rw[ho]) (u:=u) (w':=w) ?_) h e4;rw[e1];rcases hk with ⟨ta,rfl⟩ | ⟨k1,k2,k3,rfl⟩<;>simp[Instr.loadAt,Instr.sureAddr,loadVar,isAgg,run_underlying hd,run_load,e3]
     · cases h2
 ·
  rename_i t x y ho;split at hr
  · rename_i τ ht
    obtain⟨v,h1,h2⟩:=Jak h hr;obtain⟨u,h3,h4⟩:=Jak h h2;cases hvp:Jfp v with
    | true=>
     rw[hvp,cond_true] at h4;exact Jky hE h ht h1 h3 (by unfold execOp;rw[ho]) h4
    | false=>
    rw[hvp,cond_false] at h4;cases h5:JmC E v with
    | true=>
     rw[h5,cond_true] at h4;exact Jl0 hE h ht h1 h3 (by unfold execOp;rw[ho]) h4
    | false=>
     rw[h5,cond_false] at h4;cases h6:Jnq E v with
     | true=>
      rw[h6,cond_true] at h4;exact Jkv hE h ht h1 h3 (by unfold execOp;rw[ho]) h4
     | false=>
      rw[h6,cond_false] at h4;exact Jhf hE h ht h1 h3 (by unfold execOp;rw[ho]) h4
  · cases hr
 ·
  rename_i x ho;obtain⟨v,h1,h2⟩:=Jak h hr
  have go:∀{ad:Addr},a.eval x= .pointer (some ad)→execOp a.eval o=pure (.value (a.eval x)):=by
   intro ad e;unfold execOp;rw[ho];simp only[e]
  split at h2
  · rename_i s ver p
    simp only[M.run] at h2;split at h2
    · rename_i ver' τb y hm
      split at h2
      · rename_i e;subst e
        obtain⟨b,off,_,e2⟩:=h1.2 τb y hm;exact Jda h (go e2) h1 h2
      · cases h2
    · cases h2
  · rename_i s ver i p
    simp only[M.run] at h2;split at h2
    · rename_i ver' τe xs m hm
      split at h2
      · rename_i e;subst e
        obtain⟨_,b,off,_,_,_,e2⟩:=h1.2 τe xs m hm;exact Jda h (go e2) h1 h2
      · cases h2
    · cases h2
  · have h1':=h1
    obtain⟨_,b,off,cs,e2,_⟩:=h1';exact Jda h (go e2) h1 h2
  · rename_i s ver p
    simp only[M.run] at h2;split at h2
    · rename_i ver' τb y hm
      split at h2
      · rename_i e;subst e
        obtain⟨b,off,_,e2⟩:=h1.2 τb y hm;exact Jda h (go e2) h1 h2
      · cases h2
    · cases h2
  · cases h2
 ·
  rename_i op t x y yt ho;obtain⟨v,h1,h2⟩:=Jak h hr;obtain⟨u,h3,h4⟩:=Jak h h2;exact (JlT hE h1 h3 h4).did h (by unfold execOp;rw[ho])
 ·
  rename_i op t x ho;obtain⟨v,h1,h2⟩:=Jak h hr;exact (JmT h1 h2).did h (by unfold execOp;rw[ho])
 ·
  rename_i s t x ho;obtain⟨v,h1,h2⟩:=Jak h hr;have he:execOp a.eval o=(do pure (.value (←convert s t (a.eval x)))):=by unfold execOp;rw[ho]
  unfold JmA at h2;split at h2
  · rename_i k k' τ y hs ht
    split at h2
    · rename_i y' hy
      obtain⟨e,hy⟩:=cast?_some hy;subst e;subst hy;obtain⟨e1,e2⟩:=Jac.int h1;refine Jck.did h he (Jbi (τ:=.int k') h2 fun z hz=>⟨_,?_,Jab.int.2 ⟨rfl,(Jih e2 hz).2⟩⟩);rw[e1];exact JlV hE hs ht e2 hz
    · cases h2
  · rename_i k τ y hs ht
    split at h2
    · rename_i y' hy
      obtain⟨e,hy⟩:=cast?_some hy;subst e;subst hy;obtain⟨e1,e2⟩:=Jac.int h1;obtain⟨_,h5,h6⟩:=Jal h2;have h5:=Jap h5;simp only[Bool.and_eq_true,decide_eq_true_eq] at h5;have q1:P.underlying s=some (.int k):=(hE.ty s _ hs).desc;have q2:P.underlying t=some .string:=(hE.ty t _ ht).desc;rw[h6];refine Jae (exec_v he (u:=.string (Utf8.encode (toI k y))) (w':=w) ?_) h (Jab.str.2 ⟨_,rfl,?_,by simp[big]⟩)
      · rw[e1]
        simp[convert,run_underlying q1,run_underlying q2,Conv.intToString]
      · exact Jlf h5.1 h5.2
    · cases h2
  · rename_i y hs ht
    obtain⟨b,e1,e2,e3⟩:=Jab.str.1 h1;rw[Jaq h2];refine Jae (exec_v he (u:=a.eval x) (w':=w) ?_) h h1;rw[e1];have q1:P.underlying s=some .string:=(hE.ty s _ hs).desc;have q2:P.underlying t=some .string:=(hE.ty t _ ht).desc;simp[convert,run_underlying q1,run_underlying q2]
  · rename_i y hs ht
    obtain⟨b,e1,e2,e3⟩:=Jab.str.1 h1;simp only[M.run] at h2;obtain⟨_,h4,h5⟩:=Option.map_eq_some_iff.1 h2;have h6:=of_decide_eq_true (Jap h4);subst h5;subst e2;refine Jje hE h hs ht ?_ (by rw[he,e1]);simpa using h6
  · rename_i v0 hs ht
    obtain⟨y,h3,h4⟩:=JdP h h1 h2;obtain⟨_,h5,h6⟩:=Jal h4;have h7:=of_decide_eq_true (Jap h5);obtain⟨b,q1,q2⟩:=JlW (w:=w) hE hs ht h3.q;rw[h6];refine Jae (exec_v he q1) h (Jab.str.2 ⟨b,rfl,q2,?_⟩);simp only[lim] at h7;simp only[big];omega
  · rename_i s' ver hs ht
    split at h2
    · rename_i e;subst e
      simp only[M.run] at h2;split at h2
      · rename_i ver' τe xs hm
        split at h2
        · rename_i e
          obtain⟨e,e'⟩:=e;subst e;subst e';obtain⟨_,h4,h5⟩:=Jal h2;rw[h5];exact Jl2 hE h hs hm (of_decide_eq_true (Jap h4)) h1 he
        · cases h2
      · cases h2
    · cases h2
  · cases h2
 ·
  rename_i t x ho;split at hr
  · rename_i n e ht
    split at hr
    · rename_i hn
      obtain⟨v,h1,h2⟩:=Jak h hr;obtain⟨y,fr,hf,hA,_,h3⟩:=JbK h h1 h2;exact Jk4 hE h ht hn hf hA (by unfold execOp;rw[ho]) h3
    · cases hr
  · cases hr
 ·
  rename_i t x y ho;split at hr
  · rename_i e ht
    obtain⟨v,h1,h2⟩:=Jak h hr;obtain⟨u,h3,h4⟩:=Jak h h2;split at h4
    · rename_i k n k' c
      obtain⟨e1,e2⟩:=Jac.int h1;obtain⟨e3,e4⟩:=Jac.int h3;simp only[M.run] at h4;obtain⟨_,h5,h6⟩:=Option.map_eq_some_iff.1 h4;subst h6;exact JlZ (k:=k) (k':=k') hE h ht (Jap h5) (by unfold execOp;rw[ho];simp only[e1,e3])
    · cases h4
  · cases hr
 ·
  rename_i t x lo hi ho;obtain⟨v,h1,h2⟩:=Jak h hr;have he:execOp a.eval o=(do pure (.value (←Instr.sliceAt t (a.eval x) (lo.map a.eval) (hi.map a.eval) none))):=by unfold execOp;rw[ho];rfl
  rcases Jdo h h2 with ⟨e1,h3⟩ | ⟨op1,kd1,i1,e1,e2,h3⟩
  all_goals
   rcases Jdo h h3 with ⟨e3,h4⟩ | ⟨op2,kd2,i2,e3,e4,h4⟩
   all_goals
    refine Jjd hE h h1 (Jd2 ?_) (Jd2 ?_) he h4
    · first | exact .inl ⟨e1,rfl⟩ | exact .inr ⟨op1,kd1,i1,e1,e2,rfl⟩
    · first | exact .inl ⟨e3,rfl⟩ | exact .inr ⟨op2,kd2,i2,e3,e4,rfl⟩
 ·
  rename_i t x lo hi mx ho;obtain⟨v,h1,h2⟩:=Jak h hr;have he:execOp a.eval o=(do pure (.value (←Instr.sliceAt t (a.eval x) (lo.map a.eval) (hi.map a.eval) (some (a.eval mx))))):=by unfold execOp;rw[ho];rfl
  rcases Jdo h h2 with ⟨e1,h3⟩ | ⟨op1,kd1,i1,e1,e2,h3⟩
  all_goals
   rcases Jdo h h3 with ⟨e3,h4⟩ | ⟨op2,kd2,i2,e3,e4,h4⟩
   all_goals
    rcases Jdo h h4 with ⟨e5,h6⟩ | ⟨op3,kd3,i3,e5,e6,h6⟩
    · cases e5
    · first
      | cases h6
      | cases e5
        subst e1;subst e3;cases hdd:E.ded (o.dst.getD 0) with
        | true=>
         rw[hdd] at h6;refine JmY hE h h1 (Jd2 ?_) e4 e6 he h6
         first | exact .inl ⟨rfl,rfl⟩ | exact .inr ⟨op1,kd1,i1,rfl,e2,rfl⟩
        | false=>
         rw[hdd] at h6;refine Jkp hE h h1 (Jd2 ?_) e4 e6 he h6
         first | exact .inl ⟨rfl,rfl⟩ | exact .inr ⟨op1,kd1,i1,rfl,e2,rfl⟩
 ·
  rename_i t x f ho;split at hr
  · rename_i b ht
    split at hr
    · rename_i hf
      obtain⟨v,h1,h2⟩:=Jak h hr;cases hvp:Jfp v with
      | true=>
       rw[hvp,cond_true] at h2;exact (Jkz hE ht hf h1 h2).did h (by unfold execOp;rw[ho])
      | false=>
      rw[hvp,cond_false] at h2;exact (JgV hE h ht hf h1 h2).did h (by unfold execOp;rw[ho])
    · cases hr
  · cases hr
 ·
  rename_i t x f ho;split at hr
  · rename_i b ht
    obtain⟨v,h1,h2⟩:=Jak h hr;cases hva:Jkd v with
    | true=>
     rw[hva,cond_true] at h2;exact (Jji hE ht hva h1 h2).did h (by unfold execOp;rw[ho])
    | false=>
    rw[hva,cond_false] at h2;exact (Jkn hE ht h1 h2).did h (by unfold execOp;rw[ho])
  · cases hr
 ·
  rename_i t r0 ho;split at hr
  · rename_i K V ht
    split at hr
    · dsimp only at hr
      cases hk:Jbb K with
      | true=>rw[hk] at hr;exact Jgq hE h ht (.inl rfl) (by unfold execOp;rw[ho];rfl) hr
      | false=>rw[hk] at hr;exact Jgp hE h ht (.inl rfl) (by unfold execOp;rw[ho];rfl) hr
    · rename_i x
      obtain⟨v,h1,h2⟩:=Jak h hr;split at h2
      · rename_i k y
        cases hk:Jbb K with
        | true=>rw[hk] at h2;exact Jgq hE h ht (.inr ⟨k,_,congrArg some (Jab.int.1 h1).1⟩) (by unfold execOp;rw[ho];rfl) h2
        | false=>rw[hk] at h2;exact Jgp hE h ht (.inr ⟨k,_,congrArg some (Jab.int.1 h1).1⟩) (by unfold execOp;rw[ho];rfl) h2
      · cases h2
  · cases hr
 ·
  rename_i t m k x ho;split at hr
  · rename_i n V ht
    obtain⟨vm,h1,h2⟩:=Jak h hr;obtain⟨vk,h3,h4⟩:=Jak h h2;obtain⟨vx,h5,h6⟩:=Jak h h4;exact Jk7 hE h ht h1 h3 h5 (by unfold execOp;rw[ho]) h6
  · rename_i b V ht
    obtain⟨vm,h1,h2⟩:=Jak h hr;obtain⟨vk,h3,h4⟩:=Jak h h2;obtain⟨vx,h5,h6⟩:=Jak h h4;exact Jhn hE h ht h1 h3 h5 (by unfold execOp;rw[ho]) h6
  · cases hr
 ·
  rename_i t m k x ho;split at hr
  · rename_i b V ht
    obtain⟨vm,h1,h2⟩:=Jak h hr;obtain⟨vk,h3,h4⟩:=Jak h h2;obtain⟨vx,h5,h6⟩:=Jak h h4;exact Jhn hE h ht h1 h3 h5 (by unfold execOp;rw[ho]) h6
  · cases hr
 ·
  rename_i t x ho;split at hr
  · rename_i K V ht
    obtain⟨v,h1,h2⟩:=Jak h hr;exact Jm8 hE h ht h1 (by unfold execOp;rw[ho]) h2
  · cases hr
 ·
  rename_i x ho;obtain⟨v,h1,h2⟩:=Jak h hr;exact Jm9 h h1 (by unfold execOp;rw[ho]) h2
 ·
  rename_i t m k ok ho;split at hr
  · rename_i n V ht
    obtain⟨vm,h1,h2⟩:=Jak h hr;obtain⟨vk,h3,h4⟩:=Jak h h2;exact Jkt hE h ht h1 h3 (by unfold execOp;rw[ho]) h4
  · rename_i b V ht
    cases ok with
    | true=>cases hr
    | false=>
     obtain⟨vm,h1,h2⟩:=Jak h hr;obtain⟨vk,h3,h4⟩:=Jak h h2;exact Jkw hE h ht h1 h3 (by unfold execOp;rw[ho]) h4
  · cases hr
 ·
  rename_i t x i ho;obtain⟨v,h1,h2⟩:=Jak h hr;obtain⟨u,h3,h4⟩:=Jak h h2;cases hp:E.psl t with
  | false=>
   rw[hp,cond_false] at h4;cases hal:JhT v with
   | true=>rw[hal,cond_true] at h4;exact (Jmf hE h h1 h3 h4).did h (by unfold execOp;rw[ho])
   | false=>
    rw[hal,cond_false] at h4;exact (JgW hE h h1 h3 h4).did h (by unfold execOp;rw[ho])
  | true=>
   rw[hp] at h4;exact Jmg hE h hp h1 h3 (by unfold execOp;rw[ho]) h4
 ·
  rename_i t x i ho;obtain⟨v,h1,h2⟩:=Jak h hr;obtain⟨u,h3,h4⟩:=Jak h h2;exact (Jko hE h1 h3 h4).did h (by unfold execOp;rw[ho])
 ·
  rename_i x i ho;obtain⟨v,h1,h2⟩:=Jak h hr;split at h2
  · rename_i y hy
    obtain⟨vs,e1⟩:=Jjj hy h1;rw[e1] at h1;obtain⟨u,e2,e3⟩:=Jg1 i hy h1;rw[Jaq h2];refine Jae (u:=u) (w':=w) ?_ h e3;unfold execOp;rw[ho];have e4:vs.toArray[i]?=some u:=by simpa using e2
    simp only[e1,Instr.extract,e4];rfl
  · cases h2
 ·
  rename_i g first cap ho
  split at hr
  · rename_i h1
    obtain rfl:first=#[]:=Array.ext' (by simpa using h1)
    cases hcf:E.cfz (o.dst.getD 0) with
    | true=>
     dsimp only at hr
     rw[hcf,cond_true] at hr;obtain⟨c,ws,h3,h4,h5⟩:=Jf1 h _ hr;cases hnd:Jb4 (ws.map (·.1)) with
     | false=>rw[hnd] at h3;cases h3
     | true=>
     rw[hnd,cond_true] at h3;obtain⟨_,_,h6⟩:=Jal h3;obtain⟨own',s1,k1,v1,t1⟩:=St.thawBoxes ws h h4 (JeH _ hnd);rw[h6];simp only[JaD];refine Jae (u:=.func (.func g) #[] (cap.map a.eval)) (w':=w) ?_ s1 ⟨cap.toList.map a.eval,by rw[←Array.toList_map],h5 own' _ k1 v1 t1⟩;unfold execOp;rw[ho];simp[Instr.makeFunc]
    | false=>
    dsimp only at hr
    rw[hcf,cond_false] at hr;obtain⟨c,h3,h4⟩:=Jix h _ hr;rw[Jaq h4];refine Jae (u:=.func (.func g) #[] (cap.map a.eval)) (w':=w) ?_ h ⟨cap.toList.map a.eval,by rw[←Array.toList_map],h3⟩;unfold execOp;rw[ho];simp[Instr.makeFunc]
  · cases hr
 ·
  rename_i c ho;obtain⟨callee,args,ats⟩:=c
  dsimp only at hr
  split at hr
  · rename_i f
    cases hpe:E.pe f with
    | some q=>rw[hpe] at hr;exact Jnx hE h hpe ho hr
    | none=>
    rw[hpe] at hr
    dsimp only at hr
    split at hr
    · rename_i F hF
      cases hl:E.lnd (o.dst.getD 0) with
      | true=>rw[hl] at hr;exact Jme hE h hF ho hr
      | false=>rw[hl] at hr;exact Jl6 hE h hF ho hr
    · cases hr
  ·
   rename_i t hc;simp only[M.run] at hr;split at hr
   · rename_i g x hs
     split at hr
     · rename_i F hF
       exact Jm2 hE h hF ho hs hr
     · cases hr
   · cases hr
  ·
   rename_i x hargs;split at hr
   · rename_i t hats
     obtain rfl:args=#[x]:=Array.ext' (by simpa using hargs);obtain rfl:ats=#[t]:=Array.ext' (by simpa using hats);obtain⟨v,h1,h2⟩:=Jak h hr;cases hp:E.psl t with
     | false=>
      rw[hp,cond_false] at h2
      have hex:execOp a.eval o=(do pure (.value (←Builtin.len_ #[t] o.type #[a.eval x]))):=by
       rw[Jbe ho,show Array.map a.eval #[x]=#[a.eval x] by simp];rfl
      cases hmt:E.mpt t with
      | some KV=>
       rw[hmt] at h2;obtain⟨K,V⟩:=KV;exact Jk6 hE h hmt h1 hex h2
      | none=>
       rw[hmt] at h2;exact (Jld (ty:=o.type) hE h h1 h2).did h hex
     | true=>
      rw[hp] at h2;simp only[cond_true] at h2;split at h2
      · rename_i c
        obtain⟨us,b,off,e1,e0,e2,e3⟩:=h1;obtain⟨te,ta,i,hd,_⟩:=hE.psl t hp;split at h2
        case h_2=>cases h2
        rename_i n hn;have hl:=Jhp hn e3;rw[Jaq h2];refine Jae (u:=.int .i64 (us.length:Int)) (w':=w) ?_ h (Jab.int.2 ⟨by rw[←hl];rfl,?_⟩)
        · rw[Jbe ho,show Array.map a.eval #[x]=#[a.eval x] by simp,e1]
          show (do pure (.value (←Builtin.len_ #[t] o.type #[.slice (some ⟨b,off,none⟩) us.length us.length])):Sem Next).run P w=_
          simp[Builtin.len_,run_underlying hd,goInt]
        · show (-9223372036854775808:Int)≤(n:Int)∧(n:Int)<9223372036854775808
          omega
      · cases h2
   · cases hr
  ·
   rename_i x hargs;split at hr
   · rename_i t hats
     obtain rfl:args=#[x]:=Array.ext' (by simpa using hargs);obtain rfl:ats=#[t]:=Array.ext' (by simpa using hats);obtain⟨v,h1,h2⟩:=Jak h hr;refine Jk8 (ty:=o.type) hE h h1 ?_ h2;rw[Jbe ho,show Array.map a.eval #[x]=#[a.eval x] by simp];rfl
   · cases hr
  ·
   rename_i x hargs;split at hr
   · rename_i t hats
     split at hr
     · rename_i e ht
       obtain rfl:args=#[x]:=Array.ext' (by simpa using hargs);obtain rfl:ats=#[t]:=Array.ext' (by simpa using hats);obtain⟨v,h1,h2⟩:=Jak h hr;obtain⟨te,hd,hte⟩:=(hE.ty t _ ht).desc;split at h2
       · have h1:a.eval x= .slice none 0 0:=h1
         rw[Jaq h2];refine Jae (u:=.int .i64 0) (w':=w) ?_ h (Jab.int.2 ⟨rfl,by simp[okI]⟩);rw[Jbe ho,show Array.map a.eval #[x]=#[a.eval x] by simp,h1];show (do pure (.value (←Builtin.cap_ #[t] o.type #[.slice none 0 0])):Sem Next).run P w=_
         simp[Builtin.cap_,run_underlying hd,goInt]
       · cases h2
     · cases hr
   · cases hr
  ·
   rename_i x y hargs;split at hr
   · rename_i t t' hats
     obtain rfl:args=#[x,y]:=Array.ext' (by simpa using hargs);obtain rfl:ats=#[t,t']:=Array.ext' (by simpa using hats);obtain⟨v,h1,h2⟩:=Jak h hr;obtain⟨u,h3,h4⟩:=Jak h h2;have he:execOp a.eval o=(do pure (.value (←Builtin.append_ #[t,t'] o.type #[a.eval x,a.eval y]))):=by rw[Jbe ho,show Array.map a.eval #[x,y]=#[a.eval x,a.eval y] by simp];rfl
     cases hpr:JmD v with
     | true=>rw[hpr,cond_true] at h4;exact Jna hE h h1 h3 he h4
     | false=>
     rw[hpr,cond_false] at h4
     have core:∀{e:Ty} {ys:List e.D} {c:Bool} {rr:V×S},E.ty t=some (.sl e)→(c=true→Jgn P E own w t t' o.type e (a.eval y) ys)→(Jj4 (o.dst.getD 0) e v ys c).run σ=some rr→Did P N Z o a w rr.2 rr.1:=by
      intro e ys c rr ht hsrc h7;unfold Jj4 at h7;split at h7
      ·
       have h1:a.eval x= .slice none 0 0:=h1;simp only[M.run] at h7;obtain⟨_,h8,h9⟩:=Option.map_eq_some_iff.1 h7;subst h9;rw[h1] at he;have h8:=Jap h8;simp only[Bool.and_eq_true,decide_eq_true_eq] at h8;exact JhO hE h ht (hsrc h8.1) h8.2 he
      · rename_i s ver
        simp only[M.run] at h7;split at h7
        · rename_i ver' e' xs m hm
          split at h7
          · rename_i eq;subst eq
            split at h7
            · rename_i xs' hx'
              obtain⟨eq,hx'⟩:=cast?_some hx';cases eq;have hx':xs=xs':=hx';subst hx';rw[h1.2 _ xs m hm] at he;split at h7
              · simp only[M.run] at h7
                obtain⟨_,h8,h9⟩:=Option.map_eq_some_iff.1 h7;subst h9;have h8:=Jap h8;simp only[Bool.and_eq_true,decide_eq_true_eq] at h8;exact Jgo hE h ht hm (.inl rfl) (hsrc h8.1) h8.2 he
              · simp only[M.run] at h7
                obtain⟨_,h8,h9⟩:=Option.map_eq_some_iff.1 h7;subst h9;have h8:=Jap h8;simp only[Bool.and_eq_true,decide_eq_true_eq] at h8;exact Jgo hE h ht hm (.inr rfl) (hsrc h8.1) h8.2 he
              · cases h7
            · cases h7
          · cases h7
        · cases h7
      · cases h7
     unfold Jjr at h4;split at h4
     · rename_i e ht
       cases hi:Jj5 (E.ty t') with
       | true=>
        rw[hi] at h4;simp only[cond_true] at h4
        have hi:E.ty t'=some (.int .i64):=by
         unfold Jj5 at hi;split at hi
         · assumption
         · cases hi
        split at h4
        · rename_i n
          obtain⟨e1,e2⟩:=Jac.int h3;refine core ht (fun hc=>?_) h4;simp only[Bool.and_eq_true,decide_eq_true_eq] at hc;obtain⟨te,hd,hte⟩:=(hE.ty t _ ht).desc;have hT:=hE.ty te e hte;have hc1:(0:Int)≤(n:Int):=hc.1;have hc2:(n:Int)≤((lim:Nat):Int):=hc.2;have hm:((Int.toNat n:Nat):Int)=n:=Int.toNat_of_nonneg hc1
          have hml:Int.toNat n≤lim:=by
           have h0:((Int.toNat n:Nat):Int)≤((lim:Nat):Int):=by rw[hm];exact hc2
           exact Int.ofNat_le.1 h0
          rw[e1];have:=Jl3 (own:=own) (w:=w) (t:=t) (ty:=o.type) (m:=Int.toNat n) hE hi hml hT.isVal hT.good;rw[hm] at this;exact this
        · cases h4
       | false=>
        rw[hi] at h4;obtain⟨ys,h5,h6,h7⟩:=Jin hE h h3 h4;exact core ht (fun _=>h5.app hE h6) h7
     · cases h4
   · cases hr
  ·
   rename_i x y hargs;split at hr
   · rename_i t t' hats
     obtain rfl:args=#[x,y]:=Array.ext' (by simpa using hargs);obtain rfl:ats=#[t,t']:=Array.ext' (by simpa using hats);obtain⟨v,h1,h2⟩:=Jak h hr;obtain⟨u,h3,h4⟩:=Jak h h2;have he:execOp a.eval o=(do pure (.value (←Builtin.copy_ #[t,t'] o.type #[a.eval x,a.eval y]))):=by rw[Jbe ho,show Array.map a.eval #[x,y]=#[a.eval x,a.eval y] by simp];rfl
     unfold JmF at h4;split at h4
     · rename_i e ht
       obtain⟨ys,h5,h6,h7⟩:=Jin hE h h3 h4;split at h7
       · rename_i s ver
         simp only[M.run] at h7;split at h7
         · rename_i ver' e' xs hm
           split at h7
           · rename_i eq;subst eq
             split at h7
             · rename_i ys' hy'
               obtain⟨eq,hy'⟩:=cast?_some hy';cases eq;have hy':ys=ys':=hy';subst hy';rw[h1.2 e xs .full hm] at he;obtain⟨_,_,h9⟩:=Jal h7;rw[h9];exact Jl4 hE h ht hm h5 he
             · cases h7
           · cases h7
         · cases h7
       · rename_i s ver lo
         simp only[M.run] at h7;split at h7
         · rename_i ver' e' xs hm
           split at h7
           · rename_i eq;subst eq
             split at h7
             · rename_i ys' hy'
               obtain⟨eq,hy'⟩:=cast?_some hy';cases eq;have hy':ys=ys':=hy';subst hy';obtain⟨q1,ad,cap,q2,q3⟩:=h1.2 e xs .full hm rfl;rw[q3] at he;obtain⟨_,_,h9⟩:=Jal h7;rw[h9];exact Jjf hE h ht hm q1 q2 h5 he
             · cases h7
           · cases h7
         · cases h7
       · cases h7
     · cases h4
   · cases hr
  ·
   rename_i x y hargs;obtain rfl:args=#[x,y]:=Array.ext' (by simpa using hargs);obtain⟨v,h1,h2⟩:=Jak h hr;obtain⟨u,h3,h4⟩:=Jak h h2;refine (Jjx (g:=Builtin.min2) Jnu h1 h3 h4).did h ?_;rw[Jbe ho,show Array.map a.eval #[x,y]=#[a.eval x,a.eval y] by simp];show (do pure (.value (←Builtin.min_ ats o.type #[a.eval x,a.eval y])):Sem Next)=_
   simp[Builtin.min_]
  ·
   rename_i x y hargs;obtain rfl:args=#[x,y]:=Array.ext' (by simpa using hargs);obtain⟨v,h1,h2⟩:=Jak h hr;obtain⟨u,h3,h4⟩:=Jak h h2;refine (Jjx (g:=Builtin.max2) Jnv h1 h3 h4).did h ?_;rw[Jbe ho,show Array.map a.eval #[x,y]=#[a.eval x,a.eval y] by simp];show (do pure (.value (←Builtin.max_ ats o.type #[a.eval x,a.eval y])):Sem Next)=_
   simp[Builtin.max_]
  · cases hr
 · cases hr
end
end Go.Re
namespace Go.Re
set_option linter.unusedVariables false
set_option linter.unusedSimpArgs false
def shO (k:Nat):Operand→Operand
 | .tmp t=>.tmp (t+k)
 | x=>x
def shA (k:Nat) (l:Array Operand):Array Operand:=⟨l.toList.map (shO k)⟩
def shP (k:Nat) (l:Array (Nat×Operand)):Array (Nat×Operand):=⟨l.toList.map fun p=>(p.1,shO k p.2)⟩
def JeN (k:Nat):Callee→Callee
 | .value f=>.value (shO k f)
 | .invoke r m=>.invoke (shO k r) m
 | .builtin b=>.builtin b
def JcD (k:Nat) (c:Call):Call:={callee:=JeN k c.callee,args:=shA k c.args,argTypes:=c.argTypes}
def JdT (k:Nat):Op→Op
 | .move x=>.move (shO k x)
 | .assign x=>.assign (shO k x)
 | .pick c a b=>.pick (shO k c) (shO k a) (shO k b)
 | .alloc t=>.alloc t
 | .box t x=>.box t (shO k x)
 | .build t ps=>.build t (shP k ps)
 | .buildSlice t n ps=>.buildSlice t n (shP k ps)
 | .insert t m x y=>.insert t (shO k m) (shO k x) (shO k y)
 | .load t a=>.load t (shO k a)
 | .store t a x=>.store t (shO k a) (shO k x)
 | .ready g=>.ready g
 | .waits g=>.waits g
 | .nilCheck x=>.nilCheck (shO k x)
 | .binOp op t x y t'=>.binOp op t (shO k x) (shO k y) t'
 | .unOp op t x=>.unOp op t (shO k x)
 | .convert s d x=>.convert s d (shO k x)
 | .sliceToArrayPointer d x=>.sliceToArrayPointer d (shO k x)
 | .makeInterface t x=>.makeInterface t (shO k x)
 | .makeFunc f a b=>.makeFunc f (shA k a) (shA k b)
 | .makeMap t r=>.makeMap t (r.map (shO k))
 | .makeChan t x=>.makeChan t (shO k x)
 | .makeSlice t l c=>.makeSlice t (shO k l) (shO k c)
 | .slice t x l h m=>.slice t (shO k x) (l.map (shO k)) (h.map (shO k)) (m.map (shO k))
 | .fieldAddr t x f=>.fieldAddr t (shO k x) f
 | .field t x f=>.field t (shO k x) f
 | .indexAddr t x i=>.indexAddr t (shO k x) (shO k i)
 | .index t x i=>.index t (shO k x) (shO k i)
 | .lookup t x i ok=>.lookup t (shO k x) (shO k i) ok
 | .mapUpdate t m x y=>.mapUpdate t (shO k m) (shO k x) (shO k y)
 | .mapEntry t m x=>.mapEntry t (shO k m) (shO k x)
 | .entryStore t m s x=>.entryStore t (shO k m) (shO k s) (shO k x)
 | .range t x=>.range t (shO k x)
 | .next i s=>.next (shO k i) s
 | .entry i=>.entry (shO k i)
 | .typeAssert x t a ok=>.typeAssert (shO k x) t a ok
 | .extract t i=>.extract (shO k t) i
 | .call c=>.call (JcD k c)
 | .go c=>.go (JcD k c)
 | .defer c=>.defer (JcD k c)
 | .panic x=>.panic (shO k x)
 | .send c x=>.send (shO k c) (shO k x)
 | .recv t c ok=>.recv t (shO k c) ok
 | .select cs b=>.select cs b
def Ja7 (k:Nat) (o:Oper):Oper:={dst:=o.dst.map (·+k),op:=JdT k o.op,type:=o.type,pos:=o.pos,after:=o.after,guard:=o.guard}
def JaA (k:Nat) (ops:Array Oper):Array Oper:=⟨ops.toList.map (Ja7 k)⟩
def shC (k:Nat):Code→Code
 | .region id ops draw=>.region id (JaA k ops) draw
 | .seq x y=>.seq (shC k x) (shC k y)
 | .cond c x y=>.cond (shO k c) (shC k x) (shC k y)
 | .block id x=>.block id (shC k x)
 | .loop x=>.loop (shC k x)
 | .scope x=>.scope (shC k x)
 | c=>c
end Go.Re
namespace Go.Re
set_option linter.unusedVariables false
set_option linter.unusedSimpArgs false
def Jan (n:Nat):List Nat→Bool
 | []=>false
 | m::r=>bif Nat.beq m n then true else Jan n r
def Jf2:List Nat→List Nat→Bool
 | [],_=>true
 | a::r,l=>bif Jan a l then Jf2 r l else false
def Jcp:List Nat→List Nat→Bool
 | [],_=>true
 | a::r,l=>bif Jan a l then false else Jcp r l
def JeO:List Nat→List Nat→List Nat
 | [],_=>[]
 | a::r,l=>bif Jan a l then JeO r l else a::JeO r l
def JeP:List Oper→Nat→Option Nat
 | [],_=>none
 | o::_,0=>o.dst
 | _::r,j+1=>JeP r j
def S.putO (σ:S) (d:Option Nat) (v:V):S:=
 match d with
 | some d=>σ.put d v
 | none=>σ
def JaQ (E:Env) (all:List Oper) (o:Oper):M V:=
 match o.guard with
 | none=>opM E o
 | some (j,want)=>match JeP all j with
  | some t=>.slot t fun v=>match v with
   | .val .bool b=>match b,want with
    | true,true=>opM E o
    | false,false=>opM E o
    | _,_=>.ret .tnil
   | .tnil=>.ret .tnil
   | _=>.fail
  | none=>.fail
def evP (E:Env) (all:List Oper) {R:Type}:List Oper→S→(S→Option R)→Option R
 | [],σ,K=>K σ
 | o::os,σ,K=>(JaQ E all o).runK σ fun v σ'=>evP E all os (σ'.putO o.dst v) K
structure Dec where
 rm:List Nat
 wm:List Nat
inductive Seg where
 | done
 | op (d:Dec) (r:Seg)
 | split (g:Nat) (J:List (Nat×Ty)) (body rest:Seg)
def Seg.decs:Seg→List Dec
 | .done=>[]
 | .op d r=>d::r.decs
 | .split _ _ b r=>b.decs++r.decs
def JcS:List Operand→List Nat
 | []=>[]
 | .tmp t::r=>t::JcS r
 | _::r=>JcS r
def JaR (all:List Oper) (o:Oper):List Nat:=
 match o.guard with
 | none=>JcS o.op.operands.toList
 | some (j,_)=>match JeP all j with
  | some t=>t::JcS o.op.operands.toList
  | none=>JcS o.op.operands.toList
def Jb8 (f:Foot) (ls:List Nat) (d:Dec):Bool:=Jf2 f.rs ls&&(Jf2 f.rm d.rm&&Jf2 f.wm d.wm)
structure Drop where
 s:List Nat
 m:List Nat
def Jb9:List Oper→List Nat
 | []=>[]
 | o::r=>match o.dst with
  | some d=>d::Jb9 r
  | none=>Jb9 r
def JbX:List Dec→List Nat
 | []=>[]
 | d::r=>d.wm++JbX r
def rdV (τ:Ty) (v:V):Option τ.D:=
 match v with
 | .val τ' x=>cast? τ' τ x
 | _=>none
def rdS:(J:List (Nat×Ty))→S→Option (Ds (J.map (·.2)))
 | [],_=>some ()
 | [p],σ=>rdV p.2 (σ.slots p.1)
 | p::q::r,σ=>(rdV p.2 (σ.slots p.1)).bind fun x=>(rdS (q::r) σ).bind fun y=>some (x,y)
def wrS:(J:List (Nat×Ty))→Ds (J.map (·.2))→S→S
 | [],_,σ=>σ
 | [p],x,σ=>σ.put p.1 (.val p.2 x)
 | p::q::r,x,σ=>wrS (q::r) x.2 (σ.put p.1 (.val p.2 x.1))
def rdJ (J:List (Nat×Ty)) (ms:List Nat) (σ0 σ:S):Option (Ds (J.map (·.2))):=
 bif ms.all (fun s=>Nat.ble (nextVer (σ.mem s)) (nextVer (σ0.mem s)+1)) then rdS J σ else none
def JmH (ds ms:List Nat) (σ:S):S:=
 {slots:=fun t=>bif Jan t ds then .dead else σ.slots t,mem:=fun s=>bif Jan s ms then .gone (nextVer (σ.mem s)) else σ.mem s}
def evC (E:Env) (all:List Oper):Seg→List Oper→Drop→S→{R:Type}→(Drop→S→Option R)→Option R
 | .done,_,D,σ,_,K=>K D σ
 | .op _ _,[],_,_,_,_=>none
 | .op d r,o::os,D,σ,_,K=>
  bif Jb8 ((JaQ E all o).foot σ) (JaR all o) d&&(Jcp (JaR all o) D.s&&Jcp d.rm D.m) then
   (JaQ E all o).runK σ fun v σ'=>evC E all r os D (σ'.putO o.dst v) K
  else none
 | .split g J b r,os,D,σ,_,K=>match σ.slots g with
  | .val .bool c=>
   (bif c then evC E all b os D (σ.put g (.val .bool true)) (fun _=>rdJ J (JbX b.decs) σ) else evC E all b os D (σ.put g (.val .bool false)) (fun _=>rdJ J (JbX b.decs) σ)).bind fun j=>
    evC E all r (os.drop b.decs.length) ⟨JeO (Jb9 (os.take b.decs.length)++D.s) (J.map (·.1)),JbX b.decs++D.m⟩
     (wrS J j (JmH (Jb9 (os.take b.decs.length)) (JbX b.decs) σ)) K
  | .tnil=>evC E all b os D σ fun D' σ'=>evC E all r (os.drop b.decs.length) D' σ' K
  | _=>none
def JbH:List Oper→List Nat→List Nat
 | [],t=>t
 | o::r,t=>JbH r (t++[o.after.toList.foldl (fun b e=>bif Region.binds .any e then Nat.lor b (Nat.lor (Nat.shiftLeft 1 e.on) (t.getD e.on 0)) else b) 0])
def Jbn:Nat→List Oper→Bool
 | _,[]=>true
 | i,o::r=>o.after.toList.all (fun e=>!Region.binds .any e||Nat.blt e.on i)&&Jbn (i+1) r
def Jbf (all:List Oper) (o o':Oper) (d d':Dec):Bool:=
 (match o.dst with
  | some t=>!Jan t (JaR all o')&&(match o'.dst with | some t'=>!Nat.beq t t' | none=>true)
  | none=>true) &&
 ((match o'.dst with
  | some t=>!Jan t (JaR all o)
  | none=>true) &&
 (Jcp d.wm d'.rm&&(Jcp d.wm d'.wm&&Jcp d.rm d'.wm)))
def JaG (o:Oper) (d:Dec):Bool:=
 match o.op,d.rm,d.wm with
 | .insert _ _ _ _,[s],[s']=>o.dst.isNone&&(o.guard.isNone&&Nat.beq s s')
 | _,_,_=>false
def Jer (all:List Oper) (o:Oper) (d:Dec):Nat→Nat→List Oper→List Dec→Bool
 | i,j,o'::os,d'::ds=>bif Nat.testBit ((JbH all []).getD j 0) i then Jer all o d i (j+1) os ds else bif Jbf all o o' d d'||(JaG o d&&JaG o' d') then Jer all o d i (j+1) os ds else false
 | _,_,_,_=>true
def JdU (all:List Oper):Nat→List Oper→List Dec→Bool
 | i,o::os,d::ds=>Jer all o d i (i+1) os ds&&JdU all (i+1) os ds
 | _,_,_=>true
inductive JI where
 | val (t:Nat) (τ:Ty)
 | row (t:Nat) (e:Ty) (m:Mode)
 | box (t:Nat) (τ:Ty)
 | prow (t:Nat) (e:Ty)
 | pbox (t:Nat) (τ:Ty)
 | rpt (t:Nat) (τ:Ty)
 | pv (t:Nat) (k:PK)
 | gbx (t:Nat) (τ:Ty) (l:List (Nat×Nat))
 | vbx (t:Nat) (τ:Ty) (hs:List (List Stp×Ty))
 | ali (t t0:Nat)
 | vel (t t0 k:Nat) (p q:List Stp) (g:Option (Nat×Ty))
 | zbx (t:Nat) (τ:Ty)
def Jdx:Ty→Ty
 | .arr 0 e=>e
 | e=>e
def JcT (e:Ty):Bool:=
 match e with
 | .arr 0 _=>true
 | _=>false
@[reducible] def rowsTy:List (List Stp×Ty)→Ty
 | []=>.unit
 | h::r=>.pair (.sl h.2) (rowsTy r)
@[reducible] def JI.ty:JI→Ty
 | .val _ τ=>τ | .row _ e _=>.sl e | .box _ τ=>τ | .prow _ e=>.sl e | .pbox _ τ=>τ | .rpt _ τ=>τ | .pv _ k=>k.ty | .gbx _ τ _=>τ | .vbx _ τ hs=>.pair τ (rowsTy hs) | .ali _ _=>.unit | .vel _ _ _ _ _ _=>.int .i64 | .zbx _ _=>.unit
def JI.t:JI→Nat
 | .val t _=>t | .row t _ _=>t | .box t _=>t | .prow t _=>t | .pbox t _=>t | .rpt t _=>t | .pv t _=>t | .gbx t _ _=>t | .vbx t _ _=>t | .ali t _=>t | .vel t _ _ _ _ _=>t | .zbx t _=>t
@[reducible] def JD (J:List JI):Type:=Ds (J.map JI.ty)
def Mode.le:Mode→Mode→Bool
 | .full,.full=>true | .full,.tail=>true | .tail,.tail=>true | .mp,.mp=>true | .bg,.bg=>true | .it a,.it b=>a||!b
 | _,_=>false
def rdA (τ:Ty) (v:V) (σ:S):Option τ.D:=
 match v with
 | .val τ' x=>cast? τ' τ x
 | .nil=>match τ with
  | .sl _=>some []
  | _=>none
 | .ref s ver=>match σ.mem s with
  | .own ver' e xs m=>bif Nat.beq ver ver'&&!m.noRd then cast? (.sl e) τ xs else none
  | _=>none
 | _=>none
def JbY (e:Ty) (m:Mode) (v:V) (σ:S):Option (List e.D):=
 match v with
 | .nil=>bif m.isMp then none else some []
 | .ref s ver=>match σ.mem s with
  | .own ver' e' xs m'=>bif Nat.beq ver ver'&&m'.le m then cast? (.sl e') (.sl e) xs else none
  | _=>none
 | _=>none
def Jd9 (τ:Ty) (v:V) (σ:S):Option τ.D:=
 match v with
 | .ptr s ver []=>match σ.mem s with
  | .box ver' τ' x=>bif Nat.beq ver ver' then cast? τ' τ x else none
  | _=>none
 | _=>none
def Jiz (e:Ty) (t:Nat) (v:V) (σ:S):Option (List e.D):=
 match v with
 | .ref s 0=>bif Nat.beq s (Jaa t 0) then match σ.mem s with
  | .own 0 e' xs .full=>cast? (.sl e') (.sl e) xs
  | _=>none
  else none
 | _=>none
def JiA (τ:Ty) (t:Nat) (v:V) (σ:S):Option τ.D:=
 match v with
 | .ptr s 0 []=>bif Nat.beq s (Jaa t 0) then match σ.mem s with
  | .box 0 τ' x=>cast? τ' τ x
  | _=>none
  else none
 | _=>none
def JkC (τ:Ty) (v:V) (σ:S):Option τ.D:=
 match v with
 | .rpt τ' x=>cast? τ' τ x
 | .elp s ver i []=>match σ.mem s with
  | .own ver' e xs .tail=>bif Nat.beq ver ver'&&e.isVal then (xs[i]?).bind fun y=>cast? e τ y else none
  | _=>none
 | _=>none
def Jmh (l l':List (Nat×Nat)):Bool:=l.all fun q=>Jkb q.1 q.2 l'
def JkD (τ:Ty) (l:List (Nat×Nat)) (v:V) (σ:S):Option τ.D:=
 match v with
 | .elp s ver 0 []=>match σ.mem s with
  | .own ver' τ' xs (.gb l')=>bif Nat.beq ver ver'&&Jmh l l' then (one? xs).bind fun x=>cast? τ' τ x else none
  | _=>none
 | _=>none
def rdT (τ:Ty) (v:V) (σ:S):Option τ.D:=
 match v,τ with
 | .agg b' t,.st b=>if b'=b then rdT b t σ else none
 | .tcons v t,.pair a r=>(rdT a v σ).bind fun x=>(rdT r t σ).map fun y=>(x,y)
 | .tnil,.unit=>some ()
 | v,τ=>rdA τ v σ
def JcU (v:V) (σ:S):List Nat:=
 match v with
 | .agg _ t=>JcU t σ
 | .tcons v t=>JcU v σ++JcU t σ
 | .ref s _=>match σ.mem s with
  | .own _ _ _ .full=>[s]
  | _=>[]
 | _=>[]
def Jg2 (τ:Ty):V→List (List Stp×Ty)→Option V
 | v,[]=>some v
 | v,h::r=>if tyP τ h.1=some (.sl (Jdx h.2))∧JbC τ h.1=true then (Jcy τ v h.1 (.val (.sl (Jdx h.2)) [])).bind fun v'=>Jg2 τ v' r else none
def JdV (τ:Ty) (v:V) (σ:S):(hs:List (List Stp×Ty))→Option (rowsTy hs).D
 | []=>some ()
 | h::r=>(Jbl τ v h.1).bind fun u=>(bif JcT h.2 then some [] else JbY h.2 .full u σ).bind fun y=>(JdV τ v σ r).map fun ys=>(y,ys)
def Jdb (τ:Ty) (v:V):List (List Stp×Ty)→List Nat
 | []=>[]
 | h::r=>bif JcT h.2 then Jdb τ v r else match Jbl τ v h.1 with
  | some (.ref s _)=>s::Jdb τ v r
  | _=>Jdb τ v r
def JcV (τ:Ty) (hs:List (List Stp×Ty)) (v:V) (σ:S):Option (τ.D×(rowsTy hs).D):=
 match v with
 | .vpt s ver []=>match σ.mem s with
  | .vb ver' τ' x=>if ver=ver'∧τ'=τ∧hs.length≤14 then
   (Jg2 τ x hs).bind fun x0=>(rdT τ x0 σ).bind fun d=>(JdV τ x σ hs).map fun ys=>(d,ys)
   else none
  | _=>none
 | _=>none
def Jft (τ:Ty) (t:Nat):V→Nat→List (List Stp×Ty)→V
 | v,_,[]=>v
 | v,k,h::r=>match Jcy τ v h.1 (.ref (Jaa t k) 1) with
  | some v'=>Jft τ t v' (k+1) r
  | none=>.dead
def JbJ (e:Ty) (y:List e.D):Entry:=bif JcT e then .gone 1 else .own 1 e y .full
def JaU (t:Nat):Nat→(hs:List (List Stp×Ty))→(rowsTy hs).D→S→S
 | _,[],_,σ=>σ
 | k,h::r,ys,σ=>JaU t (k+1) r ys.2 (σ.set (Jaa t k) (JbJ h.2 ys.1))
def Jny (q:List Stp) (g:Option (Nat×Ty)) (s ver i:Nat):V:=
 match g with
 | none=>.elp s ver i q
 | some a=>.asl a.1 a.2 (.elp s ver i q)
structure Vel where
 s:Nat
 ver:Nat
 i:Nat
 q:List Stp
 g:Option (Nat×Ty)
def Jgs (v:V):Option Vel:=
 match v with
 | .elp s ver i q=>some ⟨s,ver,i,q,none⟩
 | .asl n e (.elp s ver i q)=>some ⟨s,ver,i,q,some (n,e)⟩
 | _=>none
def Jf3:(τ:Ty)→τ.D→List Int
 | .int k,x=>[toI k x]
 | .pair a b,x=>Jf3 a x.1++Jf3 b x.2
 | .st b,x=>Jf3 b x
 | _,_=>[]
def leL:List Int→List Int→Bool
 | [],_=>true
 | _::_,[]=>false
 | a::r,b::s=>bif decide (a<b) then true else bif decide (b<a) then false else leL r s
def JkE (τ:Ty) (x:τ.D):List τ.D→List τ.D
 | []=>[x]
 | y::r=>bif leL (Jf3 τ x) (Jf3 τ y) then x::y::r else y::JkE τ x r
def Jmi (τ:Ty):List τ.D→List τ.D
 | []=>[]
 | x::r=>JkE τ x (Jmi τ r)
def Jfu (e:Ty) (m:Mode) (xs:List e.D):List e.D:=
 match m with
 | .bg=>Jmi e xs
 | _=>xs
def JI.read (j:JI) (σ:S):Option j.ty.D:=
 match j with
 | .val t τ=>rdA τ (σ.slots t) σ
 | .row t e m=>(JbY e m (σ.slots t) σ).map (Jfu e m)
 | .box t τ=>Jd9 τ (σ.slots t) σ
 | .prow t e=>Jiz e t (σ.slots t) σ
 | .pbox t τ=>JiA τ t (σ.slots t) σ
 | .rpt t τ=>JkC τ (σ.slots t) σ
 | .pv t k=>k.read (σ.slots t)
 | .gbx t τ l=>JkD τ l (σ.slots t) σ
 | .vbx t τ hs=>JcV τ hs (σ.slots t) σ
 | .ali _ _=>some ()
 | .vel t _ _ _ _ _=>(Jgs (σ.slots t)).map fun c=>(c.i:Int)
 | .zbx _ _=>some ()
def JI.kept (j:JI) (σ:S):List Nat:=
 match j with
 | .val _ _=>[]
 | .row t _ _=>match σ.slots t with
  | .ref s _=>[s]
  | _=>[]
 | .box t _=>match σ.slots t with
  | .ptr s _ _=>[s]
  | _=>[]
 | .prow t _=>[Jaa t 0]
 | .pbox t _=>[Jaa t 0]
 | .rpt _ _=>[]
 | .pv _ _=>[]
 | .gbx t _ _=>match σ.slots t with
  | .elp s _ _ _=>[s]
  | _=>[]
 | .vbx t τ hs=>match σ.slots t with
  | .vpt s _ _=>s::match σ.mem s with
   | .vb _ _ x=>Jdb τ x hs
   | _=>[]
  | _=>[]
 | .ali _ _=>[]
 | .vel _ _ _ _ _ _=>[]
 | .zbx t _=>match σ.slots t with
  | .vpt s _ _=>[s]
  | _=>[]
def Jay:List JI→S→List Nat
 | [],_=>[]
 | j::r,σ=>j.kept σ++Jay r σ
def Jdy:(J:List JI)→S→Option (JD J)
 | [],_=>some ()
 | [j],σ=>j.read σ
 | j::q::r,σ=>(j.read σ).bind fun x=>(Jdy (q::r) σ).bind fun y=>some (x,y)
def JI.loose (j:JI) (σ:S):List Nat:=
 match j with
 | .val t _=>match σ.slots t with
  | .ref s _=>match σ.mem s with
   | .own _ _ _ .full=>[s]
   | _=>[]
  | _=>[]
 | .vbx t τ hs=>match σ.slots t with
  | .vpt s _ _=>match σ.mem s with
   | .vb _ _ x=>match Jg2 τ x hs with
    | some x0=>JcU x0 σ
    | none=>[]
   | _=>[]
  | _=>[]
 | _=>[]
def JbZ:List JI→S→List Nat
 | [],_=>[]
 | j::r,σ=>j.loose σ++JbZ r σ
def Jf4 (σ:S) (j:JI):Bool:=
 match j with
 | .ali t t0=>match σ.slots t,σ.slots t0 with
  | .vpt s ver [],.vpt s' ver' []=>match σ.mem s with
   | .vb v _ _=>Nat.beq s s'&&(Nat.beq ver ver'&&Nat.beq ver v)
   | _=>false
  | _,_=>false
 | .vel t t0 _ p q g=>match Jgs (σ.slots t),σ.slots t0 with
  | some c,.vpt s' ver' []=>match σ.mem s',σ.mem c.s with
   | .vb v τ x,.own v3 _ _ .full=>match Jbl τ x p with
    | some (.ref s2 v2)=>Nat.beq ver' v&&(Nat.beq c.s s2&&(Nat.beq c.ver v2&&(Nat.beq c.ver v3&&(decide (c.q=q)&&decide (c.g=g)))))
    | _=>false
   | _,_=>false
  | _,_=>false
 | _=>true
def Jg3:List JI→Nat→Option (List (List Stp×Ty))
 | [],_=>none
 | .vbx t _ hs::r,t0=>bif Nat.beq t t0 then some hs else Jg3 r t0
 | _::r,t0=>Jg3 r t0
def JiB (J:List JI) (j:JI):Bool:=
 match j with
 | .vel _ t0 k p _ _=>match Jg3 J t0 with
  | some hs=>match hs[k]? with
   | some h=>decide (h.1=p)&&!JcT h.2
   | none=>false
  | none=>false
 | _=>true
def Jgt (v:V):Bool:=
 match v with
 | .dead=>true
 | _=>false
def zbB (σ0 σ:S) (j:JI):Bool:=
 match j with
 | .zbx t τ=>Jgt (σ0.slots t)||match σ.slots t with
  | .vpt s ver []=>match σ.mem s with
   | .vb v τ' _=>Nat.beq ver v&&decide (τ'=τ)
   | _=>false
  | _=>false
 | _=>true
def JdE (σ0:S) (J:List JI) (σ:S):Option (JD J):=bif Jb4 (Jay J σ)&&(Jcp (JbZ J σ) (Jay J σ)&&J.all (fun j=>Jf4 σ j&&(JiB J j&&zbB σ0 σ j))) then Jdy J σ else none
def JI.write (j:JI) (x:j.ty.D) (σ:S):S:=
 match j,x with
 | .val t τ,x=>σ.put t (.val τ x)
 | .row t e m,x=>(σ.put t (.ref (Jaa t 0) 1)).set (Jaa t 0) (.own 1 e x m)
 | .box t τ,x=>(σ.put t (.ptr (Jaa t 0) 1 [])).set (Jaa t 0) (.box 1 τ x)
 | .prow t e,x=>(σ.put t (.ref (Jaa t 0) 0)).set (Jaa t 0) (.own 0 e x .full)
 | .pbox t τ,x=>(σ.put t (.ptr (Jaa t 0) 0 [])).set (Jaa t 0) (.box 0 τ x)
 | .rpt t τ,x=>σ.put t (.rpt τ x)
 | .pv t k,x=>σ.put t (k.V x)
 | .gbx t τ l,x=>(σ.put t (.elp (Jaa t 1) 1 0 [])).set (Jaa t 1) (.own 1 τ [x] (.gb l))
 | .vbx t τ hs,x=>JaU t 2 hs x.2 ((σ.put t (.vpt (Jaa t 0) 1 [])).set (Jaa t 0) (.vb 1 τ (Jft τ t (.val τ x.1) 2 hs)))
 | .ali _ _,_=>σ
 | .vel _ _ _ _ _ _,_=>σ
 | .zbx _ _,_=>σ
def Jf5:(J:List JI)→JD J→S→S
 | [],_,σ=>σ
 | [j],x,σ=>j.write x σ
 | j::q::r,x,σ=>Jf5 (q::r) x.2 (j.write x.1 σ)
def S.bare:S:=⟨fun _=>.dead,fun _=>.none⟩
def zbW (σ0:S):List JI→S→S
 | [],σ=>σ
 | .zbx t τ::r,σ=>zbW σ0 r (bif Jgt (σ0.slots t) then σ else (σ.put t (.vpt (Jaa t 0) 1 [])).set (Jaa t 0) (.vb 1 τ .dead))
 | _::r,σ=>zbW σ0 r σ
def Jfa:List JI→S→S
 | [],σ=>σ
 | .ali t t0::r,σ=>Jfa r (match σ.slots t0 with
  | .vpt s ver p=>σ.put t (.vpt s ver p)
  | _=>σ)
 | _::r,σ=>Jfa r σ
def Jfv (j:JI) (x:j.ty.D) (σ:S):S:=
 match j,x with
 | .vel t t0 k _ q g,x=>match σ.mem (Jaa t0 (2+k)) with
  | .own v _ _ .full=>σ.put t (Jny q g (Jaa t0 (2+k)) v (Int.toNat x))
  | _=>σ
 | _,_=>σ
def Jmj:(J:List JI)→JD J→S→S
 | [],_,σ=>σ
 | [j],x,σ=>Jfv j x σ
 | j::q::r,x,σ=>Jmj (q::r) x.2 (Jfv j x.1 σ)
def Jfb (σ0:S) (J:List JI) (x:JD J):S:=Jmj J x (Jfa J (zbW σ0 J (Jf5 J x .bare)))
def Jg4 (σ:S):List Nat→List (Nat×Entry)
 | []=>[]
 | s::r=>match σ.mem s with
  | .own v τ xs .full=>(s,.own v τ xs .tail)::Jg4 σ r
  | _=>Jg4 σ r
def freezeS (fz:List Nat) (σ:S):S:=Jaz σ (Jg4 σ fz)
inductive An:Type→Type 1 where
 | leaf {R:Type}:An R
 | rg {R:Type} (fz:List Nat) (c:Option Seg):An R
 | nx {R:Type}:An R
 | seq {R:Type} (a b:An R):An R
 | join {R:Type} (J:List JI) (a:An (JD J⊕R)) (b:An R):An R
 | cond {R:Type} (a b:An R):An R
 | block {R:Type} (a:An R):An R
 | unroll {R:Type} (n:Nat) (a:An R):An R
 | loop {R:Type} (Ji Jo:List JI) (L:Nat→JD Ji→Option (JD Jo⊕R)) (a:An (JD Jo⊕R)):An R
 | reg {R:Type} (b:An R):An R
 | ofin {R:Type} (s:Option (List Nat×Seg)):An R
 | oin {R:Type} (k f p:Nat) (s:Option (List Nat×Seg)) (a b:An R):An R
 | oalt {R:Type} (k f p:Nat) (fz:List Nat) (vs:List (List Nat×Seg×List Nat×List Nat×Seg)) (a:An R):An R
def Big:Nat:=18446744073709551616
def jn {A R:Type} (x:Option (A⊕R)) (k:A→Option R):Option R:=
 match x with
 | some (.inl a)=>k a
 | some (.inr r)=>some r
 | none=>none
open Classical in
noncomputable def both {R:Type} (a b:Option R):Option R:=if a=b then a else none
theorem both_self {R:Type} (a:Option R):both a a=a:=by unfold both;rw[if_pos rfl]
theorem Jfc {R:Type} {a b:Option R} {r:R} (h:both a b=some r):a=some r∧b=some r:=by
 unfold both at h;split at h
 · rename_i e;exact⟨h,e▸h⟩
 · cases h
def Jmk {R:Type} (F:(S→Option R)→S→Option R):Nat→S→Option R
 | 0,_=>none
 | n+1,σ=>F (Jmk F n) σ
def JmI (o:Oper):Bool:=
 match o.op with
 | .select _ _=>false
 | _=>true
def JaK (N:Nat):List Oper→Bool
 | []=>true
 | o::r=>(match o.dst with | some d=>Nat.blt d N | none=>true)&&(JmI o&&JaK N r)
def evR (E:Env) (N:Nat) (ops:List Oper) (draw:Bool) (fz:List Nat) (c:Option Seg) (σ:S) {R:Type} (K:S→Option R):Option R:=
 bif JaK N ops then
  match c with
  | none=>bif draw then none else evP E ops ops (freezeS fz σ) K
  | some sg=>bif Nat.beq sg.decs.length ops.length&&(!draw||(Jbn 0 ops&&JdU ops 0 ops sg.decs)) then evC E ops sg ops ⟨[],[]⟩ (freezeS fz σ) (fun _=>K) else none
 else none
open Classical in
noncomputable def agreeL {α R:Type} (l:List α) (f:α→Option R):Option R:=
 match l with
 | [a]=>f a
 | l=>if h:∃r,(∃a,a∈l)∧∀a∈l,f a=some r then some h.choose else none
theorem Jhq {α R:Type} (l:List α) (f:α→Option R):agreeL l f=(open Classical in if h:∃r,(∃a,a∈l)∧∀a∈l,f a=some r then some h.choose else none):=by
 unfold agreeL;split
 · rename_i a
   split
   · rename_i h;exact h.choose_spec.2 a (List.mem_singleton.2 rfl)
   · rename_i h
     cases hf:f a with
     | none=>rfl
     | some r=>exact absurd ⟨r,⟨a,List.mem_singleton.2 rfl⟩,fun b hb=>by rw[List.mem_singleton.1 hb];exact hf⟩ h
 · rfl
theorem Jjk {α R:Type} {l:List α} {f:α→Option R} {r:R} (h:agreeL l f=some r):∀a∈l,f a=some r:=by
 rw[Jhq] at h;split at h
 · rename_i hx
   cases h;exact hx.choose_spec.2
 · cases h
theorem Jnz {α R:Type} {l:List α} {f:α→Option R} {r:R} (hne:∃a,a∈l) (h:∀a∈l,f a=some r):agreeL l f=some r:=by
 rw[Jhq];have hx:∃r,(∃a,a∈l)∧∀a∈l,f a=some r:=⟨r,hne,h⟩;rw[dif_pos hx];obtain⟨a,ha⟩:=hne;have:=hx.choose_spec.2 a ha;rw[h a ha] at this;exact this.symm
def JdF {K V:Ty} (f:K.D→K.D→Bool) (k:K.D) (l:List (K.D×V.D)):List (K.D×V.D):=l.filter fun q=>!f q.1 k
noncomputable def nxE (E:Env) (all:List Oper) (ops:List Oper) (σ:S) {R:Type} (K:S→Option R):Option R:=
 match ops with
 | o::rest=>match o.op,o.guard,o.dst with
  | .next (.tmp t) false,none,some d=>match σ.slots t with
   | .ref s ver=>match σ.mem s with
    | .own ver' (.pair KT VT) xs (.it _)=>bif Nat.beq ver ver'&&Jbb KT then match eqD KT with
     | some f=>bif List.isEmpty xs.tail then evP E all rest (σ.put d (.tcons (.val .bool false) .tnil)) K
      else agreeL xs.tail fun p=>evP E all rest (((σ.set s (.own (ver'+1) (.pair KT VT) (p::JdF f p.1 xs.tail) (.it true))).put t (.ref s (ver'+1))).put d (.tcons (.val .bool true) .dead)) K
     | none=>none
     else none
    | _=>none
   | _=>none
  | _,_,_=>none
 | _=>none
inductive Tg where
 | code (c:Code)
 | ops (l:List Oper) (i:Nat) (d:Bool)
def Jg5 (σ:S):List Operand→Option (List V)
 | []=>some []
 | .tmp t::r=>(Jg5 σ r).map fun l=>σ.slots t::l
 | .const v::r=>(Jg5 σ r).map fun l=>JcO v::l
 | .func f::r=>(Jg5 σ r).map fun l=>.clo f .tnil::l
 | .global _::_=>none
def JiC:V→Option (List V)
 | .tnil=>some []
 | .tcons a r=>(JiC r).map fun l=>a::l
 | _=>none
def Jg6:List V→V
 | []=>.tnil
 | a::r=>.tcons a (Jg6 r)
def Jby:List V→V
 | [v]=>v
 | l=>Jg6 l
def Jb0 (σ:S) (o:Oper):Option (Nat×List V):=
 match o.op with
 | .call c=>match c.callee with
  | .value (.func f)=>(Jg5 σ c.args.toList).map fun vs=>(f,vs)
  | .value (.tmp t)=>match σ.slots t with
   | .clo g x=>(Jg5 σ c.args.toList).bind fun vs=>(JiC x).map fun us=>(g,vs++us)
   | _=>none
  | _=>none
 | _=>none
def Jes (N:Nat) (vs:List V) (σ:S):S:={slots:=fun t=>bif Nat.blt t N then σ.slots t else vs.getD (t-N) .dead,mem:=σ.mem}
def keepV (u y:V):V:=
 match y with
 | .dead=>match u with
  | .val τ x=>.val τ x
  | .rpt τ x=>.rpt τ x
  | .nil=>.nil
  | _=>.dead
 | y=>y
def JaM (N:Nat) (σ1 σ:S):S:={slots:=fun t=>bif Nat.blt t N then keepV (σ1.slots t) (σ.slots t) else .dead,mem:=σ.mem}
def JnO (o:Oper):Option (Nat×Nat):=
 match o.dst,o.op with
 | some d,.move (.tmp t)=>some (d,t)
 | some d,.fieldAddr _ (.tmp t) _=>some (d,t)
 | _,_=>none
def JiD (k:Nat):Entry→Bool
 | .own k' _ _ _=>Nat.beq k k'
 | _=>false
def JkF (k:Nat):Entry→Bool
 | .vb k' _ _=>Nat.beq k k'
 | _=>false
def Jml (σ1 σ:S) (d t:Nat):V:=
 match σ.slots d with
 | .dead=>match σ1.slots d,σ1.slots t with
  | .ref s k,.ref s' k'=>bif Nat.beq s s'&&(Nat.beq k k'&&JiD k (σ1.mem s)) then σ.slots t else .dead
  | .vpt s k [],.vpt s' k' []=>bif Nat.beq s s'&&(Nat.beq k k'&&JkF k (σ1.mem s)) then σ.slots t else .dead
  | .ptr s k p,.ptr s' k' []=>match σ.slots t with
   | .ptr s3 k3 []=>match σ1.mem s,σ.mem s3 with
    | .box k1 τ _,.box k2 τ' _=>if s=s'∧k=k'∧k1=k∧k2=k3∧τ=τ' then .ptr s3 k3 p else .dead
    | _,_=>.dead
   | _=>.dead
  | _,_=>.dead
 | y=>y
def Jcz (l:List Oper) (σ1:S):List Nat→S→S
 | [],σ=>σ
 | i::r,σ=>Jcz l σ1 r (match l[i]?.bind JnO with
  | some q=>σ.put q.1 (Jml σ1 σ q.1 q.2)
  | none=>σ)
def Jlg (τ:Ty) (v:V) (σ:S):Option V:=
 match v with
 | .vpt s ver []=>match σ.mem s with
  | .vb ver' τ' x=>if ver=ver'∧τ'=τ then some x else none
  | _=>none
 | v=>(Jd9 τ v σ).map fun x=>.val τ x
def JaP (E:Env) (N:Nat) (σ:S):List ResultVar→Option (List V)
 | []=>some []
 | .tmp t::r=>(JaP E N σ r).map fun l=>σ.slots (N+t)::l
 | .cell t ty::r=>match E.ty ty with
  | some τ=>(Jlg τ (σ.slots (N+t)) σ).bind fun x=>(JaP E N σ r).map fun l=>x::l
  | none=>none
def Jbz (l:List Oper):List Nat→List Oper
 | []=>[]
 | i::r=>match l[i]? with
  | some o=>o::Jbz l r
  | none=>Jbz l r
def Jfd (n:Nat):List Nat→Bool
 | []=>true
 | [i]=>Nat.blt i n
 | i::j::r=>Nat.blt i j&&Jfd n (j::r)
def JeQ (l:List Oper):List Nat→List Dec→Bool
 | i::r,d::ds=>one i d r ds&&JeQ l r ds
 | _,_=>true
where
 one (i:Nat) (d:Dec):List Nat→List Dec→Bool
  | j::r,d'::ds=>(Nat.testBit ((JbH l []).getD j 0) i||match l[i]?,l[j]? with
   | some o,some o'=>Jbf l o o' d d'
   | _,_=>false)&&one i d r ds
  | _,_=>true
def Jgu (l:List Oper):Bool:=l.all fun o=>match o.op with
 | .insert _ _ _ _=>false
 | _=>true
def Jg7:List Nat→List (List Nat)
 | []=>[[]]
 | a::r=>Jg7 r++(Jg7 r).map (a::·)
def Jet (l:List Oper) (k:Nat):List Nat:=
 (List.range l.length).filter fun i=>!Nat.beq i k&&(!Nat.testBit ((JbH l []).getD k 0) i&&!Nat.testBit ((JbH l []).getD i 0) k)
def Jg8 (l:List Oper) (k:Nat) (U:List Nat):Bool:=
 U.all fun i=>match l[i]? with
  | some o=>o.after.toList.all fun e=>!Region.binds .any e||(Jan e.on U||Nat.testBit ((JbH l []).getD k 0) e.on)
  | none=>false
def JiE (l:List Oper) (k:Nat) (vs:List (List Nat)):Bool:=
 (Jg7 (Jet l k)).all fun U=>!Jg8 l k U||vs.any fun ix=>(List.range l.length).all fun i=>(Jan i ix)==(Nat.testBit ((JbH l []).getD k 0) i||Jan i U)
def Jfw (l:List Oper) (k:Nat) (ix ix3:List Nat):Bool:=
 Nat.blt k l.length&&Jfd l.length ix&&(Jfd l.length ix3&&((List.range l.length).all (fun i=>(Jan i ix3)==(!Nat.beq i k&&!Jan i ix))&&(!Jan k ix &&
  (List.range l.length).all fun i=>!(Nat.beq i k||Jan i ix)||match l[i]? with
   | some o=>o.after.toList.all fun e=>!Region.binds .any e||(Nat.beq e.on k||Jan e.on ix)
   | none=>false)))
noncomputable def Jg9 {R:Type}:List (Option R)→Option R
 | []=>none
 | [a]=>a
 | a::b::r=>both a (Jg9 (b::r))
def JeR (l:List Oper) (i k:Nat):Bool:=
 bif Nat.blt (i+k) l.length then
  (List.range k).all (fun m=>Nat.testBit ((JbH l []).getD (i+k) 0) (i+m))&&(List.range (l.length-(i+k+1))).all (fun m=>Nat.testBit ((JbH l []).getD (i+k+1+m) 0) (i+k))
 else true
def JeS (E:Env) (l:List Oper) (i k:Nat) (s:Option (List Nat×Seg)) (d:Bool) (σ:S) {R:Type} (K:S→Option R):Option R:=
 match s,d with
 | none,false=>evP E l ((l.drop i).take k) σ K
 | some q,true=>bif Nat.beq q.2.decs.length k&&(JdU l i ((l.drop i).take k) q.2.decs&&JeR l i k) then evC E l q.2 ((l.drop i).take k) ⟨[],[]⟩ (freezeS q.1 σ) (fun _=>K) else none
 | _,_=>none
def JcA (E:Env) (l:List Oper) (ix:List Nat) (fz:List Nat) (sg:Seg) (σ:S) {R:Type} (K:S→Option R):Option R:=
 bif Nat.beq sg.decs.length ix.length&&JeQ l ix sg.decs then evC E l sg (Jbz l ix) ⟨[],[]⟩ (freezeS fz σ) (fun _=>K) else none
noncomputable def ev (E:Env):{R:Type}→An R→Nat→Tg→S→(S→Option R)→(Nat→S→Option R)→(S→Option R)→Option R
 | _,.leaf,_,g,σ,Kn,Ke,Kr=>match g with
  | .code .skip=>Kn σ
  | .code (.exit i)=>Ke i σ
  | .code .ret=>Kr σ
  | _=>none
 | _,.rg fz c,N,g,σ,Kn,_,_=>match g with
  | .code (.region _ ops draw)=>evR E N ops.toList draw fz c σ Kn
  | _=>none
 | _,.nx,N,g,σ,Kn,_,_=>match g with
  | .code (.region _ ops draw)=>bif JaK N ops.toList&&!draw then nxE E ops.toList ops.toList σ Kn else none
  | _=>none
 | _,.seq a b,N,g,σ,Kn,Ke,Kr=>match g with
  | .code (.seq x y)=>ev E a N (.code x) σ (fun σ'=>ev E b N (.code y) σ' Kn Ke Kr) Ke Kr
  | _=>none
 | _,.join J a b,N,g,σ,Kn,Ke,Kr=>match g with
  | .code (.seq x y)=>
   jn (ev E a N (.code x) σ (fun σ'=>(JdE σ J σ').map .inl) (fun i σ'=>(Ke i σ').map .inr) (fun σ'=>(Kr σ').map .inr)) fun j=>ev E b N (.code y) (Jfb σ J j) Kn Ke Kr
  | _=>none
 | _,.cond a b,N,g,σ,Kn,Ke,Kr=>match g with
  | .code (.cond c x y)=>match c with
   | .tmp t=>match σ.slots t with
    | .val .bool q=>bif q then ev E a N (.code x) σ Kn Ke Kr else ev E b N (.code y) σ Kn Ke Kr
    | .nilq emp neg=>bif emp then both (ev E a N (.code x) σ Kn Ke Kr) (ev E b N (.code y) σ Kn Ke Kr) else (bif neg then ev E a N (.code x) σ Kn Ke Kr else ev E b N (.code y) σ Kn Ke Kr)
    | _=>none
   | .const (.bool q)=>bif q then ev E a N (.code x) σ Kn Ke Kr else ev E b N (.code y) σ Kn Ke Kr
   | _=>none
  | _=>none
 | _,.block a,N,g,σ,Kn,Ke,Kr=>match g with
  | .code (.block id x)=>ev E a N (.code x) σ Kn (fun i σ'=>bif Nat.beq i id then Kn σ' else Ke i σ') Kr
  | _=>none
 | _,.loop Ji Jo L _,_,g,σ,Kn,_,_=>match g with
  | .code (.block _ (.loop _))=>(JdE .bare Ji σ).bind fun j=>jn (L Big j) fun q=>Kn (Jfb .bare Jo q)
  | _=>none
 | _,.unroll n a,N,g,σ,Kn,Ke,Kr=>match g with
  | .code (.block id (.loop x))=>Jmk (fun K σ'=>ev E a N (.code x) σ' K (fun i σ''=>bif Nat.beq i id then Kn σ'' else Ke i σ'') Kr) n σ
  | _=>none
 | _,.reg b,N,g,σ,Kn,Ke,Kr=>match g with
  | .code (.region _ ops draw)=>bif JaK N ops.toList&&(!draw||Jbn 0 ops.toList) then ev E b N (.ops ops.toList 0 draw) σ Kn Ke Kr else none
  | _=>none
 | _,.ofin s,_,g,σ,Kn,_,_=>match g with
  | .ops l i d=>JeS E l i (l.length-i) s d σ Kn
  | _=>none
 | _,.oin k f p s a b,N,g,σ,Kn,Ke,Kr=>match g with
  | .ops l i d=>JeS E l i k s d σ fun σ1=>match l[i+k]?,E.bd f with
   | some o,some fn=>match fn.body,Jb0 σ1 o with
    | some c,some q=>bif Nat.beq f q.1&&(Nat.ble q.2.length fn.ntmps&&o.guard.isNone) then
     ev E a (N+p+fn.ntmps) (.code (shC (N+p) c)) (Jes (N+p) q.2 σ1)
      (fun σ3=>(JaP E (N+p) σ3 fn.results.toList).bind fun rs=>ev E b N (.ops l (i+k+1) d) ((JaM N σ1 σ3).putO o.dst (Jby rs)) Kn Ke Kr) (fun _ _=>none)
      (fun σ3=>(JaP E (N+p) σ3 fn.results.toList).bind fun rs=>ev E b N (.ops l (i+k+1) d) ((JaM N σ1 σ3).putO o.dst (Jby rs)) Kn Ke Kr)
     else none
    | _,_=>none
   | _,_=>none
  | _=>none
 | _,.oalt k f p fz vs a,N,g,σ,Kn,Ke,Kr=>match g with
  | .code (.region _ ops true)=>bif JaK N ops.toList&&(Jbn 0 ops.toList&&(Jgu ops.toList&&(JiE ops.toList k (vs.map (·.1))&&vs.all fun v=>Jfw ops.toList k v.1 v.2.2.1))) then
   (fun l=>Jg9 (vs.map fun v=>JcA E l v.1 fz v.2.1 σ fun σ1=>match l[k]?,E.bd f with
   | some o,some fn=>match fn.body,Jb0 σ1 o with
    | some c,some q=>bif Nat.beq f q.1&&(Nat.ble q.2.length fn.ntmps&&o.guard.isNone) then
     ev E a (N+p+fn.ntmps) (.code (shC (N+p) c)) (Jes (N+p) q.2 σ1)
      (fun σ3=>(JaP E (N+p) σ3 fn.results.toList).bind fun rs=>JcA E l v.2.2.1 v.2.2.2.1 v.2.2.2.2 ((Jcz l σ1 v.1 (JaM N σ1 σ3)).putO o.dst (Jby rs)) Kn) (fun _ _=>none)
      (fun σ3=>(JaP E (N+p) σ3 fn.results.toList).bind fun rs=>JcA E l v.2.2.1 v.2.2.2.1 v.2.2.2.2 ((Jcz l σ1 v.1 (JaM N σ1 σ3)).putO o.dst (Jby rs)) Kn)
     else none
    | _,_=>none
   | _,_=>none)) ops.toList
   else none
  | _=>none
def JiF:List Prop→Prop
 | []=>True
 | p::r=>p∧JiF r
def ob (E:Env):{R:Type}→An R→Nat→Tg→(S→Option R)→(Nat→S→Option R)→(S→Option R)→Prop
 | _,.seq a b,N,g,Kn,Ke,Kr=>match g with
  | .code (.seq x y)=>ob E a N (.code x) (fun σ'=>ev E b N (.code y) σ' Kn Ke Kr) Ke Kr∧ob E b N (.code y) Kn Ke Kr
  | _=>True
 | _,.join J a b,N,g,Kn,Ke,Kr=>match g with
  | .code (.seq x y)=>
   (∀σ0,ob E a N (.code x) (fun σ'=>(JdE σ0 J σ').map .inl) (fun i σ'=>(Ke i σ').map .inr) (fun σ'=>(Kr σ').map .inr))∧ob E b N (.code y) Kn Ke Kr
  | _=>True
 | _,.cond a b,N,g,Kn,Ke,Kr=>match g with
  | .code (.cond _ x y)=>ob E a N (.code x) Kn Ke Kr∧ob E b N (.code y) Kn Ke Kr
  | _=>True
 | _,.block a,N,g,Kn,Ke,Kr=>match g with
  | .code (.block id x)=>ob E a N (.code x) Kn (fun i σ'=>bif Nat.beq i id then Kn σ' else Ke i σ') Kr
  | _=>True
 | _,.loop Ji Jo L a,N,g,_,Ke,Kr=>match g with
  | .code (.block id (.loop x))=>(∀j,L 0 j=none) ∧
   (∀n j,L (n+1) j=ev E a N (.code x) (Jfb .bare Ji j) (fun σ'=>(JdE .bare Ji σ').bind (L n))
    (fun i σ'=>bif Nat.beq i id then (JdE .bare Jo σ').map .inl else (Ke i σ').map .inr) (fun σ'=>(Kr σ').map .inr)) ∧
   ∀n,ob E a N (.code x) (fun σ'=>(JdE .bare Ji σ').bind (L n)) (fun i σ'=>bif Nat.beq i id then (JdE .bare Jo σ').map .inl else (Ke i σ').map .inr) (fun σ'=>(Kr σ').map .inr)
  | _=>True
 | _,.unroll _ a,N,g,Kn,Ke,Kr=>match g with
  | .code (.block id (.loop x))=>∀K,ob E a N (.code x) K (fun i σ'=>bif Nat.beq i id then Kn σ' else Ke i σ') Kr
  | _=>True
 | _,.reg b,N,g,Kn,Ke,Kr=>match g with
  | .code (.region _ ops draw)=>ob E b N (.ops ops.toList 0 draw) Kn Ke Kr
  | _=>True
 | _,.oin k f p _ a b,N,g,Kn,Ke,Kr=>match g with
  | .ops l i d=>match l[i+k]?,E.bd f with
   | some o,some fn=>match fn.body with
    | some c=>
     (∀σ1,ob E a (N+p+fn.ntmps) (.code (shC (N+p) c))
      (fun σ3=>(JaP E (N+p) σ3 fn.results.toList).bind fun rs=>ev E b N (.ops l (i+k+1) d) ((JaM N σ1 σ3).putO o.dst (Jby rs)) Kn Ke Kr) (fun _ _=>none)
      (fun σ3=>(JaP E (N+p) σ3 fn.results.toList).bind fun rs=>ev E b N (.ops l (i+k+1) d) ((JaM N σ1 σ3).putO o.dst (Jby rs)) Kn Ke Kr)) ∧
     ob E b N (.ops l (i+k+1) d) Kn Ke Kr
    | none=>True
   | _,_=>True
  | _=>True
 | _,.oalt k f p fz vs a,N,g,Kn,Ke,Kr=>match g with
  | .code (.region _ ops true)=>match E.bd f with
   | some fn=>match ops.toList[k]?,fn.body with
    | some o,some c=>JiF (vs.map fun v=>∀σ1,ob E a (N+p+fn.ntmps) (.code (shC (N+p) c))
     (fun σ3=>(JaP E (N+p) σ3 fn.results.toList).bind fun rs=>JcA E ops.toList v.2.2.1 v.2.2.2.1 v.2.2.2.2 ((Jcz ops.toList σ1 v.1 (JaM N σ1 σ3)).putO o.dst (Jby rs)) Kn) (fun _ _=>none)
     (fun σ3=>(JaP E (N+p) σ3 fn.results.toList).bind fun rs=>JcA E ops.toList v.2.2.1 v.2.2.2.1 v.2.2.2.2 ((Jcz ops.toList σ1 v.1 (JaM N σ1 σ3)).putO o.dst (Jby rs)) Kn))
    | _,_=>True
   | none=>True
  | _=>True
 | _,.leaf,_,_,_,_,_=>True
 | _,.rg _ _,_,_,_,_,_=>True
 | _,.nx,_,_,_,_,_=>True
 | _,.ofin _,_,_,_,_,_=>True
inductive RV where
 | tmp (t:Nat) (p:Ty×Mode)
 | cell (t:Nat) (τ:Ty)
@[reducible] def RV.pm:RV→Ty×Mode
 | .tmp _ p=>p | .cell _ τ=>(τ,.view)
def JmJ (p:Ty×Mode) (v:V) (σ:S):Option p.1.D:=
 match p with
 | (.sl e,.full)=>JbY e .full v σ
 | (.sl e,.tail)=>JbY e .tail v σ
 | (.sl e,.mp)=>JbY e .mp v σ
 | (τ,_)=>rdA τ v σ
def RV.read (r:RV) (σ:S):Option r.pm.1.D:=
 match r with
 | .tmp t p=>JmJ p (σ.slots t) σ
 | .cell t τ=>Jd9 τ (σ.slots t) σ
def RV.ji (r:RV):JI:=
 match r with
 | .tmp t (.sl e,.full)=>.row t e .full
 | .tmp t (.sl e,.tail)=>.row t e .tail
 | .tmp t (.sl e,.mp)=>.row t e .mp
 | .tmp t (τ,_)=>.val t τ
 | .cell t τ=>.val t τ
def JkG:(rs:List RV)→S→Option (Ds ((rs.map RV.pm).map (·.1)))
 | [],_=>some ()
 | [r],σ=>r.read σ
 | r::q::l,σ=>(r.read σ).bind fun x=>(JkG (q::l) σ).bind fun y=>some (x,y)
def JbQ:Nat→(ps:List Par)→S→Option (Ds (ioTys ps))
 | _,[],_=>some ()
 | i,.val _::r,σ=>JbQ (i+1) r σ
 | i,.nils _::r,σ=>JbQ (i+1) r σ
 | i,.pv _::r,σ=>JbQ (i+1) r σ
 | i,.box τ::r,σ=>match σ.mem (Jaa i 0) with
  | .box 0 τ' x=>(cast? τ' τ x).bind fun x=>(JbQ (i+1) r σ).bind fun y=>some (dsC τ (ioTys r) x y)
  | _=>none
 | i,.row e::r,σ=>match σ.mem (Jaa i 0) with
  | .own 0 e' xs .full=>(cast? (.sl e') (.sl e) xs).bind fun x=>(JbQ (i+1) r σ).bind fun y=>some (dsC (.sl e) (ioTys r) x y)
  | _=>none
 | i,.take _::r,σ=>JbQ (i+1) r σ
where
 dsC (a:Ty):(r:List Ty)→a.D→Ds r→Ds (a::r)
  | [],x,_=>x
  | _::_,x,y=>(x,y)
def Jgv:(xs ys:List Ty)→Ds xs→Ds ys→Ds (xs++ys)
 | [],_,_,y=>y
 | [_],[],x,_=>x
 | [_],_::_,x,y=>(x,y)
 | _::b::r,ys,x,y=>(x.1,Jgv (b::r) ys x.2 y)
def ioS:Nat→List Par→List Nat
 | _,[]=>[]
 | i,.val _::r=>ioS (i+1) r
 | i,.nils _::r=>ioS (i+1) r
 | i,.pv _::r=>ioS (i+1) r
 | i,.box _::r=>Jaa i 0::ioS (i+1) r
 | i,.row _::r=>Jaa i 0::ioS (i+1) r
 | i,.take _::r=>ioS (i+1) r
def Jfe (ps:List Par) (rs:List RV) (σ:S):Option (Ds ((rs.map RV.pm).map (·.1)++ioTys ps)):=
 bif Jb4 (Jay (rs.map RV.ji) σ++ioS 0 ps)&&(Jcp (JbZ (rs.map RV.ji) σ) (Jay (rs.map RV.ji) σ++ioS 0 ps)&&(!(ps.any Par.isTake)||(Jay (rs.map RV.ji) σ).isEmpty)) then (JkG rs σ).bind fun x=>(JbQ 0 ps σ).bind fun y=>some (Jgv _ _ x y) else none
def JdW:Nat→(ps:List Par)→Ds (ps.map Par.ty)→S→S
 | _,[],_,σ=>σ
 | i,[p],x,σ=>ent i p x σ
 | i,p::q::r,x,σ=>JdW (i+1) (q::r) x.2 (ent i p x.1 σ)
where
 ent (i:Nat) (p:Par) (x:p.ty.D) (σ:S):S:=
  match p,x with
  | .val τ,x=>(JI.val i τ).write x σ
  | .nils _,_=>σ.put i .nil
  | .pv k,x=>σ.put i (k.V x)
  | .box τ,x=>(JI.pbox i τ).write x σ
  | .row e,x=>(JI.prow i e).write x σ
  | .take e,x=>(JI.prow i e).write x σ
noncomputable def evF (E:Env) (N:Nat) (c:Code) (ps:List Par) (rs:List RV) (an:An (Ds ((rs.map RV.pm).map (·.1)++ioTys ps))) (x:Ds (ps.map Par.ty)):
 Option (Ds ((rs.map RV.pm).map (·.1)++ioTys ps)):=
 ev E an N (.code c) (JdW 0 ps x .bare) (Jfe ps rs) (fun _ _=>none) (Jfe ps rs)
def obF (E:Env) (N:Nat) (c:Code) (ps:List Par) (rs:List RV) (an:An (Ds ((rs.map RV.pm).map (·.1)++ioTys ps))):Prop:=
 ob E an N (.code c) (Jfe ps rs) (fun _ _=>none) (Jfe ps rs)
end Go.Re
namespace Go.Re
set_option linter.unusedVariables false
set_option linter.unusedSimpArgs false
open Go.RowKit (Below)
theorem JaH {n:Nat}:∀{l:List Nat},Jan n l=true↔n∈l
 | []=>by simp[Jan]
 | m::r=>by
  unfold Jan;by_cases h:m=n
  · subst h;simp
  · have:Nat.beq m n=false:=by
     cases hh:Nat.beq m n with
     | true=>exact absurd (Nat.eq_of_beq_eq_true hh) h
     | false=>rfl
    rw[this];simp[JaH (l:=r),show n≠m from fun e=>h e.symm]
theorem Jbo {n:Nat} {l:List Nat}:Jan n l=false↔n∉l:=by
 rw[←JaH];simp
theorem JiG:∀{a b:List Nat},Jf2 a b=true↔∀x∈a,x∈b
 | [],b=>by simp[Jf2]
 | x::a,b=>by
  unfold Jf2;cases h:Jan x b with
  | true=>simp[JiG (a:=a),JaH.1 h]
  | false=>simp[Jbo.1 h]
theorem Jcq:∀{a b:List Nat},Jcp a b=true↔∀x∈a,x∉b
 | [],b=>by simp[Jcp]
 | x::a,b=>by
  unfold Jcp;cases h:Jan x b with
  | true=>simp[JaH.1 h]
  | false=>simp[Jcq (a:=a),Jbo.1 h]
theorem Jea {x:Nat}:∀{a b:List Nat},x∈JeO a b↔x∈a∧x∉b
 | [],b=>by simp[JeO]
 | y::a,b=>by
  unfold JeO;cases h:Jan y b with
  | true=>
   have h:=JaH.1 h;simp only[cond_true,Jea (a:=a),List.mem_cons]
   constructor
   · rintro⟨h1,h2⟩;exact⟨.inr h1,h2⟩
   · rintro⟨h1 | h1,h2⟩
     · subst h1;exact absurd h h2
     · exact⟨h1,h2⟩
  | false=>
   have h:=Jbo.1 h;simp only[cond_false,List.mem_cons,Jea (a:=a)]
   constructor
   · rintro (h1 | ⟨h1,h2⟩)
     · subst h1;exact⟨.inl rfl,h⟩
     · exact⟨.inr h1,h2⟩
   · rintro⟨h1 | h1,h2⟩
     · exact .inl h1
     · exact .inr ⟨h1,h2⟩
theorem JiH:∀(l:List Oper) (j:Nat),JeP l j=(l[j]?).bind (·.dst)
 | [],_=>by simp[JeP]
 | o::r,0=>by simp[JeP]
 | o::r,j+1=>by simp[JeP,JiH r j]
section
variable {P:Program} {E:Env} {N:Nat} {Z:Base} {own:Own} {β:Jai} {σ:S} {a:Act} {w:World} {o:Oper}
theorem St.putO (h:St N Z own β σ a w) {d:Option Nat} (hd:∀t,d=some t→t<N) {v:V} {u:Value} (hv:Jac own w β σ.mem v u):
 St N Z own β (σ.putO d v) (a.put d u) w:=by
 cases d with
 | none=>exact h
 | some t=>exact h.put (hd t rfl) hv
theorem Jlh {t:Nat} {b:Bool} (h:a.tmps.getD t undef= .bool b):a.tmps[t]?=some (.bool b):=by
 rw[Array.getD_eq_getD_getElem?] at h;cases h1:a.tmps[t]? with
 | none=>rw[h1] at h;cases h
 | some v=>rw[h1] at h;exact congrArg some h
theorem Jfx {l:List Oper} {i:Nat} (hE:EnvOk P E) (h:St N Z own β σ a w) (ho:l[i]?=some o) (hd:∀t,o.dst=some t→t<N) {r:V×S}
 (hr:(JaQ E l o).run σ=some r) {Q:Exit→Act→World→Prop} {K:Act→World→Prop} (hK:∀a' w' own β,St N Z own β (r.2.putO o.dst r.1) a' w'→K a' w'):
 wpOp P l.toArray Q i K a w:=by
 unfold wpOp;have ho':l.toArray[i]?=some o:=by simpa using ho
 simp only[ho']
 have hop:∀{r:V×S},(opM E o).run σ=some r→(∀a' w' own β,St N Z own β (r.2.putO o.dst r.1) a' w'→K a' w')→o.wp P a w K Q:=by
  intro r hr hK;refine Oper.wp_mono ?_ (Jnb hE h hr Q);rintro a' w' ⟨u,rfl,own',β',hs,hv⟩;exact hK _ _ _ _ (hs.putO hd hv)
 unfold JaQ at hr;split at hr
 · rename_i hg
   simp only[Region.wanted,hg,if_true];exact .inl (hop hr hK)
 · rename_i j want hg
   rw[JiH] at hr;split at hr
   · rename_i t ht
     simp only[M.run] at hr;have hsl:=h.slots t
     have hy:yielded l.toArray a.tmps j=match a.tmps[t]? with | some (.bool b)=>some b | _=>none:=by
      unfold yielded;have:(l.toArray[j]?).bind (·.dst)=some t:=by simpa using ht
      rw[this];rfl
     split at hr
     · rename_i b hv
       rw[hv] at hsl;have hb:=Jlh (Jab.bool.1 hsl);rw[hb] at hy;have hy:yielded l.toArray a.tmps j=some b:=hy;split at hr
       · simp only[Region.wanted,hg,hy,beq_self_eq_true,if_true]
         exact .inl (hop hr hK)
       · simp only[Region.wanted,hg,hy,beq_self_eq_true,if_true]
         exact .inl (hop hr hK)
       · rename_i n1 n2
         have:(some b==some want)=false:=by
          cases b<;>cases want<;>first | rfl | exact (n1 rfl rfl).elim | exact (n2 rfl rfl).elim
         simp only[Region.wanted,hg,hy,this,Bool.false_eq_true,if_false];rw[Jaq hr] at hK;exact hK _ _ _ _ (h.putO hd (v:=.tnil) rfl)
     · rename_i hv
       rw[hv] at hsl;have hsl:a.tmps.getD t undef= .tuple #[]:=hsl
       have hy:yielded l.toArray a.tmps j=none:=by
        rw[hy];rw[Array.getD_eq_getD_getElem?] at hsl;cases h1:a.tmps[t]? with
        | none=>rfl
        | some v=>rw[h1] at hsl;have hsl:v= .tuple #[]:=hsl;subst hsl;rfl
       have:((none:Option Bool)==some want)=false:=rfl;simp only[Region.wanted,hg,hy,this,Bool.false_eq_true,if_false];rw[Jaq hr] at hK;exact hK _ _ _ _ (h.putO hd (v:=.tnil) rfl)
     · cases hr
   · cases hr
end
theorem JdX {β:Type} (b:β):∀(ws:Ws β) (σ:S),(Jaw σ b ws).slots=σ.slots
 | [],_=>rfl
 | p::ws,σ=>JdX b ws (σ.set p.1 (p.2 b))
theorem JcW {β:Type} (b:β):∀(ws:Ws β) (σ τ:S) (s:Nat),
 (s∈ws.map (·.1)→(Jaw τ b ws).mem s=(Jaw σ b ws).mem s)∧(s∉ws.map (·.1)→(Jaw σ b ws).mem s=σ.mem s)
 | [],σ,τ,s=>⟨by simp,fun _=>rfl⟩
 | p::ws,σ,τ,s=>by
  have ih:=JcW b ws (σ.set p.1 (p.2 b)) (τ.set p.1 (p.2 b)) s;refine⟨fun h=>?_,fun h=>?_⟩
  · show (Jaw (τ.set p.1 (p.2 b)) b ws).mem s=(Jaw (σ.set p.1 (p.2 b)) b ws).mem s
    by_cases hs:s∈ws.map (·.1)
    · exact ih.1 hs
    · have ih':=(JcW b ws (τ.set p.1 (p.2 b)) (τ.set p.1 (p.2 b)) s).2 hs
      rw[ih',ih.2 hs];simp only[List.map_cons,List.mem_cons] at h;have:s=p.1:=h.resolve_right hs;subst this;show upd τ.mem _ _ _=upd σ.mem _ _ _;rw[Jad,Jad,if_pos rfl,if_pos rfl]
  · simp only[List.map_cons,List.mem_cons,not_or] at h
    show (Jaw (σ.set p.1 (p.2 b)) b ws).mem s=σ.mem s;rw[ih.2 h.2];show upd σ.mem _ _ _=_;rw[Jad,if_neg h.1]
theorem M.run_local {α:Type} (m:M α):∀{σ τ:S},(∀t∈(m.foot σ).rs,τ.slots t=σ.slots t)→(∀s∈(m.foot σ).rm,τ.mem s=σ.mem s) →
 m.foot τ=m.foot σ∧∀v σ',m.run σ=some (v,σ')→σ'.slots=σ.slots∧(∀s,s∉(m.foot σ).wm→σ'.mem s=σ.mem s) ∧
  ∃τ',m.run τ=some (v,τ')∧τ'.slots=τ.slots∧(∀s,s∈(m.foot σ).wm→τ'.mem s=σ'.mem s)∧(∀s,s∉(m.foot σ).wm→τ'.mem s=τ.mem s):=by
 induction m with
 | fail=>intro σ τ _ _;exact⟨rfl,fun v σ' h=>by cases h⟩
 | slot n k ih=>
  intro σ τ hs hm;have e:τ.slots n=σ.slots n:=hs n (by simp[M.foot]);have:=@ih (σ.slots n) σ τ (fun t ht=>hs t (by simp[M.foot,ht])) (fun s h=>hm s (by simpa [M.foot] using h));refine⟨?_,?_⟩
  · simp only[M.foot,e,this.1]
  · intro v σ' hr
    obtain⟨h1,h2,h3⟩:=this.2 v σ' hr;refine⟨h1,h2,?_⟩;simp only[M.run,e];exact h3
 | mem n k ih=>
  intro σ τ hs hm;have e:τ.mem n=σ.mem n:=hm n (by simp[M.foot]);have:=@ih (σ.mem n) σ τ (fun t ht=>hs t (by simpa [M.foot] using ht)) (fun s h=>hm s (by simp[M.foot,h]));refine⟨?_,?_⟩
  · simp only[M.foot,e,this.1]
  · intro v σ' hr
    obtain⟨h1,h2,h3⟩:=this.2 v σ' hr;refine⟨h1,h2,?_⟩;simp only[M.run,e];exact h3
 | fin β o g ws=>
  intro σ τ _ _;refine⟨rfl,?_⟩;intro v σ' hr;simp only[M.run] at hr ⊢;obtain⟨b,hb,h2⟩:=Option.map_eq_some_iff.1 hr;cases h2
  refine⟨JdX b ws σ,fun s hs=>(JcW b ws σ σ s).2 hs,Jaw τ b ws,by rw[hb];rfl,JdX b ws τ,fun s hs=>(JcW b ws σ τ s).1 hs,
   fun s hs=>(JcW b ws τ τ s).2 hs⟩
inductive Run (E:Env) (all:List Oper):List Oper→List Dec→S→S→Prop
 | nil (σ:S):Run E all [] [] σ σ
 | cons {o:Oper} {os:List Oper} {d:Dec} {ds:List Dec} {σ σ':S} {r:V×S} (hr:(JaQ E all o).run σ=some r)
    (hf:Jb8 ((JaQ E all o).foot σ) (JaR all o) d=true) (h:Run E all os ds (r.2.putO o.dst r.1) σ'):Run E all (o::os) (d::ds) σ σ'
theorem JdG {f:Foot} {ls:List Nat} {d:Dec}:Jb8 f ls d=true↔(∀x∈f.rs,x∈ls)∧(∀x∈f.rm,x∈d.rm)∧(∀x∈f.wm,x∈d.wm):=by
 simp[Jb8,JiG]
theorem Jb1 (σ:S) (d:Option Nat) (v:V) (t:Nat):(σ.putO d v).slots t=if d=some t then v else σ.slots t:=by
 cases d with
 | none=>simp[S.putO]
 | some d=>
  show upd σ.slots d v t=_;rw[Jad];by_cases h:t=d
  · subst h;simp
  · simp[h,show d≠t from fun e=>h e.symm]
theorem Jcr (σ:S) (d:Option Nat) (v:V):(σ.putO d v).mem=σ.mem:=by cases d<;>rfl
theorem Jhr {E:Env} {all:List Oper} {o:Oper} {d:Dec} {σ:S} {r:V×S} (hr:(JaQ E all o).run σ=some r)
 (hf:Jb8 ((JaQ E all o).foot σ) (JaR all o) d=true):r.2.slots=σ.slots∧∀s,s∉d.wm→r.2.mem s=σ.mem s:=by
 obtain⟨h1,h2,_⟩:=(M.run_local (JaQ E all o) (σ:=σ) (τ:=σ) (fun _ _=>rfl) (fun _ _=>rfl)).2 r.1 r.2 hr;exact⟨h1,fun s hs=>h2 s fun h=>hs ((JdG.1 hf).2.2 s h)⟩
theorem Run.append {E:Env} {all:List Oper} {os:List Oper} {ds:List Dec} {σ σ1:S} (h:Run E all os ds σ σ1):
 ∀{os':List Oper} {ds':List Dec} {σ':S},Run E all os' ds' σ1 σ'→Run E all (os++os') (ds++ds') σ σ':=by
 induction h with
 | nil σ=>intro _ _ _ h;exact h
 | cons hr hf _ ih=>intro _ _ _ h;exact .cons hr hf (ih h)
theorem Run.frame {E:Env} {all:List Oper} {os:List Oper} {ds:List Dec} {σ σ':S} (h:Run E all os ds σ σ'):
 (∀t,t∉Jb9 os→σ'.slots t=σ.slots t)∧(∀s,s∉JbX ds→σ'.mem s=σ.mem s):=by
 induction h with
 | nil σ=>exact⟨fun _ _=>rfl,fun _ _=>rfl⟩
 | @cons o os d ds σ σ' r hr hf _ ih=>
  obtain⟨h1,h2⟩:=Jhr hr hf;refine⟨fun t ht=>?_,fun s hs=>?_⟩
  · have hd:o.dst≠some t∧t∉Jb9 os:=by
     unfold Jb9 at ht;split at ht
     · rename_i d hd
       simp only[List.mem_cons,not_or] at ht;exact⟨by (rw[hd];intro e;cases e;exact ht.1 rfl),ht.2⟩
     · rename_i hd;exact⟨by (rw[hd];intro e;cases e),ht⟩
    rw[ih.1 t hd.2,Jb1,if_neg hd.1,h1]
  · simp only[JbX,List.mem_append,not_or] at hs
    rw[ih.2 s hs.2,Jcr,h2 s hs.1]
def Ag (D:Drop) (τ σ:S):Prop:=
 (∀t,τ.slots t=σ.slots t∨(t∈D.s∧σ.slots t= .dead))∧(∀s,τ.mem s=σ.mem s∨(s∈D.m∧∃v,σ.mem s= .gone v∧nextVer (τ.mem s)≤v+1))
theorem Ag.refl (D:Drop) (σ:S):Ag D σ σ:=⟨fun _=>.inl rfl,fun _=>.inl rfl⟩
theorem Ag.op {E:Env} {all:List Oper} {o:Oper} {d:Dec} {D:Drop} {σ τ:S} {r:V×S} (h:Ag D τ σ) (hr:(JaQ E all o).run σ=some r)
 (hf:Jb8 ((JaQ E all o).foot σ) (JaR all o) d=true) (h1:Jcp (JaR all o) D.s=true) (h2:Jcp d.rm D.m=true):
 ∃r',(JaQ E all o).run τ=some r'∧Jb8 ((JaQ E all o).foot τ) (JaR all o) d=true∧Ag D (r'.2.putO o.dst r'.1) (r.2.putO o.dst r.1):=by
 have hf':=JdG.1 hf
 obtain⟨e1,e2⟩:=M.run_local (JaQ E all o) (σ:=σ) (τ:=τ) (fun t ht=>(h.1 t).resolve_right fun hd=>Jcq.1 h1 t (hf'.1 t ht) hd.1)
  (fun s hs=>(h.2 s).resolve_right fun hd=>Jcq.1 h2 s (hf'.2.1 s hs) hd.1)
 obtain⟨h3,h4,τ',h5,h6,h7,h8⟩:=e2 r.1 r.2 hr;refine⟨(r.1,τ'),h5,by rw[e1];exact hf,fun t=>?_,fun s=>?_⟩
 · rw[Jb1,Jb1]
   split
   · exact .inl rfl
   · show τ'.slots t=r.2.slots t∨_
     rw[h6,h3];exact h.1 t
 · rw[Jcr,Jcr]
   show τ'.mem s=r.2.mem s∨(_∧∃v,r.2.mem s= .gone v∧nextVer (τ'.mem s)≤v+1);by_cases hs:s∈((JaQ E all o).foot σ).wm
   · exact .inl (h7 s hs)
   · rw[h8 s hs,h4 s hs];exact h.2 s
theorem JiI {τ:Ty} {v:V} {x:τ.D} (h:rdV τ v=some x):v= .val τ x:=by
 unfold rdV at h;split at h
 · obtain⟨e,h⟩:=cast?_some h
   subst e;subst h;rfl
 · cases h
theorem JjG:∀(J:List (Nat×Ty)) (x:Ds (J.map (·.2))) (σ:S),(wrS J x σ).mem=σ.mem
 | [],_,_=>rfl
 | [_],_,_=>rfl
 | p::q::r,x,σ=>JjG (q::r) x.2 (σ.put p.1 (.val p.2 x.1))
theorem Jeb:∀(J:List (Nat×Ty)) (x:Ds (J.map (·.2))) (σ:S) (t:Nat),t∉J.map (·.1)→(wrS J x σ).slots t=σ.slots t
 | [],_,_,_,_=>rfl
 | [p],_,σ,t,h=>by
  simp at h;show upd σ.slots p.1 _ t=_;rw[Jad,if_neg h]
 | p::q::r,x,σ,t,h=>by
  simp only[List.map_cons,List.mem_cons,not_or] at h;have:=Jeb (q::r) x.2 (σ.put p.1 (.val p.2 x.1)) t (by simpa using h.2);show (wrS (q::r) x.2 (σ.put p.1 (.val p.2 x.1))).slots t=_;rw[this];show upd σ.slots p.1 _ t=_;rw[Jad,if_neg h.1]
theorem JiJ:∀(J:List (Nat×Ty)) (x:Ds (J.map (·.2))) (σ0 σ:S),rdS J σ=some x→∀t∈J.map (·.1),(wrS J x σ0).slots t=σ.slots t
 | [],_,_,_,_,t,ht=>by simp at ht
 | [p],x,σ0,σ,h,t,ht=>by
  simp at ht;subst ht;show upd σ0.slots p.1 _ p.1=_;rw[Jad,if_pos rfl];exact (JiI h).symm
 | p::q::r,x,σ0,σ,h,t,ht=>by
  obtain⟨x1,h1,h2⟩:=Option.bind_eq_some_iff.1 h;obtain⟨x2,h3,h4⟩:=Option.bind_eq_some_iff.1 h2;cases h4;show (wrS (q::r) x2 (σ0.put p.1 (.val p.2 x1))).slots t=_;by_cases hq:t∈(q::r).map (·.1)
  · exact JiJ (q::r) x2 _ σ h3 t hq
  · rw[Jeb (q::r) x2 _ t hq]
    have ht:t=p.1:=by
     simp only[List.map_cons,List.mem_cons] at ht hq;exact ht.resolve_right hq
    subst ht;show upd σ0.slots p.1 _ p.1=_;rw[Jad,if_pos rfl];exact (JiI h1).symm
theorem JiK (σ:S) (g:Nat) (v:V) (h:σ.slots g=v):σ.put g v=σ:=by
 have:upd σ.slots g v=σ.slots:=by
  funext t;rw[Jad];split
  · rename_i e;subst e;exact h.symm
  · rfl
 show ({σ with slots:=upd σ.slots g v}:S)=σ
 rw[this]
theorem Ag.join {J:List (Nat×Ty)} {D D':Drop} {E:Env} {all os:List Oper} {ds:List Dec} {σ τ σ' τ':S} {x:Ds (J.map (·.2))} (h:Ag D τ σ) (hr:Run E all os ds τ τ')
 (h':Ag D' τ' σ') (hx:rdJ J (JbX ds) σ σ'=some x):
 Ag ⟨JeO (Jb9 os++D.s) (J.map (·.1)),JbX ds++D.m⟩ τ' (wrS J x (JmH (Jb9 os) (JbX ds) σ)):=by
 unfold rdJ at hx;cases hv:(JbX ds).all (fun s=>Nat.ble (nextVer (σ'.mem s)) (nextVer (σ.mem s)+1)) with
 | false=>rw[hv] at hx;cases hx
 | true=>
  rw[hv] at hx;have hx:rdS J σ'=some x:=hx;refine⟨fun t=>?_,fun s=>?_⟩
  · by_cases ht:t∈J.map (·.1)
    · rw[JiJ J x _ σ' hx t ht]
      rcases h'.1 t with e | ⟨_,e⟩
      · exact .inl e
      · exfalso
        have:=JiJ J x S.bare σ' hx t ht;rw[e] at this;revert this
        have:∀(J:List (Nat×Ty)) (x:Ds (J.map (·.2))) (σ0:S),t∈J.map (·.1)→(wrS J x σ0).slots t≠ .dead:=by
         intro J
         induction J with
         | nil=>intro _ _ h;simp at h
         | cons p r ih=>
          intro x σ0 h;cases r with
          | nil=>
           simp at h;subst h;show upd σ0.slots p.1 _ p.1≠_;rw[Jad,if_pos rfl];intro e;cases e
          | cons q r=>
           show (wrS (q::r) x.2 (σ0.put p.1 (.val p.2 x.1))).slots t≠_;by_cases hq:t∈(q::r).map (·.1)
           · exact ih x.2 _ hq
           · rw[Jeb (q::r) x.2 _ t hq]
             have ht:t=p.1:=by
                  simp only[List.map_cons,List.mem_cons] at h hq;exact h.resolve_right hq
             subst ht;show upd σ0.slots p.1 _ p.1≠_;rw[Jad,if_pos rfl];intro e;cases e
        exact this J x S.bare ht
    · rw[Jeb J x _ t ht]
      show τ'.slots t=(bif Jan t (Jb9 os) then V.dead else σ.slots t)∨(_∧(bif Jan t (Jb9 os) then V.dead else σ.slots t)= .dead);cases hm:Jan t (Jb9 os) with
      | true=>exact .inr ⟨Jea.2 ⟨List.mem_append_left _ (JaH.1 hm),ht⟩,rfl⟩
      | false=>
       rw[hr.frame.1 t (Jbo.1 hm)];exact (h.1 t).imp id fun ⟨h1,h2⟩=>⟨Jea.2 ⟨List.mem_append_right _ h1,ht⟩,h2⟩
  · rw[JjG]
    show τ'.mem s=(bif Jan s (JbX ds) then Entry.gone (nextVer (σ.mem s)) else σ.mem s) ∨
     (_∧∃v,(bif Jan s (JbX ds) then Entry.gone (nextVer (σ.mem s)) else σ.mem s)= .gone v∧nextVer (τ'.mem s)≤v+1)
    cases hm:Jan s (JbX ds) with
    | true=>
     have hm:=JaH.1 hm;refine .inr ⟨List.mem_append_left _ hm,_,rfl,?_⟩;have h1:nextVer (σ'.mem s)≤nextVer (σ.mem s)+1:=Nat.le_of_ble_eq_true (List.all_eq_true.1 hv s hm);rcases h'.2 s with e | ⟨_,v,e1,e2⟩
     · rw[e];exact h1
     · rw[e1] at h1;exact Nat.le_trans e2 h1
    | false=>
     rw[hr.frame.2 s (Jbo.1 hm)];exact (h.2 s).imp id fun ⟨h1,h2⟩=>⟨List.mem_append_right _ h1,h2⟩
theorem JbT {E:Env} {all:List Oper}:∀(seg:Seg) (os:List Oper) (D:Drop) (σ:S) {R:Type} (K:Drop→S→Option R) (r:R) (τ:S),evC E all seg os D σ K=some r→Ag D τ σ →
 ∃σ' τ' D',K D' σ'=some r∧seg.decs.length≤os.length∧Run E all (os.take seg.decs.length) seg.decs τ τ'∧Ag D' τ' σ'
 | .done,os,D,σ,R,K,r,τ,h,ha=>⟨σ,τ,D,by simpa [evC] using h,by simp[Seg.decs],by simpa [Seg.decs] using Run.nil τ,ha⟩
 | .op d s,[],D,σ,R,K,r,τ,h,ha=>by simp[evC] at h
 | .op d s,o::os,D,σ,R,K,r,τ,h,ha=>by
  unfold evC at h;cases hc:Jb8 ((JaQ E all o).foot σ) (JaR all o) d&&(Jcp (JaR all o) D.s&&Jcp d.rm D.m) with
  | false=>rw[hc] at h;cases h
  | true=>
   rw[hc] at h;simp only[Bool.and_eq_true] at hc;obtain⟨h1,h2,h3⟩:=hc;simp only[cond_true,M.runK_eq] at h;obtain⟨q,h4,h5⟩:=Option.bind_eq_some_iff.1 h;obtain⟨q',h6,h7,h8⟩:=ha.op h4 h1 h2 h3;obtain⟨σ',τ',D',e1,e2,e3,e4⟩:=JbT s os D _ K r _ h5 h8;refine⟨σ',τ',D',e1,by simpa [Seg.decs] using e2,?_,e4⟩;simp only[Seg.decs,List.length_cons,List.take_succ_cons];exact .cons h6 h7 e3
 | .split g J b s,os,D,σ,R,K,r,τ,h,ha=>by
  have fin:∀{σ1 τ1:S} {D1:Drop},b.decs.length≤os.length→Run E all (os.take b.decs.length) b.decs τ τ1→Ag D1 τ1 σ1→evC E all s (os.drop b.decs.length) D1 σ1 K=some r →
   ∃σ' τ' D',K D' σ'=some r∧(Seg.split g J b s).decs.length≤os.length∧Run E all (os.take (Seg.split g J b s).decs.length) (Seg.split g J b s).decs τ τ'∧Ag D' τ' σ':=by
   intro σ1 τ1 D1 e2 e3 e4 h2;obtain⟨σ',τ',D',f1,f2,f3,f4⟩:=JbT s _ _ _ K r τ1 h2 e4;refine⟨σ',τ',D',f1,?_,?_,f4⟩
   · simp only[Seg.decs,List.length_append,List.length_drop] at f2 ⊢;omega
   · simp only[Seg.decs,List.length_append]
     rw[List.take_add];exact e3.append f3
  unfold evC at h;split at h
  · rename_i c hc
    obtain⟨x,h1,h2⟩:=Option.bind_eq_some_iff.1 h
    have h1:evC E all b os D σ (fun _=>rdJ J (JbX b.decs) σ)=some x:=by
     cases c
     · simpa [JiK σ g _ hc] using h1
     · simpa [JiK σ g _ hc] using h1
    obtain⟨σ1,τ1,D1,e1,e2,e3,e4⟩:=JbT b os D σ _ x τ h1 ha;exact fin e2 e3 (ha.join e3 e4 e1) h2
  · obtain⟨σ1,τ1,D1,e1,e2,e3,e4⟩:=JbT b os D σ _ r τ h ha
    exact fin e2 e3 e4 e1
  · cases h
end Go.Re
namespace Go.Re
set_option linter.unusedVariables false
set_option linter.unusedSimpArgs false
def Jff (e e1:Entry):Entry:=
 match e,e1 with
 | .own v τ xs m,.own _ τ' ys _=>if h:τ'=τ then .own v τ (xs++((h▸ys:List τ.D).getLast?).toList) m else e
 | _,_=>e
theorem JeT {v v':Nat} {τ:Ty} {xs ys:List τ.D} {p:τ.D} {m m':Mode}:Jff (.own v τ xs m) (.own v' τ (ys++[p]) m')= .own v τ (xs++[p]) m:=by
 simp[Jff]
open Classical in
noncomputable def JaL (L W I:Nat→Prop) (h:Nat→Entry):Nat→Entry
 | 0=>h 0
 | i+1=>if L i∧W i then (if I i then Jff (JaL L W I h i) (h (i+1)) else h (i+1)) else JaL L W I h i
structure AddsR (n:Nat) (W I:Nat→Prop) (h:Nat→Entry):Prop where
 keep:∀i,i<n→¬W i→h (i+1)=h i
 wr:∀i,I i→W i
 add:∀i,i<n→I i→∃v τ xs p,h i= .own v τ xs .bg∧h (i+1)= .own v τ (xs++[p]) .bg
section
variable {n:Nat} {L L' W I:Nat→Prop} {h:Nat→Entry}
open Classical in
theorem JeU (hA:AddsR n W I h):∀(m:Nat),m≤n→(∀i,i<m→W i→L i)→JaL L W I h m=h m
 | 0,_,_=>rfl
 | m+1,hm,h1=>by
  unfold JaL;have ih:=JeU hA m (by omega) fun i hi=>h1 i (by omega);by_cases hw:W m
  · rw[if_pos ⟨h1 m (by omega) hw,hw⟩]
    by_cases hi:I m
    · rw[if_pos hi,ih]
      obtain⟨v,τ,xs,p,e1,e2⟩:=hA.add m (by omega) hi;rw[e1,e2,JeT]
    · rw[if_neg hi]
  · rw[if_neg (fun e=>hw e.2),ih,hA.keep m (by omega) hw]
open Classical in
theorem JcX {j:Nat}:∀(m:Nat),j≤m→(∀i,j≤i→i<m→W i→¬L i)→JaL L W I h m=JaL L W I h j
 | 0,hj,_=>by have:j=0:=by omega
              subst this;rfl
 | m+1,hj,h1=>by
  by_cases e:j=m+1
  · subst e;rfl
  · show (if L m∧W m then _ else JaL L W I h m)=_
    rw[if_neg (fun e'=>h1 m (by omega) (by omega) e'.2 e'.1)];exact JcX m (by omega) fun i h2 h3=>h1 i h2 (by omega)
open Classical in
theorem Jdj:∀(m:Nat),(∀i,i<m→W i→(L i↔L' i))→JaL L W I h m=JaL L' W I h m
 | 0,_=>rfl
 | m+1,h1=>by
  unfold JaL;rw[Jdj m fun i hi=>h1 i (by omega)];by_cases hw:W m
  · by_cases hl:L m
    · have hl':=(h1 m (by omega) hw).1 hl
      simp only[hl,hw,hl',and_self,if_true]
    · have hl':¬L' m:=fun h=>hl ((h1 m (by omega) hw).2 h)
      simp only[hl,hl',false_and,if_false]
  · simp only[hw,and_false,if_false]
open Classical in
theorem Jjl {j m:Nat} (hj:j<m) (h1:L j) (h2:W j) (h4:¬I j) (h3:∀i,j<i→i<m→W i→¬L i):JaL L W I h m=h (j+1):=by
 rw[JcX (j:=j+1) m hj fun i hi=>h3 i hi];unfold JaL;rw[if_pos ⟨h1,h2⟩,if_neg h4]
theorem JkH {v:Nat} {τ:Ty} {xs:List τ.D} (e1:Entry):∃ys,Jff (.own v τ xs .bg) e1= .own v τ ys .bg:=by
 cases e1 with
 | own v' τ' ys m=>
  unfold Jff;by_cases h:τ'=τ
  · subst h;exact⟨xs++ys.getLast?.toList,by simp only[dif_pos]⟩
  · exact⟨xs,by simp only[dif_neg h]⟩
 | _=>exact⟨xs,rfl⟩
open Classical in
theorem Jei (hA:AddsR n W I h):∀(m:Nat),m≤n→(∀i,i<m→W i→¬I i→L i)→∀{v τ xs},h m= .own v τ xs .bg→∃ys,JaL L W I h m= .own v τ ys .bg
 | 0,_,_,v,τ,xs,e=>⟨xs,e⟩
 | m+1,hm,h1,v,τ,xs,e=>by
  unfold JaL;by_cases hw:W m
  · by_cases hi:I m
    · obtain⟨v',τ',xs',p,e1,e2⟩:=hA.add m (by omega) hi
      rw[e] at e2;cases e2;obtain⟨ys,h2⟩:=Jei hA m (by omega) (fun i hi=>h1 i (by omega)) e1;by_cases hl:L m
      · rw[if_pos ⟨hl,hw⟩,if_pos hi,h2]
        exact JkH _
      · rw[if_neg (fun e=>hl e.1)];exact⟨ys,h2⟩
    · rw[if_pos ⟨h1 m (by omega) hw hi,hw⟩,if_neg hi];exact⟨xs,e⟩
  · rw[if_neg (fun e=>hw e.2)]
    rw[hA.keep m (by omega) hw] at e;exact Jei hA m (by omega) (fun i hi=>h1 i (by omega)) e
theorem Jha {α:Type} {zs zs':List α} {p q:α} (h:zs'.Perm (zs++[p])):(zs'++[q]).Perm ((zs++[q])++[p]):=by
 refine (h.append_right [q]).trans ?_;rw[List.append_assoc,List.append_assoc];exact List.Perm.append_left _ (List.Perm.swap _ _ _)
open Classical in
theorem Jhs (hA:AddsR n W I h) {i:Nat} (hi:i<n) (hI:I i) (hn:¬L i) (hL:∀k,L' k↔L k∨k=i) (h1:∀k,i<k→k<n→W k→L k→I k)
 {v:Nat} {τ:Ty} {xs:List τ.D} {p:τ.D} (hp:h (i+1)= .own v τ (xs++[p]) .bg) (hs:∃ys,JaL L W I h i= .own v τ ys .bg):
 ∀(m:Nat),i<m→m≤n→∃zs zs',JaL L W I h m= .own v τ zs .bg∧JaL L' W I h m= .own v τ zs' .bg∧zs'.Perm (zs++[p])
 | 0,hm,_=>by omega
 | m+1,hm,hmn=>by
  have hst:∀(k:Nat),JaL L W I h (k+1)=if L k∧W k then (if I k then Jff (JaL L W I h k) (h (k+1)) else h (k+1)) else JaL L W I h k:=fun _=>rfl
  have hst':∀(k:Nat),JaL L' W I h (k+1)=if L' k∧W k then (if I k then Jff (JaL L' W I h k) (h (k+1)) else h (k+1)) else JaL L' W I h k:=fun _=>rfl
  rcases Nat.eq_or_lt_of_le (Nat.lt_succ_iff.1 hm) with e | hlt
  · subst e
    obtain⟨ys,hy⟩:=hs
    have e':JaL L' W I h i=JaL L W I h i:=Jdj i fun k hk _=>by
     rw[hL];constructor
     · rintro (h | h)
       · exact h
       · omega
     · exact .inl
    refine⟨ys,ys++[p],?_,?_,List.Perm.refl _⟩
    · rw[hst,if_neg (fun e=>hn e.1),hy]
    · rw[hst',if_pos ⟨(hL i).2 (.inr rfl),hA.wr i hI⟩,if_pos hI,e',hy,hp,JeT]
  · obtain⟨zs,zs',q1,q2,q3⟩:=Jhs hA hi hI hn hL h1 hp hs m hlt (by omega)
    by_cases hlw:L m∧W m
    · have hIm:=h1 m hlt (by omega) hlw.2 hlw.1
      obtain⟨v2,τ2,ys2,p2,e1,e2⟩:=hA.add m (by omega) hIm;have hlw':L' m∧W m:=⟨(hL m).2 (.inl hlw.1),hlw.2⟩;rw[hst,hst',if_pos hlw,if_pos hlw',if_pos hIm,if_pos hIm,q1,q2,e2];by_cases ht:τ2=τ
      · subst ht
        rw[JeT,JeT];exact⟨_,_,rfl,rfl,Jha q3⟩
      · refine⟨zs,zs',?_,?_,q3⟩<;>simp only[Jff,dif_neg ht]
    · have hlw':¬(L' m∧W m):=fun e=>by
       rcases (hL m).1 e.1 with h2 | h2
       · exact hlw ⟨h2,e.2⟩
       · omega
      rw[hst,hst',if_neg hlw,if_neg hlw'];exact⟨zs,zs',q1,q2,q3⟩
end
def JcG (e e':Entry):Prop:=e=e'∨∃v τ xs ys,e= .own v τ xs .bg∧e'= .own v τ ys .bg∧xs.Perm ys
def Jgw (σ σ':S):Prop:=σ.slots=σ'.slots∧∀s,JcG (σ.mem s) (σ'.mem s)
theorem Jgw.refl (σ:S):Jgw σ σ:=⟨rfl,fun _=>.inl rfl⟩
theorem JcG.nextVer {e e':Entry} (h:JcG e e'):nextVer e=nextVer e':=by
 rcases h with h | ⟨v,τ,xs,ys,rfl,rfl,_⟩
 · rw[h]
 · rfl
theorem JcG.box {e e':Entry} (h:JcG e e') {v:Nat} {τ:Ty} {x:τ.D} (he:e'= .box v τ x):e= .box v τ x:=by
 rcases h with h | ⟨v,τ,xs,ys,rfl,rfl,_⟩
 · rw[h,he]
 · cases he
theorem JcG.vb {e e':Entry} (h:JcG e e') {v:Nat} {τ:Ty} {x:V} (he:e'= .vb v τ x):e= .vb v τ x:=by
 rcases h with h | ⟨v,τ,xs,ys,rfl,rfl,_⟩
 · rw[h,he]
 · cases he
theorem JcG.own {e e':Entry} (h:JcG e e') {v:Nat} {τ:Ty} {xs:List τ.D} {m:Mode} (he:e'= .own v τ xs m):∃ys,e= .own v τ ys m∧ys.length=xs.length∧(m.isMp=false→ys=xs):=by
 rcases h with h | ⟨v',τ',xs',ys',rfl,rfl,hp⟩
 · exact⟨xs,by rw[h,he],rfl,fun _=>rfl⟩
 · cases he;exact⟨xs',rfl,hp.length_eq,fun h=>by cases h⟩
section
variable {P:Program} {E:Env} {N:Nat} {Z:Base} {own:Own} {β:Jai} {σ σ':S} {a:Act} {w:World}
theorem Jac.perm {mem mem':Nat→Entry} (hm:∀s,JcG (mem s) (mem' s)):∀{v:V} {u:Value},Jac own w β mem v u→Jac own w β mem' v u
 | .dead,_,_=>trivial
 | .val τ x,_,h=>h
 | .nil,_,h=>h
 | .ptr s ver p,_,⟨h1,h2⟩=>⟨(hm s).nextVer▸h1,fun τ x h=>h2 τ x ((hm s).box h)⟩
 | .ref s ver,_,⟨h1,h2⟩=>⟨(hm s).nextVer▸h1,fun τ xs m h=>let ⟨ys,e,_⟩:=(hm s).own h;h2 τ ys m e⟩
 | .elp s ver i p,_,⟨h1,h2⟩=>⟨(hm s).nextVer▸h1,fun τ xs m h=>let ⟨ys,e,e',_⟩:=(hm s).own h;e'▸h2 τ ys m e⟩
 | .rpt τ x,_,h=>h
 | .nilq _ _,_,h=>h
 | .win s ver lo,_,⟨h1,h2⟩=>⟨(hm s).nextVer▸h1,fun τ xs m h hmp=>let ⟨ys,e,e',_⟩:=(hm s).own h;e'▸h2 τ ys m e hmp⟩
 | .pre s ver hi,_,⟨h1,h2⟩=>⟨(hm s).nextVer▸h1,fun τ xs m h hmp=>let ⟨ys,e,e',_⟩:=(hm s).own h;e'▸h2 τ ys m e hmp⟩
 | .plist t,_,⟨us,b,o,h1,h0,h2,h3⟩=>⟨us,b,o,h1,h0,h2,Jac.perm hm h3⟩
 | .pel x,_,⟨b,o,u,h1,h2,h3,h4⟩=>⟨b,o,u,h1,h2,h3,Jac.perm hm h4⟩
 | .clo g t,_,⟨us,h1,h2⟩=>⟨us,h1,Jac.perm hm h2⟩
 | .zval τ x z,_,h=>h
 | .tnil,_,h=>h
 | .tcons x r,_,⟨u,us,h1,h2,h3⟩=>⟨u,us,h1,Jac.perm hm h2,Jac.perm hm h3⟩
 | .agg b t,_,⟨us,h1,h2,h3⟩=>⟨us,h1,h2,Jac.perm hm h3⟩
 | .asl n e x,_,⟨ad,h1,h2⟩=>⟨ad,h1,Jac.perm hm h2⟩
 | .vpt s ver p,_,⟨h1,h2⟩=>⟨(hm s).nextVer▸h1,fun τ x h=>h2 τ x ((hm s).vb h)⟩
theorem BagR.perm {K V:Ty} {es:Array MapEntry} {c:Nat} {xs ys:List (K.D×V.D)} (hp:xs.Perm ys) (h:BagR K V es c xs):BagR K V es c ys where
 plain:=h.plain
 old:=h.old
 born:=h.born
 keys:=h.keys
 mem e he:=let ⟨p,h1,h2⟩:=h.mem e he;⟨p,hp.mem_iff.1 h1,h2⟩
 dom p h1:=h.dom p (hp.mem_iff.2 h1)
 ok p h1:=h.ok p (hp.mem_iff.2 h1)
theorem Jaj.perm {s:Nat} {e e':Entry} (hp:JcG e e') (h:Jaj Z own w β s e):Jaj Z own w β s e':=by
 rcases hp with hp | ⟨v,τ,xs,ys,rfl,rfl,hp⟩
 · exact hp▸h
 · cases τ with
   | pair K V=>
    obtain⟨r,es,c,h1,h2,h3,h4,h5⟩:=h;exact⟨r,es,c,h1,h2,h3,h4,BagR.perm (K:=K) (V:=V) hp h5⟩
   | _=>exact h.elim
theorem Jht (τ:Ty) (x:τ.D):∀(l:List τ.D),(x::l).Perm (JkE τ x l)
 | []=>List.Perm.refl _
 | y::r=>by
  unfold JkE;cases leL (Jf3 τ x) (Jf3 τ y) with
  | true=>exact List.Perm.refl _
  | false=>exact (List.Perm.swap y x r).trans ((Jht τ x r).cons y)
theorem Jhu (τ:Ty):∀(l:List τ.D),l.Perm (Jmi τ l)
 | []=>List.Perm.refl _
 | x::r=>((Jhu τ r).cons x).trans (Jht τ x _)
theorem Jli (e:Ty) (m:Mode):Jfu e m []=[]:=by cases m<;>rfl
theorem Jaj.cano {s v:Nat} {e:Ty} {m:Mode} {xs:List e.D} (h:Jaj Z own w β s (.own v e xs m)):Jaj Z own w β s (.own v e (Jfu e m xs) m):=by
 cases m with
 | bg=>exact h.perm (.inr ⟨v,e,xs,_,rfl,rfl,Jhu e xs⟩)
 | _=>exact h
theorem St.perm (h:St N Z own β σ a w) (hp:Jgw σ σ'):St N Z own β σ' a w where
 frame:=h.frame
 old:=h.old
 size:=h.size
 defers:=h.defers
 slots t:=by rw[←hp.1];exact (h.slots t).perm hp.2
 mems s:=(h.mems s).perm (hp.2 s)
 pins s u hu h0:=by
  refine h.pins s u hu ?_;rcases hp.2 s with e | ⟨v,τ,xs,ys,e1,e2,_⟩
  · rw[e];exact h0
  · rw[e2] at h0
    rw[e1];cases v with
    | zero=>rfl
    | succ v=>cases h0
 kept:=h.kept
 cells s:=by
  cases hx:σ'.mem s with
  | vb ver τ v=>
   have hc:=h.cells s;rw[(hp.2 s).vb hx] at hc;obtain⟨b,o,u,h1,h2,h3,h4⟩:=hc;exact⟨b,o,u,h1,h2,h3,h4.perm hp.2⟩
  | _=>trivial
def opV (σ:S):Operand→Option V
 | .tmp t=>some (σ.slots t)
 | .const v=>some (JcO v)
 | .func f=>some (.clo f .tnil)
 | _=>none
theorem JdL {α:Type} (x:Operand) (k:V→M α) (σ:S):(rd x k).run σ=(opV σ x).bind fun v=>(k v).run σ:=by
 cases x<;>rfl
theorem Jf6 {α:Type} {x:Operand} {k:V→M α} {σ:S} {v:V} (h:opV σ x=some v):((rd x k).foot σ).rm=((k v).foot σ).rm∧((rd x k).foot σ).wm=((k v).foot σ).wm:=by
 cases x<;>first | (cases h;exact⟨rfl,rfl⟩) | cases h
theorem JiL {σ τ:S} {x:Operand} {l:List Nat} (hl:∀t,x= .tmp t→t∈l) (h:∀t∈l,τ.slots t=σ.slots t):opV τ x=opV σ x:=by
 cases x with
 | tmp t=>simp[opV,h t (hl t rfl)]
 | _=>rfl
theorem JkI {K V:Ty} {vm vk vx:Re.V} {σ:S} {r:Re.V×S} (h:(Jdh K V vm vk vx).run σ=some r):
 ∃s ver xs p,σ.mem s= .own ver (.pair K V) xs .bg∧r=(.dead,σ.set s (.own ver (.pair K V) (xs++[p]) .bg))∧s∈((Jdh K V vm vk vx).foot σ).rm ∧
  ∀(τ:S) (zs:List (Ty.pair K V).D),τ.mem s= .own ver (.pair K V) zs .bg→(Jdh K V vm vk vx).run τ=some (.dead,τ.set s (.own ver (.pair K V) (zs++[p]) .bg)):=by
 unfold Jdh at h;split at h
 case h_2=>cases h
 rename_i s ver τk k τx x;simp only[M.run] at h;split at h
 case h_2=>cases h
 rename_i ver' e' xs hen;split at h
 case isFalse=>cases h
 rename_i hver;split at h
 case h_2=>cases h
 rename_i xs' k' x' hxs hkk hxx;obtain⟨e1,hxs'⟩:=cast?_some hxs;cases e1;have hxs':xs=xs':=hxs';subst hxs';obtain⟨_,hc,h9⟩:=Option.map_eq_some_iff.1 h;subst h9;obtain⟨hv,hK,he⟩:=hver;subst hv;refine⟨s,ver,xs,(k',x'),hen,rfl,List.mem_cons_self,fun τ zs hz=>?_⟩;unfold Jdh;have hz':cast? (.sl (.pair K V)) (.sl (.pair K V)) zs=some zs:=by unfold cast?;rw[dif_pos rfl]
 simp only[M.run,hz,hz',hkk,hxx,hK,he,and_self,if_true];rfl
theorem JjH {all:List Oper} {o:Oper} {d:Dec} {σ:S} {r:V×S} (hi:JaG o d=true) (hr:(JaQ E all o).run σ=some r) (hf:Jb8 ((JaQ E all o).foot σ) (JaR all o) d=true):
 o.dst=none∧∃s ver τ xs p,d.rm=[s]∧d.wm=[s]∧σ.mem s= .own ver τ xs .bg∧r=(.dead,σ.set s (.own ver τ (xs++[p]) .bg)) ∧
  ∀(ρ:S) (zs:List τ.D),(∀t∈JaR all o,ρ.slots t=σ.slots t)→ρ.mem s= .own ver τ zs .bg→(JaQ E all o).run ρ=some (.dead,ρ.set s (.own ver τ (zs++[p]) .bg)):=by
 unfold JaG at hi;split at hi
 case h_2=>cases hi
 rename_i t m k x s s' ho hrm hwm;simp only[Bool.and_eq_true,Option.isNone_iff_eq_none] at hi;obtain⟨hd,hg,hs⟩:=hi;have hs:=Nat.eq_of_beq_eq_true hs;subst hs;refine⟨hd,?_⟩;have hgo:∀ρ:S,JaQ E all o=opM E o:=fun ρ=>by unfold JaQ;rw[hg]
 rw[hgo σ] at hr hf;have hlk:JaR all o=JcS o.op.operands.toList:=by unfold JaR;rw[hg]
 have hops:∀y,y=m∨y=k∨y=x→∀t',y= .tmp t'→t'∈JaR all o:=by
  intro y hy t' ht';rw[hlk,ho];subst ht'
  have:Operand.tmp t'∈(Op.insert t m k x).operands.toList:=by
   simp only[Op.operands];simp;rcases hy with h | h | h<;>simp[h]
  have key:∀(l:List Operand),Operand.tmp t'∈l→t'∈JcS l:=by
   intro l
   induction l with
   | nil=>simp
   | cons a l ih=>
    intro hm;cases a with
    | tmp u=>
     simp only[JcS,List.mem_cons];rcases List.mem_cons.1 hm with h | h
     · cases h;exact .inl rfl
     · exact .inr (ih h)
    | _=>
     simp only[JcS];rcases List.mem_cons.1 hm with h | h
     · cases h
     · exact ih h
  exact key _ this
 cases hmt:E.mpt t with
 | none=>
  unfold opM at hr;simp only[ho,hmt,M.run] at hr;cases hr
 | some KV=>
  obtain⟨K,V⟩:=KV;cases K with
  | st b=>
   have hop:opM E o=(rd m fun vm=>rd k fun vk=>rd x fun vx=>Jdh (.st b) V vm vk vx):=by
    unfold opM;simp only[ho,hmt]
   rw[hop] at hr hf;rw[JdL] at hr;obtain⟨vm,hvm,hr⟩:=Option.bind_eq_some_iff.1 hr;rw[JdL] at hr;obtain⟨vk,hvk,hr⟩:=Option.bind_eq_some_iff.1 hr;rw[JdL] at hr;obtain⟨vx,hvx,hr⟩:=Option.bind_eq_some_iff.1 hr;obtain⟨s1,ver,xs,p,q1,q2,q3,q4⟩:=JkI hr;have hfo:=(JdG.1 hf).2.1;rw[(Jf6 hvm).1,(Jf6 hvk).1,(Jf6 hvx).1,hrm] at hfo;have:s1=s:=by simpa using hfo s1 q3
   subst this;refine⟨s1,ver,_,xs,p,hrm,hwm,q1,q2,fun ρ zs h1 h2=>?_⟩;rw[hgo ρ,hop,JdL,JiL (hops m (.inl rfl)) h1,hvm,Option.bind_some,JdL,JiL (hops k (.inr (.inl rfl))) h1,hvk,Option.bind_some,JdL,JiL (hops x (.inr (.inr rfl))) h1,hvx,Option.bind_some];exact q4 ρ zs h2
  | _=>
   unfold opM at hr;simp only[ho,hmt,M.run] at hr;cases hr
end
end Go.Re
namespace Go.Re
set_option linter.unusedVariables false
set_option linter.unusedSimpArgs false
theorem JcL:∀x,shO 0 x=x
 | .tmp _=>rfl
 | .const _=>rfl
 | .global _=>rfl
 | .func _=>rfl
theorem Jhv:shO 0=id:=funext JcL
theorem JeV (l:Array Operand):shA 0 l=l:=by unfold shA;rw[Jhv];simp
theorem Jmm (l:Array (Nat×Operand)):shP 0 l=l:=by
 unfold shP;have:(fun p:Nat×Operand=>(p.1,shO 0 p.2))=id:=funext fun p=>by rw[JcL];rfl
 rw[this];simp
theorem Jlj (o:Op):JdT 0 o=o:=by
 cases o with
 | call c=>obtain⟨cal,as,ts⟩:=c;cases cal<;>simp[JdT,JcD,JeN,JcL,JeV]
 | go c=>obtain⟨cal,as,ts⟩:=c;cases cal<;>simp[JdT,JcD,JeN,JcL,JeV]
 | defer c=>obtain⟨cal,as,ts⟩:=c;cases cal<;>simp[JdT,JcD,JeN,JcL,JeV]
 | _=>simp[JdT,JcL,JeV,Jmm,Jhv]
theorem Jjm (o:Oper):Ja7 0 o=o:=by
 obtain⟨d,op,t,p,a,g⟩:=o;simp[Ja7,Jlj]
theorem JkJ (ops:Array Oper):JaA 0 ops=ops:=by
 unfold JaA;have:Ja7 0=id:=funext Jjm;rw[this];simp
theorem Jmn (c:Code):shC 0 c=c:=by
 induction c with
 | region id ops draw=>simp[shC,JkJ]
 | seq x y h1 h2=>simp[shC,h1,h2]
 | cond c x y h1 h2=>simp[shC,h1,h2,JcL]
 | block id x h=>simp[shC,h]
 | loop x h=>simp[shC,h]
 | scope x h=>simp[shC,h]
 | _=>rfl
def JaI (pre:Array Value) (a:Act):Act:={tmps:=pre++a.tmps,defers:=a.defers}
theorem Jdp (pre:Array Value) (a:Act) (x:Operand):(JaI pre a).eval (shO pre.size x)=a.eval x:=by
 cases x with
 | tmp t=>
  show (pre++a.tmps).getD (t+pre.size) undef=a.tmps.getD t undef;rw[Array.getD_eq_getD_getElem?,Array.getD_eq_getD_getElem?,Array.getElem?_append_right (by omega)]
  congr 2
  omega
 | _=>rfl
theorem Jdc (pre:Array Value) (a:Act) (d:Option Nat) (v:Value):(JaI pre a).put (d.map (·+pre.size)) v=JaI pre (a.put d v):=by
 cases d with
 | none=>rfl
 | some d=>
  show ({tmps:=(pre++a.tmps).setIfInBounds (d+pre.size) v,defers:=a.defers}:Act)={tmps:=pre++a.tmps.setIfInBounds d v,defers:=a.defers}
  congr 1
  rw[Array.setIfInBounds_append_right (by omega)]
  congr 2
  omega
theorem JiM (a:Act):JaI #[] a=a:=by unfold JaI;simp
theorem JiN {ρ ρ':Operand→Value} {k:Nat} (h:∀x,ρ' (shO k x)=ρ x) (o:Oper) (hs:∀cs b,o.op≠ .select cs b):execOp ρ' (Ja7 k o)=execOp ρ o:=by
 have hA:∀l:Array Operand,(shA k l).map ρ'=l.map ρ:=fun l=>by
  apply Array.ext';simp only[shA,Array.toList_map,List.map_map];apply List.map_congr_left;intro x _;exact h x
 have hP:∀l:Array (Nat×Operand),(shP k l).map (fun p=>(p.1,ρ' p.2))=l.map (fun p=>(p.1,ρ p.2)):=fun l=>by
  apply Array.ext';simp only[shP,Array.toList_map,List.map_map];apply List.map_congr_left;intro x _;simp[h]
 have hC:∀(f:Operand→Bool),(∀x,f (shO k x)=f x)→∀l:Array Operand,(shA k l).map f=l.map f:=fun f hf l=>by
  apply Array.ext';simp only[shA,Array.toList_map,List.map_map];apply List.map_congr_left;intro x _;exact hf x
 have hO:∀x:Option Operand,(x.map (shO k)).map ρ'=x.map ρ:=fun x=>by cases x<;>simp[h]
 have hR:∀(c:Call) (t:TypeId),resolve ρ' (JcD k c) t=resolve ρ c t:=by
  intro c t;obtain⟨cal,as,ts⟩:=c;cases cal with
  | value f=>simp only[resolve,JcD,JeN,hA,h]
  | invoke r m=>simp only[resolve,JcD,JeN,hA,h]
  | builtin b=>
   simp only[resolve,JcD,JeN,hA];rw[hC _ (fun x=>by cases x<;>rfl)]
 obtain⟨d,op,t,pos,after,guard⟩:=o;cases op with
 | select cs b=>exact absurd rfl (hs cs b)
 | binOp op xt x y yt=>
  simp only[execOp,Ja7,JdT,h]
  have:eqGuard op xt (shO k x) (shO k y) (ρ x) (ρ y)=eqGuard op xt x y (ρ x) (ρ y):=by
   cases x<;>cases y<;>rfl
  rw[this]
 | build t ps=>simp only[execOp,Ja7,JdT];rw[hP]
 | buildSlice t n ps=>simp only[execOp,Ja7,JdT];rw[hP]
 | _=>simp only[execOp,Ja7,JdT,h,hA,hO,hR]
def JeW (Q:Exit→Act→World→Prop):Prop:=∀a w,¬Q .outgrown a w
section
variable {P:Program} {pre:Array Value}
def Jfy (pre:Array Value) (Q:Exit→Act→World→Prop):Exit→Act→World→Prop:=fun e a w=>Q e (JaI pre a) w
theorem JeW.lets {Q:Exit→Act→World→Prop} (h:JeW Q):¬LetsOut Q:=fun ⟨a,w,k⟩=>h a w k
theorem JkK {o:Oper} (hs:∀cs b,o.op≠ .select cs b) {a:Act} {w:World} {next:Act→World→Prop} {Q:Exit→Act→World→Prop} (hQ:JeW Q)
 (h:(Ja7 pre.size o).wp P (JaI pre a) w next Q):o.wp P a w (fun a' w'=>next (JaI pre a') w') (Jfy pre Q):=by
 unfold Oper.wp at h ⊢;rw[JiN (Jdp pre a) o hs] at h
 generalize (execOp a.eval o).run P w=r at h ⊢
 have hd:(Ja7 pre.size o).dst=o.dst.map (·+pre.size):=rfl;cases r with
 | ok n w'=>
  cases n with
  | value v=>simp only[Oper.upon,hd,Jdc] at h ⊢;exact h
  | skip=>simp only[Oper.upon,hd,Jdc] at h ⊢;exact h
  | defer d=>
   simp only[Oper.upon,hd] at h ⊢;have:=Jdc pre {a with defers:=d::a.defers} o.dst undef
   rw[←this];exact h
  | enter f args=>
   simp only[Oper.upon,hd] at h ⊢;refine Calls.mono h fun e w'' he=>?_;cases e with
   | returned v=>
    show next (JaI pre (a.put o.dst v)) w''
    rw[←Jdc];exact he
   | panicked chain=>exact he
   | outgrown=>exact absurd he hQ.lets
  | row row args=>
   simp only[Oper.upon,hd] at h ⊢;exact Rows.mono h fun v w'' he=>by rw[←Jdc];exact he
  | _=>simp only[Oper.upon] at h
 | halt x w'=>
  cases x with
  | panic v=>simp only[Oper.upon] at h ⊢;exact h
  | _=>simp only[Oper.upon] at h
theorem Jec (k:Nat) (ops:Array Oper) (i:Nat):(JaA k ops)[i]?=(ops[i]?).map (Ja7 k):=by
 unfold JaA;simp
theorem JhR (ops:Array Oper) (t:Array Value) (j:Nat):yielded (JaA pre.size ops) (pre++t) j=yielded ops t j:=by
 unfold yielded;rw[Jec];cases ops[j]? with
 | none=>rfl
 | some o=>
  obtain⟨d,op,ty,pos,after,guard⟩:=o;cases d with
  | none=>rfl
  | some d=>
   show (match (pre++t)[d+pre.size]? with | some (.bool b)=>some b | _=>none)=(match t[d]? with | some (.bool b)=>some b | _=>none)
   have:(pre++t)[d+pre.size]?=t[d]?:=by
    rw[Array.getElem?_append_right (Nat.le_add_left _ _)]
    congr 1
    omega
   rw[this]
theorem JiO (ops:Array Oper) (t:Array Value) (k:Nat) (o:Oper):Region.wanted (Ja7 k o) (yielded (JaA pre.size ops) (pre++t))=Region.wanted o (yielded ops t):=by
 unfold Region.wanted;show (match o.guard with | none=>true | some (j,want)=>yielded (JaA pre.size ops) (pre++t) j==some want)=_
 cases o.guard with
 | none=>rfl
 | some g=>simp only[JhR]
theorem Jgx {ops:Array Oper} (hs:∀(i:Nat) o cs b,ops[i]?=some o→o.op≠ .select cs b) {Q:Exit→Act→World→Prop} (hQ:JeW Q) {i:Nat} {K:Act→World→Prop} {a:Act} {w:World}
 (h:wpOp P (JaA pre.size ops) Q i K (JaI pre a) w):wpOp P ops (Jfy pre Q) i (fun a' w'=>K (JaI pre a') w') a w:=by
 unfold wpOp at h ⊢;rw[Jec] at h;cases ho:ops[i]? with
 | none=>rw[ho] at h;exact h
 | some o=>
  rw[ho] at h;have h:(if Region.wanted (Ja7 pre.size o) (yielded (JaA pre.size ops) (pre++a.tmps)) then (Ja7 pre.size o).wp P (JaI pre a) w K Q∨((Ja7 pre.size o).asks P (JaI pre a) w∧LetsOut Q) else K ((JaI pre a).put (Ja7 pre.size o).dst undef) w):=h
  rw[JiO] at h;show if Region.wanted o (yielded ops a.tmps) then _ else _
  split
  · rename_i hw
    rw[if_pos hw] at h;rcases h with h | ⟨_,h⟩
    · exact .inl (JkK (hs i o · · ho) hQ h)
    · exact absurd h hQ.lets
  · rename_i hw
    rw[if_neg hw] at h;show K (JaI pre (a.put o.dst undef)) w;rw[←Jdc];exact h
theorem Jdk {ops:Array Oper} (hs:∀(i:Nat) o cs b,ops[i]?=some o→o.op≠ .select cs b) {Q:Exit→Act→World→Prop} (hQ:JeW Q):∀(l:List Nat) {a:Act} {w:World},
 wpOps P (JaA pre.size ops) Q l (JaI pre a) w→wpOps P ops (Jfy pre Q) l a w
 | [],_,_,h=>h
 | i::l,a,w,h=>by
  rw[wpOps_cons] at h ⊢;exact wpOp_mono (fun a' w' h'=>Jdk hs hQ l h') (Jgx hs hQ h)
theorem Jej (md:Region.Mode) (k:Nat) (ops:Array Oper) (listed:Array Bool):Region.ready md (JaA k ops) listed=Region.ready md ops listed:=by
 unfold Region.ready;have hz:(JaA k ops).size=ops.size:=by simp[JaA]
 rw[hz];apply List.filter_congr;intro i _;rw[Jec];cases ops[i]?<;>rfl
theorem Jdl {md:Region.Mode} {ops:Array Oper} (hs:∀(i:Nat) o cs b,ops[i]?=some o→o.op≠ .select cs b) {Q:Exit→Act→World→Prop} (hQ:JeW Q):∀(fuel:Nat) (listed:Array Bool) {a:Act} {w:World},
 wpAny P md (JaA pre.size ops) Q fuel listed (JaI pre a) w→wpAny P md ops (Jfy pre Q) fuel listed a w
 | 0,listed,a,w,h=>⟨by rw[←Jej md pre.size];exact h.1,h.2⟩
 | fuel+1,listed,a,w,h=>by
  refine⟨fun hr=>h.1 (by rw[Jej];exact hr),fun i hi=>?_⟩;have:=h.2 i (by rw[Jej];exact hi);exact wpOp_mono (fun a' w' h'=>Jdl hs hQ fuel _ h') (Jgx hs hQ this)
end
end Go.Re
namespace Go.Re
set_option linter.unusedVariables false
set_option linter.unusedSimpArgs false
open Classical in
noncomputable def JbR {X:Type} (L W:Nat→Prop) (h:Nat→X):Nat→X
 | 0=>h 0
 | i+1=>if L i∧W i then h (i+1) else JbR L W h i
open Classical in
theorem Jek {X:Type} {L W:Nat→Prop} {h:Nat→X}:∀(n:Nat),(∀i,i<n→W i→L i)→(∀i,i<n→¬W i→h (i+1)=h i)→JbR L W h n=h n
 | 0,_,_=>rfl
 | n+1,h1,h2=>by
  unfold JbR;by_cases hw:W n
  · rw[if_pos ⟨h1 n (by omega) hw,hw⟩]
  · rw[if_neg (fun e=>hw e.2),Jek n (fun i hi=>h1 i (by omega)) (fun i hi=>h2 i (by omega)),h2 n (by omega) hw]
open Classical in
theorem JcE {X:Type} {L W:Nat→Prop} {h:Nat→X} {j:Nat}:∀(n:Nat),j≤n→(∀i,j≤i→i<n→W i→¬L i)→JbR L W h n=JbR L W h j
 | 0,hj,_=>by have:j=0:=by omega
              subst this;rfl
 | n+1,hj,h1=>by
  by_cases e:j=n+1
  · subst e;rfl
  · show (if L n∧W n then h (n+1) else JbR L W h n)=_
    rw[if_neg (fun e'=>h1 n (by omega) (by omega) e'.2 e'.1)];exact JcE n (by omega) fun i h2 h3=>h1 i h2 (by omega)
open Classical in
theorem Jjn {X:Type} {L W:Nat→Prop} {h:Nat→X} {j n:Nat} (hj:j≤n) (h1:∀i,i<j→W i→L i) (h2:∀i,j≤i→i<n→W i→¬L i)
 (h3:∀i,i<n→¬W i→h (i+1)=h i):JbR L W h n=h j:=by
 rw[JcE n hj h2];exact Jek j h1 fun i hi=>h3 i (by omega)
open Classical in
theorem JiP {X:Type} {L W:Nat→Prop} {h:Nat→X} {j n:Nat} (hj:j<n) (h1:L j) (h2:W j) (h3:∀i,j<i→i<n→W i→¬L i):JbR L W h n=h (j+1):=by
 rw[JcE (j:=j+1) n hj fun i hi=>h3 i hi];unfold JbR;rw[if_pos ⟨h1,h2⟩]
open Classical in
theorem JdY {X:Type} {L L' W:Nat→Prop} {h:Nat→X}:∀(n:Nat),(∀i,i<n→W i→(L i↔L' i))→JbR L W h n=JbR L' W h n
 | 0,_=>rfl
 | n+1,h1=>by
  unfold JbR;rw[JdY n fun i hi=>h1 i (by omega)];by_cases hw:W n
  · by_cases hl:L n
    · rw[if_pos ⟨hl,hw⟩,if_pos ⟨(h1 n (by omega) hw).1 hl,hw⟩]
    · rw[if_neg (fun e=>hl e.1),if_neg (fun e=>hl ((h1 n (by omega) hw).2 e.1))]
  · rw[if_neg (fun e=>hw e.2),if_neg (fun e=>hw e.2)]
inductive Reach (all:List Oper):Nat→Nat→Prop
 | one {j i:Nat} {o:Oper} {e:Edge} (h:all[j]?=some o) (he:e∈o.after) (hb:Region.binds .any e=true) (hi:e.on=i):Reach all j i
 | more {j i:Nat} {o:Oper} {e:Edge} (h:all[j]?=some o) (he:e∈o.after) (hb:Region.binds .any e=true) (hi:Reach all e.on i):Reach all j i
theorem Reach.closed {all:List Oper} {L:Nat→Prop} (hc:∀j o,all[j]?=some o→L j→∀e∈o.after,Region.binds .any e=true→L e.on) {j i:Nat} (h:Reach all j i):L j→L i:=by
 induction h with
 | one h he hb hi=>intro hl;subst hi;exact hc _ _ h hl _ he hb
 | more h he hb _ ih=>intro hl;exact ih (hc _ _ h hl _ he hb)
theorem Reach.ready {all:List Oper} {L:Nat→Prop} (hc:∀j o,all[j]?=some o→L j→∀e∈o.after,Region.binds .any e=true→L e.on) {j i:Nat} {o:Oper} (ho:all[j]?=some o)
 (hr:∀e∈o.after,Region.binds .any e=true→L e.on) (h:Reach all j i):L i:=by
 cases h with
 | one h he hb hi=>subst hi;rw[ho] at h;cases h;exact hr _ he hb
 | more h he hb hi=>rw[ho] at h;cases h;exact hi.closed hc (hr _ he hb)
theorem Jhw {t:List Nat} {i:Nat}:∀(l:List Edge) (b:Nat),
 Nat.testBit (l.foldl (fun b e=>bif Region.binds .any e then Nat.lor b (Nat.lor (Nat.shiftLeft 1 e.on) (t.getD e.on 0)) else b) b) i=true →
  Nat.testBit b i=true∨∃e∈l,Region.binds .any e=true∧(e.on=i∨Nat.testBit (t.getD e.on 0) i=true)
 | [],b,h=>.inl h
 | e::l,b,h=>by
  simp only[List.foldl_cons] at h;rcases Jhw l _ h with h | ⟨e',h1,h2⟩
  · cases hb:Region.binds .any e with
    | false=>rw[hb] at h;exact .inl h
    | true=>
     rw[hb] at h;have h:Nat.testBit (b ||| ((1 <<< e.on) ||| t.getD e.on 0)) i=true:=h;rw[Nat.testBit_or,Nat.testBit_or] at h;simp only[Bool.or_eq_true] at h;rcases h with h | h | h
     · exact .inl h
     · refine .inr ⟨e,by simp,hb,.inl ?_⟩
       rw[Nat.testBit_shiftLeft] at h;simp only[Bool.and_eq_true,decide_eq_true_eq] at h
       have:i-e.on=0:=by
        rcases Nat.eq_zero_or_pos (i-e.on) with h0 | h0
        · exact h0
        · exfalso;have:=h.2;rw[show i-e.on=(i-e.on-1)+1 by omega,Nat.testBit_succ] at this;simp at this
       omega
     · exact .inr ⟨e,by simp,hb,.inr h⟩
  · exact .inr ⟨e',by simp[h1],h2⟩
theorem JcY {all:List Oper}:∀(os pre:List Oper) (t:List Nat),all=pre++os→t.length=pre.length →
 (∀j i,Nat.testBit (t.getD j 0) i=true→Reach all j i)→∀j i,Nat.testBit ((JbH os t).getD j 0) i=true→Reach all j i
 | [],_,_,_,_,h=>h
 | o::os,pre,t,e,hl,h=>by
  refine JcY os (pre++[o]) _ (by simp[e]) (by simp[hl]) ?_;intro j i hb;rw[List.getD_eq_getElem?_getD,List.getElem?_append] at hb;split at hb
  · rename_i hj
    exact h j i (by rw[List.getD_eq_getElem?_getD];exact hb)
  · rename_i hj
    rcases Nat.eq_zero_or_pos (j-t.length) with h0 | h0
    · rw[h0] at hb
      have hj:j=pre.length:=by omega
      have ho:all[j]?=some o:=by subst e;simp[hj]
      rcases Jhw _ _ hb with h1 | ⟨e',h1,h2,h3⟩
      · simp at h1
      · rcases h3 with h3 | h3
        · exact .one ho (by simpa using h1) h2 h3
        · exact .more ho (by simpa using h1) h2 (h _ _ h3)
    · have:([o.after.toList.foldl (fun b e=>bif Region.binds .any e then Nat.lor b (Nat.lor (Nat.shiftLeft 1 e.on) (t.getD e.on 0)) else b) 0]:List Nat)[j-t.length]?=none:=by
       apply List.getElem?_eq_none;simp;omega
      rw[this] at hb;simp at hb
theorem JfI {all:List Oper} {o:Oper} {d:Dec} {i:Nat}:∀(os:List Oper) (ds:List Dec) (j:Nat),Jer all o d i j os ds=true→∀k o' d',os[k]?=some o'→ds[k]?=some d' →
 Nat.testBit ((JbH all []).getD (j+k) 0) i=true∨Jbf all o o' d d'=true∨(JaG o d=true∧JaG o' d'=true)
 | [],_,_,_,_,_,_,h1,_=>by simp at h1
 | _::_,[],_,_,_,_,_,_,h2=>by simp at h2
 | o1::os,d1::ds,j,h,k,o',d',h1,h2=>by
  unfold Jer at h
  have key:(Nat.testBit ((JbH all []).getD j 0) i=true∨Jbf all o o1 d d1=true∨(JaG o d=true∧JaG o1 d1=true))∧Jer all o d i (j+1) os ds=true:=by
   cases ht:Nat.testBit ((JbH all []).getD j 0) i with
   | true=>rw[ht] at h;exact⟨.inl rfl,h⟩
   | false=>
    rw[ht] at h;simp only[cond_false] at h;cases ha:Jbf all o o1 d d1 with
    | true=>rw[ha] at h;exact⟨.inr (.inl rfl),h⟩
    | false=>
     rw[ha] at h;cases hi:JaG o d&&JaG o1 d1 with
     | true=>rw[hi] at h;exact⟨.inr (.inr (by simpa using hi)),h⟩
     | false=>rw[hi] at h;cases h
  cases k with
  | zero=>cases h1;cases h2;exact key.1
  | succ k=>
   have:=JfI os ds (j+1) key.2 k o' d' (by simpa using h1) (by simpa using h2);rw[show j+(k+1)=j+1+k by omega];exact this
theorem Jhx {all:List Oper}:∀(os:List Oper) (ds:List Dec) (i:Nat),JdU all i os ds=true→∀k l o d o' d',k<l→os[k]?=some o→ds[k]?=some d→os[l]?=some o'→ds[l]?=some d' →
 Nat.testBit ((JbH all []).getD (i+l) 0) (i+k)=true∨Jbf all o o' d d'=true∨(JaG o d=true∧JaG o' d'=true)
 | [],_,_,_,_,_,_,_,_,_,_,h1,_,_,_=>by simp at h1
 | _::_,[],_,_,_,_,_,_,_,_,_,_,h2,_,_=>by simp at h2
 | o1::os,d1::ds,i,h,k,l,o,d,o',d',hkl,h1,h2,h3,h4=>by
  simp only[JdU,Bool.and_eq_true] at h;cases l with
  | zero=>omega
  | succ l=>
   cases k with
   | zero=>
    cases h1;cases h2;have:=JfI os ds (i+1) h.1 l o' d' (by simpa using h3) (by simpa using h4);rw[show i+(l+1)=i+1+l by omega,Nat.add_zero];exact this
   | succ k=>
    have:=Jhx os ds (i+1) h.2 k l o d o' d' (by omega) (by simpa using h1) (by simpa using h2) (by simpa using h3) (by simpa using h4);rw[show i+(l+1)=i+1+l by omega,show i+(k+1)=i+1+k by omega];exact this
theorem JcZ:∀(os:List Oper) (i:Nat),Jbn i os=true→∀k o,os[k]?=some o→∀e∈o.after,Region.binds .any e=true→e.on<i+k
 | [],_,_,_,_,h,_,_,_=>by simp at h
 | o1::os,i,hb,k,o,h,e,he,hbd=>by
  simp only[Jbn,Bool.and_eq_true] at hb;cases k with
  | zero=>
   cases h;have:=List.all_eq_true.1 hb.1 e (by simpa using he);rw[hbd] at this;simpa [Nat.blt_eq] using this
  | succ k=>
   have:=JcZ os (i+1) hb.2 k o (by simpa using h) e he hbd;omega
theorem Run.states {E:Env} {all os:List Oper} {ds:List Dec} {σ σ':S} (h:Run E all os ds σ σ'):∃f:Nat→S,f 0=σ∧f os.length=σ'∧os.length=ds.length ∧
 ∀i o d,os[i]?=some o→ds[i]?=some d→∃r,(JaQ E all o).run (f i)=some r∧Jb8 ((JaQ E all o).foot (f i)) (JaR all o) d=true∧f (i+1)=r.2.putO o.dst r.1:=by
 induction h with
 | nil σ=>exact⟨fun _=>σ,rfl,rfl,rfl,fun i o d h=>by simp at h⟩
 | @cons o os d ds σ σ' r hr hf _ ih=>
  obtain⟨f,h1,h2,h3,h4⟩:=ih;refine⟨fun i=>match i with | 0=>σ | i+1=>f i,rfl,by simpa using h2,by simp[h3],?_⟩
  intro i o' d' e1 e2;cases i with
  | zero=>cases e1;cases e2;exact⟨r,hr,hf,h1⟩
  | succ i=>exact h4 i o' d' (by simpa using e1) (by simpa using e2)
theorem S.ext' {σ τ:S} (h1:∀t,σ.slots t=τ.slots t) (h2:∀s,σ.mem s=τ.mem s):σ=τ:=by
 cases σ;cases τ
 congr
 · exact funext h1
 · exact funext h2
section
variable {P:Program} {E:Env} {N:Nat} {Z:Base} {all:List Oper} {ds:List Dec} {f:Nat→S}
variable {In Dn:Nat→Prop}
structure Runs (E:Env) (N:Nat) (all:List Oper) (ds:List Dec) (f:Nat→S) (In:Nat→Prop):Prop where
 len:all.length=ds.length
 out:∀i,¬In i→f (i+1)=f i
 lt:∀i,In i→i<all.length
 dst:∀(i:Nat) (o:Oper),all[i]?=some o→∀t,o.dst=some t→t<N
 op:∀(i:Nat) (o:Oper) (d:Dec),In i→all[i]?=some o→ds[i]?=some d→∃r,(JaQ E all o).run (f i)=some r∧Jb8 ((JaQ E all o).foot (f i)) (JaR all o) d=true∧f (i+1)=r.2.putO o.dst r.1
 back:∀(k:Nat) (o:Oper),all[k]?=some o→∀e∈o.after,Region.binds .any e=true→e.on<k
 apart:∀(k l:Nat) (o:Oper) (d:Dec) (o':Oper) (d':Dec),In k→In l→k<l→all[k]?=some o→ds[k]?=some d→all[l]?=some o'→ds[l]?=some d'→Reach all l k∨Jbf all o o' d d'=true∨(JaG o d=true∧JaG o' d'=true)
def WrS (all:List Oper) (In:Nat→Prop) (t:Nat) (i:Nat):Prop:=In i∧∃o,all[i]?=some o∧o.dst=some t
def WrM (ds:List Dec) (In:Nat→Prop) (s:Nat) (i:Nat):Prop:=In i∧∃d,ds[i]?=some d∧s∈d.wm
def InM (all:List Oper) (ds:List Dec) (In:Nat→Prop) (s:Nat) (i:Nat):Prop:=In i∧∃o d,all[i]?=some o∧ds[i]?=some d∧JaG o d=true∧s∈d.wm
theorem Jbr {all:List Oper} {o o':Oper} {d d':Dec} (h:Jbf all o o' d d'=true):
 (∀t,o.dst=some t→t∉JaR all o'∧o'.dst≠some t)∧(∀t,o'.dst=some t→t∉JaR all o) ∧
 (∀s∈d.wm,s∉d'.rm∧s∉d'.wm)∧(∀s∈d.rm,s∉d'.wm):=by
 simp only[Jbf,Bool.and_eq_true] at h;obtain⟨h1,h2,h3,h4,h5⟩:=h;refine⟨?_,?_,fun s hs=>⟨Jcq.1 h3 s hs,Jcq.1 h4 s hs⟩,Jcq.1 h5⟩
 · intro t ht
   rw[ht] at h1;simp only[Bool.and_eq_true,Bool.not_eq_true'] at h1;refine⟨Jbo.1 h1.1,fun e=>?_⟩;rw[e] at h1;simp at h1
 · intro t ht
   rw[ht] at h2;simp only[Bool.not_eq_true'] at h2;exact Jbo.1 h2
structure IvR (all:List Oper) (ds:List Dec) (f:Nat→S) (In Dn:Nat→Prop) (L:Nat→Prop) (σ:S):Prop where
 low:∀i,Dn i→L i
 high:∀i,L i→In i∨Dn i
 off:∀i,In i→¬Dn i
 closed:∀(j:Nat) (o:Oper),all[j]?=some o→L j→∀e∈o.after,Region.binds .any e=true→L e.on
 slots:∀t,σ.slots t=JbR L (WrS all In t) (fun i=>(f i).slots t) all.length
 mem:∀s,σ.mem s=JaL L (WrM ds In s) (InM all ds In s) (fun i=>(f i).mem s) all.length
theorem Runs.keep (h:Runs E N all ds f In) {i:Nat} (hi':i<all.length):(∀t,¬WrS all In t i→(f (i+1)).slots t=(f i).slots t)∧(∀s,¬WrM ds In s i→(f (i+1)).mem s=(f i).mem s):=by
 have ho:all[i]?=some all[i]:=List.getElem?_eq_getElem hi';have hd:ds[i]?=some (ds[i]'(h.len▸hi')):=List.getElem?_eq_getElem _;by_cases hin:In i
 · obtain⟨r,h1,h2,h3⟩:=h.op i _ _ hin ho hd
   obtain⟨h4,h5⟩:=Jhr h1 h2;refine⟨fun t ht=>?_,fun s hs=>?_⟩
   · rw[h3,Jb1,if_neg (fun e=>ht ⟨hin,_,ho,e⟩),h4]
   · rw[h3,Jcr,h5 s (fun e=>hs ⟨hin,_,hd,e⟩)]
 · have:=h.out i hin
   exact⟨fun t _=>by rw[this],fun s _=>by rw[this]⟩
theorem Runs.adds (h:Runs E N all ds f In) (s:Nat):AddsR all.length (WrM ds In s) (InM all ds In s) (fun i=>(f i).mem s) where
 keep i hi hw:=(h.keep hi).2 s hw
 wr:=fun i ⟨a1,_,d,_,h2,_,h4⟩=>⟨a1,d,h2,h4⟩
 add:=by
  rintro i hi ⟨a1,o,d,h1,h2,h3,h4⟩;obtain⟨r,q1,q2,q3⟩:=h.op i o d a1 h1 h2;obtain⟨hdst,s',ver,τ,xs,p,e1,e2,e3,e4,_⟩:=JjH h3 q1 q2;rw[e2] at h4;have:s=s':=by simpa using h4
  subst this;refine⟨ver,τ,xs,p,e3,?_⟩;show (f (i+1)).mem s=_;rw[q3,Jcr,e4];show upd _ _ _ _=_;rw[Jad,if_pos rfl]
theorem IvR.full (h:Runs E N all ds f In) {L:Nat→Prop} {σ:S} (hv:IvR all ds f In Dn L σ) (hL:∀i,In i→L i):σ=f all.length:=by
 refine S.ext' (fun t=>?_) (fun s=>?_)
 · rw[hv.slots];exact Jek _ (fun i _ hw=>hL i hw.1) (fun i hi hw=>(h.keep hi).1 t hw)
 · rw[hv.mem];exact JeU (h.adds s) _ (Nat.le_refl _) (fun i _ hw=>hL i hw.1)
theorem IvR.step (h:Runs E N all ds f In) {L:Nat→Prop} {σ:S} (hv:IvR all ds f In Dn L σ) {i:Nat} {o:Oper} (ho:all[i]?=some o) (hn:¬L i) (hin:In i)
 (hr:∀e∈o.after,Region.binds .any e=true→L e.on):
 ∃r,(JaQ E all o).run σ=some r∧∀L':Nat→Prop,(∀k,L' k↔L k∨k=i)→∃σ'',Jgw (r.2.putO o.dst r.1) σ''∧IvR all ds f In Dn L' σ''∧((∀i o d,In i→all[i]?=some o→ds[i]?=some d→JaG o d=false)→σ''=r.2.putO o.dst r.1):=by
 have hlt:i<all.length:=(List.getElem?_eq_some_iff.1 ho).1;have hd:ds[i]?=some (ds[i]'(h.len▸hlt)):=List.getElem?_eq_getElem _
 generalize hdd:ds[i]'(h.len▸hlt)=d at hd
 obtain⟨r,h1,h2,h3⟩:=h.op i o d hin ho hd;have hf:=JdG.1 h2
 have fwd:∀k o' d',In k→k<i→all[k]?=some o'→ds[k]?=some d'→¬L k→Jbf all o' o d' d=true∨(JaG o' d'=true∧JaG o d=true):=fun k o' d' hI hk e1 e2 hl=>
  (h.apart k i o' d' o d hI hin hk e1 e2 ho hd).resolve_left fun hre=>hl (hre.ready hv.closed ho hr)
 have bwd:∀k o' d',In k→i<k→all[k]?=some o'→ds[k]?=some d'→L k→Jbf all o o' d d'=true∨(JaG o d=true∧JaG o' d'=true):=fun k o' d' hI hk e1 e2 hl=>
  (h.apart i k o d o' d' hin hI hk ho hd e1 e2).resolve_left fun hre=>hn (hre.closed hv.closed hl)
 have dk:∀k,k<all.length→∃d',ds[k]?=some d':=fun k hk=>⟨_,List.getElem?_eq_getElem (h.len▸hk)⟩
 have insDst:∀{o:Oper} {d:Dec},JaG o d=true→o.dst=none:=by
  intro o d hi;unfold JaG at hi;split at hi
  · simp only[Bool.and_eq_true,Option.isNone_iff_eq_none] at hi;exact hi.1
  · cases hi
 have rs:∀t∈JaR all o,σ.slots t=(f i).slots t:=by
  intro t ht;rw[hv.slots];refine Jjn (Nat.le_of_lt hlt) ?_ ?_ (fun k hk hw=>(h.keep hk).1 t hw)
  · rintro k hk ⟨hI,o',e1,e2⟩
    by_cases hl:L k
    · exact hl
    · obtain⟨d',e3⟩:=dk k (by omega)
      rcases fwd k o' d' hI hk e1 e3 hl with ha | ⟨ha,_⟩
      · exact absurd ht ((Jbr ha).1 t e2).1
      · rw[insDst ha] at e2;cases e2
  · rintro k hk hk' ⟨hI,o',e1,e2⟩ hl
    rcases Nat.eq_or_lt_of_le hk with e | hk
    · subst e;exact hn hl
    · obtain⟨d',e3⟩:=dk k hk'
      rcases bwd k o' d' hI hk e1 e3 hl with ha | ⟨_,ha⟩
      · exact (Jbr ha).2.1 t e2 ht
      · rw[insDst ha] at e2;cases e2
 cases hins:JaG o d with
 | true=>
  obtain⟨hdst,s,ver,τ,xs,p,q1,q2,q3,q4,q5⟩:=JjH hins h1 h2;have hsd:s∈d.wm:=by rw[q2];simp
  have hIi:InM all ds In s i:=⟨hin,o,d,ho,hd,hins,hsd⟩
  have low:∀k,k<i→WrM ds In s k→¬InM all ds In s k→L k:=by
   rintro k hk ⟨hI,d',e1,e2⟩ hni;by_cases hl:L k
   · exact hl
   · have e3:all[k]?=some all[k]:=List.getElem?_eq_getElem (by omega)
     rcases fwd k _ d' hI hk e3 e1 hl with ha | ⟨ha,_⟩
     · exact absurd hsd ((Jbr ha).2.2.1 s e2).2
     · exact absurd ⟨hI,_,d',e3,e1,ha,e2⟩ hni
  have high:∀k,i<k→k<all.length→WrM ds In s k→L k→InM all ds In s k:=by
   rintro k hk hk' ⟨hI,d',e1,e2⟩ hl;have e3:all[k]?=some all[k]:=List.getElem?_eq_getElem hk';rcases bwd k _ d' hI hk e3 e1 hl with ha | ⟨_,ha⟩
   · exact absurd e2 ((Jbr ha).2.2.1 s hsd).2
   · exact⟨hI,_,d',e3,e1,ha,e2⟩
  have hA:=h.adds s;obtain⟨ys,hys⟩:=Jei hA i (by omega) low q3
  have hp:(f (i+1)).mem s= .own ver τ (xs++[p]) .bg:=by
   rw[h3,Jcr,q4];show upd _ _ _ _=_;rw[Jad,if_pos rfl]
  have key:∀L':Nat→Prop,(∀k,L' k↔L k∨k=i)→∃zs zs',JaL L (WrM ds In s) (InM all ds In s) (fun i=>(f i).mem s) all.length= .own ver τ zs .bg ∧
   JaL L' (WrM ds In s) (InM all ds In s) (fun i=>(f i).mem s) all.length= .own ver τ zs' .bg∧zs'.Perm (zs++[p]):=fun L' hL'=>
   Jhs hA hlt hIi hn hL' high hp ⟨ys,hys⟩ all.length hlt (Nat.le_refl _)
  obtain⟨zs,_,k1,_,_⟩:=key (fun k=>L k∨k=i) (fun _=>Iff.rfl);have hrun:=q5 σ zs rs ((hv.mem s).trans k1);refine⟨_,hrun,fun L' hL'=>?_⟩;obtain⟨zs2,zs',m1,m2,m3⟩:=key L' hL';rw[k1] at m1;cases m1;refine⟨σ.set s (.own ver τ zs' .bg),?_,⟨fun k hk=>(hL' k).2 (.inl (hv.low k hk)),fun k hl=>((hL' k).1 hl).elim (hv.high k) (fun e=>.inl (e▸hin)),hv.off,?_,fun t=>?_,fun s'=>?_⟩,fun hno=>by have:=hno i o d hin ho hd;rw[hins] at this;cases this⟩
  · rw[hdst]
    refine⟨rfl,fun s'=>?_⟩;show JcG (upd σ.mem s _ s') (upd σ.mem s _ s');rw[Jad,Jad];split
    · exact .inr ⟨ver,τ,_,_,rfl,rfl,m3.symm⟩
    · exact .inl rfl
  · intro j o' e1 e2 e he hb
    rcases (hL' j).1 e2 with e2 | e2
    · exact (hL' _).2 (.inl (hv.closed j o' e1 e2 e he hb))
    · subst e2;rw[ho] at e1;cases e1
      exact (hL' _).2 (.inl (hr e he hb))
  · show σ.slots t=_
    rw[hv.slots];refine JdY _ fun k hk hwk=>?_
    constructor
    · exact fun hl=>(hL' k).2 (.inl hl)
    · intro hl
      rcases (hL' k).1 hl with hl | hl
      · exact hl
      · subst hl
        obtain⟨hI,o',e1,e2⟩:=hwk;rw[ho] at e1;cases e1;rw[hdst] at e2;cases e2
  · show upd σ.mem s _ s'=_
    rw[Jad];split
    · rename_i e;subst e;exact m2.symm
    · rename_i e
      rw[hv.mem];refine Jdj _ fun k hk hwk=>?_
      constructor
      · exact fun hl=>(hL' k).2 (.inl hl)
      · intro hl
        rcases (hL' k).1 hl with hl | hl
        · exact hl
        · subst hl
          obtain⟨hI,d',e1,e2⟩:=hwk;rw[hd] at e1;cases e1;rw[q2] at e2;exact absurd (by simpa using e2) e
 | false=>
 have fwd:∀k o' d',In k→k<i→all[k]?=some o'→ds[k]?=some d'→¬L k→Jbf all o' o d' d=true:=fun k o' d' hI hk e1 e2 hl=>
  (fwd k o' d' hI hk e1 e2 hl).resolve_right fun ha=>by rw[hins] at ha;cases ha.2
 have bwd:∀k o' d',In k→i<k→all[k]?=some o'→ds[k]?=some d'→L k→Jbf all o o' d d'=true:=fun k o' d' hI hk e1 e2 hl=>
  (bwd k o' d' hI hk e1 e2 hl).resolve_right fun ha=>by rw[hins] at ha;cases ha.1
 have hnI:∀s,¬InM all ds In s i:=by
  rintro s ⟨hI,o',d',e1,e2,e3,_⟩;rw[ho] at e1;cases e1;rw[hd] at e2;cases e2;rw[hins] at e3;cases e3
 have rm:∀s,s∈d.rm∨s∈d.wm→σ.mem s=(f i).mem s:=by
  intro s hs;rw[hv.mem,JcX (j:=i) _ (Nat.le_of_lt hlt),JeU (h.adds s) i (Nat.le_of_lt hlt)]
  · rintro k hk ⟨hI,d',e1,e2⟩
    by_cases hl:L k
    · exact hl
    · have e3:all[k]?=some all[k]:=List.getElem?_eq_getElem (by omega)
      have:=(Jbr (fwd k _ d' hI hk e3 e1 hl)).2.2.1 s e2;rcases hs with hs | hs
      · exact absurd hs this.1
      · exact absurd hs this.2
  · rintro k hk hk' ⟨hI,d',e1,e2⟩ hl
    rcases Nat.eq_or_lt_of_le hk with e | hk
    · subst e;exact hn hl
    · have e3:all[k]?=some all[k]:=List.getElem?_eq_getElem hk'
      have ha:=Jbr (bwd k _ d' hI hk e3 e1 hl);rcases hs with hs | hs
      · exact ha.2.2.2 s hs e2
      · exact (ha.2.2.1 s hs).2 e2
 obtain⟨l1,l2⟩:=M.run_local (JaQ E all o) (σ:=f i) (τ:=σ) (fun t ht=>rs t (hf.1 t ht)) (fun s hs=>rm s (.inl (hf.2.1 s hs)));obtain⟨l3,l4,σ',l5,l6,l7,l8⟩:=l2 r.1 r.2 h1;refine⟨(r.1,σ'),l5,fun L' hL'=>⟨_,Jgw.refl _,⟨fun k hk=>(hL' k).2 (.inl (hv.low k hk)),fun k hl=>((hL' k).1 hl).elim (hv.high k) (fun e=>.inl (e▸hin)),hv.off,?_,fun t=>?_,fun s=>?_⟩,fun _=>rfl⟩⟩
 · intro j o' e1 e2 e he hb
   rcases (hL' j).1 e2 with e2 | e2
   · exact (hL' _).2 (.inl (hv.closed j o' e1 e2 e he hb))
   · subst e2;rw[ho] at e1;cases e1
     exact (hL' _).2 (.inl (hr e he hb))
 · by_cases hw:o.dst=some t
   · rw[Jb1,if_pos hw]
     rw[JiP (j:=i) hlt ((hL' i).2 (.inr rfl)) ⟨hin,o,ho,hw⟩]
     · rw[h3,Jb1,if_pos hw]
     · rintro k hk hk' ⟨hI,o',e1,e2⟩ hl
       rcases (hL' k).1 hl with hl | hl
       · obtain⟨d',e3⟩:=dk k hk'
         exact ((Jbr (bwd k o' d' hI hk e1 e3 hl)).1 t hw).2 e2
       · omega
   · rw[Jb1,if_neg hw]
     show σ'.slots t=_;rw[l6,hv.slots];refine JdY _ fun k hk hwk=>?_
     constructor
     · exact fun hl=>(hL' k).2 (.inl hl)
     · intro hl
       rcases (hL' k).1 hl with hl | hl
       · exact hl
       · subst hl
         obtain⟨hI,o',e1,e2⟩:=hwk;rw[ho] at e1;cases e1;exact absurd e2 hw
 · rw[Jcr]
   show σ'.mem s=_;by_cases hw:s∈d.wm
   · rw[Jjl (j:=i) hlt ((hL' i).2 (.inr rfl)) ⟨hin,d,hd,hw⟩ (hnI s)]
     · show σ'.mem s=(f (i+1)).mem s
       rw[h3,Jcr];by_cases hs:s∈((JaQ E all o).foot (f i)).wm
       · exact l7 s hs
       · rw[l8 s hs,l4 s hs];exact rm s (.inr hw)
     · rintro k hk hk' ⟨hI,d',e1,e2⟩ hl
       rcases (hL' k).1 hl with hl | hl
       · have e3:all[k]?=some all[k]:=List.getElem?_eq_getElem hk'
         exact ((Jbr (bwd k _ d' hI hk e3 e1 hl)).2.2.1 s hw).2 e2
       · omega
   · rw[l8 s (fun e=>hw (hf.2.2 s e)),hv.mem]
     refine Jdj _ fun k hk hwk=>?_
     constructor
     · exact fun hl=>(hL' k).2 (.inl hl)
     · intro hl
       rcases (hL' k).1 hl with hl | hl
       · exact hl
       · subst hl
         obtain⟨hI,d',e1,e2⟩:=hwk;rw[hd] at e1;cases e1;exact absurd e2 hw
theorem JcN {l:Array Bool} {i:Nat} (h:i<l.size) (x y:Bool):l.getD i x=l.getD i y:=by
 simp[Array.getD_eq_getD_getElem?,Array.getElem?_eq_getElem h]
theorem Reach.trans {i j k:Nat} (h:Reach all i j) (h':Reach all j k):Reach all i k:=by
 induction h with
 | one h he hb hi=>subst hi;exact .more h he hb h'
 | more h he hb _ ih=>exact .more h he hb (ih h')
structure Left (all:List Oper) (fuel:Nat) (listed:Array Bool) (rem:List Nat):Prop where
 size:listed.size=all.length
 nodup:rem.Nodup
 len:rem.length=fuel
 mem:∀i,i∈rem↔i<all.length∧listed.getD i true=false
theorem Left.set {fuel:Nat} {listed:Array Bool} {rem:List Nat} {i:Nat} (h:Left all (fuel+1) listed rem) (hlt:i<all.length) (h1:listed.getD i true=false):
 Left all fuel (listed.setIfInBounds i true) (rem.erase i)∧∀k x,(listed.setIfInBounds i true).getD k x=if k=i then true else listed.getD k x:=by
 have hs:=h.size
 have hset:∀k x,(listed.setIfInBounds i true).getD k x=if k=i then true else listed.getD k x:=by
  intro k x;simp only[Array.getD_eq_getD_getElem?];split
  · rename_i e;subst e;rw[Array.getElem?_setIfInBounds_self_of_lt (by omega)];rfl
  · rename_i e;rw[Array.getElem?_setIfInBounds_ne (fun e'=>e e'.symm)]
 refine⟨⟨by simpa using hs,h.nodup.erase i,?_,?_⟩,hset⟩
 · rw[List.length_erase_of_mem ((h.mem i).2 ⟨hlt,h1⟩),h.len];rfl
 · intro k
   rw[h.nodup.mem_erase_iff,h.mem,hset];by_cases e:k=i
   · subst e;simp
   · simp[e]
theorem Jgy (hback:∀(k:Nat) (o:Oper),all[k]?=some o→∀e∈o.after,Region.binds .any e=true→e.on<k) {listed:Array Bool} (hs:listed.size=all.length) {i:Nat} (hi1:i<all.length) (hi2:¬listed.getD i false=true):
 ∃i,i∈Region.ready .any all.toArray listed:=by
 induction i using Nat.strongRecOn with
 | _ i ih=>
  by_cases hall:∀e∈(all[i]).after,Region.binds .any e=true→listed.getD e.on false=true
  · refine⟨i,mem_ready.2 ⟨?_,all[i],by simp[hi1],hall⟩⟩
    rw[JcN (hs▸hi1) true false];simpa using hi2
  · rw[Classical.not_forall] at hall
    obtain⟨e,hall⟩:=hall;rw[Classical.not_forall] at hall;obtain⟨he,hall⟩:=hall;rw[Classical.not_forall] at hall;obtain⟨hb,hall⟩:=hall;have hlt':=hback i _ (List.getElem?_eq_getElem hi1) e he hb;exact ih _ hlt' (by omega) hall
theorem Jgz {listed:Array Bool} (hs:listed.size=all.length) {i:Nat} (hir:i∈Region.ready .any all.toArray listed):
 ∃o,all[i]?=some o∧i<all.length∧listed.getD i true=false∧¬listed.getD i false=true∧∀e∈o.after,Region.binds .any e=true→listed.getD e.on false=true:=by
 obtain⟨h1,o,h2,h3⟩:=mem_ready.1 hir
 have hlt:i<all.length:=by
  have:=(Array.getElem?_eq_some_iff.1 h2).1;simpa using this
 exact⟨o,by simpa using h2,hlt,h1,by rw[JcN (hs▸hlt) false true,h1];simp,h3⟩
theorem Left.add {fuel:Nat} {listed:Array Bool} {rem:List Nat} {i:Nat} (h:Left all (fuel+1) listed rem) (hlt:i<all.length) (h1:listed.getD i true=false):
 Left all fuel (listed.setIfInBounds i true) (rem.erase i)∧∀k,(listed.setIfInBounds i true).getD k false=true↔listed.getD k false=true∨k=i:=by
 obtain⟨hL2,hset⟩:=h.set hlt h1;refine⟨hL2,fun k=>?_⟩;rw[hset];by_cases e:k=i
 · subst e;simp
 · simp[e]
theorem JnA (hE:EnvOk P E) (hr:Runs E N all ds f In) (hgate:∀j,j<all.length→¬In j→¬Dn j→∀i,In i→Reach all j i) {Q:Exit→Act→World→Prop}
 (hQ:∀fuel listed rem a' w' own β,Left all fuel listed rem→(∀i,i<all.length→(listed.getD i false=true↔In i∨Dn i))→St N Z own β (f all.length) a' w'→wpAny P .any all.toArray Q fuel listed a' w'):
 ∀(fuel:Nat) (listed:Array Bool) (rem:List Nat) (σ:S) (a:Act) (w:World) (own:Own) (β:Jai),Left all fuel listed rem →
  IvR all ds f In Dn (fun i=>listed.getD i false=true) σ→St N Z own β σ a w→wpAny P .any all.toArray Q fuel listed a w:=by
 intro fuel
 have fin:∀{fuel:Nat} {listed:Array Bool} {rem:List Nat} {σ:S} {a:Act} {w:World} {own:Own} {β:Jai},Left all fuel listed rem →
  IvR all ds f In Dn (fun i=>listed.getD i false=true) σ→St N Z own β σ a w→(∀i,In i→listed.getD i false=true)→wpAny P .any all.toArray Q fuel listed a w:=by
  intro fuel listed rem σ a w own β hL hv h hall;have e:=hv.full hr hall;subst e;exact hQ _ listed rem a w own β hL (fun i _=>⟨hv.high i,fun hi=>hi.elim (hall i) (hv.low i)⟩) h
 induction fuel with
 | zero=>
  intro listed rem σ a w own β hL hv h;refine fin hL hv h fun i hi1=>?_;cases hg:listed.getD i false with
  | true=>rfl
  | false=>
   have hlt:=hr.lt i hi1;have:=(hL.mem i).2 ⟨hlt,by rw[JcN (hL.size▸hlt) true false];exact hg⟩;rw[List.length_eq_zero_iff.1 hL.len] at this;simp at this
 | succ fuel ih=>
  intro listed rem σ a w own β hL hv h;by_cases hall:∀i,In i→listed.getD i false=true
  · exact fin hL hv h hall
  · have hex:∃i,In i∧¬listed.getD i false=true:=by
     rw[Classical.not_forall] at hall;obtain⟨i,hall⟩:=hall;rw[Classical.not_forall] at hall;obtain⟨hi1,hall⟩:=hall;exact⟨i,hi1,hall⟩
    obtain⟨k,hk1,hk2⟩:=hex;refine⟨fun hrd=>?_,fun i hir=>?_⟩
    · obtain⟨i,hi1⟩:=Jgy hr.back hL.size (hr.lt k hk1) hk2
      rw[hrd] at hi1;simp at hi1
    · obtain⟨o,ho,hlt,h1,hn,h3⟩:=Jgz hL.size hir
      have hin:In i:=by
       refine Classical.byContradiction fun hni=>?_;have hnd:¬Dn i:=fun hd=>hn (hv.low i hd);exact hk2 ((hgate i hlt hni hnd k hk1).ready hv.closed ho h3)
      obtain⟨r,h4,h5⟩:=hv.step hr ho hn hin h3;refine Jfx hE h ho (hr.dst i o ho) h4 ?_;intro a' w' own' β' hst;obtain⟨hL2,hL'⟩:=hL.add hlt h1;obtain⟨σ'',hp,h6,_⟩:=h5 _ hL';exact ih (listed.setIfInBounds i true) (rem.erase i) σ'' a' w' own' β' hL2 h6 (hst.perm hp)
theorem Jmo (hE:EnvOk P E) {k:Nat} (hk:k<all.length) (hback:∀(k:Nat) (o:Oper),all[k]?=some o→∀e∈o.after,Region.binds .any e=true→e.on<k)
 {T:Type} (vs:T→Prop) (IU:T→Nat→Prop) (du:T→List Dec) (fu:T→Nat→S) (hruns:∀v,vs v→Runs E N all (du v) (fu v) (IU v))
 (hno:∀v,vs v→∀i o d,IU v i→all[i]?=some o→(du v)[i]?=some d→JaG o d=false) (hnk:∀v,vs v→¬IU v k)
 (hcov:∀L:Nat→Prop,(∀i,L i→i<all.length)→(∀(j:Nat) (o:Oper),all[j]?=some o→L j→∀e∈o.after,Region.binds .any e=true→L e.on)→¬L k→∃v,vs v∧(∀i,L i→IU v i)∧∀i,IU v i→L i∨Reach all k i)
 {Q:Exit→Act→World→Prop}
 (hop:∀v,vs v→∀fuel listed rem a w own β,Left all fuel listed rem→(∀i,i<all.length→(listed.getD i false=true↔IU v i∨i=k))→St N Z own β (fu v all.length) a w →
  wpOp P all.toArray Q k (fun a' w'=>wpAny P .any all.toArray Q fuel listed a' w') a w):
 ∀(fuel:Nat) (listed:Array Bool) (rem:List Nat) (σ:S) (a:Act) (w:World) (own:Own) (β:Jai),Left all fuel listed rem→¬listed.getD k false=true →
  (∀(j:Nat) (o:Oper),all[j]?=some o→listed.getD j false=true→∀e∈o.after,Region.binds .any e=true→listed.getD e.on false=true) →
  (∀v,vs v→(∀i,listed.getD i false=true→IU v i)→IvR all (du v) (fu v) (IU v) (fun _=>False) (fun i=>listed.getD i false=true) σ)→St N Z own β σ a w→wpAny P .any all.toArray Q fuel listed a w:=by
 intro fuel
 have Jdf:∀{listed:Array Bool},listed.size=all.length→∀i,listed.getD i false=true→i<all.length:=by
  intro listed hs i hi;refine Classical.byContradiction fun hn=>?_;rw[Array.getD_eq_getD_getElem?,Array.getElem?_eq_none (by omega)] at hi;cases hi
 have reach_lt:∀{j i:Nat},Reach all j i→j<all.length→i<all.length:=by
  intro j i h
  induction h with
  | one h he hb hi=>intro _;have:=hback _ _ h _ he hb;have:=(List.getElem?_eq_some_iff.1 h).1;omega
  | more h he hb _ ih=>intro _;have:=hback _ _ h _ he hb;have:=(List.getElem?_eq_some_iff.1 h).1;exact ih (by omega)
 induction fuel with
 | zero=>
  intro listed rem σ a w own β hL hlk _ _ _;have:=(hL.mem k).2 ⟨hk,by rw[JcN (hL.size▸hk) true false];simpa using hlk⟩;rw[List.length_eq_zero_iff.1 hL.len] at this;simp at this
 | succ fuel ih=>
  intro listed rem σ a w own β hL hlk hc hv h;refine⟨fun hrd=>?_,fun i hir=>?_⟩
  · obtain⟨i,hi1⟩:=Jgy hback hL.size hk hlk
    rw[hrd] at hi1;simp at hi1
  · obtain⟨o,ho,hlt,h1,hn,h3⟩:=Jgz hL.size hir
    obtain⟨hL2,hL'⟩:=hL.add hlt h1;by_cases hik:i=k
    · subst hik
      obtain⟨v,hvs,hvi,hvi'⟩:=hcov (fun i=>listed.getD i false=true) (Jdf hL.size) hc hlk;have hin:∀j,IU v j↔listed.getD j false=true:=fun j=>⟨fun h=>(hvi' j h).elim id fun hre=>hre.ready (L:=fun i=>listed.getD i false=true) hc ho h3,hvi j⟩;have hI:=hv v hvs fun j hj=>(hin j).2 hj;have e:=hI.full (hruns v hvs) fun j hj=>(hin j).1 hj;subst e;exact hop v hvs fuel _ _ a w own β hL2 (fun j _=>(hL' j).trans (or_congr (hin j).symm Iff.rfl)) h
    ·
     have hc':∀(j:Nat) (o:Oper),all[j]?=some o→(listed.setIfInBounds i true).getD j false=true→∀e∈o.after,Region.binds .any e=true→(listed.setIfInBounds i true).getD e.on false=true:=by
      intro j oj hj hlj e he hb;rcases (hL' j).1 hlj with hlj | hlj
      · exact (hL' _).2 (.inl (hc j oj hj hlj e he hb))
      · subst hlj
        rw[ho] at hj;cases hj;exact (hL' _).2 (.inl (h3 e he hb))
     have hlk':¬(listed.setIfInBounds i true).getD k false=true:=fun hh=>((hL' k).1 hh).elim hlk (fun e=>hik e.symm);obtain⟨v,hvs,hvi,_⟩:=hcov (fun i'=>(listed.setIfInBounds i true).getD i' false=true) (Jdf hL2.size) hc' hlk';have hsub:∀j,(listed.setIfInBounds i true).getD j false=true→IU v j:=fun j hj=>hvi j hj;have hI:=hv v hvs fun j hj=>hsub j ((hL' j).2 (.inl hj));have hini:IU v i:=hsub i ((hL' i).2 (.inr rfl));obtain⟨r,h4,h5⟩:=hI.step (hruns v hvs) ho hn hini h3;refine Jfx hE h ho ((hruns v hvs).dst i o ho) h4 ?_;intro a' w' own' β' hst;refine ih (listed.setIfInBounds i true) (rem.erase i) (r.2.putO o.dst r.1) a' w' own' β' hL2 hlk' hc' (fun v' hvs' hsub'=>?_) hst;have hI':=hv v' hvs' fun j hj=>hsub' j ((hL' j).2 (.inl hj));obtain⟨r',h4',h5'⟩:=hI'.step (hruns v' hvs') ho hn (hsub' i ((hL' i).2 (.inr rfl))) h3;rw[h4] at h4';cases h4';obtain⟨σ'',_,h6,h7⟩:=h5' _ hL'
     rw[h7 (hno v' hvs')] at h6;exact h6
theorem JjI {Q:Exit→Act→World→Prop} {a:Act} {w:World} (hQ:Q .normal a w) {fuel:Nat} {listed:Array Bool} {rem:List Nat} (hL:Left all fuel listed rem)
 (hall:∀i,i<all.length→listed.getD i false=true):wpAny P .any all.toArray Q fuel listed a w:=by
 have hrem:rem=[]:=by
  apply List.eq_nil_iff_forall_not_mem.2;intro i hi;obtain⟨h1,h2⟩:=(hL.mem i).1 hi;have:=hall i h1;rw[JcN (hL.size▸h1) false true,h2] at this;cases this
 have hf:=hL.len;rw[hrem] at hf;subst hf;refine⟨?_,hQ⟩;apply List.eq_nil_iff_forall_not_mem.2;intro i hir;obtain⟨h1,o,h2,_⟩:=mem_ready.1 hir
 have hlt:i<all.length:=by
  have:=(Array.getElem?_eq_some_iff.1 h2).1;simpa using this
 have:=hall i hlt;rw[JcN (hL.size▸hlt) false true,h1] at this;cases this
theorem Jnc {Q:Exit→Act→World→Prop} {a:Act} {w:World} {k:Nat} {o:Oper} (ho:all[k]?=some o) (hback:∀(j:Nat) (o:Oper),all[j]?=some o→∀e∈o.after,Region.binds .any e=true→e.on<j)
 (hgate:∀j,k<j→j<all.length→Reach all j k) {fuel:Nat} {listed:Array Bool} {rem:List Nat} (hL:Left all fuel listed rem) (hlist:∀i,i<all.length→(listed.getD i false=true↔i<k))
 (hop:∀fuel listed rem,Left all fuel listed rem→(∀i,i<all.length→(listed.getD i false=true↔i<k+1)) →
  wpOp P all.toArray Q k (fun a' w'=>wpAny P .any all.toArray Q fuel listed a' w') a w):wpAny P .any all.toArray Q fuel listed a w:=by
 have hlt:k<all.length:=(List.getElem?_eq_some_iff.1 ho).1;have hs:=hL.size
 have hk:listed.getD k true=false:=by
  rw[JcN (hs▸hlt) true false];cases hg:listed.getD k false with
  | false=>rfl
  | true=>exact absurd ((hlist k hlt).1 hg) (Nat.lt_irrefl _)
 have hkm:k∈rem:=(hL.mem k).2 ⟨hlt,hk⟩
 have hkr:k∈Region.ready .any all.toArray listed:=mem_ready.2 ⟨hk,o,by simpa using ho,fun e he hb=>by
  have:=hback k o ho e he hb;exact (hlist e.on (by omega)).2 this⟩
 cases fuel with
 | zero=>rw[List.length_eq_zero_iff.1 hL.len] at hkm;simp at hkm
 | succ fuel=>
  refine⟨fun hrd=>(by rw[hrd] at hkr;simp at hkr),fun i hir=>?_⟩;obtain⟨h1,o',h2,h3⟩:=mem_ready.1 hir
  have hlt':i<all.length:=by
   have:=(Array.getElem?_eq_some_iff.1 h2).1;simpa using this
  have ho':all[i]?=some o':=by simpa using h2
  have hn:¬listed.getD i false=true:=by
   rw[JcN (hs▸hlt') false true,h1];simp
  have hik:i=k:=by
   rcases Nat.lt_trichotomy i k with h | h | h
   · exact absurd ((hlist i hlt').2 h) hn
   · exact h
   · exfalso
     have hc:∀(j:Nat) (o:Oper),all[j]?=some o→listed.getD j false=true→∀e∈o.after,Region.binds .any e=true→listed.getD e.on false=true:=by
      intro j o hj hlj e he hb;have hjl:j<all.length:=(List.getElem?_eq_some_iff.1 hj).1;have h4:=hback j o hj e he hb;have h5:=(hlist j hjl).1 hlj;exact (hlist e.on (by omega)).2 (by omega)
     have:=(hgate i h hlt').ready (L:=fun i=>listed.getD i false=true) hc ho' h3;exact absurd ((hlist k hlt).1 this) (Nat.lt_irrefl _)
  subst hik;obtain⟨hL2,hset⟩:=hL.set hlt' h1;refine hop fuel (listed.setIfInBounds i true) (rem.erase i) hL2 ?_;intro k' hk';rw[hset];by_cases e:k'=i
  · subst e;simp
  · simp only[e,if_false]
    rw[hlist k' hk'];omega
end
end Go.Re
