/- The library of the reflection: an evaluator of the program's code, and that it is sound. -/
import Derived.Test.YthnpgnabfcaaiaaGreatLib3
import Derived.DataReads
import Derived.ChangeReads
import Derived.SizedLaws
namespace Go.Re
set_option linter.unusedVariables false
set_option linter.unusedSimpArgs false
open Go.RowKit (Below)
section
variable {P:Program} {E:Env} {N:Nat} {Z:Base} {own:Own} {β:Jai} {σ:S} {a:Act} {w:World}
theorem Jac.giveUp {mem mem':Nat→Entry} (hm:∀s,mem s=mem' s∨∃v,mem' s= .gone v∧nextVer (mem s)≤v+1):∀{v:V} {u:Value},Jac own w β mem v u→Jac own w β mem' v u
 | .dead,_,_=>trivial
 | .val τ x,_,h=>h
 | .nil,_,h=>h
 | .ptr s ver p,_,⟨h1,h2⟩=>by
  rcases hm s with e | ⟨v,e1,e2⟩
  · exact⟨e▸h1,fun τ x h=>h2 τ x (e.trans h)⟩
  · exact⟨by rw[e1];exact Nat.lt_of_lt_of_le h1 e2,fun τ x h=>by (rw[e1] at h;cases h)⟩
 | .ref s ver,_,⟨h1,h2⟩=>by
  rcases hm s with e | ⟨v,e1,e2⟩
  · exact⟨e▸h1,fun τ xs m h=>h2 τ xs m (e.trans h)⟩
  · exact⟨by rw[e1];exact Nat.lt_of_lt_of_le h1 e2,fun τ xs m h=>by (rw[e1] at h;cases h)⟩
 | .elp s ver i p,_,⟨h1,h2⟩=>by
  rcases hm s with e | ⟨v,e1,e2⟩
  · exact⟨e▸h1,fun τ xs m h=>h2 τ xs m (e.trans h)⟩
  · exact⟨by rw[e1];exact Nat.lt_of_lt_of_le h1 e2,fun τ xs m h=>by (rw[e1] at h;cases h)⟩
 | .rpt τ x,_,h=>h
 | .nilq _ _,_,h=>h
 | .win s ver lo,_,⟨h1,h2⟩=>by
  rcases hm s with e | ⟨v,e1,e2⟩
  · exact⟨e▸h1,fun τ xs m h=>h2 τ xs m (e.trans h)⟩
  · exact⟨by rw[e1];exact Nat.lt_of_lt_of_le h1 e2,fun τ xs m h=>by (rw[e1] at h;cases h)⟩
 | .pre s ver hi,_,⟨h1,h2⟩=>by
  rcases hm s with e | ⟨v,e1,e2⟩
  · exact⟨e▸h1,fun τ xs m h=>h2 τ xs m (e.trans h)⟩
  · exact⟨by rw[e1];exact Nat.lt_of_lt_of_le h1 e2,fun τ xs m h=>by (rw[e1] at h;cases h)⟩
 | .plist t,_,⟨us,b,o,h1,h0,h2,h3⟩=>⟨us,b,o,h1,h0,h2,Jac.giveUp hm h3⟩
 | .pel x,_,⟨b,o,u,h1,h2,h3,h4⟩=>⟨b,o,u,h1,h2,h3,Jac.giveUp hm h4⟩
 | .clo g t,_,⟨us,h1,h2⟩=>⟨us,h1,Jac.giveUp hm h2⟩
 | .zval τ x z,_,h=>h
 | .tnil,_,h=>h
 | .tcons x r,_,⟨u,us,h1,h2,h3⟩=>⟨u,us,h1,Jac.giveUp hm h2,Jac.giveUp hm h3⟩
 | .agg b t,_,⟨us,h1,h2,h3⟩=>⟨us,h1,h2,Jac.giveUp hm h3⟩
 | .asl n e x,_,⟨ad,h1,h2⟩=>⟨ad,h1,Jac.giveUp hm h2⟩
 | .vpt s ver p,_,⟨h1,h2⟩=>by
  rcases hm s with e | ⟨v,e1,e2⟩
  · exact⟨e▸h1,fun τ x h=>h2 τ x (e.trans h)⟩
  · exact⟨by rw[e1];exact Nat.lt_of_lt_of_le h1 e2,fun τ x h=>by (rw[e1] at h;cases h)⟩
theorem Ag.st {D:Drop} {τ:S} (h:Ag D τ σ) (hs:St N Z own β τ a w):St N Z own β σ a w where
 frame:=hs.frame
 old:=hs.old
 size:=hs.size
 defers:=hs.defers
 slots t:=by
  rcases h.1 t with e | ⟨_,e⟩
  · rw[←e];exact (hs.slots t).giveUp fun s=>(h.2 s).imp id fun ⟨_,v,e1,e2⟩=>⟨v,e1,e2⟩
  · rw[e];trivial
 mems s:=by
  rcases h.2 s with e | ⟨_,v,e,_⟩
  · rw[←e];exact hs.mems s
  · rw[e];trivial
 pins s u hp h0:=by
  rcases h.2 s with e | ⟨_,v,e,_⟩
  · rw[←e] at h0;exact hs.pins s u hp h0
  · rw[e] at h0;cases h0
 kept:=hs.kept
 cells s:=by
  rcases h.2 s with e | ⟨_,v,e,_⟩
  · have hc:=hs.cells s
    rw[e] at hc;revert hc;cases σ.mem s with
    | vb ver τ0 v0=>
     rintro⟨b,o,u,h1,h2,h3,h4⟩;exact⟨b,o,u,h1,h2,h3,h4.giveUp fun s=>(h.2 s).imp id fun ⟨_,v,e1,e2⟩=>⟨v,e1,e2⟩⟩
    | _=>intro _;trivial
  · rw[e];trivial
theorem Jfg (σ:S):∀(l:List Nat),Frz σ (Jg4 σ l)
 | [],p,hp=>by simp[Jg4] at hp
 | s::r,p,hp=>by
  unfold Jg4 at hp;split at hp
  · rename_i v τ xs e
    rcases List.mem_cons.1 hp with hp | hp
    · subst hp;exact⟨v,τ,xs,e,rfl⟩
    · exact Jfg σ r p hp
  · exact Jfg σ r p hp
theorem St.freezeS (h:St N Z own β σ a w) (fz:List Nat):∃own',St N Z own' β (freezeS fz σ) a w:=
 let ⟨own',h1,_⟩:=h.freeze (Jfg σ fz)
 ⟨own',h1⟩
theorem JnP {d b o:Nat}:({w with drawn:=d}:World).cell? ⟨b,o,none⟩=w.cell? ⟨b,o,none⟩:=rfl
theorem St.draw (h:St N Z own β σ a w) (d:Nat):St N Z own β σ a {w with drawn:=d}:=by
 refine h.go ⟨rfl,rfl,rfl,Nat.le_refl _,fun _ _ _ _=>rfl,fun _ _ v _ e=>⟨⟨v,e⟩,rfl⟩,fun _ _ _ e=>e,fun _ _ _=>rfl⟩ (fun _ _ _ _=>rfl) ⟨fun _ _ _ e e'=>⟨e,e'⟩,fun _ _ _ e e'=>⟨e,e'⟩⟩
  (fun s=>Evo.same _ rfl) rfl (fun s=>?_) (fun s _=>⟨rfl,fun _ _ _ e e'=>⟨e,e',rfl⟩,fun _ _ _ e e'=>⟨e,e'⟩⟩)
 exact Jaj.keeps (own:=own) (own':=own) (w:=w) (w':={w with drawn:=d}) (β:=β) ⟨fun _ _ _ e e'=>⟨e,e'⟩,fun _ _ _ e e'=>⟨e,e'⟩⟩ ⟨fun _ _ _ e e'=>⟨e,e',rfl⟩,fun _ _ _ e e'=>⟨e,e'⟩⟩ (fun _ _ e=>e) rfl (h.mems s)
theorem Jb2:∀{l:List Oper},JaK N l=true→∀(i:Nat) (o:Oper),l[i]?=some o→∀t,o.dst=some t→t<N
 | [],_,_,_,h,_,_=>by simp at h
 | o1::r,h,i,o,ho,t,ht=>by
  simp only[JaK,Bool.and_eq_true] at h;cases i with
  | zero=>cases ho;have:=h.1;rw[ht] at this;simpa [Nat.blt_eq] using this
  | succ i=>exact Jb2 h.2.2 i o (by simpa using ho) t ht
theorem Jhy:∀{l:List Oper},JaK N l=true→∀(i:Nat) (o:Oper),l[i]?=some o→∀cs b,o.op≠ .select cs b
 | [],_,_,_,h=>by simp at h
 | o1::r,h,i,o,ho=>by
  simp only[JaK,Bool.and_eq_true] at h;cases i with
  | zero=>
   cases ho;intro cs b e;have:=h.2.1;unfold JmI at this;rw[e] at this;cases this
  | succ i=>exact Jhy h.2.2 i o (by simpa using ho)
theorem Jhb (hE:EnvOk P E) {all:List Oper} (hd:JaK N all=true) {R:Type} {K:S→Option R} {r:R} {Q:Exit→Act→World→Prop} {l2:List Nat}
 (hQ:∀σ' a' w' own β,St N Z own β σ' a' w'→K σ'=some r→wpOps P all.toArray Q l2 a' w'):
 ∀(os:List Oper) (i:Nat) {σ:S} {a:Act} {w:World} {own:Own} {β:Jai},(∀j,j<os.length→os[j]?=all[i+j]?)→St N Z own β σ a w→evP E all os σ K=some r →
  wpOps P all.toArray Q (List.range' i os.length++l2) a w
 | [],i,σ,a,w,own,β,_,h,he=>by
  simp only[List.length_nil,List.range'_zero,List.nil_append];exact hQ _ _ _ _ _ h he
 | o::os,i,σ,a,w,own,β,hl,h,he=>by
  simp only[List.length_cons,List.range'_succ,List.cons_append];rw[wpOps_cons];have ho:all[i]?=some o:=by have:=hl 0 (by simp);simpa using this.symm
  unfold evP at he;rw[M.runK_eq] at he;obtain⟨q,h1,h2⟩:=Option.bind_eq_some_iff.1 he;refine Jfx hE h ho (Jb2 hd i o ho) h1 fun a' w' own' β' hs=>?_;exact Jhb hE hd hQ os (i+1) (fun j hj=>by have:=hl (j+1) (by simpa using hj);simpa [Nat.add_assoc,Nat.add_comm 1 j] using this) hs h2
theorem JiQ (hE:EnvOk P E) {all:List Oper} (hd:JaK N all=true) {R:Type} {K:S→Option R} {r:R} {Q:Exit→Act→World→Prop}
 (hQ:∀σ' a' w' own β,St N Z own β σ' a' w'→K σ'=some r→Q .normal a' w'):
 ∀(os:List Oper) (i:Nat) {σ:S} {a:Act} {w:World} {own:Own} {β:Jai},(∀j,os[j]?=all[i+j]?)→St N Z own β σ a w→evP E all os σ K=some r →
  wpOps P all.toArray Q (List.range' i os.length) a w:=by
 intro os i σ a w own β hl h he;have:=Jhb (P:=P) (l2:=[]) hE hd (Q:=Q) (fun σ' a' w' own β h1 h2=>hQ σ' a' w' own β h1 h2) os i (fun j _=>hl j) h he;rw[List.append_nil] at this;exact this
theorem JnB (hE:EnvOk P E) {all:List Oper} (hd:JaK N all=true) {Q:Exit→Act→World→Prop} {os:List Oper} {ds:List Dec} {τ τ':S} (hr:Run E all os ds τ τ'):
 ∀(i:Nat) {a:Act} {w:World} {own:Own} {β:Jai},(∀j,os[j]?=all[i+j]?)→St N Z own β τ a w →
  (∀a' w' own β,St N Z own β τ' a' w'→Q .normal a' w')→wpOps P all.toArray Q (List.range' i os.length) a w:=by
 induction hr with
 | nil σ=>intro i a w own β _ h hQ;exact hQ _ _ _ _ h
 | @cons o os d ds σ σ' r hr hf _ ih=>
  intro i a w own β hl h hQ;simp only[List.length_cons,List.range'_succ];rw[wpOps_cons];have ho:all[i]?=some o:=by have:=hl 0;simpa using this.symm
  refine Jfx hE h ho (Jb2 hd i o ho) hr fun a' w' own' β' hs=>?_;exact ih (i+1) (fun j=>by have:=hl (j+1);simpa [Nat.add_assoc,Nat.add_comm 1 j] using this) hs hQ
def Jfh (P:Program) (l:List Oper) (i:Nat) (d:Bool) (Q:Exit→Act→World→Prop) (a:Act) (w:World):Prop:=
 match d with
 | true=>∀fuel listed rem,Left l fuel listed rem→(∀j,j<l.length→(listed.getD j false=true↔j<i))→wpAny P .any l.toArray Q fuel listed a w
 | false=>wpOps P l.toArray Q (List.range' i (l.length-i)) a w
theorem JiR {l:List Oper} {d:Bool} {Q:Exit→Act→World→Prop} (hQ:Q .normal a w):Jfh P l l.length d Q a w:=by
 cases d with
 | true=>exact fun fuel listed rem hL hlist=>JjI hQ hL fun i hi=>(hlist i hi).2 hi
 | false=>show wpOps P l.toArray Q (List.range' l.length (l.length-l.length)) a w;rw[Nat.sub_self];exact hQ
theorem JgA {l:List Oper} {i k:Nat} (h:JeR l i k=true):(∀j,i+k<j→j<l.length→Reach l j (i+k))∧∀j,i+k≤j→j<l.length→∀m,i≤m→m<i+k→Reach l j m:=by
 have hr:∀j m,Nat.testBit ((JbH l []).getD j 0) m=true→Reach l j m:=fun j m hb=>JcY l [] [] (by simp) rfl (by simp) j m hb;unfold JeR at h;cases hb:Nat.blt (i+k) l.length with
 | false=>
  have:¬i+k<l.length:=by rw[←Nat.blt_eq,hb];simp
  exact⟨fun j h1 h2=>by omega,fun j h1 h2=>by omega⟩
 | true=>
  rw[hb] at h;simp only[cond_true,Bool.and_eq_true,List.all_eq_true,List.mem_range] at h;have h1:∀j,i+k<j→j<l.length→Reach l j (i+k):=fun j h1 h2=>hr _ _ (by have:=h.2 (j-(i+k+1)) (by omega);rwa [show i+k+1+(j-(i+k+1))=j by omega] at this);have h2:∀m,i≤m→m<i+k→Reach l (i+k) m:=fun m h1 h2=>hr _ _ (by have:=h.1 (m-i) (by omega);rwa [show i+(m-i)=m by omega] at this);refine⟨h1,fun j h3 h4 m h5 h6=>?_⟩;rcases Nat.eq_or_lt_of_le h3 with e | h3
  · subst e;exact h2 m h5 h6
  · exact (h1 j h3 h4).trans (h2 m h5 h6)
theorem Jdq {n:Nat}:∀{ix:List Nat},Jfd n ix=true→ix.Pairwise (·<·)∧∀i∈ix,i<n
 | [],_=>⟨.nil,by simp⟩
 | [i],h=>⟨List.pairwise_singleton _ _,by simpa [Jfd] using h⟩
 | i::j::r,h=>by
  simp only[Jfd,Bool.and_eq_true] at h;obtain⟨h1,h2⟩:=Jdq h.2;have hij:i<j:=by simpa using h.1
  refine⟨List.pairwise_cons.2 ⟨fun y hy=>?_,h1⟩,fun y hy=>?_⟩
  · rcases List.mem_cons.1 hy with rfl | hy
    · exact hij
    · have:=(List.pairwise_cons.1 h1).1 y hy;omega
  · rcases List.mem_cons.1 hy with rfl | hy
    · have:=h2 j (by simp);omega
    · exact h2 y hy
theorem Jeu:∀{ix:List Nat},ix.Pairwise (·<·)→∀{p x:Nat},ix[p]?=some x→ix.countP (·<x)=p∧ix.countP (·<x+1)=p+1
 | [],_,_,_,h=>by simp at h
 | a::r,hs,p,x,h=>by
  obtain⟨h1,h2⟩:=List.pairwise_cons.1 hs;cases p with
  | zero=>
   cases h;have e1:r.countP (·<a)=0:=List.countP_eq_zero.2 fun y hy=>by have:=h1 y hy;simp;omega
   have e2:r.countP (·<a+1)=0:=List.countP_eq_zero.2 fun y hy=>by have:=h1 y hy;simp;omega
   simp[List.countP_cons,e1,e2]
  | succ p=>
   have hx:r[p]?=some x:=by simpa using h
   have:=h1 x (List.mem_of_getElem? hx);obtain⟨e1,e2⟩:=Jeu h2 hx;rw[List.countP_cons,List.countP_cons,e1,e2];simp;omega
theorem Jnd {ix:List Nat} {j:Nat} (h:j∉ix):ix.countP (·<j+1)=ix.countP (·<j):=by
 apply List.countP_congr;intro y hy;have:y≠j:=fun e=>h (e▸hy);simp;omega
theorem Jfi {l:List Oper}:∀{ix:List Nat},(∀i∈ix,i<l.length)→∀(p:Nat),(Jbz l ix)[p]?=(ix[p]?).bind (l[·]?)
 | [],_,p=>by simp[Jbz]
 | i::r,h,p=>by
  have hi:i<l.length:=h i (by simp);unfold Jbz;rw[List.getElem?_eq_getElem hi];cases p with
  | zero=>simp[hi]
  | succ p=>simpa using Jfi (fun j hj=>h j (List.mem_cons_of_mem _ hj)) p
theorem Jc0 {l:List Oper}:∀{ix:List Nat},(∀i∈ix,i<l.length)→(Jbz l ix).length=ix.length
 | [],_=>rfl
 | i::r,h=>by
  unfold Jbz;rw[List.getElem?_eq_getElem (h i (by simp))];simp[Jc0 (fun j hj=>h j (List.mem_cons_of_mem _ hj))]
theorem Jjo {l:List Oper}:∀(k i:Nat),i+k≤l.length→Jbz l (List.range' i k)=(l.drop i).take k:=by
 intro k i h;apply List.ext_getElem?;intro p;rw[Jfi (fun j hj=>by have:=List.mem_range'_1.1 hj;omega),List.getElem?_take];by_cases hp:p<k
 · rw[if_pos hp,List.getElem?_range' hp,List.getElem?_drop];simp
 · rw[if_neg hp,List.getElem?_eq_none (by simpa using Nat.le_of_not_lt hp)];rfl
theorem JjJ {l:List Oper} (hd:JaK N l=true) (hb:Jbn 0 l=true) {ix:List Nat} (hs:ix.Pairwise (·<·)) (hlt:∀i∈ix,i<l.length) {decs:List Dec} {σ τ':S}
 (hrun:Run E l (Jbz l ix) decs σ τ')
 (hap:∀(p q x y:Nat) (o:Oper) (d:Dec) (o':Oper) (d':Dec),p<q→ix[p]?=some x→ix[q]?=some y→l[x]?=some o→decs[p]?=some d→l[y]?=some o'→decs[q]?=some d'→Reach l y x∨Jbf l o o' d d'=true∨(JaG o d=true∧JaG o' d'=true)):
 ∃ds f,Runs E N l ds f (fun j=>j∈ix)∧f 0=σ∧f l.length=τ':=by
 obtain⟨g,g1,g2,g3,g4⟩:=hrun.states;have hlen:=Jc0 hlt;rw[hlen] at g2
 have hpos:∀x∈ix,∃p,ix[p]?=some x∧p<ix.length:=fun x hx=>by
  obtain⟨p,hp,e⟩:=List.getElem_of_mem hx;exact⟨p,by rw[List.getElem?_eq_getElem hp,e],hp⟩
 have hfull:ix.countP (·<l.length)=ix.length:=by
  rw[List.countP_eq_length];intro a ha;simpa using hlt a ha
 have hdget:∀j,j<l.length→((List.range l.length).map fun j=>decs.getD (ix.countP (·<j)) ⟨[],[]⟩)[j]?=some (decs.getD (ix.countP (·<j)) ⟨[],[]⟩):=fun j hj=>by simp[hj]
 have hdx:∀{p x:Nat} {d:Dec},ix[p]?=some x→((List.range l.length).map fun j=>decs.getD (ix.countP (·<j)) ⟨[],[]⟩)[x]?=some d→decs[p]?=some d:=by
  intro p x d hp hdx;have hx:=List.mem_of_getElem? hp;rw[hdget x (hlt x hx),(Jeu hs hp).1] at hdx;have hpl:p<decs.length:=by rw[←g3,hlen];exact (List.getElem?_eq_some_iff.1 hp).1
  rw[List.getD_eq_getElem?_getD,List.getElem?_eq_getElem hpl] at hdx;rw[List.getElem?_eq_getElem hpl];exact hdx
 refine⟨(List.range l.length).map fun j=>decs.getD (ix.countP (·<j)) ⟨[],[]⟩,fun j=>g (ix.countP (·<j)),⟨by simp,?_,hlt,Jb2 hd,?_,fun k o ho e he hbd=>by have:=JcZ _ 0 hb k o ho e he hbd;omega,?_⟩,?_,?_⟩
 · intro j hj
   show g _=g _;rw[Jnd hj]
 · intro x o d hx h3 h4
   obtain⟨p,hp,hpl⟩:=hpos x hx;obtain⟨c1,c2⟩:=Jeu hs hp;have ho:(Jbz l ix)[p]?=some o:=by rw[Jfi hlt,hp];exact h3
   obtain⟨r,k1,k2,k3⟩:=g4 p o d ho (hdx hp h4);exact⟨r,by show (JaQ E l o).run (g _)=_;rw[c1];exact k1,by show Jb8 ((JaQ E l o).foot (g _)) _ _=_;rw[c1];exact k2,by show g _=_;rw[c2];exact k3⟩
 · intro x y o d o' d' hx hy hxy h3 h4 h5 h6
   obtain⟨p,hp,_⟩:=hpos x hx;obtain⟨q,hq,_⟩:=hpos y hy
   have hpq:p<q:=by
    have e1:=(Jeu hs hp).1;have e2:=(Jeu hs hq).1;refine Nat.lt_of_not_le fun hle=>?_;rcases Nat.lt_or_eq_of_le hle with hlt' | e
    · have hp':=(List.getElem?_eq_some_iff.1 hp)
      have hq':=(List.getElem?_eq_some_iff.1 hq);have:=List.pairwise_iff_getElem.1 hs q p hq'.1 hp'.1 hlt';rw[hp'.2,hq'.2] at this;omega
    · subst e;rw[hp] at hq;cases hq;omega
   exact hap p q x y o d o' d' hpq hp hq h3 (hdx hp h4) h5 (hdx hq h6)
 · show g _=_
   rw[List.countP_eq_zero.2 (by simp)];exact g1
 · show g _=_
   rw[hfull];exact g2
theorem JjK (hE:EnvOk P E) {l:List Oper} (hd:JaK N l=true) (hb:Jbn 0 l=true) {ix:List Nat} (hs:ix.Pairwise (·<·)) (hlt:∀i∈ix,i<l.length) {sg:Seg} (hsg:sg.decs.length=ix.length)
 (hap:∀(p q x y:Nat) (o:Oper) (d:Dec) (o':Oper) (d':Dec),p<q→ix[p]?=some x→ix[q]?=some y→l[x]?=some o→sg.decs[p]?=some d→l[y]?=some o'→sg.decs[q]?=some d'→Reach l y x∨Jbf l o o' d d'=true∨(JaG o d=true∧JaG o' d'=true))
 {Dn:Nat→Prop} (hoff:∀i∈ix,¬Dn i) (hcl:∀j o,l[j]?=some o→Dn j→∀e∈o.after,Region.binds .any e=true→Dn e.on) (hgate:∀j,j<l.length→j∉ix→¬Dn j→∀i∈ix,Reach l j i)
 (h:St N Z own β σ a w) {R:Type} {K:S→Option R} {r:R} (he:evC E l sg (Jbz l ix) ⟨[],[]⟩ σ (fun _=>K)=some r) {Q:Exit→Act→World→Prop}
 (hQ:∀fuel listed rem σ' a' w' own β,Left l fuel listed rem→(∀i,i<l.length→(listed.getD i false=true↔i∈ix∨Dn i))→St N Z own β σ' a' w'→K σ'=some r→wpAny P .any l.toArray Q fuel listed a' w')
 {fuel:Nat} {listed:Array Bool} {rem:List Nat} (hL:Left l fuel listed rem) (hDl:∀i,listed.getD i false=true↔Dn i):wpAny P .any l.toArray Q fuel listed a w:=by
 obtain⟨σ',τ',D',e1,e2,e3,e4⟩:=JbT sg _ _ _ (fun _=>K) r _ he (Ag.refl _ _);have ht:(Jbz l ix).take sg.decs.length=Jbz l ix:=by rw[List.take_of_length_le];rw[Jc0 hlt,hsg];exact Nat.le_refl _
 rw[ht] at e3;obtain⟨ds,f,hR,f1,f2⟩:=JjJ hd hb hs hlt e3 hap
 refine JnA (P:=P) (Z:=Z) (Dn:=Dn) hE hR (fun j hj h1 h2 i hi=>hgate j hj h1 h2 i hi) ?_ fuel listed rem σ a w own β hL
  ⟨fun i hi=>(hDl i).2 hi,fun i hi=>.inr ((hDl i).1 hi),hoff,?_,fun t=>?_,fun s=>?_⟩ h
 · intro fuel listed rem a' w' own β hL hl2 hst
   rw[f2] at hst;exact hQ fuel listed rem _ _ _ _ _ hL hl2 (e4.st hst) e1
 · intro j o ho hj e he hbd
   exact (hDl _).2 (hcl j o ho ((hDl j).1 hj) e he hbd)
 · rw[JcE (j:=0) _ (Nat.zero_le _) (fun j _ _ hw hl=>hoff j hw.1 ((hDl j).1 hl))]
   show σ.slots t=(f 0).slots t;rw[f1]
 · rw[JcX (j:=0) _ (Nat.zero_le _) (fun j _ _ hw hl=>hoff j hw.1 ((hDl j).1 hl))]
   show σ.mem s=(f 0).mem s;rw[f1]
theorem Jhz {l:List Oper} {fuel:Nat} {listed:Array Bool} {rem:List Nat} (hL:Left l fuel listed rem) {j:Nat} (h:listed.getD j false=true):j<l.length:=by
 refine Classical.byContradiction fun hn=>?_;rw[Array.getD_eq_getD_getElem?,Array.getElem?_eq_none (by have:=hL.size;omega)] at h;cases h
theorem JjL (hE:EnvOk P E) {l:List Oper} (hd:JaK N l=true) (hb:Jbn 0 l=true) {i k:Nat} (hik:i+k≤l.length) {sg:Seg} (hsg:sg.decs.length=k)
 (hany:JdU l i ((l.drop i).take k) sg.decs=true) (hgate:∀j,i+k≤j→j<l.length→∀m,i≤m→m<i+k→Reach l j m)
 (h:St N Z own β σ a w) {R:Type} {K:S→Option R} {r:R} (he:evC E l sg ((l.drop i).take k) ⟨[],[]⟩ σ (fun _=>K)=some r) {Q:Exit→Act→World→Prop}
 (hQ:∀σ' a' w' own β,St N Z own β σ' a' w'→K σ'=some r→Jfh P l (i+k) true Q a' w'):Jfh P l i true Q a w:=by
 intro fuel listed rem hL hlist;have hmem:∀j,j∈List.range' i k↔i≤j∧j<i+k:=fun j=>by rw[List.mem_range'_1]
 refine JjK (ix:=List.range' i k) (Dn:=fun j=>j<i) hE hd hb (List.pairwise_lt_range' (s:=i) (n:=k)) (fun j hj=>by have:=(hmem j).1 hj;omega) (by rw[hsg,List.length_range']) ?_ (fun j hj=>by have:=(hmem j).1 hj;omega) ?_ ?_ h
  (by rw[Jjo k i hik];exact he) ?_ hL ?_
 · intro p q x y o d o' d' hpq hp hq h3 h4 h5 h6
   have hpl:p<k:=by have:=(List.getElem?_eq_some_iff.1 hp).1;simpa using this
   have hql:q<k:=by have:=(List.getElem?_eq_some_iff.1 hq).1;simpa using this
   rw[List.getElem?_range' hpl] at hp;rw[List.getElem?_range' hql] at hq;cases hp;cases hq;rw[Nat.one_mul] at h3 h5 ⊢
   · · have:=Jhx _ _ i hany p q o d o' d' hpq (by rw[List.getElem?_take,if_pos (by omega),List.getElem?_drop];simpa using h3) h4 (by rw[List.getElem?_take,if_pos (by omega),List.getElem?_drop];simpa using h5) h6
       rw[Nat.one_mul];exact this.imp (fun hb=>JcY l [] [] (by simp) rfl (by simp) _ _ hb) (fun x=>x)
 · intro j o ho hj e he hbd
   have:=JcZ _ 0 hb j o ho e he hbd;omega
 · intro j hj h1 h2 m hm
   have:=(hmem m).1 hm;exact hgate j (by rw[hmem] at h1;omega) hj m this.1 this.2
 · intro fuel listed rem σ' a' w' own β hL hl2 hst hk
   exact hQ _ _ _ _ _ hst hk fuel listed rem hL fun j hj=>(hl2 j hj).trans (by rw[hmem];omega)
 · intro j
   constructor
   · exact fun hj=>(hlist j (Jhz hL hj)).1 hj
   · intro hj;exact (hlist j (by omega)).2 hj
theorem Jf7 (l:List Oper):Left l l.length (Array.replicate l.length false) (List.range l.length):=⟨by simp,List.nodup_range,by simp,by
 intro i;simp only[List.mem_range]
 constructor
 · intro hi;refine⟨hi,?_⟩;simp[Array.getD_eq_getD_getElem?,hi]
 · exact fun h=>h.1⟩
theorem JhA (l:List Oper):∀j,j<l.length→((Array.replicate l.length false).getD j false=true↔j<0):=by
 intro j hj;simp[Array.getD_eq_getD_getElem?,hj]
theorem JiS (hE:EnvOk P E) {l:List Oper} (hd:JaK N l=true) {i k:Nat} {d:Bool} (hb:d=true→Jbn 0 l=true) (hik:i+k≤l.length) {s:Option (List Nat×Seg)}
 (h:St N Z own β σ a w) {R:Type} {K:S→Option R} {r:R} (he:JeS E l i k s d σ K=some r) {Q:Exit→Act→World→Prop}
 (hQ:∀σ' a' w' own β,St N Z own β σ' a' w'→K σ'=some r→(d=true→JeR l i k=true)→Jfh P l (i+k) d Q a' w'):Jfh P l i d Q a w:=by
 cases s with
 | none=>
  cases d with
  | true=>cases he
  | false=>
   have he:evP E l ((l.drop i).take k) σ K=some r:=he;have hlen:((l.drop i).take k).length=k:=by rw[List.length_take,List.length_drop];omega
   show wpOps P l.toArray Q (List.range' i (l.length-i)) a w
   have hrange:List.range' i (l.length-i)=List.range' i ((l.drop i).take k).length++List.range' (i+k) (l.length-(i+k)):=by
    rw[hlen,List.range'_append_1];congr 1;omega
   rw[hrange]
   exact Jhb (P:=P) hE hd (fun σ' a' w' own β h1 h2=>hQ σ' a' w' own β h1 h2 (fun e=>by cases e)) _ i (fun j hj=>by
    rw[hlen] at hj;rw[List.getElem?_take,if_pos hj,List.getElem?_drop]) h he
 | some q=>
  cases d with
  | false=>cases he
  | true=>
   have he:(bif Nat.beq q.2.decs.length k&&(JdU l i ((l.drop i).take k) q.2.decs&&JeR l i k) then evC E l q.2 ((l.drop i).take k) ⟨[],[]⟩ (freezeS q.1 σ) (fun _=>K) else none)=some r:=he;cases hc:Nat.beq q.2.decs.length k&&(JdU l i ((l.drop i).take k) q.2.decs&&JeR l i k) with
   | false=>rw[hc] at he;cases he
   | true=>
    rw[hc,cond_true] at he;simp only[Bool.and_eq_true] at hc;obtain⟨own',h'⟩:=h.freezeS q.1;exact JjL hE hd (hb rfl) hik (Nat.eq_of_beq_eq_true hc.1) hc.2.1 (JgA hc.2.2).2 h' he (fun σ' a' w' own β h1 h2=>hQ σ' a' w' own β h1 h2 (fun _=>hc.2.2))
theorem JnC {l:List Oper} {j:Nat} {o:Oper} (ho:l[j]?=some o) {d:Bool} (hb:d=true→Jbn 0 l=true) (hg:d=true→∀m,j<m→m<l.length→Reach l m j)
 {Q:Exit→Act→World→Prop} (h:∀K:Act→World→Prop,(∀a' w',Jfh P l (j+1) d Q a' w'→K a' w')→wpOp P l.toArray Q j K a w):Jfh P l j d Q a w:=by
 have hlt:j<l.length:=(List.getElem?_eq_some_iff.1 ho).1;cases d with
 | true=>
  intro fuel listed rem hL hlist;refine Jnc ho (fun k o ho e he hbd=>by have:=JcZ _ 0 (hb rfl) k o ho e he hbd;omega) (hg rfl) hL hlist fun fuel listed rem hL hlist=>h _ fun a' w' h'=>h' fuel listed rem hL hlist
 | false=>
  show wpOps P l.toArray Q (List.range' j (l.length-j)) a w;rw[show l.length-j=(l.length-(j+1))+1 by omega,List.range'_succ,wpOps_cons];exact h _ fun a' w' h'=>h'
theorem Jne (hE:EnvOk P E) {ops:Array Oper} {draw:Bool} {fz:List Nat} {c:Option Seg} {R:Type} {K:S→Option R} {r:R} {Q:Exit→Act→World→Prop}
 (h:St N Z own β σ a w) (he:evR E N ops.toList draw fz c σ K=some r) (hQ:∀σ' a' w' own β,St N Z own β σ' a' w'→K σ'=some r→Q .normal a' w'):
 JaK N ops.toList=true∧if draw=true then wpAny P .any ops Q ops.size (Array.replicate ops.size false) a {w with drawn:=w.drawn+1} else wpOps P ops Q (List.range ops.size) a w:=by
 unfold evR at he;cases hd:JaK N ops.toList with
 | false=>rw[hd] at he;cases he
 | true=>
  rw[hd] at he;simp only[cond_true] at he;refine⟨rfl,?_⟩;have hops:ops.toList.toArray=ops:=by simp
  cases c with
  | none=>
   cases draw with
   | true=>cases he
   | false=>
    have he:evP E ops.toList ops.toList (freezeS fz σ) K=some r:=he;obtain⟨own',h'⟩:=h.freezeS fz;rw[if_neg (by decide)];have:=JiQ (P:=P) hE hd hQ ops.toList 0 (by simp) h' he;rw[hops] at this;rw[List.range_eq_range'];simpa using this
  | some sg=>
   have he:(bif Nat.beq sg.decs.length ops.toList.length&&(!draw||(Jbn 0 ops.toList&&JdU ops.toList 0 ops.toList sg.decs)) then
    evC E ops.toList sg ops.toList ⟨[],[]⟩ (freezeS fz σ) (fun _=>K) else none)=some r:=he
   cases hc:Nat.beq sg.decs.length ops.toList.length&&(!draw||(Jbn 0 ops.toList&&JdU ops.toList 0 ops.toList sg.decs)) with
   | false=>rw[hc] at he;cases he
   | true=>
    rw[hc] at he;simp only[cond_true] at he;simp only[Bool.and_eq_true,Bool.or_eq_true,Bool.not_eq_true'] at hc;have hlen:=Nat.eq_of_beq_eq_true hc.1;obtain⟨own',h'⟩:=h.freezeS fz;have he0:=he;obtain⟨σ',τ',D',e1,e2,e3,e4⟩:=JbT sg _ _ _ (fun _=>K) r _ he (Ag.refl _ _);rw[hlen,List.take_length] at e3;have hQ':∀a' w' own β,St N Z own β τ' a' w'→Q .normal a' w':=fun a' w' own β hs=>hQ _ _ _ _ _ (e4.st hs) e1;cases draw with
    | false=>
     rw[if_neg (by decide)];have:=JnB (P:=P) hE hd e3 0 (by simp) h' hQ';rw[hops] at this;rw[List.range_eq_range'];simpa using this
    | true=>
     obtain⟨hb,hany⟩:=hc.2.resolve_left (by simp);rw[if_pos rfl]
     have:=JjL (P:=P) (Q:=Q) (i:=0) (k:=ops.toList.length) hE hd hb (by omega) hlen (by rw[List.drop_zero,List.take_length];exact hany) (fun j h1 h2=>by omega) (h'.draw (w.drawn+1)) (K:=K) (r:=r) (by rw[List.drop_zero,List.take_length];exact he0)
      (fun σ' a' w' own β h1 h2=>by rw[Nat.zero_add];exact JiR (hQ _ _ _ _ _ h1 h2)) _ _ _ (Jf7 _) (JhA _)
     rw[hops] at this;simpa using this
theorem Jfj {α β:Type} {g:α→β}:∀{l:List α},(l.map g).Nodup→∀{x y:α},x∈l→y∈l→g x=g y→x=y
 | [],_,_,_,h,_,_=>by cases h
 | z::l,hn,x,y,hx,hy,e=>by
  rw[List.map_cons,List.nodup_cons] at hn;rcases List.mem_cons.1 hx with h1 | h1
  · rcases List.mem_cons.1 hy with h2 | h2
    · rw[h1,h2]
    · exact absurd (List.mem_map.2 ⟨y,h2,by rw[←e,h1]⟩) hn.1
  · rcases List.mem_cons.1 hy with h2 | h2
    · exact absurd (List.mem_map.2 ⟨x,h1,by rw[e,h2]⟩) hn.1
    · exact Jfj hn.2 h1 h2 e
theorem St.reslot (h:St N Z own β σ a w) {t:Nat} {v:V} (hv:Jac own w β σ.mem v (a.tmps.getD t undef)):St N Z own β (σ.put t v) a w where
 frame:=h.frame
 old:=h.old
 size:=h.size
 defers:=h.defers
 slots t':=by
  show Jac own w β σ.mem (upd σ.slots t v t') _;rw[Jad];split
  · rename_i e;subst e;exact hv
  · exact h.slots t'
 mems:=h.mems
 pins:=h.pins
 cells:=h.cells
 kept:=h.kept
theorem JnD (h:St N Z own β σ a w) {o:Oper} {t s ver:Nat} {KT VT:Ty} {xs:List (KT.D×VT.D)} {b:Bool} {f:KT.D→KT.D→Bool} (hK:Jbb KT=true) (hf:eqD KT=some f)
 (ho:o.op= .next (.tmp t) false) (hs:σ.slots t= .ref s ver) (hm:σ.mem s= .own ver (.pair KT VT) xs (.it b)):
 (xs.tail=[]∧Did P N Z o a w σ (.tcons (.val .bool false) .tnil)) ∨
 ∃p∈xs.tail,Did P N Z o a w ((σ.set s (.own (ver+1) (.pair KT VT) (p::JdF f p.1 xs.tail) (.it true))).put t (.ref s (ver+1))) (.tcons (.val .bool true) .dead):=by
 have hsl:=h.slots t;rw[hs] at hsl;have hmm:=h.mems s;rw[hm] at hmm;obtain⟨r,m1,m2,m3,m4⟩:=hmm;have hu:a.eval (.tmp t)= .pointer (some ⟨r,0,none⟩):=(show a.eval (.tmp t)=a.tmps.getD t undef from rfl).trans ((hsl.2 _ _ _ hm).trans m1);have he:execOp a.eval o=(do pure (.value (←Instr.next (a.eval (.tmp t)) false o.type))):=by unfold execOp;rw[ho]
 rcases m4 with ⟨x,y,z,g1,g2,g3⟩ | ⟨m,es,c,seen,bag,g1,g2,g3,g4,g5,g6,g7,g8⟩
 · left
   refine⟨g3,Jae (exec_v he (u:=.tuple #[.bool false]) (w':=w) ?_) h ⟨.bool false,[],rfl,Jab.bool.2 rfl,rfl⟩⟩;rw[hu];simp only[Instr.next,Sem.run_bind,Jb7 rfl g1,Result.andThen_ok];rfl
 · rcases Jjh (P:=P) o.type g1 g3 g4.old with ⟨h0,hrun⟩ | ⟨e,he1,w1,hset,hrun⟩
   · left
     refine⟨?_,Jae (exec_v he (by rw[hu];exact hrun)) h ⟨.bool false,[],rfl,Jab.bool.2 rfl,rfl⟩⟩;apply List.eq_nil_iff_forall_not_mem.2;intro p hp;obtain⟨e,e1,e2,_⟩:=g7 p hp
     have:e∈(leftOf es seen).toList:=by
      unfold leftOf;rw[Array.mem_toList_iff,Array.mem_filter];exact⟨by rw[←Array.mem_toList_iff];exact e1,by rw[e2];rfl⟩
     have hl:(leftOf es seen).toList.length=0:=by simpa using h0
     rw[List.length_eq_zero_iff.1 hl] at this;cases this
   · right
     have hel:e∈es.toList∧seen.contains e.born=false:=by
      unfold leftOf at he1;rw[Array.mem_toList_iff,Array.mem_filter] at he1;exact⟨by rw[Array.mem_toList_iff];exact he1.1,by simpa using he1.2⟩
     obtain⟨p,p1,p2,p3⟩:=g6 e hel.1 hel.2;have hpush:∀x,(seen.push e.born).contains x=(seen.contains x||x==e.born):=fun x=>by simp[Array.contains_push];rfl
     have hmr:m≠r:=fun e=>by rw[e,g1] at g3;cases g3
     have hst:=h.setObj hset m2 m3 (.own (ver+1) (.pair KT VT) (p::JdF f p.1 xs.tail) (.it true)) (by rw[hm];exact Evo.newOwn (.own ver (.pair KT VT) xs (.it b)) _ _ _) ?_
     · refine⟨p,p1,Jae (exec_v he (by rw[hu];exact hrun)) (hst.reslot ⟨?_,fun _ _ _ _=>hsl.2 _ _ _ hm⟩) ⟨.bool true,[e.key,e.val],rfl,Jab.bool.2 rfl,trivial⟩⟩
       show ver+1<nextVer (upd σ.mem s _ s);rw[Jad,if_pos rfl];exact Nat.lt_succ_self _
     refine⟨r,m1,m2,m3,.inr ⟨m,es,c,seen.push e.born,bag,hset.self,g2,by rw[hset.other m hmr];exact g3,g4,fun _=>⟨e,hel.1,by simp,p,rfl,p2,p3,(g8 p p1).1,(g8 p p1).2⟩,?_,?_,?_⟩⟩
     · intro e' h1 h2
       rw[hpush,Bool.or_eq_false_iff] at h2;obtain⟨q,q1,q2,q3⟩:=g6 e' h1 h2.1;refine⟨q,?_,q2,q3⟩;show q∈JdF f p.1 xs.tail;unfold JdF;rw[List.mem_filter];refine⟨q1,?_⟩;cases hfq:f q.1 p.1 with
       | false=>rfl
       | true=>
        exfalso;have h3:=(JdK hK hf).1 hfq;have h4:e'.key=e.key:=by rw[q2,p2,h3]
        have:=Jfj g4.keys h1 hel.1 h4;subst this;simp at h2
     · intro q hq
       have hq:q∈JdF f p.1 xs.tail:=hq;unfold JdF at hq;rw[List.mem_filter] at hq;obtain⟨e',h1,h2,h3⟩:=g7 q hq.1;refine⟨e',h1,?_,h3⟩;rw[hpush,h2,Bool.false_or];cases hb:e'.born==e.born with
       | false=>rfl
       | true=>
        exfalso;have:=Jfj g4.born h1 hel.1 (by simpa using hb);subst this;have h4:q.1=p.1:=JjE hK (by rw[←h3,←p2]);rw[(JdK hK hf).2 h4] at hq;cases hq.2
     · intro q hq
       have hq:q∈JdF f p.1 xs.tail:=hq;unfold JdF at hq;exact g8 q (List.mem_filter.1 hq).1
theorem JiT {l:List Oper} {i:Nat} {o:Oper} {σ':S} {v:V} (hg:o.guard=none) (ho:l[i]?=some o) (hd:∀t,o.dst=some t→t<N) (hD:Did P N Z o a w σ' v) {Q:Exit→Act→World→Prop} {K:Act→World→Prop}
 (hK:∀a' w' own β,St N Z own β (σ'.putO o.dst v) a' w'→K a' w'):wpOp P l.toArray Q i K a w:=by
 unfold wpOp;have ho':l.toArray[i]?=some o:=by simpa using ho
 simp only[ho',Region.wanted,hg,if_true]
 left
 refine Oper.wp_mono ?_ (hD Q);rintro a' w' ⟨u,rfl,own',β',hs,hv⟩;exact hK _ _ _ _ (hs.putO hd hv)
theorem JnE (hE:EnvOk P E) {ops:Array Oper} {draw:Bool} {R:Type} {K:S→Option R} {r:R} {Q:Exit→Act→World→Prop}
 (h:St N Z own β σ a w) (he:(bif JaK N ops.toList&&!draw then nxE E ops.toList ops.toList σ K else none)=some r)
 (hQ:∀σ' a' w' own β,St N Z own β σ' a' w'→K σ'=some r→Q .normal a' w'):JaK N ops.toList=true∧draw=false∧wpOps P ops Q (List.range ops.size) a w:=by
 cases hc:JaK N ops.toList&&!draw with
 | false=>rw[hc] at he;cases he
 | true=>
  rw[hc,cond_true] at he;simp only[Bool.and_eq_true,Bool.not_eq_true'] at hc;obtain⟨hd,hdr⟩:=hc;subst hdr;refine⟨hd,rfl,?_⟩;have hops:ops.toList.toArray=ops:=by simp
  suffices key:wpOps P ops.toList.toArray Q (List.range' 0 ops.toList.length) a w by
   rw[hops] at key;rw[List.range_eq_range'];simpa using key
  generalize ops.toList=l at hd he
  unfold nxE at he;split at he
  case h_2=>cases he
  rename_i o rest;split at he
  case h_2=>cases he
  rename_i t d hop hgd hdst;split at he
  case h_2=>cases he
  rename_i s ver hs;split at he
  case h_2=>cases he
  rename_i ver' KT VT xs b hm;cases hv:Nat.beq ver ver'&&Jbb KT with
  | false=>rw[hv] at he;cases he
  | true=>
   rw[hv,cond_true] at he;simp only[Bool.and_eq_true] at hv;have hver:=Nat.eq_of_beq_eq_true hv.1;subst hver;split at he
   case h_2=>cases he
   rename_i f hf;simp only[List.length_cons,List.range'_succ];rw[wpOps_cons];have hdo:=Jb2 hd 0 o rfl;rcases JnD h hv.2 hf hop hs hm with ⟨h1,hD⟩ | ⟨p,h1,hD⟩
   · have he1:evP E (o::rest) rest (σ.put d (.tcons (.val .bool false) .tnil)) K=some r:=by
      rw[h1] at he;exact he
     refine JiT hgd rfl hdo hD fun a' w' own' β' hst=>?_;rw[hdst] at hst;exact JiQ hE hd hQ rest 1 (fun j=>by rw[Nat.add_comm];rfl) hst he1
   · have hne:List.isEmpty xs.tail=false:=by
      cases hx:xs.tail with
      | nil=>rw[hx] at h1;cases h1
      | cons _ _=>rfl
     rw[hne,cond_false] at he;have he1:=Jjk he p h1;refine JiT hgd rfl hdo hD fun a' w' own' β' hst=>?_;rw[hdst] at hst;exact JiQ hE hd hQ rest 1 (fun j=>by rw[Nat.add_comm];rfl) hst he1
theorem JhB {R:Type} {r:R}:∀{l:List (Option R)},Jg9 l=some r→∀x∈l,x=some r
 | [],h,_,_=>by cases h
 | [a],h,x,hx=>by
  have h:a=some r:=h;rw[List.mem_singleton.1 hx];exact h
 | a::b::l,h,x,hx=>by
  have h:both a (Jg9 (b::l))=some r:=h;obtain⟨h1,h2⟩:=Jfc h;rcases List.mem_cons.1 hx with rfl | hx
  · exact h1
  · exact JhB h2 x hx
theorem JiU:∀{l:List Prop},JiF l→∀p∈l,p
 | p::r,h,q,hq=>by
  rcases List.mem_cons.1 hq with rfl | hq
  · exact h.1
  · exact JiU h.2 q hq
theorem JiV {l:List Oper} {i:Nat} {d:Dec}:∀{r:List Nat} {ds:List Dec},JeQ.one l i d r ds=true→∀(q y:Nat) (o o':Oper) (d':Dec),r[q]?=some y→l[i]?=some o→l[y]?=some o'→ds[q]?=some d' →
 Reach l y i∨Jbf l o o' d d'=true
 | [],_,_,q,y,o,o',d',h1,_,_,_=>by simp at h1
 | _::_,[],_,q,y,o,o',d',_,_,_,h4=>by simp at h4
 | j::r,d1::ds,h,q,y,o,o',d',h1,h2,h3,h4=>by
  simp only[JeQ.one,Bool.and_eq_true,Bool.or_eq_true] at h;cases q with
  | zero=>
   cases h1;cases h4;rcases h.1 with h5 | h5
   · exact .inl (JcY l [] [] (by simp) rfl (by simp) _ _ h5)
   · rw[h2,h3] at h5;exact .inr h5
  | succ q=>exact JiV h.2 q y o o' d' (by simpa using h1) h2 h3 (by simpa using h4)
theorem Jfk {l:List Oper}:∀{ix:List Nat} {ds:List Dec},JeQ l ix ds=true→∀(p q x y:Nat) (o:Oper) (d:Dec) (o':Oper) (d':Dec),p<q→ix[p]?=some x→ix[q]?=some y→l[x]?=some o→ds[p]?=some d→l[y]?=some o'→ds[q]?=some d' →
 Reach l y x∨Jbf l o o' d d'=true
 | [],_,_,p,q,x,y,o,d,o',d',_,h1,_,_,_,_,_=>by simp at h1
 | _::_,[],_,p,q,x,y,o,d,o',d',_,_,_,_,h4,_,_=>by simp at h4
 | i::r,d1::ds,h,p,q,x,y,o,d,o',d',hpq,h1,h2,h3,h4,h5,h6=>by
  simp only[JeQ,Bool.and_eq_true] at h;cases q with
  | zero=>omega
  | succ q=>
   cases p with
   | zero=>
    cases h1;cases h4;exact JiV h.1 q y o o' d' (by simpa using h2) h3 h5 (by simpa using h6)
   | succ p=>exact Jfk h.2 p q x y o d o' d' (by omega) (by simpa using h1) (by simpa using h2) h3 (by simpa using h4) h5 (by simpa using h6)
open Classical in
theorem JfJ (L:Nat→Prop):∀(l:List Nat),l.filter (fun i=>decide (L i))∈Jg7 l
 | []=>by simp[Jg7]
 | a::r=>by
  have ih:=JfJ L r;unfold Jg7;rw[List.filter_cons];split
  · exact List.mem_append_right _ (List.mem_map.2 ⟨_,ih,rfl⟩)
  · exact List.mem_append_left _ ih
theorem JkL {l:List Oper} (h:Jgu l=true) {i:Nat} {o:Oper} (ho:l[i]?=some o) (d:Dec):JaG o d=false:=by
 have:=List.all_eq_true.1 h o (List.mem_of_getElem? ho);unfold JaG;split
 · rename_i h1 _ _;rw[h1] at this;cases this
 · rfl
open Classical in
theorem Jlk {l:List Oper} {k:Nat} (hk:k<l.length) {vs:List (List Nat)} (hcov:JiE l k vs=true) {L:Nat→Prop} (hLl:∀i,L i→i<l.length)
 (hc:∀(j:Nat) (o:Oper),l[j]?=some o→L j→∀e∈o.after,Region.binds .any e=true→L e.on) (hn:¬L k) (hix:∀ix∈vs,∀i∈ix,i<l.length):
 ∃ix∈vs,(∀i,L i→i∈ix)∧∀i,i∈ix→L i∨Reach l k i:=by
 have hr:∀j m,Nat.testBit ((JbH l []).getD j 0) m=true→Reach l j m:=fun j m hb=>JcY l [] [] (by simp) rfl (by simp) j m hb
 have split:∀i,L i→Nat.testBit ((JbH l []).getD k 0) i=true∨i∈(Jet l k).filter (fun i=>decide (L i)):=by
  intro i hi;cases hb:Nat.testBit ((JbH l []).getD k 0) i with
  | true=>exact .inl rfl
  | false=>
   right
   rw[List.mem_filter];refine⟨?_,by simpa using hi⟩;unfold Jet;rw[List.mem_filter];have hne:i≠k:=fun e=>hn (e▸hi);refine⟨List.mem_range.2 (hLl i hi),?_⟩
   have h1:Nat.beq i k=false:=by
    cases hh:Nat.beq i k with
    | true=>exact absurd (Nat.eq_of_beq_eq_true hh) hne
    | false=>rfl
   have h2:Nat.testBit ((JbH l []).getD i 0) k=false:=by
    cases hh:Nat.testBit ((JbH l []).getD i 0) k with
    | true=>exact absurd ((hr i k hh).closed (L:=L) hc hi) hn
    | false=>rfl
   rw[h1,hb,h2];rfl
 have hU:=List.all_eq_true.1 hcov _ (JfJ L (Jet l k))
 have hcl:Jg8 l k ((Jet l k).filter fun i=>decide (L i))=true:=by
  unfold Jg8;rw[List.all_eq_true];intro i hi;have hLi:L i:=by simpa using (List.mem_filter.1 hi).2
  rw[List.getElem?_eq_getElem (hLl i hLi)];simp only[List.all_eq_true];intro e he;cases hb:Region.binds .any e with
  | false=>rfl
  | true=>
   have:=hc i _ (List.getElem?_eq_getElem (hLl i hLi)) hLi e (by simpa using he) hb;rcases split _ this with h1 | h1
   · rw[h1];simp
   · rw[JaH.2 h1];simp
 rw[hcl] at hU;simp only[Bool.not_true,Bool.false_or,List.any_eq_true] at hU;obtain⟨ix,h1,h2⟩:=hU
 have h2:∀i,i<l.length→Jan i ix=(Nat.testBit ((JbH l []).getD k 0) i||Jan i ((Jet l k).filter fun i=>decide (L i))):=fun i hi=>by
  have:=List.all_eq_true.1 h2 i (List.mem_range.2 hi);simpa using this
 refine⟨ix,h1,fun i hi=>?_,fun i hi=>?_⟩
 · rw[←JaH,h2 i (hLl i hi)]
   rcases split i hi with h | h
   · rw[h];rfl
   · rw[JaH.2 h];simp
 · have:=h2 i (hix ix h1 i hi)
   rw[JaH.2 hi] at this;have:=this.symm;rw[Bool.or_eq_true] at this;rcases this with h | h
   · exact .inr (hr k i h)
   · exact .inl (by simpa using (List.mem_filter.1 (JaH.1 h)).2)
theorem JkM {l:List Oper} {k:Nat} {ix ix3:List Nat} (h:Jfw l k ix ix3=true):k<l.length∧Jfd l.length ix=true∧Jfd l.length ix3=true∧(∀i,i<l.length→(i∈ix3↔i≠k∧i∉ix))∧k∉ix ∧
 ∀j o,l[j]?=some o→(j∈ix∨j=k)→∀e∈o.after,Region.binds .any e=true→e.on∈ix∨e.on=k:=by
 simp only[Jfw,Bool.and_eq_true] at h;obtain⟨⟨h0,h1⟩,h2,h3,h4,h5⟩:=h;refine⟨by simpa using h0,h1,h2,fun i hi=>?_,by simpa [Jbo] using h4,fun j o ho hj e he hb=>?_⟩
 · have:=List.all_eq_true.1 h3 i (List.mem_range.2 hi)
   have this:Jan i ix3=(!Nat.beq i k&&!Jan i ix):=by simpa using this
   have hbk:(Nat.beq i k=false)↔¬i=k:=by
    cases hh:Nat.beq i k with
    | true=>simp[Nat.eq_of_beq_eq_true hh]
    | false=>simp;intro e;subst e;simp at hh
   rw[←JaH,this];simp only[Bool.and_eq_true,Bool.not_eq_true',Jbo,ne_eq,hbk]
 · have hjl:=(List.getElem?_eq_some_iff.1 ho).1
   have:=List.all_eq_true.1 h5 j (List.mem_range.2 hjl);rw[ho] at this
   have hjj:(Nat.beq j k||Jan j ix)=true:=by
    rcases hj with hj | hj
    · rw[JaH.2 hj];simp
    · subst hj;simp
   rw[hjj] at this;simp only[Bool.not_true,Bool.false_or,List.all_eq_true] at this;have:=this e (by simpa using he);rw[hb] at this;simp only[Bool.not_true,Bool.false_or,Bool.or_eq_true] at this;exact this.symm.imp JaH.1 Nat.eq_of_beq_eq_true
theorem JnF (hE:EnvOk P E) {l:List Oper} (hd:JaK N l=true) (hb:Jbn 0 l=true) (hni:Jgu l=true) {k:Nat} {fz:List Nat} {vs:List (List Nat×Seg×List Nat×List Nat×Seg)}
 (hcov:JiE l k (vs.map (·.1))=true) (hpart:(vs.all fun v=>Jfw l k v.1 v.2.2.1)=true) (h:St N Z own β σ a w) {R:Type} {G:List Nat×Seg×List Nat×List Nat×Seg→S→Option R} {Kn:S→Option R} {r:R}
 (he:Jg9 (vs.map fun v=>JcA E l v.1 fz v.2.1 σ (G v))=some r) {Q:Exit→Act→World→Prop}
 (hop:∀v∈vs,∀σ1 a1 w1 own1 β1,St N Z own1 β1 σ1 a1 w1→G v σ1=some r→∀K3:Act→World→Prop,
  (∀σ' a' w' own β,St N Z own β σ' a' w'→JcA E l v.2.2.1 v.2.2.2.1 v.2.2.2.2 σ' Kn=some r→K3 a' w')→wpOp P l.toArray Q k K3 a1 w1)
 (hQ:∀σ' a' w' own β,St N Z own β σ' a' w'→Kn σ'=some r→Q .normal a' w'):wpAny P .any l.toArray Q l.length (Array.replicate l.length false) a w:=by
 have hback:∀(k:Nat) (o:Oper),l[k]?=some o→∀e∈o.after,Region.binds .any e=true→e.on<k:=fun k o ho e he hbd=>by have:=JcZ _ 0 hb k o ho e he hbd;omega
 have hp:∀v∈vs,_:=fun v hv=>JkM (List.all_eq_true.1 hpart v hv);obtain⟨own',h'⟩:=h.freezeS fz
 have seg:∀{ix:List Nat} {fz:List Nat} {sg:Seg} {σ:S} {R:Type} {K:S→Option R} {r:R},JcA E l ix fz sg σ K=some r→sg.decs.length=ix.length∧JeQ l ix sg.decs=true∧evC E l sg (Jbz l ix) ⟨[],[]⟩ (freezeS fz σ) (fun _=>K)=some r:=by
  intro ix fz sg σ R K r h;have h:(bif Nat.beq sg.decs.length ix.length&&JeQ l ix sg.decs then evC E l sg (Jbz l ix) ⟨[],[]⟩ (freezeS fz σ) (fun _=>K) else none)=some r:=h;cases hc:Nat.beq sg.decs.length ix.length&&JeQ l ix sg.decs with
  | false=>rw[hc] at h;cases h
  | true=>
   rw[hc,cond_true] at h;simp only[Bool.and_eq_true] at hc;exact⟨Nat.eq_of_beq_eq_true hc.1,hc.2,h⟩
 have hR:∀v∈vs,∃ds f,Runs E N l ds f (fun j=>j∈v.1)∧f 0=freezeS fz σ∧∃σ',G v σ'=some r∧∀own β a w,St N Z own β (f l.length) a w→St N Z own β σ' a w:=by
  intro v hv;obtain⟨s1,s2,s3⟩:=seg (JhB he _ (List.mem_map.2 ⟨v,hv,rfl⟩));obtain⟨_,p1,_,_,_,_⟩:=hp v hv;obtain⟨p3,p4⟩:=Jdq p1;obtain⟨σ',τ',D',e1,e2,e3,e4⟩:=JbT v.2.1 _ _ _ (fun _=>G v) r _ s3 (Ag.refl _ _);have ht:(Jbz l v.1).take v.2.1.decs.length=Jbz l v.1:=by rw[List.take_of_length_le];rw[Jc0 p4,s1];exact Nat.le_refl _
  rw[ht] at e3;obtain⟨ds,f,r1,r2,r3⟩:=JjJ hd hb p3 p4 e3 fun p q x y o d o' d' h1 h2 h3 h4 h5 h6 h7=>(Jfk s2 p q x y o d o' d' h1 h2 h3 h4 h5 h6 h7).imp id .inl;exact⟨ds,f,r1,r2,σ',e1,fun own β a w hst=>e4.st (by rw[←r3];exact hst)⟩
 cases hvs:vs with
 | nil=>rw[hvs] at he;cases he
 | cons v0 vr=>
 have hk:k<l.length:=(hp v0 (by rw[hvs];simp)).1
 refine Jmo (P:=P) (Z:=Z) (E:=E) (N:=N) (T:={v // v∈vs}) hE hk hback (fun _=>True) (fun t i=>i∈t.1.1) (fun t=>(hR t.1 t.2).choose) (fun t=>(hR t.1 t.2).choose_spec.choose)
  (fun t _=>(hR t.1 t.2).choose_spec.choose_spec.1) (fun t _ i o d _ ho _=>JkL hni ho d) (fun t _=>(hp t.1 t.2).2.2.2.2.1) ?_ ?_ _ _ _ (freezeS fz σ) a w own' β (Jf7 l) ?_ ?_ ?_ h'
 · intro L hLl hc hn
   obtain⟨ix,i1,i2,i3⟩:=Jlk hk hcov hLl hc hn (fun ix hix i hi=>by
    obtain⟨v,hv,rfl⟩:=List.mem_map.1 hix;exact (Jdq (hp v hv).2.1).2 i hi)
   obtain⟨v,hv,rfl⟩:=List.mem_map.1 i1;exact⟨⟨v,hv⟩,trivial,i2,i3⟩
 · intro t _ fuel listed rem a w own β hL hlist hst
   obtain⟨v,hv⟩:=t;obtain⟨σ',g1,g2⟩:=(hR v hv).choose_spec.choose_spec.2.2;obtain⟨_,p1,p2,p5,p6,p7⟩:=hp v hv;obtain⟨p8,p9⟩:=Jdq p2;obtain⟨_,p10⟩:=Jdq p1;refine hop v hv σ' a w own β (g2 _ _ _ _ hst) g1 _ fun σ3 a' w' own3 β3 hst3 hs3=>?_;obtain⟨s1,s2,s3⟩:=seg hs3;obtain⟨own4,h4⟩:=hst3.freezeS v.2.2.2.1
   have hDn:∀i,listed.getD i false=true↔(i∈v.1∨i=k):=fun i=>by
    constructor
    · exact fun hi=>(hlist i (Jhz hL hi)).1 hi
    · intro hi
      have hil:i<l.length:=hi.elim (p10 i) (fun e=>e▸hk);exact (hlist i hil).2 hi
   refine JjK (Dn:=fun i=>i∈v.1∨i=k) hE hd hb p8 p9 s1 (fun p q x y o d o' d' h1 h2 h3 h4 h5 h6 h7=>(Jfk s2 p q x y o d o' d' h1 h2 h3 h4 h5 h6 h7).imp id .inl) ?_ p7 ?_ h4 s3 ?_ hL hDn
   · intro i hi hdn
     have:=(p5 i (p9 i hi)).1 hi;exact hdn.elim this.2 this.1
   · intro j hj h1 h2
     exact absurd ((p5 j hj).2 ⟨fun e=>h2 (.inr e),fun e=>h2 (.inl e)⟩) h1
   · intro fuel listed rem σ'' a'' w'' own'' β'' hL hl2 hst'' hk''
     refine JjI (hQ _ _ _ _ _ hst'' hk'') hL fun i hi=>(hl2 i hi).2 ?_;by_cases h1:i∈v.1
     · exact .inr (.inl h1)
     · by_cases h2:i=k
       · exact .inr (.inr h2)
       · exact .inl ((p5 i hi).2 ⟨h2,h1⟩)
 · simp[Array.getD_eq_getD_getElem?,hk]
 · intro j o hj hlj
   exfalso;have hjl:=(List.getElem?_eq_some_iff.1 hj).1;simp[Array.getD_eq_getD_getElem?,hjl] at hlj
 · intro t _ _
   have hf0:=(hR t.1 t.2).choose_spec.choose_spec.2.1
   have hnl:∀j,¬(Array.replicate l.length false).getD j false=true:=fun j hj=>by
    simp[Array.getD_eq_getD_getElem?,Array.getElem?_replicate] at hj;split at hj<;>simp at hj
   refine⟨fun i hi=>hi.elim,fun i hi=>absurd hi (hnl i),fun i _ hi=>hi,fun j o _ hj=>absurd hj (hnl j),fun t'=>?_,fun s=>?_⟩
   · rw[JcE (j:=0) _ (Nat.zero_le _) (fun j _ _ _ hl=>hnl j hl)]
     show (freezeS fz σ).slots t'=((hR t.1 t.2).choose_spec.choose 0).slots t';rw[hf0]
   · rw[JcX (j:=0) _ (Nat.zero_le _) (fun j _ _ _ hl=>hnl j hl)]
     show (freezeS fz σ).mem s=((hR t.1 t.2).choose_spec.choose 0).mem s;rw[hf0]
end
end Go.Re
namespace Go.Re
set_option linter.unusedVariables false
set_option linter.unusedSimpArgs false
open Go.RowKit (Below)
theorem JcF:∀{l:List Nat},Jb4 l=true→l.Nodup
 | [],_=>List.nodup_nil
 | n::r,h=>by
  simp only[Jb4,Bool.and_eq_true,List.all_eq_true,Bool.not_eq_true'] at h;refine List.nodup_cons.2 ⟨fun hm=>?_,JcF h.2⟩;have:=h.1 n hm;simp at this
section
variable {P:Program} {E:Env} {N:Nat} {Z:Base} {own:Own} {β:Jai} {σ:S} {a:Act} {w:World} {G:Nat→Nat→Value}
def JbI (τ:Ty) (v:V) (t:Nat):Nat→List (List Stp×Ty)→List (Nat×Nat×Nat)
 | _,[]=>[]
 | k,h::r=>bif JcT h.2 then JbI τ v t (k+1) r else match Jbl τ v h.1 with
  | some (.ref s _)=>(s,Jaa t k,0)::JbI τ v t (k+1) r
  | _=>JbI τ v t (k+1) r
theorem Je1 (τ:Ty) (v:V) (t:Nat):∀(k:Nat) (hs:List (List Stp×Ty)),(JbI τ v t k hs).map (·.1)=Jdb τ v hs
 | _,[]=>rfl
 | k,h::r=>by
  unfold JbI Jdb;have ih:=Je1 τ v t (k+1) r;cases JcT h.2 with
  | true=>exact ih
  | false=>
  simp only[cond_false];cases Jbl τ v h.1 with
  | none=>exact ih
  | some u=>cases u<;>first | exact ih | (rw[List.map_cons,ih])
def JI.keeps (j:JI) (σ:S) (a:Act):List (Nat×Nat×Nat):=
 match j with
 | .val _ _=>[]
 | .row t e m=>match σ.slots t with
  | .ref s _=>[(s,Jaa t 0,match m with
   | .full=>0
   | _=>match a.tmps.getD t undef with
    | .slice (some ad) n _=>ad.off+n*e.size
    | _=>0)]
  | _=>[]
 | .box t _=>match σ.slots t with
  | .ptr s _ _=>[(s,Jaa t 0,0)]
  | _=>[]
 | .prow t _=>[(Jaa t 0,Jaa t 0,0)]
 | .pbox t _=>[(Jaa t 0,Jaa t 0,0)]
 | .rpt _ _=>[]
 | .pv _ _=>[]
 | .gbx t _ _=>match σ.slots t with
  | .elp s _ _ _=>[(s,Jaa t 1,0)]
  | _=>[]
 | .vbx t τ hs=>match σ.slots t with
  | .vpt s _ _=>(s,Jaa t 0,0)::match σ.mem s with
   | .vb _ _ x=>JbI τ x t 2 hs
   | _=>[]
  | _=>[]
 | .ali _ _=>[]
 | .vel _ _ _ _ _ _=>[]
 | .zbx t _=>match σ.slots t with
  | .vpt s _ _=>[(s,Jaa t 0,0)]
  | _=>[]
def Jb3:List JI→S→Act→List (Nat×Nat×Nat)
 | [],_,_=>[]
 | j::r,σ,a=>j.keeps σ a++Jb3 r σ a
theorem keeps_keys (j:JI) (σ:S) (a:Act):(j.keeps σ a).map (·.1)=j.kept σ:=by
 cases j with
 | val t τ=>rfl
 | row t e m=>simp only[JI.keeps,JI.kept];cases σ.slots t<;>rfl
 | box t τ=>simp only[JI.keeps,JI.kept];cases σ.slots t<;>rfl
 | prow t e=>rfl
 | pbox t τ=>rfl
 | rpt t τ=>rfl
 | pv t k=>rfl
 | gbx t τ l=>simp only[JI.keeps,JI.kept];cases σ.slots t<;>rfl
 | ali t t0=>rfl
 | vel t t0 k p q g=>rfl
 | zbx t τ=>simp only[JI.keeps,JI.kept];cases σ.slots t<;>rfl
 | vbx t τ hs=>
  simp only[JI.keeps,JI.kept];cases σ.slots t with
  | vpt s ver p=>
   simp only[List.map_cons]
   congr 1
   cases σ.mem s<;>first | rfl | exact Je1 _ _ _ _ _
  | _=>rfl
theorem Jdz:∀(J:List JI) (σ:S) (a:Act),(Jb3 J σ a).map (·.1)=Jay J σ
 | [],_,_=>rfl
 | j::r,σ,a=>by simp[Jb3,Jay,keeps_keys,Jdz r]
def Jbg:List (Nat×Nat×Nat)→Nat→Option (Nat×Nat)
 | [],_=>none
 | p::r,s=>if p.1=s then some p.2 else Jbg r s
theorem Ja3:∀{l:List (Nat×Nat×Nat)},(l.map (·.1)).Nodup→∀{p},p∈l→Jbg l p.1=some p.2
 | [],_,_,h=>by cases h
 | q::r,hn,p,h=>by
  simp only[List.map_cons,List.nodup_cons] at hn;unfold Jbg;rcases List.mem_cons.1 h with h | h
  · subst h;simp
  · rw[if_neg (fun e=>hn.1 (by rw[e];exact List.mem_map.2 ⟨p,h,rfl⟩))]
    exact Ja3 hn.2 h
theorem JgB:∀{l:List (Nat×Nat×Nat)} {s:Nat},s∉l.map (·.1)→Jbg l s=none
 | [],_,_=>rfl
 | q::r,s,h=>by
  simp only[List.map_cons,List.mem_cons,not_or] at h;unfold Jbg;rw[if_neg (fun e=>h.1 e.symm)];exact JgB h.2
open Classical in
noncomputable def Jau (Z:Base) (own:Own) (l:List (Nat×Nat×Nat)):Own:=fun b o=>
 if b<Z.w.heap.size∧¬Z.io b o then own b o
 else match own b o with
  | none=>none
  | some s=>match Jbg l s with
   | none=>none
   | some (s',lo)=>if lo≤o then some s' else none
theorem JbU (l:List (Nat×Nat×Nat)) {b o:Nat} (h:own b o=none):Jau Z own l b o=none:=by
 unfold Jau;split
 · exact h
 · rw[h]
theorem Jbt (l:List (Nat×Nat×Nat)) {b o s:Nat} (h:own b o=some s) (hw:Z.wr b o):Jau Z own l b o=match Jbg l s with
 | none=>none
 | some (s',lo)=>if lo≤o then some s' else none:=by
 unfold Jau;rw[if_neg,h];rintro⟨h1,h2⟩;rcases hw with h3 | h3
 · omega
 · exact h2 h3
def JmK:Value→Value
 | .pointer (some ad)=>.slice (some ad) 1 1
 | v=>v
def Jas (G:Nat→Nat→Value) (a:Act):Jai:=fun s=>if s%16=0 then a.tmps.getD (s/16) undef else if s%16=1 then JmK (a.tmps.getD (s/16) undef) else G (s/16) (s%16)
theorem JaC (t:Nat):Jas G a (Jaa t 0)=a.tmps.getD t undef:=by
 unfold Jas Jaa;rw[if_pos (by omega),show (16*t+0)/16=t by omega]
theorem JfK (t:Nat):Jas G a (Jaa t 1)=JmK (a.tmps.getD t undef):=by
 unfold Jas Jaa;rw[if_neg (by omega),if_pos (by omega),show (16*t+1)/16=t by omega]
theorem Jel (t k:Nat) (h:2≤k) (h':k<16):Jas G a (Jaa t k)=G t k:=by
 unfold Jas Jaa;rw[if_neg (by omega),if_neg (by omega),show (16*t+k)/16=t by omega,show (16*t+k)%16=k by omega]
theorem JbF (l:List (Nat×Nat×Nat)):Keeps own (Jau Z own l) w w:=⟨fun _ _ _ h h'=>⟨JbU l h,h'⟩,fun _ _ _ h h'=>⟨JbU l h,h'⟩⟩
theorem JnZ {Z:Base} {b o:Nat} (h:Z.wr b o):Z.wr b o:=h
theorem Nat.inside {i n sz j:Nat} (hi:i<n) (hj:j<sz):i*sz+j<n*sz:=by
 have:=Nat.mul_le_mul_right sz hi;rw[Nat.succ_mul] at this;omega
def JdH (m:Mode) (e:Ty) (v:Value):Nat:=
 match m with
 | .full=>0
 | _=>match v with
  | .slice (some ad) n _=>ad.off+n*e.size
  | _=>0
theorem JjM (h:St N Z own β σ a w) {B:Nat} {l:List (Nat×Nat×Nat)} {s ver q lo:Nat} {e:Ty} {xs:List e.D} {u:Value} (hB:∀r,own r 0=some s→Z.w.heap.size≤r→B≤r)
 (hm:σ.mem s= .own ver e xs .mp) (hf:Jbg l s=some (q,lo)) (hu:u=β s) (h0:lo=0:=by rfl):Jbh B (Jau Z own l) w q u e xs:=by
 have hE:=h.mems s;rw[hm] at hE;have hE:Jbh _ _ _ _ _ _ _:=hE;subst h0;cases e with
 | pair K V=>
  obtain⟨r,es,c,h1,h2,h3,h4,h5⟩:=hE;refine⟨r,es,c,hu.trans h1,hB r h3 h2,?_,h4,h5.keeps (JbF l)⟩;rw[Jbt l h3 (.inl h2),hf];simp
 | _=>exact hE.elim
theorem Jnf (h:St N Z own β σ a w) {l:List (Nat×Nat×Nat)} {s ver q:Nat} {e:Ty} {xs:List e.D} {u:Value}
 (hm:σ.mem s= .own ver e xs .bg) (hf:Jbg l s=some (q,0)) (hu:u=β s):BgR Z.w.heap.size (Jau Z own l) w q u e xs:=by
 have hE:=h.mems s;rw[hm] at hE;have hE:BgR _ _ _ _ _ _ _:=hE;cases e with
 | pair K V=>
  obtain⟨r,es,c,h1,h2,h3,h4,h5⟩:=hE;refine⟨r,es,c,hu.trans h1,h2,?_,h4,h5⟩;rw[Jbt l h3 (.inl h2),hf];simp
 | _=>exact hE.elim
theorem Jng (h:St N Z own β σ a w) {l:List (Nat×Nat×Nat)} {s ver q:Nat} {e:Ty} {xs:List e.D} {u:Value} {b b':Bool} (hb:(b||!b')=true)
 (hm:σ.mem s= .own ver e xs (.it b)) (hf:Jbg l s=some (q,0)) (hu:u=β s):ItR b' Z.w.heap.size (Jau Z own l) w q u e xs:=by
 have hE:=h.mems s;rw[hm] at hE;have hE:ItR _ _ _ _ _ _ _ _:=hE;cases e with
 | pair K V=>
  obtain⟨r,h1,h2,h3,h4⟩:=hE;refine⟨r,hu.trans h1,h2,?_,?_⟩
  · rw[Jbt l h3 (.inl h2),hf];simp
  · rcases h4 with ⟨x,y,z,h4,h5,h6⟩ | ⟨m,es,c,seen,bag,h4,h5,h6,h7,h8,h9⟩
    · subst h5
      refine .inl ⟨x,y,z,h4,?_,h6⟩;cases b' with
      | true=>cases hb
      | false=>rfl
    · refine .inr ⟨m,es,c,seen,bag,h4,JbU l h5,h6,h7,fun hb'=>h8 ?_,h9⟩
      subst hb';cases b with
      | true=>rfl
      | false=>cases hb
 | _=>exact hE.elim
theorem JhC (h:St N Z own β σ a w) {l:List (Nat×Nat×Nat)} {s ver q:Nat} {u:Value} {e:Ty} {xs:List e.D} {m m':Mode} {β':Jai}
 (hv:u=β s) (hm:σ.mem s= .own ver e xs m') (hle:m'.le m=true) (hf:Jbg l s=some (q,JdH m e u)) (hβ:β' q=u):
 Jaj Z (Jau Z own l) w β' q (.own 0 e xs m):=by
 have hE:=h.mems s;rw[hm] at hE;cases hmp:m'.isMp with
 | true=>
  cases m' with
  | mp=>
   cases m with
   | mp=>
    have hl0:JdH .mp e (u)=0:=by
     obtain⟨r,hr⟩:=Jbh.val (show Jbh _ _ _ _ _ _ _ from hE);rw[hv,hr];rfl
    exact JjM h (fun _ _ h=>h) hm hf (hβ.trans hv) hl0
   | _=>cases hle
  | bg=>
   cases m with
   | bg=>
    have hl0:JdH .bg e (u)=0:=by
     obtain⟨r,hr⟩:=BgR.val (show BgR _ _ _ _ _ _ _ from hE);rw[hv,hr];rfl
    rw[hl0] at hf;exact Jnf h hm hf (hβ.trans hv)
   | _=>cases hle
  | it b=>
   cases m with
   | it b'=>
    have hl0:JdH (.it b') e (u)=0:=by
     obtain⟨r,hr⟩:=ItR.val (show ItR _ _ _ _ _ _ _ _ from hE);rw[hv,hr];rfl
    rw[hl0] at hf;exact Jng h hle hm hf (hβ.trans hv)
   | _=>cases hle
  | _=>cases hmp
 | false=>
 have hnm:m.isMp=false:=by cases m<;>cases m'<;>first | rfl | (exfalso;revert hmp;simp[Mode.isMp];done) | (exfalso;revert hle;simp[Mode.le];done)
 obtain⟨ad,cap,e1,e2,e3,e4,e5⟩:=Jaj.row hmp hE;refine Jaj.ofRow hnm ⟨ad,cap,by rw[hβ,hv,e1],e2,e3,e4,e5.imp (fun h=>⟨h.1,fun hm=>h.2 (by cases m'<;>cases m<;>first | rfl | (exfalso;revert hle;simp[Mode.le];done) | exact absurd hm (fun h=>by cases h))⟩) ?_⟩
 rintro⟨b,o,e6,e7,e8⟩;refine⟨b,o,e6,?_⟩;rw[hv,e1,e6] at hf;cases m' with
 | full=>
  have htail:=e8.2
  have hcap:∀i j,i<xs.length→j<e.size→o+i*e.size+j<o+cap*e.size:=by
   intro i j hi hj;have h1:=Nat.inside (sz:=e.size) hi hj;have h2:=Nat.mul_le_mul_right e.size e2;omega
  cases m with
  | full=>
   have hf:Jbg l s=some (q,0):=hf
   have hown:∀j,o≤j→j<o+cap*e.size→Jau Z own l b j=some q:=by
    intro j h1 h2;obtain⟨g1,g2,_⟩:=htail j h1 h2;rw[Jbt l g1 g2,hf];simp
   refine⟨fun i hi=>?_,e8.1,fun j h1 h2=>?_⟩
   · obtain⟨es,g1,g2,g3⟩:=e7 i hi
     refine⟨es,g1,fun j v hj=>⟨?_,(g2 j v hj).2⟩,g3.keeps (JbF l)⟩;have hj':j<es.length:=(List.getElem?_eq_some_iff.1 hj).1;exact hown _ (by omega) (hcap i j hi (by omega))
   · obtain⟨_,g2,g3⟩:=htail j h1 h2
     exact⟨hown j h1 h2,g2,g3⟩
  | tail=>
   have hf:Jbg l s=some (q,o+xs.length*e.size):=hf;refine⟨fun i hi=>?_,fun j h1 h2=>?_⟩
   · obtain⟨es,g1,g2,g3⟩:=e7 i hi
     refine⟨es,g1,fun j v hj=>⟨?_,(g2 j v hj).2⟩,g3.keeps (JbF l)⟩;have hj':j<es.length:=(List.getElem?_eq_some_iff.1 hj).1;obtain⟨k1,k2,_⟩:=htail (o+i*e.size+j) (by omega) (hcap i j hi (by omega));show Jau Z own l b _=none;rw[Jbt l k1 k2,hf];have:=Nat.inside (sz:=e.size) hi (show j<e.size by omega);simp only[];rw[if_neg (by omega)]
   · obtain⟨k1,k2,k3⟩:=htail j (by omega) h2
     refine⟨?_,k2,k3⟩;rw[Jbt l k1 k2,hf];simp only[];rw[if_pos h1]
  | view=>cases hle
  | mp=>cases hnm
  | bg=>cases hnm
  | it b=>cases hnm
  | gb l=>exact absurd hle (by simp[Mode.le])
 | tail=>
  cases m with
  | full=>cases hle
  | tail=>
   have hf:Jbg l s=some (q,o+xs.length*e.size):=hf;refine⟨fun i hi=>?_,fun j h1 h2=>?_⟩
   · obtain⟨es,g1,g2,g3⟩:=e7 i hi
     exact⟨es,g1,fun j v hj=>⟨JbU l (g2 j v hj).1,(g2 j v hj).2⟩,g3.keeps (JbF l)⟩
   · obtain⟨k1,k2,k3⟩:=e8 j h1 h2
     refine⟨?_,k2,k3⟩;rw[Jbt l k1 k2,hf];simp only[];rw[if_pos h1]
  | view=>cases hle
  | mp=>cases hnm
  | bg=>cases hnm
  | it b=>cases hnm
  | gb l=>exact absurd hle (by simp[Mode.le])
 | view=>cases m<;>cases hle
 | mp=>cases hmp
 | bg=>cases hmp
 | it b=>cases hmp
 | gb l=>exact absurd hle (by cases m<;>simp[Mode.le])
theorem Jf8 (h:St N Z own β σ a w) {l:List (Nat×Nat×Nat)} {t s ver q:Nat} {e:Ty} {xs:List e.D} {m m':Mode} {β':Jai}
 (hs:σ.slots t= .ref s ver) (hm:σ.mem s= .own ver e xs m') (hle:m'.le m=true) (hf:Jbg l s=some (q,JdH m e (a.tmps.getD t undef))) (hβ:β' q=a.tmps.getD t undef):
 Jaj Z (Jau Z own l) w β' q (.own 0 e xs m):=by
 have hsl:=h.slots t;rw[hs] at hsl;exact JhC h (hsl.2 e xs m' hm) hm hle hf hβ
theorem Jmp (h:St N Z own β σ a w) {l:List (Nat×Nat×Nat)} (hn:(l.map (·.1)).Nodup) {t s ver:Nat} {e:Ty} {xs:List e.D} {m m':Mode}
 (hs:σ.slots t= .ref s ver) (hm:σ.mem s= .own ver e xs m') (hle:m'.le m=true) (hl:∀p∈(JI.row t e m).keeps σ a,p∈l):
 Jaj Z (Jau Z own l) w (Jas G a) (Jaa t 0) (.own 0 e xs m):=by
 simp only[JI.keeps,hs,List.mem_singleton,forall_eq] at hl;exact Jf8 h hs hm hle (Ja3 hn hl) (JaC t)
theorem Jmq {own:Own} {t:Nat} {e:Ty} {m:Mode} (hm:m.isMp=false) (hv:a.tmps.getD t undef= .slice none 0 0):Jaj Z own w (Jas G a) (Jaa t 0) (.own 0 e [] m):=
 Jaj.ofRow hm ⟨none,0,by rw[JaC,hv];rfl,Nat.le_refl _,by omega,Nat.zero_le _,.inl ⟨rfl,fun _=>rfl⟩⟩
theorem JiW (h:St N Z own β σ a w) {l:List (Nat×Nat×Nat)} {t s ver:Nat} {τ:Ty} {x:τ.D} (hf:Jbg l s=some (Jaa t 0,0))
 (hs:σ.slots t= .ptr s ver []) (hm:σ.mem s= .box ver τ x):
 Jaj Z (Jau Z own l) w (Jas G a) (Jaa t 0) (.box 0 τ x)∧∃b o,a.tmps.getD t undef= .pointer (some ⟨b,o,none⟩)∧a.tmps.getD t undef=β s:=by
 have hsl:=h.slots t;rw[hs] at hsl;obtain⟨b',o',g1,g2⟩:=hsl.2 τ x hm;have g2:a.tmps.getD t undef= .pointer (some ⟨b',o'+0,none⟩):=by rw[g2,Jao]
 have hE:=h.mems s;rw[hm] at hE;obtain⟨hv,b,o,cs,e1,e2,e3⟩:=hE;rw[g1] at e1;cases e1;refine⟨⟨hv,b',o',cs,by rw[JaC,g2];rfl,fun j v hj=>?_,e3.keeps (JbF l)⟩,b',o'+0,g2,by rw[g2,g1];rfl⟩;obtain⟨k1,k2,k3,k4⟩:=e2 j v hj;refine⟨?_,k2,k3,k4⟩;rw[Jbt l k1 k2,hf];simp
theorem Jmr (h:St N Z own β σ a w) {l:List (Nat×Nat×Nat)} (hn:(l.map (·.1)).Nodup) {t s ver:Nat} {τ:Ty} {x:τ.D}
 (hs:σ.slots t= .ptr s ver []) (hm:σ.mem s= .box ver τ x) (hl:∀p∈(JI.box t τ).keeps σ a,p∈l):
 Jaj Z (Jau Z own l) w (Jas G a) (Jaa t 0) (.box 0 τ x)∧∃b o,a.tmps.getD t undef= .pointer (some ⟨b,o,none⟩):=by
 simp only[JI.keeps,hs,List.mem_singleton,forall_eq] at hl;obtain⟨g1,b,o,g2,_⟩:=JiW h (Ja3 hn hl) hs hm;exact⟨g1,b,o,g2⟩
theorem JaJ.join {l:List (Nat×Nat×Nat)} {s q b lo hi:Nat} (hf:Jbg l s=some (q,0)) (h:JaJ Z own w s b lo hi):JaJ Z (Jau Z own l) w q b lo hi:=fun j h1 h2=>by
 obtain⟨g1,g2,g3⟩:=h j h1 h2;refine⟨?_,g2,g3⟩;rw[Jbt l g1 g2,hf];simp
theorem Jnh (h:St N Z own β σ a w) {L:List (Nat×Nat×Nat)} (hn:(L.map (·.1)).Nodup) {t s ver:Nat} {τ:Ty} {x:τ.D} {l l':List (Nat×Nat)}
 (hs:σ.slots t= .elp s ver 0 []) (hm:σ.mem s= .own ver τ [x] (.gb l')) (hle:Jmh l l'=true) (hl:∀p∈(JI.gbx t τ l).keeps σ a,p∈L):
 Jaj Z (Jau Z own L) w (Jas G a) (Jaa t 1) (.own 1 τ [x] (.gb l))∧∃b o,a.tmps.getD t undef= .pointer (some ⟨b,o,none⟩):=by
 simp only[JI.keeps,hs,List.mem_singleton,forall_eq] at hl;have hf:=Ja3 hn hl;have hsl:=h.slots t;rw[hs] at hsl;obtain⟨hi,b,off,nn,cc,h3,h4⟩:=hsl.2 τ [x] _ hm;have h4:a.tmps.getD t undef= .pointer (some ⟨b,off,none⟩):=by rw[h4,Jao,Nat.zero_mul];rfl
 have hmm:=h.mems s;rw[hm] at hmm;obtain⟨ad,cap,h5,h6,h7,h8,h9⟩:=(Jaj.rowV h3 hmm).2;rw[h3] at h5;cases h5;rcases h9 with ⟨h9,_⟩ | ⟨b',off',h9,h10,⟨h11,h12⟩,⟨reg,hreg⟩,hc1⟩
 · rw[h9] at h6;simp at h6
 cases h9
 have hsub:∀q∈l,q∈l':=fun q hq=>by
  obtain⟨q',hq',e1,e2⟩:=Jhl (List.all_eq_true.1 hle q hq);have:q'=q:=Prod.ext e1 e2
  rwa [this] at hq'
 refine⟨⟨_,cc,by rw[JfK,h4,hc1];rfl,h6,h7,h8,.inr ⟨b,off,rfl,fun i hi=>?_,⟨h11,h12.join hf⟩,⟨reg,fun q hq=>?_⟩,hc1⟩⟩,b,off,h4⟩
 · obtain⟨es,q1,q2,q3⟩:=h10 i hi
   obtain rfl:i=0:=by simpa using hi
   refine⟨es,q1,fun j v hj=>⟨?_,(q2 j v hj).2⟩,q3.keeps (JbF L)⟩;have hj':j<es.length:=(List.getElem?_eq_some_iff.1 hj).1;have hcs:1*τ.size≤cc*τ.size:=Nat.mul_le_mul_right _ h6;exact (h12.join hf (off+0*τ.size+j) (by omega) (by omega)).1
 · obtain⟨m0,m1,m2,m3,m4⟩:=hreg q (hsub q hq)
   exact⟨m0,m1,m2.join hf,m3,fun q' hq'=>m4 q' (hsub q' hq')⟩
theorem JhD (h:St N Z own β σ a w) {l:List (Nat×Nat×Nat)} {v:V} {u:Value} {τ:Ty} {x:τ.D} (hsl:Jac own w β σ.mem v u) (hx:rdA τ v σ=some x)
 (hl:∀s∈JcU v σ,s∉l.map (·.1)):Jab (Jau Z own l) w τ u x:=by
 unfold rdA at hx;split at hx
 · rename_i τ' y
   obtain⟨e,hx⟩:=cast?_some hx;subst e;subst hx;exact Jab.keeps (JbF l) hsl
 · cases τ with
   | sl e=>
    cases hx;have hsl:u= .slice none 0 0:=hsl;rw[hsl];exact Jab.sl.2 ⟨none,0,rfl,Nat.le_refl _,by omega,Nat.zero_le _,.inl rfl⟩
   | _=>cases hx
 · rename_i s ver
   split at hx
   · rename_i ver' e xs m hm
     cases hb:Nat.beq ver ver'&&!m.noRd with
     | false=>rw[hb] at hx;cases hx
     | true=>
      rw[hb] at hx;simp only[Bool.and_eq_true,Bool.not_eq_true'] at hb;have hrd:=hb.2;have hmp:=Mode.noRd_mp hrd;have hb:=Nat.eq_of_beq_eq_true hb.1;subst hb;obtain⟨eq,hx⟩:=cast?_some hx;subst eq;have hx:xs=x:=hx;subst hx;have hv:u=β s:=hsl.2 e xs m hm;have hE:=h.mems s;rw[hm] at hE;obtain⟨ad,cap,e1,e2,e3,e4,e5⟩:=Jaj.row hmp hE;rw[hv,e1];refine JaX.frozen e2 e3 e4 (e5.imp (·.1) ?_);rintro⟨b,o,e6,e7,e8⟩;refine⟨b,o,e6,fun i hi=>?_⟩;obtain⟨es,g1,g2,g3⟩:=e7 i hi;refine⟨es,g1,fun j v hj=>⟨?_,(g2 j v hj).2⟩,g3.keeps (JbF l)⟩;cases m with
      | full=>
       have hj':j<es.length:=(List.getElem?_eq_some_iff.1 hj).1;have h1:=Nat.inside (sz:=e.size) hi (show j<e.size by omega);have h2:=Nat.mul_le_mul_right e.size e2;obtain⟨k1,k2,_⟩:=e8.2 (o+i*e.size+j) (by omega) (by omega);rw[Jbt l k1 k2,JgB];refine hl s ?_;simp only[JcU,hm,List.mem_singleton]
      | tail=>exact JbU l (g2 j v hj).1
      | view=>exact JbU l (g2 j v hj).1
      | mp=>cases hmp
      | gb l=>cases hrd
      | bg=>cases hrd
      | it b=>cases hrd
   · cases hx
 · cases hx
theorem JiX (h:St N Z own β σ a w) {l:List (Nat×Nat×Nat)} {t:Nat} {τ:Ty} {x:τ.D} (hx:rdA τ (σ.slots t) σ=some x)
 (hl:∀s∈(JI.val t τ).loose σ,s∉l.map (·.1)):Jab (Jau Z own l) w τ (a.tmps.getD t undef) x:=by
 refine JhD h (h.slots t) hx fun s hs=>hl s ?_;unfold rdA at hx;split at hx
 · rename_i hy;rw[hy] at hs;cases hs
 · rename_i hy;rw[hy] at hs;cases hs
 · rename_i s' ver hy
   rw[hy] at hs;simp only[JI.loose,hy];exact hs
 · cases hx
def JbS (mem:Nat→Entry) (t:Nat):Nat→(hs:List (List Stp×Ty))→(rowsTy hs).D→Prop
 | _,[],_=>True
 | k,h::r,ys=>mem (Jaa t k)=JbJ h.2 ys.1∧JbS mem t (k+1) r ys.2
def JgC (Z:Base) (own:Own) (w:World) (β:Jai) (t:Nat):Nat→(hs:List (List Stp×Ty))→(rowsTy hs).D→Prop
 | _,[],_=>True
 | k,h::r,ys=>Jaj Z own w β (Jaa t k) (JbJ h.2 ys.1)∧JgC Z own w β t (k+1) r ys.2
theorem JbS.congr {mem mem':Nat→Entry} {t:Nat}:∀{k:Nat} {hs:List (List Stp×Ty)} {ys:(rowsTy hs).D},JbS mem t k hs ys→(∀i,i<hs.length→mem' (Jaa t (k+i))=mem (Jaa t (k+i)))→JbS mem' t k hs ys
 | _,[],_,_,_=>trivial
 | k,h::r,ys,⟨h1,h2⟩,hm=>⟨(hm 0 (by simp)).trans h1,JbS.congr h2 fun i hi=>by
  have:=hm (i+1) (by simp;omega);rw[show k+1+i=k+(i+1) by omega];exact this⟩
theorem Je2 (t:Nat):∀(k:Nat) (hs:List (List Stp×Ty)) (ys:(rowsTy hs).D) (σ:S),(JaU t k hs ys σ).slots=σ.slots
 | _,[],_,_=>rfl
 | k,h::r,ys,σ=>Je2 t (k+1) r ys.2 _
theorem JcH (t:Nat):∀(k:Nat) (hs:List (List Stp×Ty)) (ys:(rowsTy hs).D) (σ:S) (s:Nat),(∀i,i<hs.length→s≠Jaa t (k+i))→(JaU t k hs ys σ).mem s=σ.mem s
 | _,[],_,_,_,_=>rfl
 | k,h::r,ys,σ,s,hs=>by
  unfold JaU
  rw[JcH t (k+1) r ys.2 _ s fun i hi=>by
   have:=hs (i+1) (by simp;omega);rw[show k+1+i=k+(i+1) by omega];exact this]
  show upd σ.mem (Jaa t k) _ s=_;rw[Jad,if_neg (show s≠Jaa t k from hs 0 (by simp))]
theorem Jc1 (t:Nat):∀(k:Nat) (hs:List (List Stp×Ty)) (ys:(rowsTy hs).D) (σ:S),JbS (JaU t k hs ys σ).mem t k hs ys
 | _,[],_,_=>trivial
 | k,h::r,ys,σ=>by
  unfold JaU;refine⟨?_,Jc1 t (k+1) r ys.2 _⟩;rw[JcH t (k+1) r ys.2 _ _ fun i hi=>by unfold Jaa;omega];show upd σ.mem (Jaa t k) _ _=_;rw[Jad,if_pos rfl]
theorem Jfl (t:Nat) {own:Own} {β:Jai}:∀(k:Nat) (hs:List (List Stp×Ty)) (ys:(rowsTy hs).D) (σ:S),JgC Z own w β t k hs ys→(∀s,Jaj Z own w β s (σ.mem s))→∀s,Jaj Z own w β s ((JaU t k hs ys σ).mem s)
 | _,[],_,_,_,h=>h
 | k,h::r,ys,σ,⟨h1,h2⟩,h0=>Jfl t (k+1) r ys.2 _ h2 fun s=>by
  show Jaj Z own w β s (upd σ.mem (Jaa t k) _ s);rw[Jad];split
  · rename_i e;subst e;exact h1
  · exact h0 s
theorem JiY (e:Ty) (y:List e.D):JfR (JbJ e y)=false∧Ja5 (JbJ e y)=false:=by unfold JbJ;cases JcT e<;>exact⟨rfl,rfl⟩
theorem JeX (t:Nat):∀(k:Nat) (hs:List (List Stp×Ty)) (ys:(rowsTy hs).D) (σ:S) (s:Nat),(JaU t k hs ys σ).mem s=σ.mem s∨∃e y,(JaU t k hs ys σ).mem s=JbJ e y
 | _,[],_,_,_=>.inl rfl
 | k,h::r,ys,σ,s=>by
  unfold JaU;rcases JeX t (k+1) r ys.2 (σ.set (Jaa t k) (JbJ h.2 ys.1)) s with e | e
  · have e':(σ.set (Jaa t k) (JbJ h.2 ys.1)).mem s=if s=Jaa t k then JbJ h.2 ys.1 else σ.mem s:=Jad _ _ _ _
    rw[e,e'];split
    · exact .inr ⟨_,_,rfl⟩
    · exact .inl rfl
  · exact .inr e
theorem Jf9 {mem:Nat→Entry} {τ:Ty}:∀{hs:List (List Stp×Ty)} {x x0:V} {u:Value},Jac own w β mem x u→Fit τ u→Jg2 τ x hs=some x0 →
 ∃u0,Jac own w β mem x0 u0∧Fit τ u0∧(∀j,(∀h∈hs,offP τ h.1≠j)→u0.cells.toList[j]?=u.cells.toList[j]?)∧∀h∈hs,tyP τ h.1=some (.sl (Jdx h.2))∧JbC τ h.1=true∧offP τ h.1<τ.size
 | [],x,x0,u,h1,h2,h3=>by cases h3;exact⟨u,h1,h2,fun _ _=>rfl,fun _ h=>by cases h⟩
 | h::r,x,x0,u,h1,h2,h3=>by
  unfold Jg2 at h3;split at h3
  · rename_i hc
    obtain⟨v',e1,e2⟩:=Option.bind_eq_some_iff.1 h3;have hn:Jac own w β mem (.val (.sl (Jdx h.2)) []) (.slice none 0 0):=Jab.sl.2 ⟨none,0,rfl,Nat.le_refl _,by omega,Nat.zero_le _,.inl rfl⟩;obtain⟨u1,g1,g2,g3,g4⟩:=(Jd8 τ).1 x u h.1 _ (.slice none 0 0) v' (.sl (Jdx h.2)) h1 h2 e1 hc.1 rfl hn .slice hc.2;obtain⟨u0,k1,k2,k3,k4⟩:=Jf9 g1 g2 e2;have g4:offP τ h.1+1≤τ.size:=g4;have hl:=h2.2.2.1;refine⟨u0,k1,k2,fun j hj=>?_,fun h' hh=>?_⟩
    · rw[k3 j fun h' hh=>hj h' (List.mem_cons_of_mem _ hh),g3,getElem?_splice (by show _+1≤_;omega),if_neg]
      have:=hj h List.mem_cons_self;show ¬(_∧j<_+1);omega
    · rcases List.mem_cons.1 hh with rfl | hh
      · exact⟨hc.1,hc.2,by omega⟩
      · exact k4 h' hh
  · cases h3
theorem Jni (h:St N Z own β σ a w) {l:List (Nat×Nat×Nat)}:∀{v:V} {τ:Ty} {u:Value} {d:τ.D},Jac own w β σ.mem v u→rdT τ v σ=some d→(∀s∈JcU v σ,s∉l.map (·.1)) →
 (τ.isVal=true→Jab (Jau Z own l) w τ u d)∧∀us,u= .tuple (List.toArray us)→Jbm τ us→Jag (Jau Z own l) w τ (us.flatMap fun u=>u.cells.toList) d:=by
 intro v
 have leaf:∀{v:V} {τ:Ty} {u:Value} {d:τ.D},Jac own w β σ.mem v u→rdA τ v σ=some d→(∀s∈JcU v σ,s∉l.map (·.1)) →
  (τ.isVal=true→Jab (Jau Z own l) w τ u d)∧∀us,u= .tuple (List.toArray us)→Jbm τ us→Jag (Jau Z own l) w τ (us.flatMap fun u=>u.cells.toList) d:=by
  intro v τ u d h1 h2 h3;have hV:=JhD h h1 h2 h3;exact⟨fun _=>hV,fun us _ hf=>(hf.noVal hV.1).elim⟩
 induction v with
 | agg b' t ih=>
  intro τ u d h1 h2 h3;cases τ with
  | st b=>
   simp only[rdT] at h2;split at h2
   · rename_i e;subst e
     obtain⟨us,e1,e2,e3⟩:=h1;have:=(ih e3 h2 h3).2 us rfl e2;exact⟨fun _=>by rw[e1];exact (Jab.agg rfl).2 ⟨_,rfl,this⟩,fun us _ hf=>(hf.noVal rfl).elim⟩
   · cases h2
  | _=>exact leaf h1 (by simpa only[rdT] using h2) h3
 | tcons v t ihv iht=>
  intro τ u d h1 h2 h3;cases τ with
  | pair p q=>
   simp only[rdT] at h2;obtain⟨x,q1,h2⟩:=Option.bind_eq_some_iff.1 h2;obtain⟨y,q2,h2⟩:=Option.map_eq_some_iff.1 h2;subst h2;obtain⟨u0,us0,e1,e2,e3⟩:=h1;refine⟨fun h=>(by cases h),fun us g1 g2=>?_⟩;rw[e1] at g1;have g1:u0::us0=us:=by simpa using g1
   subst g1;have r1:=(ihv e2 q1 fun s hs=>h3 s (List.mem_append_left _ hs)).1 g2.1.1;have r2:=(iht e3 q2 fun s hs=>h3 s (List.mem_append_right _ hs)).2 us0 rfl g2.2;exact⟨_,_,by rw[List.flatMap_cons],r1.cells,r2⟩
  | _=>exact leaf h1 (by simpa only[rdT] using h2) h3
 | tnil=>
  intro τ u d h1 h2 h3;cases τ with
  | unit=>
   refine⟨fun h=>(by cases h),fun us g1 g2=>?_⟩;cases us with
   | nil=>rfl
   | cons=>exact g2.elim
  | _=>exact leaf h1 (by simpa only[rdT] using h2) h3
 | _=>
  intro τ u d h1 h2 h3;exact leaf h1 (by simpa only[rdT] using h2) h3
def Jhc (w:World) (v:Value) (o:Nat):Value:=
 match v with
 | .pointer (some ad)=>(w.cell? ⟨ad.block,ad.off+o,none⟩).getD undef
 | _=>undef
theorem JhE (h:St N Z own β σ a w) {l:List (Nat×Nat×Nat)} (hn:(l.map (·.1)).Nodup) {τ:Ty} {x:V} {u:Value} {t:Nat} (hx:Jac own w β σ.mem x u) (hf:Fit τ u):∀{hs:List (List Stp×Ty)} {k:Nat} {ys:(rowsTy hs).D},
 JdV τ x σ hs=some ys→(∀p∈JbI τ x t k hs,p∈l)→2≤k→k+hs.length≤16→(∀i h,hs[i]?=some h→∀c,u.cells.toList[offP τ h.1]?=some c→G t (k+i)=c)→(∀h∈hs,tyP τ h.1=some (.sl (Jdx h.2))) →
 JgC Z (Jau Z own l) w (Jas G a) t k hs ys∧∀h∈hs,∃c,u.cells.toList[offP τ h.1]?=some c∧Fit (.sl (Jdx h.2)) c
 | [],_,_,_,_,_,_,_,_=>⟨trivial,fun _ h=>by cases h⟩
 | hh::r,k,ys,h1,h2,h3,h4,h5,h6=>by
  unfold JdV at h1;obtain⟨v1,e1,h1⟩:=Option.bind_eq_some_iff.1 h1;obtain⟨y,e2,h1⟩:=Option.bind_eq_some_iff.1 h1;obtain⟨zs,e3,h1⟩:=Option.map_eq_some_iff.1 h1;subst h1;obtain⟨u2,g1,g2,g3,g4⟩:=(JcM τ).1 x u hh.1 v1 (.sl (Jdx hh.2)) hx hf e1 (h6 hh List.mem_cons_self) rfl;have hl:=hf.2.2.1;have g4:offP τ hh.1+1≤τ.size:=g4;have hlt:offP τ hh.1<u.cells.toList.length:=by omega
  have hcell:u.cells.toList[offP τ hh.1]?=some u2:=by
   have g3:u2.cells.toList=(u.cells.toList.drop (offP τ hh.1)).take 1:=g3
   have hcl:u2.cells.toList=[u2]:=by
    have h1:=g2.2.1;have h2:u2.cells.toList.length=1:=g2.2.2.1;cases hq:u2.cells.toList with
    | nil=>rw[hq] at h2;simp at h2
    | cons z zs=>
     rw[hq] at h2 h1;have:zs=[]:=List.eq_nil_of_length_eq_zero (by simpa using h2);subst this;have h1:u2=z:=h1;rw[h1]
   rw[hcl] at g3;have:([u2]:List Value)[0]?=((u.cells.toList.drop (offP τ hh.1)).take 1)[0]?:=by rw[←g3]
   rw[List.getElem?_take,if_pos (by omega),List.getElem?_drop,Nat.add_zero] at this;exact this.symm
  have hG:Jas G a (Jaa t k)=u2:=by
   rw[Jel t k h3 (by simp at h4;omega)];have:=h5 0 hh rfl u2 hcell
   rwa [Nat.add_zero] at this
  have hrest:∀p∈JbI τ x t (k+1) r,p∈l:=fun p hp=>h2 p (by
   unfold JbI;cases JcT hh.2 with
   | true=>exact hp
   | false=>
   simp only[cond_false];cases hq:Jbl τ x hh.1 with
   | none=>exact hp
   | some q=>cases q<;>first | exact hp | exact List.mem_cons_of_mem _ hp)
  obtain⟨k1,k2⟩:=JhE h hn hx hf e3 hrest (by omega) (by simp at h4;omega) (fun i h hi c hc=>by
   rw[show k+1+i=k+(i+1) by omega];exact h5 (i+1) h (by simpa using hi) c hc) (fun h hm=>h6 h (List.mem_cons_of_mem _ hm))
  refine⟨⟨?_,k1⟩,fun h' hm=>?_⟩
  · cases hdd:JcT hh.2 with
    | true=>unfold JbJ;rw[hdd];trivial
    | false=>
    rw[hdd] at e2;replace e2:JbY hh.2 .full v1 σ=some y:=e2;have hre:JbJ hh.2 y= .own 1 hh.2 y .full:=by unfold JbJ;rw[hdd];rfl
    show Jaj Z (Jau Z own l) w (Jas G a) (Jaa t k) (JbJ hh.2 y);rw[hre];unfold JbY at e2;split at e2
    · cases e2
      have g1:u2= .slice none 0 0:=g1;exact Jaj.ofRow rfl ⟨none,0,by rw[hG,g1];rfl,Nat.le_refl _,by omega,Nat.zero_le _,.inl ⟨rfl,fun _=>rfl⟩⟩
    · rename_i s ver
      split at e2
      · rename_i ver' e' xs m' hm
        cases hb:Nat.beq ver ver'&&m'.le .full with
        | false=>rw[hb] at e2;cases e2
        | true=>
         rw[hb] at e2;simp only[Bool.and_eq_true] at hb;have hb1:=Nat.eq_of_beq_eq_true hb.1;subst hb1;obtain⟨eq,e2⟩:=cast?_some e2;cases eq;have e2:xs=y:=e2;subst e2;have hfind:Jbg l s=some (Jaa t k,0):=Ja3 hn (h2 (s,Jaa t k,0) (by unfold JbI;rw[hdd,e1];exact List.mem_cons_self));exact Jaj.ver (JhC (m:=.full) h (g1.2 _ _ _ hm) hm hb.2 hfind hG)
      · cases e2
    · cases e2
  · rcases List.mem_cons.1 hm with rfl | hm
    · exact⟨u2,hcell,g2⟩
    · exact k2 h' hm
theorem JhF {own':Own} {β':Jai} {mem:Nat→Entry} {τ:Ty} {t:Nat} {u:Value} (hu:Fit τ u):∀{hs:List (List Stp×Ty)} {k:Nat} {ys:(rowsTy hs).D} {v:V} {u1:Value},JbS mem t k hs ys→Jac own' w β' mem v u1→Fit τ u1 →
 (∀j,(∀h∈hs,offP τ h.1≠j)→u1.cells.toList[j]?=u.cells.toList[j]?)→(∀h∈hs,tyP τ h.1=some (.sl (Jdx h.2))∧JbC τ h.1=true∧offP τ h.1<τ.size) →
 (∀i h,hs[i]?=some h→∃c,u.cells.toList[offP τ h.1]?=some c∧Fit (.sl (Jdx h.2)) c∧β' (Jaa t (k+i))=c)→Jac own' w β' mem (Jft τ t v k hs) u
 | [],k,ys,v,u1,_,h2,h3,h4,_,_=>by
  have:u1=u:=by
   rw[h3.2.1,hu.2.1]
   congr 1
   exact List.ext_getElem? fun j=>h4 j fun _ h=>by cases h
  unfold Jft;rw[←this];exact h2
 | hh::r,k,ys,v,u1,h1,h2,h3,h4,h5,h6=>by
  unfold Jft;split
  · rename_i v' hv'
    obtain⟨c,c1,c2,c3⟩:=h6 0 hh rfl;rw[Nat.add_zero] at c3;obtain⟨p1,p2,p3⟩:=h5 hh List.mem_cons_self;have hr:Jac own' w β' mem (.ref (Jaa t k) 1) c:=⟨by rw[h1.1];unfold JbJ;cases JcT hh.2<;>exact Nat.lt_succ_self 1,fun τ' xs m _=>c3.symm⟩;obtain⟨u2,g1,g2,g3,g4⟩:=(Jd8 τ).1 v u1 hh.1 _ c v' (.sl (Jdx hh.2)) h2 h3 hv' p1 rfl hr c2 p2
    have hcl:c.cells.toList=[c]:=by
     have h1:=c2.2.1;have h2:c.cells.toList.length=1:=c2.2.2.1;cases hq:c.cells.toList with
     | nil=>rw[hq] at h2;simp at h2
     | cons z zs=>
      rw[hq] at h2 h1;have:zs=[]:=List.eq_nil_of_length_eq_zero (by simpa using h2);subst this;have h1:c=z:=h1;rw[h1]
    have hl:=h3.2.2.1
    refine JhF hu h1.2 g1 g2 (fun j hj=>?_) (fun h hm=>h5 h (List.mem_cons_of_mem _ hm)) (fun i h hi=>by
     obtain⟨c',q1,q2,q3⟩:=h6 (i+1) h (by simpa using hi);exact⟨c',q1,q2,by rw[show k+1+i=k+(i+1) by omega];exact q3⟩)
    rw[g3,hcl,getElem?_splice (by show _+1≤_;omega)];split
    · rename_i hjj
      have hjj:offP τ hh.1≤j∧j<offP τ hh.1+1:=hjj;obtain rfl:j=offP τ hh.1:=by omega
      rw[Nat.sub_self,c1];rfl
    · rename_i hjj
      have hjj:¬(offP τ hh.1≤j∧j<offP τ hh.1+1):=hjj;refine h4 j fun h hm=>?_;rcases List.mem_cons.1 hm with rfl | hm
      · omega
      · exact hj h hm
  · trivial
theorem Jnj (h:St N Z own β σ a w) {l:List (Nat×Nat×Nat)} (hn:(l.map (·.1)).Nodup) {t s ver:Nat} {τ:Ty} {x x0:V} {hs:List (List Stp×Ty)} {d:τ.D} {ys:(rowsTy hs).D}
 (hsl:σ.slots t= .vpt s ver []) (hm:σ.mem s= .vb ver τ x) (h14:hs.length≤14) (hx0:Jg2 τ x hs=some x0) (hd:rdT τ x0 σ=some d) (hy:JdV τ x σ hs=some ys)
 (hl:∀p∈(JI.vbx t τ hs).keeps σ a,p∈l) (hl':∀s∈JcU x0 σ,s∉l.map (·.1)) (hG:∀i h,hs[i]?=some h→G t (2+i)=Jhc w (a.tmps.getD t undef) (offP τ h.1)):
 (∀mem',JbS mem' t 2 hs ys→JbA Z (Jau Z own l) w (Jas G a) mem' (Jaa t 0) (.vb 1 τ (Jft τ t (.val τ d) 2 hs)))∧JgC Z (Jau Z own l) w (Jas G a) t 2 hs ys ∧
  ∃b o,a.tmps.getD t undef= .pointer (some ⟨b,o,none⟩):=by
 obtain⟨b,off,u,k1,k2,k3,k4⟩:=h.vb hm;have hs0:=h.slots t;rw[hsl] at hs0;obtain⟨b',off',g1,g2⟩:=hs0.2 τ x hm;rw[k1] at g1;cases g1;rw[Jao,Nat.add_zero] at g2;simp only[JI.keeps,hsl,hm] at hl;obtain⟨u0,n1,n2,n3,n4⟩:=Jf9 k4 k3 hx0
 have hcell:∀(hh:List Stp×Ty),hh∈hs→∀c,u.cells.toList[offP τ hh.1]?=some c→Jhc w (a.tmps.getD t undef) (offP τ hh.1)=c:=by
  intro hh _ c hc;rw[g2];show (w.cell? ⟨b,off+offP τ hh.1,none⟩).getD undef=c;rw[(k2 _ _ hc).2.2.1];rfl
 obtain⟨r1,r2⟩:=JhE (G:=G) (t:=t) h hn k4 k3 hy (fun p hp=>hl p (List.mem_cons_of_mem _ hp)) (Nat.le_refl 2) (by omega)
  (fun i hh hi c hc=>(hG i hh hi).trans (hcell hh (List.mem_of_getElem? hi) c hc)) (fun hh hm=>(n4 hh hm).1)
 refine⟨fun mem' hat=>?_,r1,b,off,g2⟩;refine⟨b,off,u,by rw[JaC,g2],fun j v hj=>?_,k3,?_⟩
 · obtain⟨q1,q2,q3,q4⟩:=k2 j v hj
   refine⟨?_,q2,q3,q4⟩;rw[Jbt l q1 q2,Ja3 hn (hl (s,Jaa t 0,0) List.mem_cons_self)];simp
 · have hV:Jab (Jau Z own l) w τ u0 d:=(Jni h n1 hd hl').1 n2.1
   refine JhF k3 hat (u1:=u0) hV n2 n3 n4 fun i hh hi=>?_;obtain⟨c,c1,c2⟩:=r2 hh (List.mem_of_getElem? hi);have hlt:i<hs.length:=(List.getElem?_eq_some_iff.1 hi).1;exact⟨c,c1,c2,by rw[Jel t (2+i) (by omega) (by omega),hG i hh hi,hcell hh (List.mem_of_getElem? hi) c c1]⟩
structure Wr (G:Nat→Nat→Value) (Z:Base) (own:Own) (w:World) (a:Act) (σ:S):Prop where
 slots:∀t,(σ.slots t= .dead∨(∃v,σ.slots t=v∧∀β mem,Jac own w β mem v (a.tmps.getD t undef)))∨(∃τ x,σ.slots t= .val τ x∧Jab own w τ (a.tmps.getD t undef) x) ∨
  (∃k,σ.slots t= .ref (Jaa t 0) k∧∃e x m,σ.mem (Jaa t 0)= .own k e x m) ∨
  (∃k,σ.slots t= .ptr (Jaa t 0) k []∧(∃τ x,σ.mem (Jaa t 0)= .box k τ x)∧∃b o,a.tmps.getD t undef= .pointer (some ⟨b,o,none⟩)) ∨
  (σ.slots t= .elp (Jaa t 1) 1 0 []∧(∃τ x l,σ.mem (Jaa t 1)= .own 1 τ [x] (.gb l))∧∃b o,a.tmps.getD t undef= .pointer (some ⟨b,o,none⟩)) ∨
  (σ.slots t= .vpt (Jaa t 0) 1 []∧(∃τ x,σ.mem (Jaa t 0)= .vb 1 τ x)∧∃b o,a.tmps.getD t undef= .pointer (some ⟨b,o,none⟩))
 mems:∀s,Jaj Z own w (Jas G a) s (σ.mem s)
 pins:∀s v,Z.pin s=some v→JfR (σ.mem s)=true→Jas G a s=v
 novb:∀s,Ja5 (σ.mem s)=true→s%16=0
 cells:∀t ver τ v,σ.mem (Jaa t 0)= .vb ver τ v→∀mem',(∀k,2≤k→k<16→mem' (Jaa t k)=σ.mem (Jaa t k))→JbA Z own w (Jas G a) mem' (Jaa t 0) (.vb ver τ v)
theorem JjN {t t':Nat} (h:t'≠t):Jaa t' 0≠Jaa t 0:=by unfold Jaa;omega
theorem Wr.put {own:Own} (h:Wr G Z own w a σ) {t:Nat} {τ:Ty} {x:τ.D} (hx:Jab own w τ (a.tmps.getD t undef) x):Wr G Z own w a (σ.put t (.val τ x)) where
 slots t':=by
  show (upd σ.slots t _ t'=_∨_)∨_∨_∨_∨_∨_;have e:(σ.put t (.val τ x)).slots t'=if t'=t then .val τ x else σ.slots t':=Jad _ _ _ _
  by_cases ht:t'=t
  · subst ht
    rw[if_pos rfl] at e;exact .inr (.inl ⟨τ,x,e,hx⟩)
  · rw[if_neg ht] at e
    have:=h.slots t';rw[←e] at this;exact this
 mems s:=h.mems s
 pins s v:=h.pins s v
 novb s:=h.novb s
 cells:=h.cells
theorem Wr.putV {own:Own} (h:Wr G Z own w a σ) {t:Nat} {v:V} (hx:∀β mem,Jac own w β mem v (a.tmps.getD t undef)):Wr G Z own w a (σ.put t v) where
 slots t':=by
  show (upd σ.slots t _ t'=_∨_)∨_∨_∨_∨_∨_;have e:(σ.put t v).slots t'=if t'=t then v else σ.slots t':=Jad _ _ _ _
  by_cases ht:t'=t
  · subst ht
    rw[if_pos rfl] at e;exact .inl (.inr ⟨v,e,hx⟩)
  · rw[if_neg ht] at e
    have:=h.slots t';rw[←e] at this;exact this
 mems s:=h.mems s
 pins s v:=h.pins s v
 novb s:=h.novb s
 cells:=h.cells
theorem Wr.putNil {own:Own} (h:Wr G Z own w a σ) {t:Nat} (hx:a.tmps.getD t undef= .slice none 0 0):Wr G Z own w a (σ.put t .nil):=h.putV fun _ _=>hx
theorem Wr.putMem {own:Own} (h:Wr G Z own w a σ) {t:Nat} {v:V} {en:Entry} (hm:Jaj Z own w (Jas G a) (Jaa t 0) en)
 (hv:(∃k,v= .ref (Jaa t 0) k∧∃e x m,en= .own k e x m)∨(∃k,v= .ptr (Jaa t 0) k []∧(∃τ x,en= .box k τ x)∧∃b o,a.tmps.getD t undef= .pointer (some ⟨b,o,none⟩)))
 (hp:∀v,Z.pin (Jaa t 0)=some v→JfR en=true→Jas G a (Jaa t 0)=v) (hnv:Ja5 en=false:=by rfl):
 Wr G Z own w a ((σ.put t v).set (Jaa t 0) en) where
 slots t':=by
  have e:((σ.put t v).set (Jaa t 0) en).slots t'=if t'=t then v else σ.slots t':=Jad _ _ _ _
  have e':∀s,((σ.put t v).set (Jaa t 0) en).mem s=if s=Jaa t 0 then en else σ.mem s:=fun s=>Jad _ _ _ _
  by_cases ht:t'=t
  · subst ht
    rw[e,if_pos rfl,e',if_pos rfl];exact .inr (.inr (hv.imp id .inl))
  · rw[e,if_neg ht,e',if_neg (JjN ht),e',if_neg (show Jaa t' 1≠Jaa t 0 by unfold Jaa;omega)]
    exact h.slots t'
 mems s:=by
  show Jaj Z own w (Jas G a) s (upd σ.mem (Jaa t 0) en s);rw[Jad];split
  · rename_i e;subst e;exact hm
  · exact h.mems s
 pins s u hs h0:=by
  have e':((σ.put t v).set (Jaa t 0) en).mem s=if s=Jaa t 0 then en else σ.mem s:=Jad _ _ _ _
  rw[e'] at h0;split at h0
  · rename_i e;subst e;exact hp u hs h0
  · exact h.pins s u hs h0
 novb s hs:=by
  have hs:Ja5 (upd σ.mem (Jaa t 0) en s)=true:=hs;rw[Jad] at hs;split at hs
  · rw[hnv] at hs;cases hs
  · exact h.novb s hs
 cells t' ver τ x hm mem' hmem:=by
  have e':∀s,((σ.put t v).set (Jaa t 0) en).mem s=if s=Jaa t 0 then en else σ.mem s:=fun s=>Jad _ _ _ _
  rw[e'] at hm;split at hm
  · rw[hm] at hnv;cases hnv
  · refine h.cells t' ver τ x hm mem' fun k k1 k2=>?_
    rw[hmem k k1 k2,e',if_neg (by unfold Jaa;omega)]
theorem Wr.putGb {own:Own} (h:Wr G Z own w a σ) {t:Nat} {τ:Ty} {x:τ.D} {l:List (Nat×Nat)} (hm:Jaj Z own w (Jas G a) (Jaa t 1) (.own 1 τ [x] (.gb l)))
 (hv:∃b o,a.tmps.getD t undef= .pointer (some ⟨b,o,none⟩)):Wr G Z own w a ((σ.put t (.elp (Jaa t 1) 1 0 [])).set (Jaa t 1) (.own 1 τ [x] (.gb l))) where
 slots t':=by
  have e:((σ.put t (.elp (Jaa t 1) 1 0 [])).set (Jaa t 1) (.own 1 τ [x] (.gb l))).slots t'=if t'=t then .elp (Jaa t 1) 1 0 [] else σ.slots t':=Jad _ _ _ _
  have e':∀s,((σ.put t (.elp (Jaa t 1) 1 0 [])).set (Jaa t 1) (.own 1 τ [x] (.gb l))).mem s=if s=Jaa t 1 then .own 1 τ [x] (.gb l) else σ.mem s:=fun s=>Jad _ _ _ _
  by_cases ht:t'=t
  · subst ht
    rw[e,if_pos rfl];exact .inr (.inr (.inr (.inr (.inl ⟨rfl,⟨τ,x,l,by rw[e',if_pos rfl]⟩,hv⟩))))
  · rw[e,if_neg ht,e',if_neg (show Jaa t' 0≠Jaa t 1 by unfold Jaa;omega),e',if_neg (show Jaa t' 1≠Jaa t 1 by unfold Jaa;omega)]
    exact h.slots t'
 mems s:=by
  show Jaj Z own w (Jas G a) s (upd σ.mem (Jaa t 1) _ s);rw[Jad];split
  · rename_i e;subst e;exact hm
  · exact h.mems s
 pins s u hs h0:=by
  have e':((σ.put t (.elp (Jaa t 1) 1 0 [])).set (Jaa t 1) (.own 1 τ [x] (.gb l))).mem s=if s=Jaa t 1 then .own 1 τ [x] (.gb l) else σ.mem s:=Jad _ _ _ _
  rw[e'] at h0;split at h0
  · cases h0
  · exact h.pins s u hs h0
 novb s hs:=by
  have hs:Ja5 (upd σ.mem (Jaa t 1) (.own 1 τ [x] (.gb l)) s)=true:=hs;rw[Jad] at hs;split at hs
  · cases hs
  · exact h.novb s hs
 cells t' ver τ' x' hm mem' hmem:=by
  have e':∀s,((σ.put t (.elp (Jaa t 1) 1 0 [])).set (Jaa t 1) (.own 1 τ [x] (.gb l))).mem s=if s=Jaa t 1 then .own 1 τ [x] (.gb l) else σ.mem s:=fun s=>Jad _ _ _ _
  rw[e',if_neg (by unfold Jaa;omega)] at hm;refine h.cells t' ver τ' x' hm mem' fun k k1 k2=>?_;rw[hmem k k1 k2,e',if_neg (by unfold Jaa;omega)]
theorem Wr.putVb {own:Own} (h:Wr G Z own w a σ) {t:Nat} {τ:Ty} {x:V} {hs:List (List Stp×Ty)} {ys:(rowsTy hs).D} (h14:hs.length≤14) (hX:∀mem',JbS mem' t 2 hs ys→JbA Z own w (Jas G a) mem' (Jaa t 0) (.vb 1 τ x))
 (hR:JgC Z own w (Jas G a) t 2 hs ys) (hv:∃b o,a.tmps.getD t undef= .pointer (some ⟨b,o,none⟩)):Wr G Z own w a (JaU t 2 hs ys ((σ.put t (.vpt (Jaa t 0) 1 [])).set (Jaa t 0) (.vb 1 τ x))):=by
 have e0:∀s,((σ.put t (.vpt (Jaa t 0) 1 [])).set (Jaa t 0) (.vb 1 τ x)).mem s=if s=Jaa t 0 then .vb 1 τ x else σ.mem s:=fun s=>Jad _ _ _ _
 have es:∀t',(JaU t 2 hs ys ((σ.put t (.vpt (Jaa t 0) 1 [])).set (Jaa t 0) (.vb 1 τ x))).slots t'=if t'=t then .vpt (Jaa t 0) 1 [] else σ.slots t':=fun t'=>by
  rw[Je2];exact Jad _ _ _ _
 have eo:∀s,(∀i,i<hs.length→s≠Jaa t (2+i))→(JaU t 2 hs ys ((σ.put t (.vpt (Jaa t 0) 1 [])).set (Jaa t 0) (.vb 1 τ x))).mem s=if s=Jaa t 0 then .vb 1 τ x else σ.mem s:=fun s hn=>by
  rw[JcH t 2 hs ys _ s hn];exact e0 s
 have eo0:∀t',(JaU t 2 hs ys ((σ.put t (.vpt (Jaa t 0) 1 [])).set (Jaa t 0) (.vb 1 τ x))).mem (Jaa t' 0)=if t'=t then .vb 1 τ x else σ.mem (Jaa t' 0):=fun t'=>by
  rw[eo _ fun i hi=>by unfold Jaa;omega];by_cases ht:t'=t
  · rw[if_pos ht,if_pos (by rw[ht])]
  · rw[if_neg ht,if_neg (JjN ht)]
 have eo1:∀t',(JaU t 2 hs ys ((σ.put t (.vpt (Jaa t 0) 1 [])).set (Jaa t 0) (.vb 1 τ x))).mem (Jaa t' 1)=σ.mem (Jaa t' 1):=fun t'=>by
  rw[eo _ fun i hi=>by unfold Jaa;omega,if_neg (by unfold Jaa;omega)]
 exact {
  slots:=fun t'=>by
   by_cases ht:t'=t
   · subst ht
     exact .inr (.inr (.inr (.inr (.inr ⟨by rw[es,if_pos rfl],⟨τ,x,by rw[eo0,if_pos rfl]⟩,hv⟩))))
   · rw[es,if_neg ht,eo0,if_neg ht,eo1]
     exact h.slots t'
  mems:=Jfl t 2 hs ys _ hR fun s=>by
   rw[e0];split
   · trivial
   · exact h.mems s
  pins:=fun s u hp h0=>by
   rcases JeX t 2 hs ys ((σ.put t (.vpt (Jaa t 0) 1 [])).set (Jaa t 0) (.vb 1 τ x)) s with e | ⟨e1,y,e⟩
   · rw[e,e0] at h0
     split at h0
     · cases h0
     · exact h.pins s u hp h0
   · rw[e,(JiY _ _).1] at h0;cases h0
  novb:=fun s hs'=>by
   rcases JeX t 2 hs ys ((σ.put t (.vpt (Jaa t 0) 1 [])).set (Jaa t 0) (.vb 1 τ x)) s with e | ⟨e1,y,e⟩
   · rw[e,e0] at hs'
     split at hs'
     · rename_i es';rw[es'];unfold Jaa;omega
     · exact h.novb s hs'
   · rw[e,(JiY _ _).2] at hs';cases hs'
  cells:=fun t' ver τ' x' hm mem' hmem=>by
   rw[eo0] at hm;split at hm
   · rename_i ht;subst ht
     cases hm;exact hX mem' (JbS.congr (Jc1 t' 2 hs ys _) fun i hi=>hmem (2+i) (by omega) (by omega))
   · rename_i ht
     refine h.cells t' ver τ' x' hm mem' fun k k1 k2=>?_;rw[hmem k k1 k2,eo _ fun i hi=>by unfold Jaa;omega,if_neg (by unfold Jaa;omega)]}
theorem Wr.bare {own:Own}:Wr G Z own w a S.bare:=⟨fun _=>.inl (.inl rfl),fun _=>trivial,fun _ _ _ h=>(by cases h),fun _ h=>(by cases h),fun _ _ _ _ h=>(by cases h)⟩
theorem Wr.item (h:St N Z own β σ a w) {l:List (Nat×Nat×Nat)} (hn:(l.map (·.1)).Nodup) {j:JI} {x:j.ty.D} (hx:j.read σ=some x)
 (hl:∀p∈j.keeps σ a,p∈l) (hl':∀s∈j.loose σ,s∉l.map (·.1)) {σ0:S} (h0:Wr G Z (Jau Z own l) w a σ0) (hG:∀t τ hs,j= .vbx t τ hs→∀i h,hs[i]?=some h→G t (2+i)=Jhc w (a.tmps.getD t undef) (offP τ h.1)):
 Wr G Z (Jau Z own l) w a (j.write x σ0):=by
 cases j with
 | ali t t0=>exact h0
 | vel t t0 k p q g=>exact h0
 | zbx t τ=>exact h0
 | vbx t τ hs=>
  have hx':JcV τ hs (σ.slots t) σ=some x:=hx;have hG:=hG t τ hs rfl;clear hx;unfold JcV at hx';split at hx'
  · rename_i s ver hsl
    split at hx'
    · rename_i ver' τ' v hm
      split at hx'
      · rename_i hc
        obtain⟨rfl,rfl,h14⟩:=hc;obtain⟨x0,q1,hx'⟩:=Option.bind_eq_some_iff.1 hx';obtain⟨d,q2,hx'⟩:=Option.bind_eq_some_iff.1 hx';obtain⟨ys,q3,hx'⟩:=Option.map_eq_some_iff.1 hx';subst hx';obtain⟨g1,g2,g3⟩:=Jnj h hn hsl hm h14 q1 q2 q3 hl (fun s hs=>hl' s (by simp only[JI.loose,hsl,hm,q1];exact hs)) hG;exact h0.putVb h14 g1 g2 g3
      · cases hx'
    · cases hx'
  · cases hx'
 | val t τ=>exact h0.put (JiX h hx hl')
 | row t e m=>
  have hx':(JbY e m (σ.slots t) σ).map (Jfu e m)=some x:=hx;clear hx;obtain⟨x0,hx,hx0⟩:=Option.map_eq_some_iff.1 hx';clear hx';subst hx0;unfold JbY at hx;split at hx
  · rename_i hs
    cases hmp:m.isMp with
    | true=>rw[hmp] at hx;cases hx
    | false=>
    rw[hmp] at hx;cases hx;have hsl:=h.slots t;rw[hs] at hsl;show Wr _ _ _ _ _ (JI.write (.row t e m) (Jfu e m []) σ0);rw[Jli];exact h0.putMem (en:=.own 1 e [] m) (Jaj.ver (Jmq hmp hsl)) (.inl ⟨1,rfl,_,_,_,rfl⟩) (fun _ _ h=>by cases h)
  · rename_i s ver hs
    split at hx
    · rename_i ver' e' xs m' hm
      cases hb:Nat.beq ver ver'&&m'.le m with
      | false=>rw[hb] at hx;cases hx
      | true=>
       rw[hb] at hx;simp only[Bool.and_eq_true] at hb;have hb1:=Nat.eq_of_beq_eq_true hb.1;subst hb1;obtain⟨eq,hx⟩:=cast?_some hx;cases eq;have hx:xs=x0:=hx;subst hx;exact h0.putMem (en:=.own 1 _ (Jfu _ m xs) m) (Jaj.cano (Jaj.ver (Jmp h hn hs hm hb.2 hl))) (.inl ⟨1,rfl,_,_,_,rfl⟩) (fun _ _ h=>by cases h)
    · cases hx
  · cases hx
 | box t τ=>
  have hx:Jd9 τ (σ.slots t) σ=some x:=hx;unfold Jd9 at hx;split at hx
  · rename_i s ver hs
    split at hx
    · rename_i ver' τ' y hm
      cases hb:Nat.beq ver ver' with
      | false=>rw[hb] at hx;cases hx
      | true=>
       rw[hb] at hx;have hb1:=Nat.eq_of_beq_eq_true hb;subst hb1;obtain⟨eq,hx⟩:=cast?_some hx;subst eq;have hx:y=x:=hx;subst hx;obtain⟨g1,g2⟩:=Jmr h hn hs hm hl;exact h0.putMem (en:=.box 1 τ' y) g1 (.inr ⟨1,rfl,⟨_,_,rfl⟩,g2⟩) (fun _ _ h=>by cases h)
    · cases hx
  · cases hx
 | prow t e=>
  have hx:Jiz e t (σ.slots t) σ=some x:=hx;unfold Jiz at hx;split at hx
  · rename_i s hs
    cases hb:Nat.beq s (Jaa t 0) with
    | false=>rw[hb] at hx;cases hx
    | true=>
     rw[hb] at hx;have hb:=Nat.eq_of_beq_eq_true hb;simp only[cond_true] at hx;split at hx
     · rename_i e' xs hm
       obtain⟨eq,hx⟩:=cast?_some hx;cases eq;have hx:xs=x:=hx;subst hx;have hsl:=h.slots t;rw[hs] at hsl;have hv:a.tmps.getD t undef=β s:=hsl.2 _ xs .full hm;simp only[JI.keeps,List.mem_singleton,forall_eq] at hl;have hf:Jbg l s=some (Jaa t 0,0):=by rw[hb];exact Ja3 hn hl
       refine h0.putMem (en:=.own 0 _ xs .full) (Jf8 (m:=.full) h hs hm rfl hf (JaC t)) (.inl ⟨0,rfl,_,_,_,rfl⟩) (fun v hp _=>?_);rw[JaC,hv];subst hb;exact h.pins _ v hp (by rw[hm];rfl)
     · cases hx
  · cases hx
 | pbox t τ=>
  have hx:JiA τ t (σ.slots t) σ=some x:=hx;unfold JiA at hx;split at hx
  · rename_i s hs
    cases hb:Nat.beq s (Jaa t 0) with
    | false=>rw[hb] at hx;cases hx
    | true=>
     rw[hb] at hx;have hb:=Nat.eq_of_beq_eq_true hb;simp only[cond_true] at hx;split at hx
     · rename_i τ' y hm
       obtain⟨eq,hx⟩:=cast?_some hx;subst eq;have hx:y=x:=hx;subst hx;simp only[JI.keeps,List.mem_singleton,forall_eq] at hl;have hf:Jbg l s=some (Jaa t 0,0):=by rw[hb];exact Ja3 hn hl
       obtain⟨g1,g2⟩:=JiW h hf hs hm;obtain⟨b,o,g2,g3⟩:=g2;refine h0.putMem (en:=.box 0 τ' y) g1 (.inr ⟨0,rfl,⟨_,_,rfl⟩,b,o,g2⟩) (fun v hp _=>?_);rw[JaC,g3];subst hb;exact h.pins _ v hp (by rw[hm];rfl)
     · cases hx
  · cases hx
 | gbx t τ l=>
  have hx:JkD τ l (σ.slots t) σ=some x:=hx;unfold JkD at hx;split at hx
  · rename_i s ver hs
    split at hx
    · rename_i ver' τ' xs l' hm
      cases hb:Nat.beq ver ver'&&Jmh l l' with
      | false=>rw[hb] at hx;cases hx
      | true=>
       rw[hb] at hx;simp only[Bool.and_eq_true] at hb;have hb1:=Nat.eq_of_beq_eq_true hb.1;subst hb1;obtain⟨y,hy,hx⟩:=Option.bind_eq_some_iff.1 hx;obtain⟨eq,hx⟩:=cast?_some hx;subst eq;have hx:y=x:=hx;subst hx;have hxs:=one?_some hy;subst hxs;obtain⟨g1,g2⟩:=Jnh h hn hs hm hb.2 hl;exact h0.putGb g1 g2
    · cases hx
  · cases hx
 | pv t k=>
  have hx:k.read (σ.slots t)=some x:=hx;have hsl:=h.slots t;rw[PK.read_some hx] at hsl;refine h0.putV fun β' mem'=>?_;exact Jac.go (JbF l) (fun s=>Evo.same _ rfl) (PK.indep (β':=β') (mem':=mem') hsl)
 | rpt t τ=>
  have hx:JkC τ (σ.slots t) σ=some x:=hx;have hsl:=h.slots t;refine h0.putV fun β' mem'=>?_;unfold JkC at hx;split at hx
  · rename_i τ' y hs
    obtain⟨eq,hx⟩:=cast?_some hx;subst eq;have hx:y=x:=hx;subst hx;rw[hs] at hsl;obtain⟨hv,b,o,cs,e1,e2,e3⟩:=hsl;exact⟨hv,b,o,cs,e1,fun j u e=>⟨JbU l (e2 j u e).1,(e2 j u e).2⟩,e3.keeps (JbF l)⟩
  · rename_i s ver i hs
    split at hx
    · rename_i ver' e xs hm
      cases hb:Nat.beq ver ver'&&e.isVal with
      | false=>rw[hb] at hx;cases hx
      | true=>
       rw[hb] at hx;simp only[Bool.and_eq_true] at hb;obtain⟨hb,hval⟩:=hb;have hb:=Nat.eq_of_beq_eq_true hb;subst hb;obtain⟨y,hy,hx⟩:=Option.bind_eq_some_iff.1 hx;obtain⟨eq,hx⟩:=cast?_some hx;subst eq;have hx:y=x:=hx;subst hx;rw[hs] at hsl;obtain⟨hi,b,off,nn,cc,k1,k2⟩:=hsl.2 e xs .tail hm;have hE:=h.mems s;rw[hm] at hE;obtain⟨ad,cap,k3,k4,k5,k6,k7⟩:=hE;rw[k1] at k3;cases k3;obtain⟨hx1,hx2⟩:=List.getElem?_eq_some_iff.1 hy;rcases k7 with ⟨k8,_⟩ | ⟨b',off',k8,k9,_⟩
       · omega
       cases k8;obtain⟨es,q1,q2,q3⟩:=k9 i hx1;rw[hx2] at q3;exact⟨hval,b,off+i*e.size,es,by rw[k2,Jao,Nat.add_zero],fun j u hj=>⟨JbU l (q2 j u hj).1,(q2 j u hj).2⟩,q3.keeps (JbF l)⟩
    · cases hx
  · cases hx
theorem Wr.items (h:St N Z own β σ a w) {l:List (Nat×Nat×Nat)} (hn:(l.map (·.1)).Nodup):∀(J:List JI) (x:JD J),Jdy J σ=some x →
 (∀p∈Jb3 J σ a,p∈l)→(∀s∈JbZ J σ,s∉l.map (·.1))→(∀t τ hs,JI.vbx t τ hs∈J→∀i h,hs[i]?=some h→G t (2+i)=Jhc w (a.tmps.getD t undef) (offP τ h.1)) →
 ∀{σ0:S},Wr G Z (Jau Z own l) w a σ0→Wr G Z (Jau Z own l) w a (Jf5 J x σ0)
 | [],_,_,_,_,_,_,h0=>h0
 | [j],x,hx,hl,hl',hG,_,h0=>Wr.item h hn hx (fun p hp=>hl p (by simp[Jb3,hp])) (fun s hs=>hl' s (by simp[JbZ,hs])) h0 (fun t τ hs e=>hG t τ hs (by simp[e]))
 | j::q::r,x,hx,hl,hl',hG,σ0,h0=>by
  obtain⟨x1,h1,h2⟩:=Option.bind_eq_some_iff.1 hx;obtain⟨x2,h3,h4⟩:=Option.bind_eq_some_iff.1 h2;cases h4
  exact Wr.items h hn (q::r) x2 h3 (fun p hp=>hl p (List.mem_append_right _ hp)) (fun s hs=>hl' s (List.mem_append_right _ hs)) (fun t τ hs e=>hG t τ hs (List.mem_cons_of_mem _ e))
   (Wr.item h hn h1 (fun p hp=>hl p (List.mem_append_left _ hp)) (fun s hs=>hl' s (List.mem_append_left _ hs)) h0 (fun t τ hs e=>hG t τ hs (by simp[e])))
def JdA (w:World) (a:Act):List JI→Nat→Nat→Value
 | [],_,_=>undef
 | .vbx t τ hs::r,t',k=>if t=t' then (match hs[k-2]? with | some h=>Jhc w (a.tmps.getD t undef) (offP τ h.1) | none=>undef) else JdA w a r t' k
 | _::r,t',k=>JdA w a r t' k
theorem JjO:∀{J:List JI} {x:JD J},Jdy J σ=some x→(Jay J σ).Nodup→∀t τ hs,JI.vbx t τ hs∈J→∀i h,hs[i]?=some h→JdA w a J t (2+i)=Jhc w (a.tmps.getD t undef) (offP τ h.1):=by
 intro J
 have kept1:∀{t τ hs} {y:(JI.vbx t τ hs).ty.D},(JI.vbx t τ hs).read σ=some y→∃s,(∃ver,σ.slots t= .vpt s ver [])∧s∈(JI.vbx t τ hs).kept σ:=by
  intro t τ hs y hy;have hy:JcV τ hs (σ.slots t) σ=some y:=hy;unfold JcV at hy;split at hy
  · rename_i s ver hsl
    exact⟨s,⟨ver,hsl⟩,by simp[JI.kept,hsl]⟩
  · cases hy
 have keptMem:∀{J:List JI} {x:JD J} {t τ hs},Jdy J σ=some x→JI.vbx t τ hs∈J→∃s,(∃ver,σ.slots t= .vpt s ver [])∧s∈Jay J σ:=by
  intro J
  induction J with
  | nil=>intro x t τ hs _ hm;cases hm
  | cons j r ih=>
   intro x t τ hs hx hm;cases r with
   | nil=>
    obtain rfl:=List.mem_singleton.1 hm;obtain⟨s,e1,e2⟩:=kept1 hx;exact⟨s,e1,List.mem_append_left _ e2⟩
   | cons q r=>
    obtain⟨x1,h1,h2⟩:=Option.bind_eq_some_iff.1 hx;obtain⟨x2,h3,h4⟩:=Option.bind_eq_some_iff.1 h2;rcases List.mem_cons.1 hm with rfl | hm
    · obtain⟨s,e1,e2⟩:=kept1 h1
      exact⟨s,e1,List.mem_append_left _ e2⟩
    · obtain⟨s,e1,e2⟩:=ih h3 hm
      exact⟨s,e1,List.mem_append_right _ e2⟩
 induction J with
 | nil=>intro x _ _ t τ hs hm;cases hm
 | cons j r ih=>
  intro x hx hn t τ hs hm i h hi;have hn':(j.kept σ++Jay r σ).Nodup:=hn;obtain⟨n1,n2,n3⟩:=List.nodup_append.1 hn';rcases List.mem_cons.1 hm with rfl | hm'
  · simp only[JdA,if_pos,Nat.add_sub_cancel_left,hi]
  · have hr:∃x2,Jdy r σ=some x2:=by
     cases r with
     | nil=>cases hm'
     | cons q r=>
      obtain⟨x1,h1,h2⟩:=Option.bind_eq_some_iff.1 hx;obtain⟨x2,h3,h4⟩:=Option.bind_eq_some_iff.1 h2;exact⟨x2,h3⟩
    obtain⟨x2,hr⟩:=hr;have ih':=ih hr n2 t τ hs hm' i h hi;cases j with
    | vbx t' τ' hs'=>
     have hne:t'≠t:=by
      rintro rfl;obtain⟨s,⟨ver,e1⟩,e2⟩:=keptMem hr hm';have:s∈(JI.vbx t' τ' hs').kept σ:=by simp[JI.kept,e1]
      exact n3 s this s e2 rfl
     simp only[JdA,if_neg hne];exact ih'
    | _=>exact ih'
theorem Wr.st {own':Own} {σ':S} (h:St N Z own β σ a w) (ho:∀b o,b<Z.w.heap.size→¬Z.io b o→own' b o=own b o) (hk:Keeps own own' w w) (hw:Wr G Z own' w a σ'):St N Z own' (Jas G a) σ' a w where
 kept q e:=(h.kept q e).trans hk
 frame:=h.frame
 old b o h1 h2:=(ho b o h1 h2).trans (h.old b o h1 h2)
 size:=h.size
 defers:=h.defers
 slots t:=by
  rcases hw.slots t with (e | ⟨v,e,hn⟩) | ⟨τ,x,e,hx⟩ | ⟨k,e,en,x,m,e'⟩ | ⟨k,e,⟨τ,x,e'⟩,b,o,e''⟩ | ⟨e,⟨τ,x,l,e'⟩,b,o,e''⟩ | ⟨e,⟨τ,x,e'⟩,b,o,e''⟩
  · rw[e];trivial
  · rw[e];exact hn _ _
  · rw[e];exact hx
  · rw[e]
    refine⟨by rw[e'];exact Nat.lt_succ_self k,fun τ' xs m' _=>?_⟩;rw[JaC]
  · rw[e]
    refine⟨by rw[e'];exact Nat.lt_succ_self k,fun τ' x' _=>⟨b,o,?_,?_⟩⟩
    · rw[JaC];exact e''
    · rw[e'',Jao,Nat.add_zero]
  · rw[e]
    refine⟨by rw[e'];exact Nat.lt_succ_self 1,fun τ' xs m hm=>?_⟩;rw[e'] at hm;cases hm;exact⟨by simp,b,o,1,1,by rw[JfK,e''];rfl,by rw[e'',Jao,Nat.zero_mul];rfl⟩
  · rw[e]
    refine⟨by rw[e'];exact Nat.lt_succ_self 1,fun τ' x' _=>⟨b,o,?_,?_⟩⟩
    · rw[JaC];exact e''
    · rw[e'',Jao,Nat.add_zero]
 mems:=hw.mems
 pins:=hw.pins
 cells s:=by
  cases hx:σ'.mem s with
  | vb ver τ v=>
   have h0:=hw.novb s (by rw[hx];rfl);have hs:s=Jaa (s/16) 0:=by unfold Jaa;omega
   rw[hs] at hx ⊢;exact hw.cells _ ver τ v hx σ'.mem fun _ _ _=>rfl
  | _=>trivial
theorem Jbu {own:Own} {β:Jai}:∀(L:List JI) {σ:S},(∀t t0,JI.ali t t0∈L→a.tmps.getD t undef=a.tmps.getD t0 undef)→St N Z own β σ a w→St N Z own β (Jfa L σ) a w
 | [],_,_,h=>h
 | .ali t t0::r,σ,hL,h=>by
  have ih:∀{σ:S},St N Z own β σ a w→St N Z own β (Jfa r σ) a w:=fun h=>Jbu r (fun t t0 hm=>hL t t0 (List.mem_cons_of_mem _ hm)) h;unfold Jfa;refine ih ?_;split
  · rename_i s ver p hs
    have h0:=h.slots t0;rw[hs] at h0;exact h.reslot (v:=.vpt s ver p) (by rw[hL t t0 (by simp)];exact h0)
  · exact h
 | .val _ _::r,σ,hL,h=>Jbu r (fun t t0 hm=>hL t t0 (List.mem_cons_of_mem _ hm)) h
 | .row _ _ _::r,σ,hL,h=>Jbu r (fun t t0 hm=>hL t t0 (List.mem_cons_of_mem _ hm)) h
 | .box _ _::r,σ,hL,h=>Jbu r (fun t t0 hm=>hL t t0 (List.mem_cons_of_mem _ hm)) h
 | .prow _ _::r,σ,hL,h=>Jbu r (fun t t0 hm=>hL t t0 (List.mem_cons_of_mem _ hm)) h
 | .pbox _ _::r,σ,hL,h=>Jbu r (fun t t0 hm=>hL t t0 (List.mem_cons_of_mem _ hm)) h
 | .rpt _ _::r,σ,hL,h=>Jbu r (fun t t0 hm=>hL t t0 (List.mem_cons_of_mem _ hm)) h
 | .pv _ _::r,σ,hL,h=>Jbu r (fun t t0 hm=>hL t t0 (List.mem_cons_of_mem _ hm)) h
 | .gbx _ _ _::r,σ,hL,h=>Jbu r (fun t t0 hm=>hL t t0 (List.mem_cons_of_mem _ hm)) h
 | .vbx _ _ _::r,σ,hL,h=>Jbu r (fun t t0 hm=>hL t t0 (List.mem_cons_of_mem _ hm)) h
 | .vel _ _ _ _ _ _::r,σ,hL,h=>Jbu r (fun t t0 hm=>hL t t0 (List.mem_cons_of_mem _ hm)) h
 | .zbx _ _::r,σ,hL,h=>Jbu r (fun t t0 hm=>hL t t0 (List.mem_cons_of_mem _ hm)) h
theorem Jnk (h:St N Z own β σ a w) {t t0:Nat} (hb:Jf4 σ (.ali t t0)=true):a.tmps.getD t undef=a.tmps.getD t0 undef:=by
 simp only[Jf4] at hb;split at hb
 · rename_i s ver s' ver' h1 h2
   split at hb
   · rename_i v τ x hm
     simp only[Bool.and_eq_true] at hb;obtain⟨e1,e2,e3⟩:=hb;have e1:=Nat.eq_of_beq_eq_true e1;have e2:=Nat.eq_of_beq_eq_true e2;have e3:=Nat.eq_of_beq_eq_true e3;subst e1;subst e2;subst e3;have g1:=h.slots t;have g2:=h.slots t0;rw[h1] at g1;rw[h2] at g2;obtain⟨b,o,k1,k2⟩:=g1.2 τ x hm;obtain⟨b',o',k3,k4⟩:=g2.2 τ x hm;rw[k1] at k3;cases k3;rw[k2,k4]
   · cases hb
 · cases hb
theorem JfL {j:JI} {x:j.ty.D} (hx:j.read σ=some x) {t k:Nat} (h2:2≤k) (h16:k<16) (hj:∀τ hs,j≠ .vbx t τ hs) (σ0:S):(j.write x σ0).mem (Jaa t k)=σ0.mem (Jaa t k):=by
 have one:∀(σ1:S) (t' q:Nat) (e:Entry),q<2→(σ1.set (Jaa t' q) e).mem (Jaa t k)=σ1.mem (Jaa t k):=fun σ1 t' q e hq=>by
  have e':(σ1.set (Jaa t' q) e).mem (Jaa t k)=if Jaa t k=Jaa t' q then e else σ1.mem (Jaa t k):=Jad _ _ _ _
  rw[e',if_neg (by unfold Jaa;omega)]
 cases j with
 | val t' τ=>rfl
 | row t' e m=>exact one _ t' 0 _ (by omega)
 | box t' τ=>exact one _ t' 0 _ (by omega)
 | prow t' e=>exact one _ t' 0 _ (by omega)
 | pbox t' τ=>exact one _ t' 0 _ (by omega)
 | rpt t' τ=>rfl
 | pv t' k=>rfl
 | gbx t' τ l=>exact one _ t' 1 _ (by omega)
 | ali t' t0=>rfl
 | vel t' t0 k p q g=>rfl
 | zbx t' τ=>rfl
 | vbx t' τ hs=>
  have hne:t'≠t:=fun e=>hj τ hs (by rw[e]);have hx':JcV τ hs (σ.slots t') σ=some x:=hx
  have h14:hs.length≤14:=by
   unfold JcV at hx';split at hx'
   · split at hx'
     · split at hx'
       · rename_i hc;exact hc.2.2
       · cases hx'
     · cases hx'
   · cases hx'
  show (JaU t' 2 hs x.2 _).mem (Jaa t k)=_;rw[JcH t' 2 hs x.2 _ (Jaa t k) fun i hi=>by unfold Jaa;omega];exact one _ t' 0 _ (by omega)
theorem JgD:∀{J:List JI} {x:JD J},Jdy J σ=some x→∀{t k:Nat},2≤k→k<16→(∀τ hs,JI.vbx t τ hs∉J)→∀σ0:S,(Jf5 J x σ0).mem (Jaa t k)=σ0.mem (Jaa t k)
 | [],_,_,_,_,_,_,_,_=>rfl
 | [j],x,hx,t,k,h2,h16,hj,σ0=>JfL (σ:=σ) (j:=j) hx h2 h16 (fun τ hs e=>hj τ hs (by simp[e])) σ0
 | j::q::r,x,hx,t,k,h2,h16,hj,σ0=>by
  obtain⟨x1,h1,h3⟩:=Option.bind_eq_some_iff.1 hx;obtain⟨x2,h4,h5⟩:=Option.bind_eq_some_iff.1 h3;cases h5;exact (JgD (J:=q::r) h4 h2 h16 (fun τ hs e=>hj τ hs (List.mem_cons_of_mem _ e)) _).trans (JfL h1 h2 h16 (fun τ hs e=>hj τ hs (by simp[e])) σ0)
theorem Jga {t:Nat} {τ:Ty} {hs:List (List Stp×Ty)} {y:(JI.vbx t τ hs).ty.D} (hy:(JI.vbx t τ hs).read σ=some y):∃s ver,σ.slots t= .vpt s ver []∧s∈(JI.vbx t τ hs).kept σ∧hs.length≤14:=by
 have hy:JcV τ hs (σ.slots t) σ=some y:=hy;unfold JcV at hy;split at hy
 · rename_i s ver hsl
   split at hy
   · split at hy
     · rename_i hc
       exact⟨s,ver,hsl,by simp[JI.kept,hsl],hc.2.2⟩
     · cases hy
   · cases hy
 · cases hy
theorem JhG:∀{J:List JI} {x:JD J},Jdy J σ=some x→∀{t s ver:Nat},σ.slots t= .vpt s ver []→s∉Jay J σ→∀τ hs,JI.vbx t τ hs∉J
 | [],_,_,_,_,_,_,_,_,_,h=>by cases h
 | [j],x,hx,t,s,ver,hs,hk,τ,hh,h=>by
  obtain rfl:=List.mem_singleton.1 h;obtain⟨s',v',e1,e2,_⟩:=Jga hx;rw[hs] at e1;cases e1;exact hk (List.mem_append_left _ e2)
 | j::q::r,x,hx,t,s,ver,hs,hk,τ,hh,h=>by
  obtain⟨x1,h1,h3⟩:=Option.bind_eq_some_iff.1 hx;obtain⟨x2,h4,_⟩:=Option.bind_eq_some_iff.1 h3;rcases List.mem_cons.1 h with rfl | h
  · obtain⟨s',v',e1,e2,_⟩:=Jga h1
    rw[hs] at e1;cases e1;exact hk (List.mem_append_left _ e2)
  · exact JhG (J:=q::r) h4 hs (fun hm=>hk (List.mem_append_right _ hm)) τ hh h
theorem JhH:∀{J:List JI} {x:JD J},Jdy J σ=some x→(Jay J σ).Nodup→∀{t:Nat} {τ:Ty} {hs:List (List Stp×Ty)},JI.vbx t τ hs∈J→∀σ0:S,
 ∃y,JcV τ hs (σ.slots t) σ=some y∧JbS (Jf5 J x σ0).mem t 2 hs y.2
 | [],_,_,_,_,_,_,h,_=>by cases h
 | [j],x,hx,_,t,τ,hs,h,σ0=>by
  obtain rfl:=List.mem_singleton.1 h;exact⟨x,hx,Jc1 t 2 hs _ _⟩
 | j::q::r,x,hx,hn,t,τ,hs,h,σ0=>by
  obtain⟨x1,h1,h3⟩:=Option.bind_eq_some_iff.1 hx;obtain⟨x2,h4,h5⟩:=Option.bind_eq_some_iff.1 h3;cases h5;have hn':(j.kept σ++Jay (q::r) σ).Nodup:=hn;obtain⟨n1,n2,n3⟩:=List.nodup_append.1 hn';rcases List.mem_cons.1 h with rfl | h
  · obtain⟨s,v,e1,e2,e3⟩:=Jga h1
    refine⟨x1,h1,JbS.congr (mem:=((JI.vbx t τ hs).write x1 σ0).mem) (Jc1 t 2 hs x1.2 _) fun i hi=>?_⟩;exact JgD (J:=q::r) h4 (by omega) (by omega) (JhG h4 e1 fun hm=>n3 s e2 s hm rfl) _
  · exact JhH (J:=q::r) h4 n2 h _
theorem Jba:∀(L:List JI) (σ:S),(Jfa L σ).mem=σ.mem
 | [],_=>rfl
 | .ali t t0::r,σ=>by
  unfold Jfa;rw[Jba r];split<;>rfl
 | .val _ _::r,σ=>Jba r σ
 | .row _ _ _::r,σ=>Jba r σ
 | .box _ _::r,σ=>Jba r σ
 | .prow _ _::r,σ=>Jba r σ
 | .pbox _ _::r,σ=>Jba r σ
 | .rpt _ _::r,σ=>Jba r σ
 | .pv _ _::r,σ=>Jba r σ
 | .gbx _ _ _::r,σ=>Jba r σ
 | .vbx _ _ _::r,σ=>Jba r σ
 | .vel _ _ _ _ _ _::r,σ=>Jba r σ
 | .zbx _ _::r,σ=>Jba r σ
theorem JiZ:∀{J:List JI} {t:Nat} {hs:List (List Stp×Ty)},Jg3 J t=some hs→∃τ,JI.vbx t τ hs∈J
 | [],_,_,h=>by cases h
 | j::r,t,hs,h=>by
  have go:Jg3 r t=some hs→∃τ,JI.vbx t τ hs∈j::r:=fun h=>(JiZ h).imp fun τ=>List.mem_cons_of_mem _;cases j with
  | vbx t' τ hs'=>
   unfold Jg3 at h;cases hb:Nat.beq t' t with
   | true=>
    rw[hb] at h;have hb:=Nat.eq_of_beq_eq_true hb;subst hb;cases h;exact⟨τ,List.mem_cons_self⟩
   | false=>rw[hb] at h;exact go h
  | _=>exact go h
theorem JhI {τ:Ty} {x:V} {mem:Nat→Entry} {t:Nat}:∀{hs:List (List Stp×Ty)} {k0:Nat} {ys:(rowsTy hs).D},JdV τ x σ hs=some ys→JbS mem t k0 hs ys→∀{k:Nat} {h:List Stp×Ty},hs[k]?=some h→JcT h.2=false →
 ∃u y,Jbl τ x h.1=some u∧JbY h.2 .full u σ=some y∧mem (Jaa t (k0+k))= .own 1 h.2 y .full
 | [],_,_,_,_,k,h,hk,_=>by cases hk
 | hh::r,k0,ys,h1,h2,k,h,hk,hd=>by
  unfold JdV at h1;obtain⟨v1,e1,h1⟩:=Option.bind_eq_some_iff.1 h1;obtain⟨y,e2,h1⟩:=Option.bind_eq_some_iff.1 h1;obtain⟨zs,e3,h1⟩:=Option.map_eq_some_iff.1 h1;subst h1;cases k with
  | zero=>
   cases hk;rw[hd] at e2;refine⟨v1,y,e1,e2,?_⟩;have:=h2.1;unfold JbJ at this;rw[hd] at this;exact this
  | succ k=>
   obtain⟨u,y',g1,g2,g3⟩:=JhI e3 h2.2 (k:=k) hk hd;exact⟨u,y',g1,g2,by rw[show k0+(k+1)=k0+1+k by omega];exact g3⟩
theorem Jms {v:V} {c:Vel} (h:Jgs v=some c):v=Jny c.q c.g c.s c.ver c.i:=by
 unfold Jgs at h;split at h<;>cases h<;>rfl
theorem JjP {own':Own} {J:List JI} {x:JD J} {σ1:S} (h:St N Z own β σ a w) (hJ:Jdy J σ=some x) (hn:(Jay J σ).Nodup) (h1:St N Z own' (Jas (JdA w a J) a) σ1 a w) (hm1:∀t k,2≤k→k<16→σ1.mem (Jaa t k)=(Jf5 J x .bare).mem (Jaa t k))
 {j:JI} {i:j.ty.D} (hi:j.read σ=some i) {σ0:S} (hb:(Jf4 σ j&&(JiB J j&&zbB σ0 σ j))=true):St N Z own' (Jas (JdA w a J) a) (Jfv j i σ1) a w:=by
 cases j with
 | vel t t0 k p q g=>
  have hi:(Jgs (σ.slots t)).map (fun c=>(c.i:Int))=some i:=hi;simp only[Bool.and_eq_true] at hb;obtain⟨hb1,hb2,_⟩:=hb;simp only[Jf4] at hb1;split at hb1
  · rename_i c s' ver' hs1 hs2
    obtain⟨s,ver,i0,q1,g1⟩:=c;split at hb1
    · rename_i v τ xv v3 e xs hm2 hm3
      split at hb1
      · rename_i s2 v2 hg
        simp only[Bool.and_eq_true] at hb1;obtain⟨c1,c2,c3,c4,c5,c6⟩:=hb1;have c1:=Nat.eq_of_beq_eq_true c1;have c2:s=s2:=Nat.eq_of_beq_eq_true c2;have c3:ver=v2:=Nat.eq_of_beq_eq_true c3;have c4:ver=v3:=Nat.eq_of_beq_eq_true c4;have c5:q1=q:=of_decide_eq_true c5;have c6:g1=g:=of_decide_eq_true c6;subst c1 c2 c3 c4 c5 c6;rw[hs1] at hi;have hi:some (i0:Int)=some i:=hi;cases hi;replace hs1:=Jms hs1;replace hm3:σ.mem s= .own ver e xs .full:=hm3;simp only[JiB] at hb2;split at hb2
        · rename_i hs hof
          split at hb2
          · rename_i hh hk
            simp only[Bool.and_eq_true,Bool.not_eq_true'] at hb2;obtain⟨d1,d2⟩:=hb2;have d1:=of_decide_eq_true d1;subst d1;obtain⟨τ',hmem⟩:=JiZ hof;obtain⟨y,r1,r2⟩:=JhH hJ hn hmem .bare;rw[hs2] at r1;simp only[JcV,hm2] at r1;split at r1
            · rename_i hc
              obtain⟨_,hτ,h14⟩:=hc;subst hτ;obtain⟨x0,q2,r1⟩:=Option.bind_eq_some_iff.1 r1;obtain⟨d,_,r1⟩:=Option.bind_eq_some_iff.1 r1;obtain⟨ys,q3,r1⟩:=Option.map_eq_some_iff.1 r1;subst r1;obtain⟨u,y,g0,g2,g3⟩:=JhI q3 r2 hk d2;rw[hg] at g0;cases g0;simp only[JbY,hm3] at g2;have hbt:(Nat.beq ver ver&&Mode.le .full .full)=true:=by rw[Nat.beq_refl];rfl
              rw[hbt] at g2;obtain⟨eq,g2⟩:=cast?_some g2;cases eq;have g2:xs=y:=g2;subst g2;have hk14:k<hs.length:=(List.getElem?_eq_some_iff.1 hk).1;have hsl:=h.slots t;rw[hs1] at hsl;obtain⟨vb,vo,vu,w1,w2,w3,w4⟩:=h.vb hm2;have hs0:=h.slots t0;rw[hs2] at hs0;obtain⟨b',o',z1,z2⟩:=hs0.2 τ xv hm2;rw[w1] at z1;cases z1;rw[Jao,Nat.add_zero] at z2;obtain⟨u0,n1,n2,n3,n4⟩:=Jf9 w4 w3 q2;obtain⟨u2,f1,f2,f3,f4⟩:=(JcM τ).1 xv vu hh.1 _ (.sl (Jdx hh.2)) w4 w3 hg (n4 hh (List.mem_of_getElem? hk)).1 rfl;have f4:offP τ hh.1+1≤τ.size:=f4;have hl:=w3.2.2.1
              have hcell:vu.cells.toList[offP τ hh.1]?=some u2:=by
                  have f3:u2.cells.toList=(vu.cells.toList.drop (offP τ hh.1)).take 1:=f3
                  have hcl:u2.cells.toList=[u2]:=by
                   have h1:=f2.2.1;have h2:u2.cells.toList.length=1:=f2.2.2.1;cases hq:u2.cells.toList with
                   | nil=>rw[hq] at h2;simp at h2
                   | cons z zs=>
                    rw[hq] at h2 h1;have:zs=[]:=List.eq_nil_of_length_eq_zero (by simpa using h2);subst this;have h1:u2=z:=h1;rw[h1]
                  rw[hcl] at f3;have:([u2]:List Value)[0]?=((vu.cells.toList.drop (offP τ hh.1)).take 1)[0]?:=by rw[←f3]
                  rw[List.getElem?_take,if_pos (by omega),List.getElem?_drop,Nat.add_zero] at this;exact this.symm
              have hβ:Jas (JdA w a J) a (Jaa t0 (2+k))=β s:=by
                  rw[Jel t0 (2+k) (by omega) (by omega),JjO hJ hn t0 τ hs hmem k hh hk,z2];show (w.cell? ⟨vb,vo+offP τ hh.1,none⟩).getD undef=β s;rw[(w2 _ _ hcell).2.2.1];exact f1.2 _ _ _ hm3
              have hmf:σ1.mem (Jaa t0 (2+k))= .own 1 hh.2 xs .full:=by rw[hm1 _ _ (by omega) (by omega)];exact g3
              have key:∀u,Jac own w β σ.mem (.elp s ver i0 q1) u→Jac own' w (Jas (JdA w a J) a) σ1.mem (.elp (Jaa t0 (2+k)) 1 i0 q1) u:=fun u hu=>by
                  obtain⟨hlt,b,o,n,c,k1,k2⟩:=hu.2 _ _ _ hm3;refine⟨by rw[hmf];exact Nat.lt_succ_self 1,fun τ2 xs2 m2 hm=>?_⟩;rw[hmf] at hm;cases hm;exact⟨hlt,b,o,n,c,by rw[hβ,k1],k2⟩
              simp only[Jfv,hmf];refine h1.reslot ?_;cases g1 with
              | none=>exact key _ hsl
              | some ga=>
                  obtain⟨ad,e1,e2⟩:=hsl;exact⟨ad,e1,key _ e2⟩
            · cases r1
          · cases hb2
        · cases hb2
      · cases hb1
    · cases hb1
  · cases hb1
 | _=>exact h1
theorem Jll (j:JI) (i:j.ty.D) (σ:S):(Jfv j i σ).mem=σ.mem:=by
 cases j with
 | vel t t0 k p q g=>simp only[Jfv];split<;>rfl
 | _=>rfl
theorem JjQ {own':Own} {J0:List JI} {x0:JD J0} (h:St N Z own β σ a w) (hJ:Jdy J0 σ=some x0) (hn:(Jay J0 σ).Nodup):∀(J:List JI) (x:JD J),Jdy J σ=some x→∀{σ0:S},(∀j∈J,(Jf4 σ j&&(JiB J0 j&&zbB σ0 σ j))=true) →
 ∀{σ1:S},(∀t k,2≤k→k<16→σ1.mem (Jaa t k)=(Jf5 J0 x0 .bare).mem (Jaa t k))→St N Z own' (Jas (JdA w a J0) a) σ1 a w→St N Z own' (Jas (JdA w a J0) a) (Jmj J x σ1) a w
 | [],_,_,_,_,_,_,h1=>h1
 | [j],x,hx,_,hb,_,hm,h1=>JjP h hJ hn h1 hm (j:=j) hx (hb j List.mem_cons_self)
 | j::q::r,x,hx,σ0,hb,σ1,hm,h1=>by
  obtain⟨x1,g1,h3⟩:=Option.bind_eq_some_iff.1 hx;obtain⟨x2,h4,h5⟩:=Option.bind_eq_some_iff.1 h3;cases h5;exact JjQ h hJ hn (q::r) x2 h4 (fun j hj=>hb j (List.mem_cons_of_mem _ hj)) (fun t k h2 h16=>(congrFun (Jll _ _ _) _).trans (hm t k h2 h16)) (JjP h hJ hn h1 hm g1 (hb j List.mem_cons_self))
theorem Jlm (h:St N Z own β σ a w) {l:List (Nat×Nat×Nat)} (hn:(l.map (·.1)).Nodup) {σ0:S}:∀(J:List JI),(∀j∈J,zbB σ0 σ j=true)→(∀p∈Jb3 J σ a,p∈l)→∀{σ1:S},Wr G Z (Jau Z own l) w a σ1→Wr G Z (Jau Z own l) w a (zbW σ0 J σ1)
 | [],_,_,_,h1=>h1
 | j::r,hb,hl,σ1,h1=>by
  have ih:∀{σ1:S},Wr G Z (Jau Z own l) w a σ1→Wr G Z (Jau Z own l) w a (zbW σ0 r σ1):=Jlm h hn r (fun j hj=>hb j (List.mem_cons_of_mem _ hj)) fun p hp=>hl p (List.mem_append_right _ hp);cases j with
  | zbx t τ=>
   unfold zbW;refine ih ?_;cases hd:Jgt (σ0.slots t) with
   | true=>exact h1
   | false=>
    have hb0:=hb _ List.mem_cons_self;simp only[zbB,hd,Bool.false_or] at hb0;split at hb0
    · rename_i s ver hs
      split at hb0
      · rename_i v τ' x hm
        simp only[Bool.and_eq_true] at hb0;have e1:ver=v:=Nat.eq_of_beq_eq_true hb0.1;have e2:=of_decide_eq_true hb0.2;subst e1 e2;obtain⟨b,off,u,k1,k2,k3,k4⟩:=h.vb hm;have hs0:=h.slots t;rw[hs] at hs0;obtain⟨b',off',g1,g2⟩:=hs0.2 τ' x hm;rw[k1] at g1;cases g1;rw[Jao,Nat.add_zero] at g2;refine h1.putVb (hs:=[]) (ys:=()) (by simp) (fun mem' _=>⟨b,off,u,by rw[JaC,g2],fun j v hj=>?_,k3,trivial⟩) trivial ⟨b,off,g2⟩;obtain⟨q1,q2,q3,q4⟩:=k2 j v hj;refine⟨?_,q2,q3,q4⟩;rw[Jbt l q1 q2,Ja3 hn (hl (s,Jaa t 0,0) (by simp[Jb3,JI.keeps,hs]))];simp
      · cases hb0
    · cases hb0
  | _=>exact ih h1
theorem Ji0 {σ0:S}:∀(J:List JI) (σ1:S) (t k:Nat),2≤k→k<16→(zbW σ0 J σ1).mem (Jaa t k)=σ1.mem (Jaa t k)
 | [],_,_,_,_,_=>rfl
 | j::r,σ1,t,k,h2,h16=>by
  have ih:=fun σ1=>Ji0 (σ0:=σ0) r σ1 t k h2 h16;cases j with
  | zbx t' τ=>
   unfold zbW;rw[ih];cases Jgt (σ0.slots t') with
   | true=>rfl
   | false=>
    have e':((σ1.put t' (.vpt (Jaa t' 0) 1 [])).set (Jaa t' 0) (.vb 1 τ .dead)).mem (Jaa t k)=if Jaa t k=Jaa t' 0 then .vb 1 τ .dead else σ1.mem (Jaa t k):=Jad _ _ _ _
    simp only[cond_false];rw[e',if_neg (by unfold Jaa;omega)]
  | _=>exact ih σ1
theorem JeY (h:St N Z own β σ a w) {σ0:S} {J:List JI} {x:JD J} (hx:JdE σ0 J σ=some x):∃own' β',St N Z own' β' (Jfb σ0 J x) a w:=by
 unfold JdE at hx;cases hc:Jb4 (Jay J σ)&&(Jcp (JbZ J σ) (Jay J σ)&&J.all (fun j=>Jf4 σ j&&(JiB J j&&zbB σ0 σ j))) with
 | false=>rw[hc] at hx;cases hx
 | true=>
  rw[hc] at hx;simp only[Bool.and_eq_true] at hc;obtain⟨hc1,hc2,hc3⟩:=hc;have hn:((Jb3 J σ a).map (·.1)).Nodup:=by rw[Jdz];exact JcF hc1
  refine⟨Jau Z own (Jb3 J σ a),Jas (JdA w a J) a,JjQ h hx (JcF hc1) J x hx (List.all_eq_true.1 hc3) (fun t k h2 h16=>(congrFun (Jba _ _) _).trans (Ji0 J _ t k h2 h16)) (Jbu J (fun t t0 hm=>Jnk h (Bool.and_eq_true_iff.1 (List.all_eq_true.1 hc3 _ hm)).1)
   (Wr.st h ?_ (JbF _) (Jlm h hn J (fun j hj=>(Bool.and_eq_true_iff.1 (Bool.and_eq_true_iff.1 (List.all_eq_true.1 hc3 j hj)).2).2) (fun _ h=>h) (Wr.items h hn J x hx (fun _ h=>h) (fun s hs=>by rw[Jdz];exact Jcq.1 hc2 s hs) (JjO hx (JcF hc1)) Wr.bare))))⟩
  intro b o h1 h2;unfold Jau;rw[if_pos ⟨h1,h2⟩]
end
end Go.Re
namespace Go.Re
set_option linter.unusedVariables false
set_option linter.unusedSimpArgs false
open Go.RowKit (Below)
section
variable {P:Program} {E:Env} {N:Nat} {Z:Base}
section
variable {a:Act} {w:World}
def Jbp {α β:Type} (R:α→β→Prop):List α→List β→Prop
 | [],[]=>True
 | x::r,y::s=>R x y∧Jbp R r s
 | _,_=>False
def Jgb (a:Act) (w:World) (P:Program):ResultVar→Value→Prop
 | .tmp t,u=>u=a.tmps.getD t undef
 | .cell x ty,u=>∃ad,a.tmps.getD x undef= .pointer (some ad)∧(loadVar ty ad).run P w= .ok u w
theorem Ji1 {f:ResultVar→Sem Value} (hf:∀r u,Jgb a w P r u→(f r).run P w= .ok u w):∀(rs:List ResultVar) (us:List Value),Jbp (Jgb a w P) rs us→(rs.mapM f).run P w= .ok us w
 | [],[],_=>rfl
 | r::rs,u::us,h=>by
  obtain⟨h1,h2⟩:=h;rw[List.mapM_cons,Sem.run_bind,hf r u h1,Result.andThen_ok,Sem.run_bind,Ji1 hf rs us h2,Result.andThen_ok];rfl
 | [],_::_,h=>h.elim
 | _::_,[],h=>h.elim
theorem Jem {fn:Func} {us:List Value} (h:Jbp (Jgb a w P) fn.results.toList us):(results fn a.tmps).run P w= .ok (Jdt us) w:=by
 unfold results;rw[Array.mapM_eq_mapM_toList];simp only[bind_map_left,Sem.run_bind];rw[Ji1 (f:=_) ?_ _ _ h]
 · simp only[Result.andThen_ok,Sem.run_pure]
   congr 1
   match us with
   | []=>rfl
   | [u]=>rfl
   | u::v::r=>rfl
 · intro r u hr
   cases r with
   | tmp t=>have hr:u=_:=hr;rw[hr];rfl
   | cell x ty=>
    obtain⟨ad,h1,h2⟩:=hr;simp only[h1,asAddr,Sem.run_bind,Sem.run_pure,Result.andThen_ok];exact h2
end
def Jc2 (N:Nat) (Z:Base) {R:Type} (Kn:S→Option R) (Ke:Nat→S→Option R) (Kr:S→Option R) (r:R):Exit→Act→World→Prop
 | .normal,a,w=>∃σ own β,St N Z own β σ a w∧Kn σ=some r
 | .exit i,a,w=>∃σ own β,St N Z own β σ a w∧Ke i σ=some r
 | .ret,a,w=>∃σ own β,St N Z own β σ a w∧Kr σ=some r
 | _,_,_=>False
theorem JjR {A R:Type} {x:Option A} {q:A⊕R} (h:x.map .inl=some q):∃y,x=some y∧q= .inl y:=by
 obtain⟨y,h1,h2⟩:=Option.map_eq_some_iff.1 h;exact⟨y,h1,h2.symm⟩
theorem Jfz {A R:Type} {x:Option R} {q:A⊕R} (h:x.map .inr=some q):∃y,x=some y∧q= .inr y:=by
 obtain⟨y,h1,h2⟩:=Option.map_eq_some_iff.1 h;exact⟨y,h1,h2.symm⟩
theorem JjS {A R:Type} {x:Option (A⊕R)} {k:A→Option R} {r:R} (h:jn x k=some r):∃q,x=some q∧(∀a,q= .inl a→k a=some r)∧(∀b,q= .inr b→b=r):=by
 unfold jn at h;split at h
 · exact⟨_,rfl,fun a e=>by cases e;exact h,fun b e=>by cases e⟩
 · exact⟨_,rfl,fun a e=>(by cases e),fun b e=>by cases e;cases h;rfl⟩
 · cases h
theorem Jdd {p:Nat→Prop} (h:∃n,p n):∃n,p n∧∀m,p m→n≤m:=by
 obtain⟨n,hn⟩:=h
 induction n using Nat.strongRecOn with
 | _ n ih=>
  by_cases h:∃m,m<n∧p m
  · obtain⟨m,h1,h2⟩:=h;exact ih m h1 h2
  · exact⟨n,hn,fun m hm=>Nat.le_of_not_lt fun hlt=>h ⟨m,hlt,hm⟩⟩
open Classical in
theorem JjT {x:Code} {A R:Type} {L:Nat→A→Option R} (hL0:∀j,L 0 j=none) {I:A→Act→World→Prop} {q:R} {Q:Exit→Act→World→Prop}
 (hr:∀m j a w,L (m+1) j=some q→I j a w→x.wp P (Exit.then (fun a' w'=>∃j',L m j'=some q∧I j' a' w') Q) a w):
 ∀{n j a w},L n j=some q→I j a w→(Code.loop x).wp P Q a w:=by
 intro n j a w h1 h2
 let J:Nat→Act→World→Prop:=fun n a w=>∃j,L n j=some q∧I j a w
 let μ:Act→World→Nat:=fun a w=>if h:∃n,J n a w then Classical.choose (Jdd h) else 0
 refine wp_loop (fun a w=>∃n,J n a w) μ ⟨n,j,h1,h2⟩ ?_;intro a w hI;have hs:=(Classical.choose_spec (Jdd hI)).1;have hμ:μ a w=Classical.choose (Jdd hI):=dif_pos hI
 generalize hm:Classical.choose (Jdd hI)=m at hs hμ
 obtain⟨j',h3,h4⟩:=hs;cases m with
 | zero=>rw[hL0] at h3;cases h3
 | succ m=>
  refine wp_mono (hr m j' a w h3 h4) fun e a' w' he=>?_;cases e with
  | normal=>
   have hI':∃n,J n a' w':=⟨m,he⟩;refine⟨hI',?_⟩;rw[hμ];have:μ a' w'=Classical.choose (Jdd hI'):=dif_pos hI';rw[this];exact Nat.lt_succ_of_le ((Classical.choose_spec (Jdd hI')).2 m he)
  | _=>exact he
theorem Jc2.noOut {R:Type} {Kn:S→Option R} {Ke:Nat→S→Option R} {Kr:S→Option R} {r:R}:JeW (Jc2 N Z Kn Ke Kr r):=fun _ _ h=>h
theorem Jev {k:Nat} {ops:Array Oper} (h:JaK N (JaA k ops).toList=true):∀(i:Nat) o cs b,ops[i]?=some o→o.op≠ .select cs b:=by
 intro i o cs b ho e
 have h1:(JaA k ops).toList[i]?=some (Ja7 k o):=by
  have:=Jec k ops i;rw[ho] at this;simpa using this
 exact Jhy h i _ h1 cs b (by show JdT k o.op=_;rw[e];rfl)
theorem JjU (k:Nat) (ops:Array Oper):(JaA k ops).size=ops.size:=by simp[JaA]
theorem JdZ {own:Own} {β:Jai} {σ:S} {a:Act} {w:World} (h:St N Z own β σ a w):∀{xs:List Operand} {vs:List V},Jg5 σ xs=some vs→Jbp (fun v u=>Jac own w β σ.mem v u) vs (xs.map a.eval)
 | [],vs,he=>by cases he;trivial
 | .tmp t::r,vs,he=>by
  obtain⟨l,h1,h2⟩:=Option.map_eq_some_iff.1 he;subst h2;exact⟨h.slots t,JdZ h h1⟩
 | .const v::r,vs,he=>by
  obtain⟨l,h1,h2⟩:=Option.map_eq_some_iff.1 he;subst h2;exact⟨Jgj v,JdZ h h1⟩
 | .func f::r,vs,he=>by
  obtain⟨l,h1,h2⟩:=Option.map_eq_some_iff.1 he;subst h2;exact⟨⟨[],rfl,rfl⟩,JdZ h h1⟩
 | .global _::_,_,he=>by cases he
theorem JgE {own:Own} {β:Jai} {mem:Nat→Entry} {w:World}:∀{x:V} {us:List V} {vs:List Value},JiC x=some us→Jac own w β mem x (.tuple vs.toArray)→Jbp (fun v u=>Jac own w β mem v u) us vs
 | .tnil,us,vs,he,h=>by
  cases he;have h:(Value.tuple vs.toArray)= .tuple #[]:=h;have:vs=[]:=by simpa using h
  rw[this];trivial
 | .tcons a r,us,vs,he,h=>by
  obtain⟨l,h1,h2⟩:=Option.map_eq_some_iff.1 he;subst h2;obtain⟨u,us',e,h3,h4⟩:=h;have:vs=u::us':=by simpa using e
  subst this;exact⟨h3,JgE h1 h4⟩
 | .dead,_,_,he,_=>by cases he
 | .val _ _,_,_,he,_=>by cases he
 | .nil,_,_,he,_=>by cases he
 | .ptr _ _ _,_,_,he,_=>by cases he
 | .ref _ _,_,_,he,_=>by cases he
 | .elp _ _ _ _,_,_,he,_=>by cases he
 | .rpt _ _,_,_,he,_=>by cases he
 | .nilq _ _,_,_,he,_=>by cases he
 | .win _ _ _,_,_,he,_=>by cases he
 | .pre _ _ _,_,_,he,_=>by cases he
 | .plist _,_,_,he,_=>by cases he
 | .pel _,_,_,he,_=>by cases he
 | .clo _ _,_,_,he,_=>by cases he
 | .zval _ _ _,_,_,he,_=>by cases he
theorem Jbp.append {α β:Type} {R:α→β→Prop}:∀{a c:List α} {b d:List β},Jbp R a b→Jbp R c d→Jbp R (a++c) (b++d)
 | [],_,[],_,_,h=>h
 | _::_,_,_::_,_,h1,h2=>⟨h1.1,Jbp.append h1.2 h2⟩
 | [],_,_::_,_,h,_=>h.elim
 | _::_,_,[],_,h,_=>h.elim
theorem Jbp.length {α β:Type} {R:α→β→Prop}:∀{a:List α} {b:List β},Jbp R a b→a.length=b.length
 | [],[],_=>rfl
 | _::_,_::_,h=>by simp[Jbp.length h.2]
 | [],_::_,h=>h.elim
 | _::_,[],h=>h.elim
theorem Jbp.get {α β:Type} {R:α→β→Prop}:∀{a:List α} {b:List β},Jbp R a b→∀(i:Nat) x y,a[i]?=some x→b[i]?=some y→R x y
 | [],[],_,i,x,y,h,_=>by simp at h
 | _::_,_::_,h,0,x,y,h1,h2=>by cases h1;cases h2;exact h.1
 | _::_,_::_,h,i+1,x,y,h1,h2=>Jbp.get h.2 i x y (by simpa using h1) (by simpa using h2)
 | [],_::_,h,_,_,_,_,_=>h.elim
 | _::_,[],h,_,_,_,_,_=>h.elim
theorem JfM {own:Own} {β:Jai} {σ:S} {a:Act} {w:World} {o:Oper} (h:St N Z own β σ a w) {f:Nat} {vs:List V} (hc:Jb0 σ o=some (f,vs))
 (hfn:∃fn,P.funcs[f]?=some fn∧fn.body.isNone=false∧(fn.name== "runtime.NumGoroutine")=false):
 ∃us:List Value,(execOp a.eval o).run P w= .ok (.enter f us.toArray) w∧Jbp (fun v u=>Jac own w β σ.mem v u) vs us:=by
 unfold Jb0 at hc;split at hc
 case h_2=>cases hc
 rename_i c ho;obtain⟨cal,as,ts⟩:=c;split at hc
 · rename_i g hcal
   have hcal:cal= .value (.func g):=hcal;subst hcal;obtain⟨l,h1,h2⟩:=Option.map_eq_some_iff.1 hc;cases h2;refine⟨as.toList.map a.eval,?_,JdZ h h1⟩;rw[Jd5 ho hfn]
   congr 2
   apply Array.ext';simp
 · rename_i t hcal
   have hcal:cal= .value (.tmp t):=hcal;subst hcal;split at hc
   case h_2=>cases hc
   rename_i g x hs;obtain⟨l,h1,h2⟩:=Option.bind_eq_some_iff.1 hc;obtain⟨us,h3,h4⟩:=Option.map_eq_some_iff.1 h2;cases h4;have hsl:=h.slots t;rw[hs] at hsl;obtain⟨vs',e1,e2⟩:=hsl;refine⟨as.toList.map a.eval++vs',?_,(JdZ h h1).append (JgE h3 e2)⟩;rw[Jiq ho (show a.eval (.tmp t)=_ from e1) hfn]
   congr 2
   apply Array.ext';simp
 · cases hc
theorem St.enter {own:Own} {β:Jai} {σ:S} {a:Act} {w:World} (h:St N Z own β σ a w) {vs:List V} {us:List Value} (hv:Jbp (fun v u=>Jac own w β σ.mem v u) vs us) {m:Nat} (hm:vs.length≤m):
 St (N+m) Z own β (Jes N vs σ) (JaI a.tmps {tmps:=us.toArray++Array.replicate (m-us.toArray.size) undef,defers:=[]}) w where
 frame:=h.frame
 old:=h.old
 size:=by
  have:=hv.length;show (a.tmps++(us.toArray++Array.replicate (m-us.toArray.size) undef)).size=N+m;simp[h.size];omega
 defers:=rfl
 slots t:=by
  show Jac own w β σ.mem (bif Nat.blt t N then σ.slots t else vs.getD (t-N) .dead) ((a.tmps++(us.toArray++Array.replicate (m-us.toArray.size) undef)).getD t undef);by_cases ht:t<N
  · have hb:Nat.blt t N=true:=by rw[Nat.blt_eq];exact ht
    have:(a.tmps++(us.toArray++Array.replicate (m-us.toArray.size) undef)).getD t undef=a.tmps.getD t undef:=by
     rw[Array.getD_eq_getD_getElem?,Array.getD_eq_getD_getElem?,Array.getElem?_append_left (by rw[h.size];exact ht)]
    rw[hb,cond_true,this];exact h.slots t
  · have hb:Nat.blt t N=false:=by
     cases hq:Nat.blt t N with
     | true=>rw[Nat.blt_eq] at hq;exact absurd hq ht
     | false=>rfl
    rw[hb,cond_false];cases hx:vs[t-N]? with
    | none=>rw[List.getD_eq_getElem?_getD,hx];trivial
    | some x=>
     have hlt:t-N<vs.length:=(List.getElem?_eq_some_iff.1 hx).1;have hlt':t-N<us.length:=by rw[←hv.length];exact hlt
     have hu:us[t-N]?=some us[t-N]:=List.getElem?_eq_getElem hlt';rw[List.getD_eq_getElem?_getD,hx,Option.getD_some]
     have:(a.tmps++(us.toArray++Array.replicate (m-us.toArray.size) undef)).getD t undef=us[t-N]:=by
      rw[Array.getD_eq_getD_getElem?,Array.getElem?_append_right (by rw[h.size];omega),h.size,Array.getElem?_append_left (by simpa using hlt')];simp[hu]
     rw[this];exact hv.get _ _ _ hx hu
 mems:=h.mems
 pins:=h.pins
 cells:=h.cells
 kept:=h.kept
section
variable {a:Act} {w:World}
theorem Jaj.base {k:Option (Own×World)} {own:Own} {β:Jai} {s:Nat} {e:Entry} (h:Jaj Z own w β s e):Jaj {Z with kb:=k} own w β s e:=by
 cases e with
 | own v τ xs m=>cases m<;>exact h
 | _=>exact h
theorem Jaj.unbase {k:Option (Own×World)} {own:Own} {β:Jai} {s:Nat} {e:Entry} (h:Jaj {Z with kb:=k} own w β s e):Jaj Z own w β s e:=by
 cases e with
 | own v τ xs m=>cases m<;>exact h
 | _=>exact h
theorem JbA.base {k:Option (Own×World)} {own:Own} {β:Jai} {mem:Nat→Entry} {s:Nat} {e:Entry} (h:JbA Z own w β mem s e):JbA {Z with kb:=k} own w β mem s e:=by cases e<;>exact h
theorem JbA.unbase {k:Option (Own×World)} {own:Own} {β:Jai} {mem:Nat→Entry} {s:Nat} {e:Entry} (h:JbA {Z with kb:=k} own w β mem s e):JbA Z own w β mem s e:=by cases e<;>exact h
theorem St.mark {own:Own} {β:Jai} {σ:S} (h:St N Z own β σ a w):St N {Z with kb:=some (own,w)} own β σ a w where
 frame:=h.frame
 old:=h.old
 size:=h.size
 defers:=h.defers
 slots:=h.slots
 mems s:=(h.mems s).base
 pins:=h.pins
 cells s:=(h.cells s).base
 kept q e:=by cases e;exact Keeps.refl _ _
theorem St.unmark {own1 own:Own} {β1 β:Jai} {σ1 σ:S} {a1:Act} {w1:World} {M:Nat} (h1:St N Z own1 β1 σ1 a1 w1) (h:St M {Z with kb:=some (own1,w1)} own β σ a w):St M Z own β σ a w∧Keeps own1 own w1 w:=
 ⟨{frame:=h.frame
   old:=h.old
   size:=h.size
   defers:=h.defers
   slots:=h.slots
   mems:=fun s=>(h.mems s).unbase
   pins:=h.pins
   cells:=fun s=>(h.cells s).unbase
   kept:=fun q e=>(h1.kept q e).trans (h.kept _ rfl)},h.kept _ rfl⟩
theorem Jac.keepV {own1 own:Own} {w1 w:World} {β1 β:Jai} {mem1 mem:Nat→Entry} (k:Keeps own1 own w1 w) {u y:V} {v:Value} (h1:Jac own1 w1 β1 mem1 u v) (h:Jac own w β mem y v):Jac own w β mem (keepV u y) v:=by
 unfold Re.keepV;split
 · split
   · exact Jab.keeps k h1
   · obtain⟨hv,b,o,cs,e1,e2,e3⟩:=h1
     exact⟨hv,b,o,cs,e1,fun j u e=>k _ _ _ (e2 j u e).1 (e2 j u e).2,e3.keeps k⟩
   · exact h1
   · trivial
 · exact h
def Jfm (p:Nat) (a:Act):Act:={a with tmps:=a.tmps++Array.replicate p undef}
theorem JhJ (p:Nat) (a:Act) (t:Nat):(Jfm p a).tmps.getD t undef=a.tmps.getD t undef:=by
 show (a.tmps++Array.replicate p undef).getD t undef=_;rw[Array.getD_eq_getD_getElem?,Array.getD_eq_getD_getElem?];by_cases h:t<a.tmps.size
 · rw[Array.getElem?_append_left h]
 · rw[Array.getElem?_append_right (by omega),Array.getElem?_eq_none (xs:=a.tmps) (by omega),Array.getElem?_replicate]
   split<;>rfl
theorem Ji2 (p:Nat) {a:Act} (hN:a.tmps.size=N):N≤(Jfm p a).tmps.size∧∀t,t<N→(Jfm p a).tmps.getD t undef=a.tmps.getD t undef:=
 ⟨by show N≤(a.tmps++Array.replicate p undef).size;simp;omega,fun t _=>JhJ p a t⟩
theorem St.pad {own:Own} {β:Jai} {σ:S} (p:Nat) (h:St N Z own β σ a w):St (N+p) Z own β σ (Jfm p a) w where
 frame:=h.frame
 old:=h.old
 size:=by show (a.tmps++Array.replicate p undef).size=N+p;simp[h.size]
 defers:=h.defers
 slots t:=by rw[JhJ];exact h.slots t
 mems:=h.mems
 pins:=h.pins
 cells:=h.cells
 kept:=h.kept
theorem St.leave {own1 own:Own} {β1 β:Jai} {σ1 σ:S} {a a':Act} {w1 w:World} {M:Nat} {pre:Array Value} (h1:St N Z own1 β1 σ1 a w1) (hpre:N≤pre.size∧∀t,t<N→pre.getD t undef=a.tmps.getD t undef) (hK:Keeps own1 own w1 w) (h:St M Z own β σ (JaI pre a') w):St N Z own β (JaM N σ1 σ) a w where
 frame:=h.frame
 old:=h.old
 size:=h1.size
 defers:=h1.defers
 slots t:=by
  show Jac own w β σ.mem (bif Nat.blt t N then keepV (σ1.slots t) (σ.slots t) else .dead) (a.tmps.getD t undef);by_cases ht:t<N
  · have hb:Nat.blt t N=true:=by rw[Nat.blt_eq];exact ht
    have h2:=h.slots t
    have:(JaI pre a').tmps.getD t undef=a.tmps.getD t undef:=by
     rw[←hpre.2 t ht];show (pre++a'.tmps).getD t undef=_;rw[Array.getD_eq_getD_getElem?,Array.getD_eq_getD_getElem?,Array.getElem?_append_left (by omega)]
    rw[this] at h2;rw[hb,cond_true];exact Jac.keepV hK (h1.slots t) h2
  · have hb:Nat.blt t N=false:=by
     cases hq:Nat.blt t N with
     | true=>rw[Nat.blt_eq] at hq;exact absurd hq ht
     | false=>rfl
    rw[hb,cond_false];trivial
 mems:=h.mems
 pins:=h.pins
 cells:=h.cells
 kept:=h.kept
theorem Jmt {Z1:Base} {own1 own:Own} {β1 β:Jai} {σ1 σ:S} {w1:World} (h1:St N Z1 own1 β1 σ1 a w1) (h:St N Z own β σ a w) (d t:Nat):Jac own w β σ.mem (Jml σ1 σ d t) (a.tmps.getD d undef):=by
 have hd1:=h1.slots d;have ht1:=h1.slots t;have ht:=h.slots t;have hd:=h.slots d;unfold Jml;split
 · split
   · rename_i s k s' k' e1 e2
     cases hc:Nat.beq s s'&&(Nat.beq k k'&&JiD k (σ1.mem s)) with
     | false=>trivial
     | true=>
      simp only[Bool.and_eq_true] at hc;obtain⟨c1,c2,c3⟩:=hc;have c1:=Nat.eq_of_beq_eq_true c1;have c2:=Nat.eq_of_beq_eq_true c2;subst c1;subst c2;rw[e1] at hd1;rw[e2] at ht1;unfold JiD at c3;split at c3
      · rename_i k2 τ xs m hm
        have c3:=Nat.eq_of_beq_eq_true c3;subst c3;rw[cond_true,show a.tmps.getD d undef=a.tmps.getD t undef from (hd1.2 _ _ _ hm).trans (ht1.2 _ _ _ hm).symm];exact ht
      · cases c3
   · rename_i s k s' k' e1 e2
     cases hc:Nat.beq s s'&&(Nat.beq k k'&&JkF k (σ1.mem s)) with
     | false=>trivial
     | true=>
      simp only[Bool.and_eq_true] at hc;obtain⟨c1,c2,c3⟩:=hc;have c1:=Nat.eq_of_beq_eq_true c1;have c2:=Nat.eq_of_beq_eq_true c2;subst c1;subst c2;rw[e1] at hd1;rw[e2] at ht1;unfold JkF at c3;split at c3
      · rename_i k2 τ x hm
        have c3:=Nat.eq_of_beq_eq_true c3;subst c3;obtain⟨b,o,g1,g2⟩:=hd1.2 _ _ hm;obtain⟨b',o',g3,g4⟩:=ht1.2 _ _ hm;rw[g1] at g3;cases g3;rw[cond_true,show a.tmps.getD d undef=a.tmps.getD t undef from g2.trans g4.symm];exact ht
      · cases c3
   · rename_i s k p s' k' e1 e2
     split
     · rename_i s3 k3 e3
       split
       · rename_i k1 τ x k2 τ' x' hm1 hm
         split
         · rename_i hc
           obtain⟨c1,c2,c3,c4,c5⟩:=hc;subst c1;subst c2;subst c3;subst c4;subst c5;rw[e1] at hd1;rw[e2] at ht1;rw[e3] at ht;obtain⟨b,o,g1,g2⟩:=hd1.2 _ _ hm1;obtain⟨b',o',g3,g4⟩:=ht1.2 _ _ hm1;rw[g1] at g3;cases g3;refine⟨ht.1,fun τ1 x1 hm2=>?_⟩;rw[hm] at hm2;cases hm2;obtain⟨b2,o2,g5,g6⟩:=ht.2 _ _ hm;rw[g4,Jao] at g6;refine⟨b2,o2,g5,?_⟩;simp only[Value.pointer.injEq,Option.some.injEq,Addr.mk.injEq,Nat.add_zero,and_true] at g6;rw[g2,g6.1,g6.2]
         · trivial
       · trivial
     · trivial
   · trivial
 · exact hd
theorem Ji3 {l:List Oper} {σ1:S}:∀(ix:List Nat) (σ:S),(Jcz l σ1 ix σ).mem=σ.mem
 | [],_=>rfl
 | i::r,σ=>by
  unfold Jcz;rw[Ji3 r];split<;>rfl
theorem St.ali {Z1:Base} {own1 own:Own} {β1 β:Jai} {σ1:S} {w1:World} {l:List Oper} (h1:St N Z1 own1 β1 σ1 a w1):∀(ix:List Nat) {σ:S},St N Z own β σ a w→St N Z own β (Jcz l σ1 ix σ) a w
 | [],_,h=>h
 | i::r,σ,h=>by
  unfold Jcz;refine St.ali h1 r ?_;split
  · exact h.reslot (Jmt h1 h _ _)
  · exact h
end
theorem Jed (hE:EnvOk P E) {own:Own} {β:Jai} {σ:S} {pre:Array Value} {a':Act} {w:World} {M:Nat} (hN:pre.size=N) (h:St M Z own β σ (JaI pre a') w):∀{fs:List ResultVar} {rs:List V},JaP E N σ fs=some rs →
 ∃us,Jbp (Jgb a' w P) fs us∧Jbp (fun v u=>Jac own w β σ.mem v u) rs us
 | [],rs,he=>by cases he;exact⟨[],trivial,trivial⟩
 | .tmp t::r,rs,he=>by
  obtain⟨l,h1,h2⟩:=Option.map_eq_some_iff.1 he;subst h2;obtain⟨us,h3,h4⟩:=Jed hE hN h h1;refine⟨a'.tmps.getD t undef::us,⟨rfl,h3⟩,⟨?_,h4⟩⟩;have:=h.slots (N+t)
  have e:(JaI pre a').tmps.getD (N+t) undef=a'.tmps.getD t undef:=by
   have:=Jdp pre a' (.tmp t);rw[hN] at this;have:(JaI pre a').tmps.getD (t+N) undef=a'.tmps.getD t undef:=this;rw[Nat.add_comm N t];exact this
  rw[e] at this;exact this
 | .cell t ty::r,rs,he=>by
  unfold JaP at he;split at he
  case h_2=>cases he
  rename_i τ hty;obtain⟨x,hx,he⟩:=Option.bind_eq_some_iff.1 he;obtain⟨l,h1,h2⟩:=Option.map_eq_some_iff.1 he;subst h2;obtain⟨us,h3,h4⟩:=Jed hE hN h h1
  have e:(JaI pre a').tmps.getD (N+t) undef=a'.tmps.getD t undef:=by
   have:=Jdp pre a' (.tmp t);rw[hN] at this;have:(JaI pre a').tmps.getD (t+N) undef=a'.tmps.getD t undef:=this;rw[Nat.add_comm N t];exact this
  unfold Jlg at hx;split at hx
  · rename_i s ver hs
    split at hx
    case h_2=>cases hx
    rename_i ver' τ' z hm;split at hx
    case isFalse=>cases hx
    rename_i hc;obtain⟨rfl,rfl⟩:=hc;cases hx;have hsl:=h.slots (N+t);rw[hs] at hsl;obtain⟨b',o',g1,g2⟩:=hsl.2 _ _ hm;rw[Jao,Nat.add_zero,e] at g2;obtain⟨b,o,u,e1,e2,e3,e4⟩:=h.vb hm;rw[g1] at e1;cases e1;have hld:=(hE.ty _ _ hty).loadL (w:=w) (b:=b') (off:=o') (cs:=u.cells.toList) e3.2.2.1 fun j v hj=>(e2 j v hj).2.2.1;rw[←e3.2.1] at hld;exact⟨u::us,⟨⟨_,g2,hld⟩,h3⟩,⟨e4,h4⟩⟩
  obtain⟨x,hy,hx2⟩:=Option.map_eq_some_iff.1 hx;subst hx2;clear hx;have hx:=hy;clear hy;unfold Jd9 at hx;split at hx
  case h_2=>cases hx
  rename_i s ver hs;split at hx
  case h_2=>cases hx
  rename_i ver' τ' z hm;cases hb:Nat.beq ver ver' with
  | false=>rw[hb] at hx;cases hx
  | true=>
   rw[hb] at hx;have hb1:=Nat.eq_of_beq_eq_true hb;subst hb1;obtain⟨eq,hx⟩:=cast?_some hx;subst eq;have hx:z=x:=hx;subst hx;have hsl:=h.slots (N+t);rw[hs] at hsl;obtain⟨b',o',g1,g2⟩:=hsl.2 τ' z hm;rw[Jao,Nat.add_zero] at g2;have hM:=h.mems s;rw[hm] at hM;obtain⟨hv,b,o,cs,e1,e2,e3⟩:=hM;rw[g1] at e1;cases e1
   have e:(JaI pre a').tmps.getD (N+t) undef=a'.tmps.getD t undef:=by
    have:=Jdp pre a' (.tmp t);rw[hN] at this;have:(JaI pre a').tmps.getD (t+N) undef=a'.tmps.getD t undef:=this;rw[Nat.add_comm N t];exact this
   rw[e] at g2;exact⟨mkV τ' cs::us,⟨⟨_,g2,(hE.ty _ _ hty).load e3 fun j v hj=>(e2 j v hj).2.2.1⟩,h3⟩,⟨⟨hv,cs,rfl,e3⟩,h4⟩⟩
theorem Ji4 {own:Own} {β:Jai} {mem:Nat→Entry} {w:World} {rs:List V} {us:List Value} (h:Jbp (fun v u=>Jac own w β mem v u) rs us):Jac own w β mem (Jby rs) (Jdt us):=by
 have many:∀(rs:List V) (us:List Value),Jbp (fun v u=>Jac own w β mem v u) rs us→Jac own w β mem (Jg6 rs) (.tuple us.toArray):=by
  intro rs
  induction rs with
  | nil=>intro us h;cases us with
   | nil=>rfl
   | cons _ _=>exact h.elim
  | cons x r ih=>intro us h;cases us with
   | nil=>exact h.elim
   | cons u us=>exact⟨u,us,rfl,h.1,ih us h.2⟩
 match rs,us,h with
 | [],[],_=>rfl
 | [v],[u],h=>exact h.1
 | v::v'::r,u::u'::us,h=>exact many _ _ h
 | [],_::_,h=>exact h.elim
 | _::_,[],h=>exact h.elim
 | [_],_::_::_,h=>exact h.2.elim
 | _::_::_,[_],h=>exact h.2.elim
theorem Ji5 {R:Type} (E:Env) (l:List Oper):∀(os:List Oper) (σ:S),evP E l os σ (fun _=>(none:Option R))=none
 | [],σ=>rfl
 | o::os,σ=>by
  unfold evP;rw[M.runK_eq];cases (JaQ E l o).run σ with
  | none=>rfl
  | some q=>exact Ji5 E l os _
theorem JkN {R:Type} (E:Env) (l:List Oper) (i k:Nat) (s:Option (List Nat×Seg)) (d:Bool) (σ:S):JeS E l i k s d σ (fun _=>(none:Option R))=none:=by
 cases s with
 | none=>
  cases d with
  | true=>rfl
  | false=>exact Ji5 E l _ σ
 | some q=>
  cases d with
  | false=>rfl
  | true=>
   show (bif _ then _ else none)=none;cases h:Nat.beq q.2.decs.length k&&(JdU l i ((l.drop i).take k) q.2.decs&&JeR l i k) with
   | false=>rfl
   | true=>
    rw[cond_true];cases h:evC E l q.2 ((l.drop i).take k) ⟨[],[]⟩ (freezeS q.1 σ) (fun _ _=>(none:Option R)) with
    | none=>rfl
    | some r=>
     obtain⟨_,_,_,e1,_⟩:=JbT q.2 _ _ _ (fun _ _=>(none:Option R)) r _ h (Ag.refl _ _);cases e1
theorem Jbq (hE:EnvOk P E):∀{R:Type} (an:An R) {N:Nat} {g:Tg} {σ:S} {Kn:S→Option R} {Ke:Nat→S→Option R} {Kr:S→Option R} {r:R} {own:Own} {β:Jai} {Z:Base},
 ob E an N g Kn Ke Kr→ev E an N g σ Kn Ke Kr=some r →
 (∀(pre:Array Value) (a:Act) (w:World) (c0:Code),g= .code (shC pre.size c0)→St N Z own β σ (JaI pre a) w→c0.wp P (Jfy pre (Jc2 N Z Kn Ke Kr r)) a w) ∧
 (∀(l:List Oper) (i:Nat) (d:Bool) (a:Act) (w:World),g= .ops l i d→i≤l.length→JaK N l=true→(d=true→Jbn 0 l=true)→St N Z own β σ a w→Jfh P l i d (Jc2 N Z Kn Ke Kr r) a w)
 | _,.leaf,N,g,σ,Kn,Ke,Kr,r,own,β,Z,hob,he=>by
  refine⟨fun pre a w c0 hg h=>?_,fun l i d a w hg _ _ _ h=>?_⟩
  · subst hg
    cases c0 with
    | skip=>exact wp_skip ⟨σ,own,β,h,he⟩
    | exit i=>exact wp_exit ⟨σ,own,β,h,he⟩
    | ret=>exact wp_ret ⟨σ,own,β,h,he⟩
    | _=>(have he:(none:Option _)=some r:=he);cases he
  · subst hg
    have he:(none:Option _)=some r:=he;cases he
 | _,.rg fz c,N,g,σ,Kn,Ke,Kr,r,own,β,Z,hob,he=>by
  refine⟨fun pre a w c0 hg h=>?_,fun l i d a w hg _ _ _ h=>?_⟩
  · subst hg
    cases c0 with
    | region id ops draw=>
     have he:evR E N (JaA pre.size ops).toList draw fz c σ Kn=some r:=he;obtain⟨hd,h2⟩:=Jne (Q:=Jc2 N Z Kn Ke Kr r) hE h he fun σ' a' w' own β hs hk=>⟨σ',own,β,hs,hk⟩;rw[JjU] at h2;cases draw with
     | true=>
      rw[if_pos rfl] at h2;exact wp_region_any hE.mixed (Jdl (Jev hd) Jc2.noOut _ _ h2)
     | false=>
      rw[if_neg (by decide)] at h2;exact wp_region (Jdk (Jev hd) Jc2.noOut _ h2)
    | _=>(have he:(none:Option _)=some r:=he);cases he
  · subst hg
    have he:(none:Option _)=some r:=he;cases he
 | _,.nx,N,g,σ,Kn,Ke,Kr,r,own,β,Z,hob,he=>by
  refine⟨fun pre a w c0 hg h=>?_,fun l i d a w hg _ _ _ h=>?_⟩
  · subst hg
    cases c0 with
    | region id ops draw=>
     have he:(bif JaK N (JaA pre.size ops).toList&&!draw then nxE E (JaA pre.size ops).toList (JaA pre.size ops).toList σ Kn else none)=some r:=he;obtain⟨hd,h1,h2⟩:=JnE (Q:=Jc2 N Z Kn Ke Kr r) hE h he fun σ' a' w' own β hs hk=>⟨σ',own,β,hs,hk⟩;subst h1;rw[JjU] at h2;exact wp_region (Jdk (Jev hd) Jc2.noOut _ h2)
    | _=>(have he:(none:Option _)=some r:=he);cases he
  · subst hg
    have he:(none:Option _)=some r:=he;cases he
 | _,.seq an1 an2,N,g,σ,Kn,Ke,Kr,r,own,β,Z,hob,he=>by
  refine⟨fun pre a w c0 hg h=>?_,fun l i d a w hg _ _ _ h=>?_⟩
  · subst hg
    cases c0 with
    | seq x y=>
     refine wp_seq (wp_mono ((Jbq hE an1 hob.1 he).1 pre a w x rfl h) fun e a' w' hp=>?_);cases e with
     | normal=>obtain⟨σ',own',β',h1,h2⟩:=hp;exact (Jbq hE an2 hob.2 h2).1 pre a' w' y rfl h1
     | _=>exact hp
    | _=>(have he:(none:Option _)=some r:=he);cases he
  · subst hg
    have he:(none:Option _)=some r:=he;cases he
 | _,.join J an1 an2,N,g,σ,Kn,Ke,Kr,r,own,β,Z,hob,he=>by
  refine⟨fun pre a w c0 hg h=>?_,fun l i d a w hg _ _ _ h=>?_⟩
  · subst hg
    cases c0 with
    | seq x y=>
     obtain⟨q,h1,h2,h3⟩:=JjS he;refine wp_seq (wp_mono ((Jbq hE an1 (hob.1 σ) h1).1 pre a w x rfl h) fun e a' w' hp=>?_);cases e with
     | normal=>
      obtain⟨σ',own',β',h4,h5⟩:=hp;obtain⟨j,h6,h7⟩:=JjR h5;obtain⟨own2,β2,h8⟩:=JeY h4 h6;exact (Jbq hE an2 hob.2 (h2 j h7)).1 pre a' w' y rfl h8
     | exit i=>
      obtain⟨σ',own',β',h4,h5⟩:=hp;obtain⟨j,h6,h7⟩:=Jfz h5;exact⟨σ',own',β',h4,by rw[h6,h3 j h7]⟩
     | ret=>
      obtain⟨σ',own',β',h4,h5⟩:=hp;obtain⟨j,h6,h7⟩:=Jfz h5;exact⟨σ',own',β',h4,by rw[h6,h3 j h7]⟩
     | _=>exact hp.elim
    | _=>(have he:(none:Option _)=some r:=he);cases he
  · subst hg
    have he:(none:Option _)=some r:=he;cases he
 | _,.cond an1 an2,N,g,σ,Kn,Ke,Kr,r,own,β,Z,hob,he=>by
  refine⟨fun pre a w c0 hg h=>?_,fun l i d a w hg _ _ _ h=>?_⟩
  · subst hg
    cases c0 with
    | cond c x y=>
     have hob:ob E an1 N (.code (shC pre.size x)) Kn Ke Kr∧ob E an2 N (.code (shC pre.size y)) Kn Ke Kr:=hob;cases c with
     | tmp t=>
      have he:(match σ.slots (t+pre.size) with
       | .val .bool q=>bif q then ev E an1 N (.code (shC pre.size x)) σ Kn Ke Kr else ev E an2 N (.code (shC pre.size y)) σ Kn Ke Kr
       | .nilq emp neg=>bif emp then both (ev E an1 N (.code (shC pre.size x)) σ Kn Ke Kr) (ev E an2 N (.code (shC pre.size y)) σ Kn Ke Kr) else (bif neg then ev E an1 N (.code (shC pre.size x)) σ Kn Ke Kr else ev E an2 N (.code (shC pre.size y)) σ Kn Ke Kr)
       | _=>none)=some r:=he
      have hev:∀v,(JaI pre a).tmps.getD (t+pre.size) undef=v→a.eval (.tmp t)=v:=fun v hv=>(Jdp pre a (.tmp t)).symm.trans hv;split at he
      · rename_i q hq
        have hsl:=h.slots (t+pre.size);rw[hq] at hsl;have hc:a.eval (.tmp t)= .bool q:=hev _ (Jab.bool.1 hsl);cases q with
        | true=>exact wp_cond_true hc ((Jbq hE an1 hob.1 he).1 pre a w x rfl h)
        | false=>exact wp_cond_false hc ((Jbq hE an2 hob.2 he).1 pre a w y rfl h)
      · rename_i emp neg hq
        have hsl:=h.slots (t+pre.size);rw[hq] at hsl;obtain⟨q,hc,hn⟩:=hsl;have hc:a.eval (.tmp t)= .bool q:=hev _ hc
        have hx:q=true→ev E an1 N (.code (shC pre.size x)) σ Kn Ke Kr=some r:=by
         intro e;cases emp with
         | true=>exact (Jfc he).1
         | false=>
          have:=hn rfl;rw[e] at this;subst this;exact he
        have hy:q=false→ev E an2 N (.code (shC pre.size y)) σ Kn Ke Kr=some r:=by
         intro e;cases emp with
         | true=>exact (Jfc he).2
         | false=>
          have:=hn rfl;rw[e] at this;subst this;exact he
        cases q with
        | true=>exact wp_cond_true hc ((Jbq hE an1 hob.1 (hx rfl)).1 pre a w x rfl h)
        | false=>exact wp_cond_false hc ((Jbq hE an2 hob.2 (hy rfl)).1 pre a w y rfl h)
      · cases he
     | const v=>
      cases v with
      | bool q=>
       have hc:a.eval (.const (.bool q))= .bool q:=rfl;cases q with
       | true=>exact wp_cond_true hc ((Jbq hE an1 hob.1 he).1 pre a w x rfl h)
       | false=>exact wp_cond_false hc ((Jbq hE an2 hob.2 he).1 pre a w y rfl h)
      | _=>(have he:(none:Option _)=some r:=he);cases he
     | _=>(have he:(none:Option _)=some r:=he);cases he
    | _=>(have he:(none:Option _)=some r:=he);cases he
  · subst hg
    have he:(none:Option _)=some r:=he;cases he
 | _,.block an,N,g,σ,Kn,Ke,Kr,r,own,β,Z,hob,he=>by
  refine⟨fun pre a w c0 hg h=>?_,fun l i d a w hg _ _ _ h=>?_⟩
  · subst hg
    cases c0 with
    | block id x=>
     refine wp_block (wp_mono ((Jbq hE an hob he).1 pre a w x rfl h) fun e a' w' hp=>?_);cases e with
     | exit i=>
      obtain⟨σ',own',β',h1,h2⟩:=hp;show if i=id then _ else _
      by_cases hi:i=id
      · subst hi
        rw[if_pos rfl];simp at h2;exact⟨σ',own',β',h1,h2⟩
      · rw[if_neg hi]
        have:Nat.beq i id=false:=by
         cases hh:Nat.beq i id with
         | true=>exact absurd (Nat.eq_of_beq_eq_true hh) hi
         | false=>rfl
        simp only[this,cond_false] at h2;exact⟨σ',own',β',h1,h2⟩
     | _=>exact hp
    | _=>(have he:(none:Option _)=some r:=he);cases he
  · subst hg
    have he:(none:Option _)=some r:=he;cases he
 | _,.loop Ji Jo L an,N,g,σ,Kn,Ke,Kr,r,own,β,Z,hob,he=>by
  refine⟨fun pre a w c0 hg h=>?_,fun l i d a w hg _ _ _ h=>?_⟩
  · subst hg
    cases c0 with
    | block id y=>
     cases y with
     | loop x=>
      obtain⟨hL0,hLs,hobs⟩:=hob;obtain⟨j,h1,h2⟩:=Option.bind_eq_some_iff.1 he;obtain⟨q,h3,h4,h5⟩:=JjS h2;obtain⟨own1,β1,h6⟩:=JeY h h1;refine wp_block (JjT (L:=L) (I:=fun j a w=>∃own β,St N Z own β (Jfb .bare Ji j) (JaI pre a) w) (q:=q) hL0 ?_ h3 ⟨own1,β1,h6⟩);rintro m j a w hl ⟨own,β,hs⟩;rw[hLs] at hl;refine wp_mono ((Jbq hE an (hobs m) hl).1 pre a w x rfl hs) fun e a' w' hp=>?_;cases e with
      | normal=>
       obtain⟨σ',own',β',g1,g2⟩:=hp;obtain⟨j',g3,g4⟩:=Option.bind_eq_some_iff.1 g2;obtain⟨own2,β2,g5⟩:=JeY g1 g3;exact⟨j',g4,own2,β2,g5⟩
      | exit i=>
       obtain⟨σ',own',β',g1,g2⟩:=hp;show if i=id then _ else _
       by_cases hi:i=id
       · subst hi
         rw[if_pos rfl];simp only[Nat.beq_refl,cond_true] at g2;obtain⟨jo,g3,g4⟩:=JjR g2;obtain⟨own2,β2,g5⟩:=JeY g1 g3;exact⟨_,own2,β2,g5,h4 jo g4⟩
       · rw[if_neg hi]
         have:Nat.beq i id=false:=by
          cases hh:Nat.beq i id with
          | true=>exact absurd (Nat.eq_of_beq_eq_true hh) hi
          | false=>rfl
         simp only[this,cond_false] at g2;obtain⟨y,g3,g4⟩:=Jfz g2;exact⟨σ',own',β',g1,by rw[g3,h5 y g4]⟩
      | ret=>
       obtain⟨σ',own',β',g1,g2⟩:=hp;obtain⟨y,g3,g4⟩:=Jfz g2;exact⟨σ',own',β',g1,by rw[g3,h5 y g4]⟩
      | _=>exact hp.elim
     | _=>(have he:(none:Option _)=some r:=he);cases he
    | _=>(have he:(none:Option _)=some r:=he);cases he
  · subst hg
    have he:(none:Option _)=some r:=he;cases he
 | _,.unroll n an,N,g,σ,Kn,Ke,Kr,r,own,β,Z,hob,he=>by
  refine⟨fun pre a w c0 hg h=>?_,fun l i d a w hg _ _ _ h=>?_⟩
  · subst hg
    cases c0 with
    | block id y=>
     cases y with
     | loop x=>
      refine wp_block (JjT (L:=fun n σ=>Jmk (fun K σ'=>ev E an N (.code (shC pre.size x)) σ' K (fun i σ''=>bif Nat.beq i id then Kn σ'' else Ke i σ'') Kr) n σ)
       (I:=fun σ a w=>∃own β,St N Z own β σ (JaI pre a) w) (q:=r) (fun _=>rfl) ?_ he ⟨own,β,h⟩)
      rintro m σ1 a w hl ⟨own,β,hs⟩;refine wp_mono ((Jbq hE an (hob _) hl).1 pre a w x rfl hs) fun e a' w' hp=>?_;cases e with
      | normal=>
       obtain⟨σ',own',β',g1,g2⟩:=hp;exact⟨σ',g2,own',β',g1⟩
      | exit i=>
       obtain⟨σ',own',β',g1,g2⟩:=hp;show if i=id then _ else _
       by_cases hi:i=id
       · subst hi
         rw[if_pos rfl];simp only[Nat.beq_refl,cond_true] at g2;exact⟨σ',own',β',g1,g2⟩
       · rw[if_neg hi]
         have:Nat.beq i id=false:=by
          cases hh:Nat.beq i id with
          | true=>exact absurd (Nat.eq_of_beq_eq_true hh) hi
          | false=>rfl
         simp only[this,cond_false] at g2;exact⟨σ',own',β',g1,g2⟩
      | ret=>exact hp
      | _=>exact hp.elim
     | _=>(have he:(none:Option _)=some r:=he);cases he
    | _=>(have he:(none:Option _)=some r:=he);cases he
  · subst hg
    have he:(none:Option _)=some r:=he;cases he
 | _,.reg b,N,g,σ,Kn,Ke,Kr,r,own,β,Z,hob,he=>by
  refine⟨fun pre a w c0 hg h=>?_,fun l i d a w hg _ _ _ h=>?_⟩
  · subst hg
    cases c0 with
    | region id ops draw=>
     have he:(bif JaK N (JaA pre.size ops).toList&&(!draw||Jbn 0 (JaA pre.size ops).toList) then ev E b N (.ops (JaA pre.size ops).toList 0 draw) σ Kn Ke Kr else none)=some r:=he;cases hc:JaK N (JaA pre.size ops).toList&&(!draw||Jbn 0 (JaA pre.size ops).toList) with
     | false=>rw[hc] at he;cases he
     | true=>
      rw[hc,cond_true] at he;simp only[Bool.and_eq_true,Bool.or_eq_true,Bool.not_eq_true'] at hc;obtain⟨hd,hb⟩:=hc;have hob:ob E b N (.ops (JaA pre.size ops).toList 0 draw) Kn Ke Kr:=hob;have ha:(JaA pre.size ops).toList.toArray=JaA pre.size ops:=by simp
      have hl:(JaA pre.size ops).toList.length=ops.size:=by simp[JaA]
      cases draw with
      | true=>
       have h2:=(Jbq hE b hob he).2 _ 0 true (JaI pre a) _ rfl (Nat.zero_le _) hd (fun _=>hb.resolve_left (by simp)) (h.draw (w.drawn+1)) _ _ _ (Jf7 _) (JhA _);rw[ha,hl] at h2;exact wp_region_any hE.mixed (Jdl (Jev hd) Jc2.noOut _ _ h2)
      | false=>
       have h2:wpOps P _ _ _ _ _:=(Jbq hE b hob he).2 _ 0 false (JaI pre a) w rfl (Nat.zero_le _) hd (fun e=>by cases e) h;rw[ha,Nat.sub_zero,hl] at h2;refine wp_region ?_;rw[List.range_eq_range'];exact Jdk (Jev hd) Jc2.noOut _ h2
    | _=>(have he:(none:Option _)=some r:=he);cases he
  · subst hg
    have he:(none:Option _)=some r:=he;cases he
 | _,.ofin sg,N,g,σ,Kn,Ke,Kr,r,own,β,Z,hob,he=>by
  refine⟨fun pre a w c0 hg h=>?_,fun l i d a w hg hi hd hb h=>?_⟩
  · subst hg
    have he:(none:Option _)=some r:=he;cases he
  · subst hg
    have he:JeS E l i (l.length-i) sg d σ Kn=some r:=he
    exact JiS hE hd hb (by omega) h he fun σ' a' w' own β hs hk _=>by
     rw[show i+(l.length-i)=l.length by omega];exact JiR ⟨σ',own,β,hs,hk⟩
 | R,.oin k f p sg an1 an2,N,g,σ,Kn,Ke,Kr,r,own,β,Z,hob,he=>by
  refine⟨fun pre a w c0 hg h=>?_,fun l i d a w hg hi hd hb h=>?_⟩
  · subst hg
    have he:(none:Option _)=some r:=he;cases he
  · subst hg
    have he:JeS E l i k sg d σ (fun σ1=>match l[i+k]?,E.bd f with
     | some o,some fn=>match fn.body,Jb0 σ1 o with
      | some c,some q=>bif Nat.beq f q.1&&(Nat.ble q.2.length fn.ntmps&&o.guard.isNone) then
       ev E an1 (N+p+fn.ntmps) (.code (shC (N+p) c)) (Jes (N+p) q.2 σ1)
        (fun σ3=>(JaP E (N+p) σ3 fn.results.toList).bind fun rs=>ev E an2 N (.ops l (i+k+1) d) ((JaM N σ1 σ3).putO o.dst (Jby rs)) Kn Ke Kr) (fun _ _=>none)
        (fun σ3=>(JaP E (N+p) σ3 fn.results.toList).bind fun rs=>ev E an2 N (.ops l (i+k+1) d) ((JaM N σ1 σ3).putO o.dst (Jby rs)) Kn Ke Kr)
       else none
      | _,_=>none
     | _,_=>none)=some r:=he
    cases ho:l[i+k]? with
    | none=>
     exfalso;rw[ho] at he;have he:JeS E l i k sg d σ (fun _=>(none:Option R))=some r:=he;rw[JkN] at he;cases he
    | some o=>
    have hik:i+k<l.length:=(List.getElem?_eq_some_iff.1 ho).1;refine JiS hE hd hb (by omega) h he ?_;intro σ1 a1 w1 own1 β1 h1 he1 hgt
    have he1:(match l[i+k]?,E.bd f with
     | some o,some fn=>match fn.body,Jb0 σ1 o with
      | some c,some q=>bif Nat.beq f q.1&&(Nat.ble q.2.length fn.ntmps&&o.guard.isNone) then
       ev E an1 (N+p+fn.ntmps) (.code (shC (N+p) c)) (Jes (N+p) q.2 σ1)
        (fun σ3=>(JaP E (N+p) σ3 fn.results.toList).bind fun rs=>ev E an2 N (.ops l (i+k+1) d) ((JaM N σ1 σ3).putO o.dst (Jby rs)) Kn Ke Kr) (fun _ _=>none)
        (fun σ3=>(JaP E (N+p) σ3 fn.results.toList).bind fun rs=>ev E an2 N (.ops l (i+k+1) d) ((JaM N σ1 σ3).putO o.dst (Jby rs)) Kn Ke Kr)
       else none
      | _,_=>none
     | _,_=>none)=some r:=he1
    have hob:(match l[i+k]?,E.bd f with
     | some o,some fn=>match fn.body with
      | some c=>
       (∀σ1,ob E an1 (N+p+fn.ntmps) (.code (shC (N+p) c))
        (fun σ3=>(JaP E (N+p) σ3 fn.results.toList).bind fun rs=>ev E an2 N (.ops l (i+k+1) d) ((JaM N σ1 σ3).putO o.dst (Jby rs)) Kn Ke Kr) (fun _ _=>none)
        (fun σ3=>(JaP E (N+p) σ3 fn.results.toList).bind fun rs=>ev E an2 N (.ops l (i+k+1) d) ((JaM N σ1 σ3).putO o.dst (Jby rs)) Kn Ke Kr)) ∧
       ob E an2 N (.ops l (i+k+1) d) Kn Ke Kr
      | none=>True
     | _,_=>True):=hob
    rw[ho] at he1 hob;cases hfb:E.bd f with
    | none=>rw[hfb] at he1;cases he1
    | some fn=>
    rw[hfb] at he1 hob
    dsimp only at he1 hob
    cases hbody:fn.body with
    | none=>rw[hbody] at he1;cases he1
    | some c=>
    simp only[hbody] at he1 hob;cases hcal:Jb0 σ1 o with
    | none=>rw[hcal] at he1;cases he1
    | some q=>
    rw[hcal] at he1;cases hcond:Nat.beq f q.1&&(Nat.ble q.2.length fn.ntmps&&o.guard.isNone) with
    | false=>simp only[hcond,cond_false] at he1;cases he1
    | true=>
    simp only[hcond,cond_true] at he1;simp only[Bool.and_eq_true,Option.isNone_iff_eq_none] at hcond;obtain⟨hf,hle,hgd⟩:=hcond;have hf:=Nat.eq_of_beq_eq_true hf;have hle:=Nat.le_of_ble_eq_true hle;obtain⟨f',vs⟩:=q;have hf:f=f':=hf;subst hf;have hbd:=hE.bd f fn hfb;obtain⟨us,hexec,hrep⟩:=JfM (P:=P) h1 hcal ⟨fn,hbd.1,hbd.2.1,hbd.2.2⟩;refine JnC ho hb (fun e=>(JgA (hgt e)).1) fun Kw hKw=>?_;unfold wpOp;have ho':l.toArray[i+k]?=some o:=by simpa using ho
    simp only[ho',Region.wanted,hgd,if_true]
    left
    unfold Oper.wp;rw[hexec,Oper.upon_enter];refine calls_of_wp hbd.1 hbody ?_;have hst:=(h1.mark.pad p).enter hrep hle;have hN:=(h1.pad p).size;refine wp_mono ((Jbq hE an1 (hob.1 σ1) he1).1 (Jfm p a1).tmps _ w1 c (by rw[hN]) hst) fun e a' w' hp=>?_
    have key:∀σ3 own3 β3,St (N+p+fn.ntmps) {Z with kb:=some (own1,w1)} own3 β3 σ3 (JaI (Jfm p a1).tmps a') w'→((JaP E (N+p) σ3 fn.results.toList).bind fun rs=>ev E an2 N (.ops l (i+k+1) d) ((JaM N σ1 σ3).putO o.dst (Jby rs)) Kn Ke Kr)=some r →
     a'.defers=[]∧∃v,(results fn a'.tmps).run P w'= .ok v w'∧Kw (a1.put o.dst v) w':=by
     intro σ3 own3 β3 g1 g2;obtain⟨rs,g3,g4⟩:=Option.bind_eq_some_iff.1 g2;obtain⟨us',k1,k2⟩:=Jed hE hN g1 g3;obtain⟨g1',gK⟩:=h1.unmark g1;refine⟨g1.defers,Jdt us',Jem k1,?_⟩;have hst2:=(h1.leave (Ji2 p h1.size) gK g1').putO (d:=o.dst) (Jb2 hd _ o ho) (Ji4 k2);exact hKw _ _ ((Jbq hE an2 hob.2 g4).2 l (i+k+1) d _ w' rfl (by omega) hd hb hst2)
    cases e with
    | normal=>obtain⟨σ3,own3,β3,g1,g2⟩:=hp;exact key σ3 own3 β3 g1 g2
    | ret=>obtain⟨σ3,own3,β3,g1,g2⟩:=hp;exact key σ3 own3 β3 g1 g2
    | exit i=>obtain⟨σ3,own3,β3,g1,g2⟩:=hp;cases g2
    | _=>exact hp.elim
 | R,.oalt k f p fz vs an1,N,g,σ,Kn,Ke,Kr,r,own,β,Z,hob,he=>by
  refine⟨fun pre a w c0 hg h=>?_,fun l i d a w hg hi hd hb h=>?_⟩
  rotate_left
  · subst hg
    have he:(none:Option _)=some r:=he;cases he
  subst hg;cases c0 with
  | region id ops draw=>
   cases draw with
   | false=>(have he:(none:Option _)=some r:=he);cases he
   | true=>
   obtain⟨l,hl⟩:∃l,l=(JaA pre.size ops).toList:=⟨_,rfl⟩
   have he:(bif JaK N l&&(Jbn 0 l&&(Jgu l&&(JiE l k (vs.map (·.1))&&vs.all fun v=>Jfw l k v.1 v.2.2.1))) then
    Jg9 (vs.map fun v=>JcA E l v.1 fz v.2.1 σ fun σ1=>match l[k]?,E.bd f with
    | some o,some fn=>match fn.body,Jb0 σ1 o with
     | some c,some q=>bif Nat.beq f q.1&&(Nat.ble q.2.length fn.ntmps&&o.guard.isNone) then
      ev E an1 (N+p+fn.ntmps) (.code (shC (N+p) c)) (Jes (N+p) q.2 σ1)
       (fun σ3=>(JaP E (N+p) σ3 fn.results.toList).bind fun rs=>JcA E l v.2.2.1 v.2.2.2.1 v.2.2.2.2 ((Jcz l σ1 v.1 (JaM N σ1 σ3)).putO o.dst (Jby rs)) Kn) (fun _ _=>none)
       (fun σ3=>(JaP E (N+p) σ3 fn.results.toList).bind fun rs=>JcA E l v.2.2.1 v.2.2.2.1 v.2.2.2.2 ((Jcz l σ1 v.1 (JaM N σ1 σ3)).putO o.dst (Jby rs)) Kn)
      else none
     | _,_=>none
    | _,_=>none) else none)=some r:=by rw[hl];exact he
   cases hc:JaK N l&&(Jbn 0 l&&(Jgu l&&(JiE l k (vs.map (·.1))&&vs.all fun v=>Jfw l k v.1 v.2.2.1))) with
   | false=>rw[hc] at he;cases he
   | true=>
   rw[hc,cond_true] at he;simp only[Bool.and_eq_true] at hc;obtain⟨hd,hb,hni,hcov,hpart⟩:=hc;have hlen:l.length=ops.size:=by rw[hl];simp[JaA]
   have hlo:l.toArray=JaA pre.size ops:=by rw[hl]
   suffices hw:wpAny P .any l.toArray (Jc2 N Z Kn Ke Kr r) l.length (Array.replicate l.length false) (JaI pre a) {w with drawn:=w.drawn+1} by
    rw[hlo,hlen] at hw;exact wp_region_any hE.mixed (Jdl (Jev (by rw[←hl];exact hd)) Jc2.noOut _ _ hw)
   exact JnF hE hd hb hni hcov hpart (h.draw (w.drawn+1)) he (fun v hv σ1 a1 w1 own1 β1 h1 he1 K3 hK3=>by
    cases hfb:E.bd f with
    | none=>rw[hfb] at he1;generalize l[k]?=lk at he1;cases lk<;>cases he1
    | some fn=>
    cases ho:l[k]? with
    | none=>rw[ho] at he1;cases he1
    | some o=>
    rw[hfb,ho] at he1
    dsimp only at he1
    cases hbody:fn.body with
    | none=>rw[hbody] at he1;cases he1
    | some c=>
    simp only[hbody] at he1;cases hcal:Jb0 σ1 o with
    | none=>rw[hcal] at he1;cases he1
    | some q=>
    rw[hcal] at he1;cases hcond:Nat.beq f q.1&&(Nat.ble q.2.length fn.ntmps&&o.guard.isNone) with
    | false=>simp only[hcond,cond_false] at he1;cases he1
    | true=>
    simp only[hcond,cond_true] at he1;simp only[Bool.and_eq_true,Option.isNone_iff_eq_none] at hcond;obtain⟨hf,hle,hgd⟩:=hcond;have hf:=Nat.eq_of_beq_eq_true hf;have hle:=Nat.le_of_ble_eq_true hle;obtain⟨f',vs'⟩:=q;have hf:f=f':=hf;subst hf
    have hob1:∀σ1,ob E an1 (N+p+fn.ntmps) (.code (shC (N+p) c))
     (fun σ3=>(JaP E (N+p) σ3 fn.results.toList).bind fun rs=>JcA E l v.2.2.1 v.2.2.2.1 v.2.2.2.2 ((Jcz l σ1 v.1 (JaM N σ1 σ3)).putO o.dst (Jby rs)) Kn) (fun _ _=>none)
     (fun σ3=>(JaP E (N+p) σ3 fn.results.toList).bind fun rs=>JcA E l v.2.2.1 v.2.2.2.1 v.2.2.2.2 ((Jcz l σ1 v.1 (JaM N σ1 σ3)).putO o.dst (Jby rs)) Kn):=by
     have hob:(match E.bd f with
      | some fn=>match l[k]?,fn.body with
       | some o,some c=>JiF (vs.map fun v=>∀σ1,ob E an1 (N+p+fn.ntmps) (.code (shC (N+p) c))
        (fun σ3=>(JaP E (N+p) σ3 fn.results.toList).bind fun rs=>JcA E l v.2.2.1 v.2.2.2.1 v.2.2.2.2 ((Jcz l σ1 v.1 (JaM N σ1 σ3)).putO o.dst (Jby rs)) Kn) (fun _ _=>none)
        (fun σ3=>(JaP E (N+p) σ3 fn.results.toList).bind fun rs=>JcA E l v.2.2.1 v.2.2.2.1 v.2.2.2.2 ((Jcz l σ1 v.1 (JaM N σ1 σ3)).putO o.dst (Jby rs)) Kn))
       | _,_=>True
      | none=>True):=by rw[hl];exact hob
     rw[hfb] at hob
     dsimp only at hob
     rw[ho,hbody] at hob;exact JiU hob _ (List.mem_map.2 ⟨v,hv,rfl⟩)
    have hbd:=hE.bd f fn hfb;obtain⟨us,hexec,hrep⟩:=JfM (P:=P) h1 hcal ⟨fn,hbd.1,hbd.2.1,hbd.2.2⟩;unfold wpOp;have ho':l.toArray[k]?=some o:=by simpa using ho
    simp only[ho',Region.wanted,hgd,if_true]
    left
    unfold Oper.wp;rw[hexec,Oper.upon_enter];refine calls_of_wp hbd.1 hbody ?_;have hst:=(h1.mark.pad p).enter hrep hle;have hN:=(h1.pad p).size;refine wp_mono ((Jbq hE an1 (hob1 σ1) he1).1 (Jfm p a1).tmps _ w1 c (by rw[hN]) hst) fun e a' w' hp=>?_
    have key:∀σ3 own3 β3,St (N+p+fn.ntmps) {Z with kb:=some (own1,w1)} own3 β3 σ3 (JaI (Jfm p a1).tmps a') w'→((JaP E (N+p) σ3 fn.results.toList).bind fun rs=>JcA E l v.2.2.1 v.2.2.2.1 v.2.2.2.2 ((Jcz l σ1 v.1 (JaM N σ1 σ3)).putO o.dst (Jby rs)) Kn)=some r →
     a'.defers=[]∧∃v,(results fn a'.tmps).run P w'= .ok v w'∧K3 (a1.put o.dst v) w':=by
     intro σ3 own3 β3 g1 g2;obtain⟨rs,g3,g4⟩:=Option.bind_eq_some_iff.1 g2;obtain⟨us',k1,k2⟩:=Jed hE hN g1 g3;obtain⟨g1',gK⟩:=h1.unmark g1;refine⟨g1.defers,Jdt us',Jem k1,?_⟩;have hst2:=(h1.ali (l:=l) v.1 (h1.leave (Ji2 p h1.size) gK g1')).putO (d:=o.dst) (Jb2 hd _ o ho) (by rw[Ji3];exact Ji4 k2);exact hK3 _ _ _ _ _ hst2 g4
    cases e with
    | normal=>obtain⟨σ3,own3,β3,g1,g2⟩:=hp;exact key σ3 own3 β3 g1 g2
    | ret=>obtain⟨σ3,own3,β3,g1,g2⟩:=hp;exact key σ3 own3 β3 g1 g2
    | exit i=>obtain⟨σ3,own3,β3,g1,g2⟩:=hp;cases g2
    | _=>exact hp.elim) (fun σ' a' w' own β hs hk=>⟨σ',own,β,hs,hk⟩)
  | _=>(have he:(none:Option _)=some r:=he);cases he
end
end Go.Re
namespace Go.Re
set_option linter.unusedVariables false
set_option linter.unusedSimpArgs false
set_option linter.unnecessarySimpa false
open Go.RowKit (Below)
def rvB (E:Env):List ResultVar→List RV→Bool
 | [],[]=>true
 | .tmp t::r,.tmp t' _::r'=>Nat.beq t t'&&rvB E r r'
 | .cell a ty::r,.cell a' τ::r'=>Nat.beq a a'&&(decide (E.ty ty=some τ)&&rvB E r r')
 | _,_=>false
section
variable {P:Program} {E:Env} {N:Nat} {Z:Base} {own:Own} {β:Jai} {σ:S} {a:Act} {w:World} {G:Nat→Nat→Value}
theorem Jnl {B:Nat} {e:Ty} {xs:List e.D} {m:Mode} {s:Nat} (hm:m= .full∨m= .tail) (h:Jaj Z own w β s (.own 0 e xs m))
 (hB:∀b o n cap,β s= .slice (some ⟨b,o,none⟩) n cap→(m= .full→0<cap*e.size→B≤b)∧(m= .tail→xs.length*e.size<cap*e.size→B≤b)):
 Jci own w B s (.sl e,m) (β s) xs:=by
 obtain⟨ad,cap,e1,e2,e3,e4,e5⟩:=Jaj.row (by rcases hm with rfl | rfl<;>rfl) h
 rcases hm with rfl | rfl
 · refine⟨ad,cap,e1,e2,e3,e4,e5.imp (fun h=>⟨h.2 rfl,h.1⟩) ?_⟩
   rintro⟨b,o,e6,e7,e8,e9⟩;refine⟨b,o,e6,fun hpos=>(hB b o _ cap (by rw[e1,e6])).1 rfl hpos,e7,e8,fun j h1 h2=>?_⟩;obtain⟨k1,k2,k3,k4⟩:=e9 j h1 h2;exact⟨k1,k3,k4⟩
 · refine⟨ad,cap,e1,e2,e3,e4,e5.imp (·.1) ?_⟩
   rintro⟨b,o,e6,e7,e9⟩;refine⟨b,o,e6,e7,fun hpos=>(hB b o _ cap (by rw[e1,e6])).2 rfl hpos,fun j h1 h2=>?_⟩;obtain⟨k1,k2,k3,k4⟩:=e9 j h1 h2;exact⟨k1,k3,k4⟩
def RV.keeps (r:RV) (σ:S) (a:Act) (q:Nat):List (Nat×Nat×Nat):=
 match r.ji with
 | .row t e m=>match σ.slots t with
  | .ref s _=>[(s,q,JdH m e (a.tmps.getD t undef))]
  | _=>[]
 | j=>j.keeps σ a
def Jew (rid:Nat→Nat):Nat→List RV→S→Act→List (Nat×Nat×Nat)
 | _,[],_,_=>[]
 | i,r::l,σ,a=>r.keeps σ a (rid i)++Jew rid (i+1) l σ a
theorem RV.keeps_keys (r:RV) (σ:S) (a:Act) (q:Nat):(r.keeps σ a q).map (·.1)=r.ji.kept σ:=by
 unfold RV.keeps;split
 · rename_i t e m hj
   rw[hj];simp only[JI.kept];cases σ.slots t<;>rfl
 · exact Go.Re.keeps_keys _ _ _
theorem JfN (rid:Nat→Nat):∀(l:List RV) (i:Nat) (σ:S) (a:Act),(Jew rid i l σ a).map (·.1)=Jay (l.map RV.ji) σ
 | [],_,_,_=>rfl
 | r::l,i,σ,a=>by simp[Jew,Jay,RV.keeps_keys,JfN rid l]
theorem Jnm {B q:Nat} {e:Ty} {m:Mode} {u:Value} (hm:m.isMp=false) (hu:u= .slice none 0 0):Jci own w B q (.sl e,m) u ([]:List e.D):=by
 subst hu;cases m with
 | full=>exact⟨none,0,rfl,Nat.le_refl _,by omega,Nat.zero_le _,.inl ⟨rfl,rfl⟩⟩
 | tail=>exact⟨none,0,rfl,Nat.le_refl _,by omega,Nat.zero_le _,.inl rfl⟩
 | view=>exact Jab.sl.2 ⟨none,0,rfl,Nat.le_refl _,by omega,Nat.zero_le _,.inl rfl⟩
 | mp=>cases hm
 | gb l=>exact Jab.sl.2 ⟨none,0,rfl,Nat.le_refl _,by omega,Nat.zero_le _,.inl rfl⟩
 | bg=>cases hm
 | it b=>cases hm
theorem Jci.of_rep {B q:Nat} {p:Ty×Mode} {u:Value} {x:p.1.D} (h:Jab own w p.1 u x) (hp:∀e,p=(.sl e,.full)∨p=(.sl e,.tail)∨p=(.sl e,.mp)→False):Jci own w B q p u x:=by
 obtain⟨τ,m⟩:=p;cases τ with
 | sl e=>cases m with
  | full=>exact (hp e (.inl rfl)).elim
  | tail=>exact (hp e (.inr (.inl rfl))).elim
  | view=>exact h
  | gb l=>exact h
  | bg=>exact h
  | it b=>exact h
  | mp=>exact (hp e (.inr (.inr rfl))).elim
 | bool=>cases m<;>exact h
 | str=>cases m<;>exact h
 | unit=>cases m<;>exact h
 | int k=>cases m<;>exact h
 | pair p q=>cases m<;>exact h
 | st b=>cases m<;>exact h
 | arr n e=>cases m<;>exact h
 | mp k v=>cases m<;>exact h
theorem Jln (hE:EnvOk P E) (h:St N Z own β σ a w) {B:Nat} {l:List (Nat×Nat×Nat)} (hn:(l.map (·.1)).Nodup) {r:RV} (hZ:∀s b o,s∈r.ji.kept σ→own b o=some s→Z.wr b o→B≤b) {x:r.pm.1.D} (hx:r.read σ=some x) {q:Nat}
 (hl:∀p∈r.keeps σ a q,p∈l) (hl':∀s∈r.ji.loose σ,s∉l.map (·.1)) {f:ResultVar} (hf:rvB E [f] [r]=true):
 ∃u,Jgb a w P f u∧Jci (Jau Z own l) w B q r.pm u x:=by
 cases r with
 | cell t τ=>
  cases f with
  | tmp _=>simp[rvB] at hf
  | cell y ty=>
   simp only[rvB,Bool.and_eq_true,decide_eq_true_eq] at hf;obtain⟨h1,h2,_⟩:=hf;have h1:=Nat.eq_of_beq_eq_true h1;subst h1;have hx:Jd9 τ (σ.slots y) σ=some x:=hx;unfold Jd9 at hx;split at hx
   · rename_i s ver hs
     split at hx
     · rename_i ver' τ' z hm
       cases hb:Nat.beq ver ver' with
       | false=>rw[hb] at hx;cases hx
       | true=>
        rw[hb] at hx;have hb1:=Nat.eq_of_beq_eq_true hb;subst hb1;obtain⟨eq,hx⟩:=cast?_some hx;subst eq;have hx:z=x:=hx;subst hx;have hsl:=h.slots y;rw[hs] at hsl;obtain⟨b',o',g1,g2⟩:=hsl.2 τ' z hm;rw[Jao,Nat.add_zero] at g2;have hM:=h.mems s;rw[hm] at hM;obtain⟨hv,b,o,cs,e1,e2,e3⟩:=hM;rw[g1] at e1;cases e1;refine⟨mkV τ' cs,⟨_,g2,(hE.ty _ _ h2).load e3 fun j v hj=>(e2 j v hj).2.2.1⟩,?_⟩;exact Jci.of_rep (p:=(τ',.view)) ⟨hv,cs,rfl,e3.keeps (JbF l)⟩ (fun e he=>by rcases he with he | he | he<;>cases he)
     · cases hx
   · cases hx
 | tmp t p=>
  cases f with
  | cell _ _=>simp[rvB] at hf
  | tmp y=>
   simp only[rvB,Bool.and_eq_true] at hf;have h1:=Nat.eq_of_beq_eq_true hf.1;subst h1;refine⟨_,rfl,?_⟩;have hx:JmJ p (σ.slots y) σ=some x:=hx
   have row:∀{e:Ty} {m:Mode} {x:List e.D},(m= .full∨m= .tail)→JbY e m (σ.slots y) σ=some x→(∀s ver,σ.slots y= .ref s ver→(s,q,JdH m e (a.tmps.getD y undef))∈l∧∀b o,own b o=some s→Z.wr b o→B≤b) →
    Jci (Jau Z own l) w B q (.sl e,m) (a.tmps.getD y undef) x:=by
    intro e m x hmm hx hl;unfold JbY at hx;split at hx
    · rename_i hs
      have hnm:m.isMp=false:=by rcases hmm with rfl | rfl<;>rfl
      rw[hnm] at hx;cases hx;have hsl:=h.slots y;rw[hs] at hsl;exact Jnm hnm hsl
    · rename_i s ver hs
      split at hx
      · rename_i ver' e' xs m' hm
        cases hb:Nat.beq ver ver'&&m'.le m with
        | false=>rw[hb] at hx;cases hx
        | true=>
         rw[hb] at hx;simp only[Bool.and_eq_true] at hb;have hb1:=Nat.eq_of_beq_eq_true hb.1;subst hb1;obtain⟨eq,hx⟩:=cast?_some hx;cases eq;have hx:xs=x:=hx;subst hx;refine Jnl (s:=q) (β:=fun _=>a.tmps.getD y undef) hmm (Jf8 h hs hm hb.2 (Ja3 hn (hl s ver hs).1) rfl) fun b o n cap hsl'=>?_;have hsl:=h.slots y;rw[hs] at hsl;have hv:a.tmps.getD y undef=β s:=hsl.2 _ xs m' hm;have hM:=h.mems s;rw[hm] at hM;have hnm:m'.isMp=false:=by rcases hmm with rfl | rfl<;>cases m'<;>first | rfl | exact absurd hb.2 (by simp[Mode.le])
         obtain⟨ad,cap',e1,e2,e3,e4,e5⟩:=Jaj.row hnm hM;have hsl':a.tmps.getD y undef= .slice (some ⟨b,o,none⟩) n cap:=hsl';rw[hv,e1] at hsl';cases hsl';rcases e5 with ⟨e6,e60⟩ | ⟨b',o',e6,e7,e8⟩
         · subst e6
           have hx0:xs.length=0:=by omega
           exact⟨fun _ hpos=>by simp at hpos,fun _ hpos=>by simp at hpos⟩
         · cases e6
           have hbb:=(hl s ver hs).2;cases m' with
           | full=>
            have h1:=Nat.mul_le_mul_right e.size e2;exact⟨fun _ hpos=>by obtain⟨g1,g2,_⟩:=e8.2 o (Nat.le_refl _) (by omega);exact hbb _ _ g1 g2,fun _ hpos=>by obtain⟨g1,g2,_⟩:=e8.2 o (Nat.le_refl _) (by omega);exact hbb _ _ g1 g2⟩
           | tail=>
            refine⟨fun hf=>?_,fun _ hpos=>?_⟩
            · rw[hf] at hb;exact absurd hb.2 (by simp[Mode.le])
            · obtain⟨g1,g2,_⟩:=e8 (o+xs.length*e.size) (Nat.le_refl _) (by omega);exact hbb _ _ g1 g2
           | view=>exact absurd hb.2 (by cases m<;>simp[Mode.le])
           | gb l=>exact absurd hb.2 (by cases m<;>simp[Mode.le])
           | bg=>cases hnm
           | it b=>cases hnm
           | mp=>cases hnm
      · cases hx
    · cases hx
   have mrow:∀{e:Ty} {x:List e.D},JbY e .mp (σ.slots y) σ=some x→(∀s ver,σ.slots y= .ref s ver→(s,q,JdH .mp e (a.tmps.getD y undef))∈l∧∀b o,own b o=some s→Z.wr b o→B≤b) →
    Jci (Jau Z own l) w B q (.sl e,.mp) (a.tmps.getD y undef) x:=by
    intro e x hx hl;unfold JbY at hx;split at hx
    · cases hx
    · rename_i s ver hs
      split at hx
      · rename_i ver' e' xs m' hm
        cases hb:Nat.beq ver ver'&&m'.le .mp with
        | false=>rw[hb] at hx;cases hx
        | true=>
         rw[hb] at hx;simp only[Bool.and_eq_true] at hb;have hb1:=Nat.eq_of_beq_eq_true hb.1;subst hb1;obtain⟨eq,hx⟩:=cast?_some hx;cases eq;have hx:xs=x:=hx;subst hx;obtain rfl:m'= .mp:=by cases m'<;>first | rfl | exact absurd hb.2 (by simp[Mode.le])
         have hsl:=h.slots y;rw[hs] at hsl;have hv:a.tmps.getD y undef=β s:=hsl.2 _ xs .mp hm
         have hl0:JdH .mp e (a.tmps.getD y undef)=0:=by
          have hM:=h.mems s;rw[hm] at hM;obtain⟨r,hr⟩:=Jbh.val (show Jbh _ _ _ _ _ _ _ from hM);rw[hv,hr];rfl
         exact JjM h (fun r h1 h2=>(hl s ver hs).2 r 0 h1 (.inl h2)) hm (Ja3 hn (hl s ver hs).1) hv hl0
      · cases hx
    · cases hx
   have val:RV.ji (.tmp y p)= .val y p.1→rdA p.1 (σ.slots y) σ=some x→(∀e,p=(.sl e,.full)∨p=(.sl e,.tail)∨p=(.sl e,.mp)→False)→Jci (Jau Z own l) w B q p (a.tmps.getD y undef) x:=by
    intro hj hx hp;rw[hj] at hl';exact Jci.of_rep (JiX h hx hl') hp
   obtain⟨τ,m⟩:=p;cases τ with
   | sl e=>cases m with
    | full=>exact row (.inl rfl) hx fun s ver hs=>⟨hl _ (by simp[RV.keeps,RV.ji,hs]),fun b o=>hZ s b o (by simp[RV.ji,JI.kept,hs])⟩
    | tail=>exact row (.inr rfl) hx fun s ver hs=>⟨hl _ (by simp[RV.keeps,RV.ji,hs]),fun b o=>hZ s b o (by simp[RV.ji,JI.kept,hs])⟩
    | mp=>exact mrow hx fun s ver hs=>⟨hl _ (by simp[RV.keeps,RV.ji,hs]),fun b o=>hZ s b o (by simp[RV.ji,JI.kept,hs])⟩
    | view=>exact val rfl hx (fun e he=>by rcases he with he | he | he<;>cases he)
    | gb l=>exact val rfl hx (fun e he=>by rcases he with he | he | he<;>cases he)
    | bg=>exact val rfl hx (fun e he=>by rcases he with he | he | he<;>cases he)
    | it b=>exact val rfl hx (fun e he=>by rcases he with he | he | he<;>cases he)
   | bool=>exact val (by cases m<;>rfl) hx (fun e he=>by rcases he with he | he | he<;>cases he)
   | str=>exact val (by cases m<;>rfl) hx (fun e he=>by rcases he with he | he | he<;>cases he)
   | unit=>exact val (by cases m<;>rfl) hx (fun e he=>by rcases he with he | he | he<;>cases he)
   | int k=>exact val (by cases m<;>rfl) hx (fun e he=>by rcases he with he | he | he<;>cases he)
   | pair p q=>exact val (by cases m<;>rfl) hx (fun e he=>by rcases he with he | he | he<;>cases he)
   | st b=>exact val (by cases m<;>rfl) hx (fun e he=>by rcases he with he | he | he<;>cases he)
   | arr n e=>exact val (by cases m<;>rfl) hx (fun e he=>by rcases he with he | he | he<;>cases he)
   | mp k v=>exact val (by cases m<;>rfl) hx (fun e he=>by rcases he with he | he | he<;>cases he)
theorem Jlo (hE:EnvOk P E) (h:St N Z own β σ a w) {B:Nat} {l:List (Nat×Nat×Nat)} (hn:(l.map (·.1)).Nodup) {rid:Nat→Nat}:
 ∀(rs:List RV) (_:∀s b o,s∈Jay (rs.map RV.ji) σ→own b o=some s→Z.wr b o→B≤b) (i:Nat) (fs:List ResultVar) (x:Ds ((rs.map RV.pm).map (·.1))),JkG rs σ=some x→rvB E fs rs=true→(∀p∈Jew rid i rs σ a,p∈l) →
  (∀s∈JbZ (rs.map RV.ji) σ,s∉l.map (·.1))→∃us,Jbp (Jgb a w P) fs us∧JbM (Jau Z own l) w B rid i (rs.map RV.pm) us x
 | [],_,i,fs,x,hx,hf,_,_=>by
  cases fs with
  | nil=>exact⟨[],trivial,rfl⟩
  | cons f fs=>cases f<;>simp[rvB] at hf
 | [r],hZ,i,fs,x,hx,hf,hl,hl'=>by
  match fs,hf with
  | [],hf=>cases r<;>simp[rvB] at hf
  | f::g::fs,hf=>cases f<;>cases r<;>cases g<;>simp[rvB] at hf
  | [f],hf=>
   obtain⟨u,h1,h2⟩:=Jln hE h hn (r:=r) (fun s b o hs=>hZ s b o (by simp[Jay,hs])) (x:=x) hx (q:=rid i) (fun p hp=>hl p (by simp[Jew,hp])) (fun s hs=>hl' s (by simp[JbZ,hs])) hf;exact⟨[u],⟨h1,trivial⟩,⟨u,rfl,h2⟩⟩
 | r::r'::rs,hZ,i,fs,x,hx,hf,hl,hl'=>by
  obtain⟨x1,h1,h2⟩:=Option.bind_eq_some_iff.1 hx;obtain⟨x2,h3,h4⟩:=Option.bind_eq_some_iff.1 h2;cases h4
  match fs,hf with
  | [],hf=>cases r<;>simp[rvB] at hf
  | f::fs,hf=>
   have hf':rvB E [f] [r]=true∧rvB E fs (r'::rs)=true:=by
    cases f<;>cases r<;>simp only[rvB,Bool.and_eq_true,Bool.false_eq_true,and_true] at hf ⊢
    · exact hf
    · exact⟨⟨hf.1,hf.2.1⟩,hf.2.2⟩
   obtain⟨u,g1,g2⟩:=Jln hE h hn (r:=r) (fun s b o hs=>hZ s b o (List.mem_append_left _ hs)) (x:=x1) h1 (q:=rid i) (fun p hp=>hl p (List.mem_append_left _ hp)) (fun s hs=>hl' s (List.mem_append_left _ hs)) hf'.1;obtain⟨us,k1,k2⟩:=Jlo hE h hn (r'::rs) (fun s b o hs=>hZ s b o (List.mem_append_right _ hs)) (i+1) fs x2 h3 hf'.2 (fun p hp=>hl p (List.mem_append_right _ hp)) (fun s hs=>hl' s (List.mem_append_right _ hs));exact⟨u::us,⟨g1,k1⟩,⟨u,us,rfl,g2,k2⟩⟩
def JeZ (n:Nat) (regs:Nat→Nat×Nat×Nat) (b o:Nat):Prop:=∃i,i<n∧JaF (regs i) b o
open Classical in
noncomputable def JcI (n:Nat) (regs:Nat→Nat×Nat×Nat) (own0:Own):Own:=fun b o=>if h:JeZ n regs b o then some (Jaa (Classical.choose h) 0) else own0 b o
theorem IoR.cell {own:Own} {w:World} {id:Nat} {reg:Nat×Nat×Nat} {p:Par} {v:Value} {y:p.ty.D} (h:IoR own w id reg p v y) {b o:Nat} (hr:JaF reg b o):
 own b o=some id∧∃u,w.cell? ⟨b,o,none⟩=some u:=by
 obtain⟨r1,r2,r3⟩:=hr;cases p with
 | val τ=>have:=h.2;omega
 | nils e=>have:=h.2;omega
 | pv q=>have:=h.2;omega
 | box τ=>
  obtain⟨_,b',o',cs,_,e2,e3,e4⟩:=h;rw[e2] at r1 r2 r3;simp only at r1 r2 r3;subst r1;have hl:=e3.length;obtain⟨g1,g2,_⟩:=e4 (o-o') cs[o-o'] (List.getElem?_eq_getElem (by omega));rw[show o'+(o-o')=o by omega] at g1 g2;exact⟨g1,_,g2⟩
 | row e=>
  obtain⟨ad,cap,_,_,_,_,⟨_,_,e5⟩ | ⟨b',o',_,e6,_,_,e7⟩⟩:=h
  · omega
  · rw[e6] at r1 r2 r3
    simp only at r1 r2 r3;subst r1;obtain⟨g1,g2,_⟩:=e7 o r2 r3;exact⟨g1,g2⟩
 | take e=>
  obtain⟨ad,cap,_,_,_,_,⟨_,_,e5⟩ | ⟨b',o',_,e6,_,_,e7⟩⟩:=h
  · omega
  · rw[e6] at r1 r2 r3
    simp only at r1 r2 r3;subst r1;obtain⟨g1,g2,_⟩:=e7 o r2 r3;exact⟨g1,g2⟩
theorem JbD.get {own:Own} {w:World} {ids:Nat→Nat} {regs:Nat→Nat×Nat×Nat}:∀{ps:List Par} {i:Nat} {vs:List Value} {x:Ds (ps.map Par.ty)},JbD own w ids regs i ps vs x →
 vs.length=ps.length∧∀k p,ps[k]?=some p→∃v y,vs[k]?=some v∧IoR own w (ids (i+k)) (regs (i+k)) p v y
 | [],_,vs,_,h=>⟨by have h:vs=[]:=h;rw[h];rfl,fun k p h=>by simp at h⟩
 | [p],i,vs,x,⟨v,h1,h2⟩=>by
  subst h1;refine⟨rfl,fun k q hq=>?_⟩;cases k with
  | zero=>simp at hq;subst hq;exact⟨v,x,rfl,h2⟩
  | succ k=>simp at hq
 | p::q::r,i,vs,x,⟨v,us,h1,h2,h3⟩=>by
  subst h1;obtain⟨g1,g2⟩:=JbD.get h3;refine⟨by simp[g1],fun k q' hq=>?_⟩;cases k with
  | zero=>simp at hq;subst hq;exact⟨v,x.1,rfl,h2⟩
  | succ k=>
   obtain⟨v',y,k1,k2⟩:=g2 k q' (by simpa using hq);refine⟨v',y,by simpa using k1,?_⟩;rw[show i+(k+1)=i+1+k by omega];exact k2
theorem Wr.ent1 {own0 own1:Own} {ids:Nat→Nat} {regs:Nat→Nat×Nat×Nat} (hK:Keeps own0 own1 w w) (hP:∀s v,Z.pin s=some v→Jas G a s=v) {p:Par} {i:Nat} {v:Value} {y:p.ty.D} {σ:S}
 (hR:∀b o,JaF (regs i) b o→own1 b o=some (Jaa i 0)∧Z.wr b o) (h:IoR own0 w (ids i) (regs i) p v y) (hv:a.tmps.getD i undef=v) (h0:Wr G Z own1 w a σ):Wr G Z own1 w a (JdW.ent i p y σ):=by
 cases p with
 | val τ=>exact h0.put (by rw[hv];exact h.1.keeps hK)
 | nils e=>exact h0.putNil (by rw[hv];exact h.1)
 | pv q=>exact h0.putV fun β mem=>by rw[hv];exact Jac.go hK (fun s=>Evo.same _ rfl) (h.1 β mem)
 | box τ=>
  obtain⟨g0,b,o,cs,g1,g2,g3,g4⟩:=h;have hl:=g3.length;refine h0.putMem (en:=.box 0 τ y) ⟨g0,b,o,cs,by rw[JaC,hv];exact g1,fun j u hj=>?_,g3.keeps hK⟩ (.inr ⟨0,rfl,⟨_,_,rfl⟩,b,o,by rw[hv];exact g1⟩) (fun v' hp _=>hP _ _ hp);have hj':j<cs.length:=(List.getElem?_eq_some_iff.1 hj).1;obtain⟨k1,k2,k3⟩:=g4 j u hj;obtain⟨k4,k5⟩:=hR b (o+j) (by rw[g2];exact⟨rfl,by simp,by simp;omega⟩);exact⟨k4,k5,k2,k3⟩
 | row e=>
  obtain⟨ad,cap,g1,g2,g3,g4,g5⟩:=h;refine h0.putMem (en:=.own 0 e y .full) ⟨ad,cap,by rw[JaC,hv];exact g1,g2,g3,g4,?_⟩ (.inl ⟨0,rfl,_,_,_,rfl⟩) (fun v' hp _=>hP _ _ hp);rcases g5 with ⟨e1,e2,_⟩ | ⟨b,o,e1,e2,e3,e4,e5⟩
  · exact .inl ⟨e2,fun _=>e1⟩
  · refine .inr ⟨b,o,e1,fun k hk=>?_,e4,fun j h1 h2=>?_⟩
    · obtain⟨es,k1,k2,k3⟩:=e3 k hk
      refine⟨es,k1,fun j u hj=>⟨?_,(k2 j u hj).2⟩,k3.keeps hK⟩;have hj':j<es.length:=(List.getElem?_eq_some_iff.1 hj).1;have i1:=Nat.inside (sz:=e.size) hk (show j<e.size by omega);have i2:=Nat.mul_le_mul_right e.size g2;exact (hR b (o+k*e.size+j) (by rw[e2];exact⟨rfl,by simp;omega,by simp;omega⟩)).1
    · obtain⟨k1,k2,k3⟩:=e5 j h1 h2
      obtain⟨k4,k5⟩:=hR b j (by rw[e2];exact⟨rfl,h1,h2⟩);exact⟨k4,k5,k2,k3⟩
 | take e=>
  obtain⟨ad,cap,g1,g2,g3,g4,g5⟩:=h;refine h0.putMem (en:=.own 0 e y .full) ⟨ad,cap,by rw[JaC,hv];exact g1,g2,g3,g4,?_⟩ (.inl ⟨0,rfl,_,_,_,rfl⟩) (fun v' hp _=>hP _ _ hp);rcases g5 with ⟨e1,e2,_⟩ | ⟨b,o,e1,e2,e3,e4,e5⟩
  · exact .inl ⟨e2,fun _=>e1⟩
  · refine .inr ⟨b,o,e1,fun k hk=>?_,e4,fun j h1 h2=>?_⟩
    · obtain⟨es,k1,k2,k3⟩:=e3 k hk
      refine⟨es,k1,fun j u hj=>⟨?_,(k2 j u hj).2⟩,k3.keeps hK⟩;have hj':j<es.length:=(List.getElem?_eq_some_iff.1 hj).1;have i1:=Nat.inside (sz:=e.size) hk (show j<e.size by omega);have i2:=Nat.mul_le_mul_right e.size g2;exact (hR b (o+k*e.size+j) (by rw[e2];exact⟨rfl,by simp;omega,by simp;omega⟩)).1
    · obtain⟨k1,k2,k3⟩:=e5 j h1 h2
      obtain⟨k4,k5⟩:=hR b j (by rw[e2];exact⟨rfl,h1,h2⟩);exact⟨k4,k5,k2,k3⟩
theorem Wr.ent {own0 own1:Own} {ids:Nat→Nat} {regs:Nat→Nat×Nat×Nat} (hK:Keeps own0 own1 w w) (hP:∀s v,Z.pin s=some v→Jas G a s=v):∀(ps:List Par) (i:Nat) (vs:List Value) (x:Ds (ps.map Par.ty)) (σ:S),
 (∀k,k<ps.length→∀b o,JaF (regs (i+k)) b o→own1 b o=some (Jaa (i+k) 0)∧Z.wr b o)→JbD own0 w ids regs i ps vs x→(∀k v,vs[k]?=some v→a.tmps.getD (i+k) undef=v) →
 Wr G Z own1 w a σ→Wr G Z own1 w a (JdW i ps x σ)
 | [],_,vs,_,_,_,_,_,h0=>h0
 | [p],i,vs,x,σ,hR,⟨v,h1,h2⟩,ht,h0=>by
  subst h1;exact Wr.ent1 hK hP (fun b o h=>hR 0 (by simp) b o h) h2 (ht 0 v rfl) h0
 | p::q::r,i,vs,x,σ,hR,⟨v,us,h1,h2,h3⟩,ht,h0=>by
  subst h1;refine Wr.ent hK hP (q::r) (i+1) us x.2 _ (fun k hk b o h=>?_) h3 (fun k u hk=>?_) (Wr.ent1 hK hP (fun b o h=>hR 0 (by simp) b o h) h2 (ht 0 v rfl) h0)
  · have:=hR (k+1) (by simp at hk ⊢;omega) b o (by rw[show i+(k+1)=i+1+k by omega];exact h)
    rw[show i+(k+1)=i+1+k by omega] at this;exact this
  · have:=ht (k+1) u (by simpa using hk)
    rw[show i+(k+1)=i+1+k by omega] at this;exact this
theorem JjV:∀(xs ys:List Ty) (x:Ds xs) (y:Ds ys),dsL xs ys (Jgv xs ys x y)=x
 | [],_,_,_=>rfl
 | [_],[],_,_=>rfl
 | [_],_::_,_,_=>rfl
 | _::b::r,ys,x,y=>by
  exact Prod.ext rfl (JjV (b::r) ys x.2 y)
theorem JjW:∀(xs ys:List Ty) (x:Ds xs) (y:Ds ys),dsR xs ys (Jgv xs ys x y)=y
 | [],_,_,_=>rfl
 | [_],[],_,_=>rfl
 | [_],_::_,_,_=>rfl
 | _::b::r,ys,x,y=>JjW (b::r) ys x.2 y
theorem JnG (a:Ty):∀(r:List Ty) (x:a.D) (y:Ds r),dsH a r (JbQ.dsC a r x y)=x∧dsT a r (JbQ.dsC a r x y)=y
 | [],_,_=>⟨rfl,rfl⟩
 | _::_,_,_=>⟨rfl,rfl⟩
theorem Jd0 {own0 ownF:Own} {w0:World} {ids:Nat→Nat} {regs:Nat→Nat×Nat×Nat} (h:St N Z own β σ a w) (hK:Keeps own ownF w w):
 ∀(ps:List Par) (i:Nat) (vs:List Value) (z:Ds (ioTys ps)),JbQ i ps σ=some z →
  (∀k p,ps[k]?=some p→∃v y,vs[k]?=some v∧IoR own0 w0 (ids (i+k)) (regs (i+k)) p v y)→(∀k v,vs[k]?=some v→Z.pin (Jaa (i+k) 0)=some v) →
  (∀k,k<ps.length→(∀e,ps[k]?≠some (.take e))→∀b o,JaF (regs (i+k)) b o→ownF b o=some (ids (i+k)))→JaE ownF w ids regs i ps vs z
 | [],_,_,_,_,_,_,_=>trivial
 | .val τ::r,i,vs,z,hz,hg,hp,hF=>by
  refine Jd0 (own0:=own0) (w0:=w0) (ids:=ids) (regs:=regs) h hK r (i+1) vs.tail z hz (fun k p hk=>?_) (fun k v hk=>?_) (fun k hk hnt=>?_)
  · have:=hg (k+1) p (by simpa using hk)
    rw[show i+(k+1)=i+1+k by omega] at this;obtain⟨v,y,h1,h2⟩:=this;exact⟨v,y,by cases vs<;>simpa using h1,h2⟩
  · have:=hp (k+1) v (by cases vs<;>simpa using hk)
    rw[show i+(k+1)=i+1+k by omega] at this;exact this
  · have:=hF (k+1) (by simp;omega) (fun e he=>hnt e (by simpa using he))
    rw[show i+(k+1)=i+1+k by omega] at this;exact this
 | .nils e::r,i,vs,z,hz,hg,hp,hF=>by
  refine Jd0 (own0:=own0) (w0:=w0) (ids:=ids) (regs:=regs) h hK r (i+1) vs.tail z hz (fun k p hk=>?_) (fun k v hk=>?_) (fun k hk hnt=>?_)
  · have:=hg (k+1) p (by simpa using hk)
    rw[show i+(k+1)=i+1+k by omega] at this;obtain⟨v,y,h1,h2⟩:=this;exact⟨v,y,by cases vs<;>simpa using h1,h2⟩
  · have:=hp (k+1) v (by cases vs<;>simpa using hk)
    rw[show i+(k+1)=i+1+k by omega] at this;exact this
  · have:=hF (k+1) (by simp;omega) (fun e he=>hnt e (by simpa using he))
    rw[show i+(k+1)=i+1+k by omega] at this;exact this
 | .pv q::r,i,vs,z,hz,hg,hp,hF=>by
  refine Jd0 (own0:=own0) (w0:=w0) (ids:=ids) (regs:=regs) h hK r (i+1) vs.tail z hz (fun k p hk=>?_) (fun k v hk=>?_) (fun k hk hnt=>?_)
  · have:=hg (k+1) p (by simpa using hk)
    rw[show i+(k+1)=i+1+k by omega] at this;obtain⟨v,y,h1,h2⟩:=this;exact⟨v,y,by cases vs<;>simpa using h1,h2⟩
  · have:=hp (k+1) v (by cases vs<;>simpa using hk)
    rw[show i+(k+1)=i+1+k by omega] at this;exact this
  · have:=hF (k+1) (by simp;omega) (fun e he=>hnt e (by simpa using he))
    rw[show i+(k+1)=i+1+k by omega] at this;exact this
 | .take q::r,i,vs,z,hz,hg,hp,hF=>by
  refine Jd0 (own0:=own0) (w0:=w0) (ids:=ids) (regs:=regs) h hK r (i+1) vs.tail z hz (fun k p hk=>?_) (fun k v hk=>?_) (fun k hk hnt=>?_)
  · have:=hg (k+1) p (by simpa using hk)
    rw[show i+(k+1)=i+1+k by omega] at this;obtain⟨v,y,h1,h2⟩:=this;exact⟨v,y,by cases vs<;>simpa using h1,h2⟩
  · have:=hp (k+1) v (by cases vs<;>simpa using hk)
    rw[show i+(k+1)=i+1+k by omega] at this;exact this
  · have:=hF (k+1) (by simp;omega) (fun e he=>hnt e (by simpa using he))
    rw[show i+(k+1)=i+1+k by omega] at this;exact this
 | .box τ::r,i,vs,z,hz,hg,hp,hF=>by
  have tail:=fun z (hz:JbQ (i+1) r σ=some z)=>Jd0 h hK r (i+1) vs.tail z hz (fun k p hk=>by
   have:=hg (k+1) p (by simpa using hk);rw[show i+(k+1)=i+1+k by omega] at this;obtain⟨v,y,h1,h2⟩:=this;exact⟨v,y,by cases vs<;>simpa using h1,h2⟩) (fun k v hk=>by
   have:=hp (k+1) v (by cases vs<;>simpa using hk);rw[show i+(k+1)=i+1+k by omega] at this;exact this) (fun k hk hnt=>by
   have:=hF (k+1) (by simp;omega) (fun e he=>hnt e (by simpa using he));rw[show i+(k+1)=i+1+k by omega] at this;exact this)
  obtain⟨v,y,h1,h2⟩:=hg 0 (.box τ) rfl;have hv:vs.headD undef=v:=by cases vs<;>simp at h1 ⊢;exact h1
  have hpin:=hp 0 v h1;have hF0:=hF 0 (by simp) (fun e he=>by simp at he);simp only[Nat.add_zero] at h2 hpin hF0;simp only[JbQ] at hz;split at hz
  · rename_i τ' x' hm
    obtain⟨x,hx,hz⟩:=Option.bind_eq_some_iff.1 hz;obtain⟨y',hy',hz⟩:=Option.bind_eq_some_iff.1 hz;cases hz;obtain⟨e,hx⟩:=cast?_some hx;subst e;have hx:x'=x:=hx;subst hx;obtain⟨c1,c2⟩:=JnG τ' (ioTys r) x' y';refine⟨?_,?_⟩
    · rw[c1,hv]
      have hM:=h.mems (Jaa i 0);rw[hm] at hM;obtain⟨g0,b,o,cs,g1,g2,g3⟩:=hM;have hb:=h.pins _ _ hpin (by rw[hm];rfl);obtain⟨_,b',o',cs',k1,k2,k3,k4⟩:=h2;rw[hb,k1] at g1;cases g1;have hl:=g3.length;refine⟨g0,b,o,cs,k1,k2,g3.keeps hK,fun j u hj=>?_⟩;have hj':j<cs.length:=(List.getElem?_eq_some_iff.1 hj).1;obtain⟨_,_,q3,q4⟩:=g2 j u hj;exact⟨hF0 b (o+j) (by rw[k2];exact⟨rfl,by simp,by simp;omega⟩),q3,q4⟩
    · rw[c2];exact tail y' hy'
  · cases hz
 | .row e::r,i,vs,z,hz,hg,hp,hF=>by
  have tail:=fun z (hz:JbQ (i+1) r σ=some z)=>Jd0 h hK r (i+1) vs.tail z hz (fun k p hk=>by
   have:=hg (k+1) p (by simpa using hk);rw[show i+(k+1)=i+1+k by omega] at this;obtain⟨v,y,h1,h2⟩:=this;exact⟨v,y,by cases vs<;>simpa using h1,h2⟩) (fun k v hk=>by
   have:=hp (k+1) v (by cases vs<;>simpa using hk);rw[show i+(k+1)=i+1+k by omega] at this;exact this) (fun k hk hnt=>by
   have:=hF (k+1) (by simp;omega) (fun e he=>hnt e (by simpa using he));rw[show i+(k+1)=i+1+k by omega] at this;exact this)
  obtain⟨v,y,h1,h2⟩:=hg 0 (.row e) rfl;have hv:vs.headD undef=v:=by cases vs<;>simp at h1 ⊢;exact h1
  have hpin:=hp 0 v h1;have hF0:=hF 0 (by simp) (fun e he=>by simp at he);simp only[Nat.add_zero] at h2 hpin hF0;simp only[JbQ] at hz;split at hz
  · rename_i e' xs hm
    obtain⟨x,hx,hz⟩:=Option.bind_eq_some_iff.1 hz;obtain⟨y',hy',hz⟩:=Option.bind_eq_some_iff.1 hz;cases hz;obtain⟨eq,hx⟩:=cast?_some hx;cases eq;have hx:xs=x:=hx;subst hx;obtain⟨c1,c2⟩:=JnG (.sl e) (ioTys r) xs y';refine⟨?_,?_⟩
    · rw[c1,hv]
      have hM:=h.mems (Jaa i 0);rw[hm] at hM;obtain⟨ad,cap,g1,g2,g3,g4,g5⟩:=hM;have hb:=h.pins _ _ hpin (by rw[hm];rfl);obtain⟨ad',cap',k1,k2,k3,k4,k5⟩:=h2;rw[hb] at g1;have g1':=g1;rw[k1] at g1;injection g1 with i1 i2 i3
      subst i1;subst i3;refine⟨ad',cap',g1',g2,g3,g4,?_⟩;rcases k5 with ⟨q1,q2,q3⟩ | ⟨b,o,q1,q2,q3,q4,q5⟩
      · exact .inl ⟨q1,q2,q3⟩
      · rcases g5 with ⟨p2,p1⟩ | ⟨b',o',p1,p2,p3,p4⟩
        · rw[p1 rfl] at q1;cases q1
        · rw[p1] at q1;cases q1
          refine .inr ⟨b,o,p1,q2,fun j hj=>?_,p3,fun j j1 j2=>?_⟩
          · obtain⟨es,s1,s2,s3⟩:=p2 j hj
            refine⟨es,s1,fun k u hk=>⟨?_,(s2 k u hk).2⟩,s3.keeps hK⟩;have hk':k<es.length:=(List.getElem?_eq_some_iff.1 hk).1;have i1:=Nat.inside (sz:=e.size) hj (show k<e.size by omega);have i2:=Nat.mul_le_mul_right e.size g2;exact hF0 b (o+j*e.size+k) (by rw[q2];exact⟨rfl,by simp;omega,by simp;omega⟩)
          · obtain⟨_,_,r3,r4⟩:=p4 j j1 j2
            exact⟨hF0 b j (by rw[q2];exact⟨rfl,j1,j2⟩),r3,r4⟩
    · rw[c2];exact tail y' hy'
  · cases hz
theorem Jlp {own0:Own} {w0:World} {ids:Nat→Nat} {regs:Nat→Nat×Nat×Nat} (h:St N Z own β σ a w):
 ∀(ps:List Par) (i:Nat) (vs:List Value) (z:Ds (ioTys ps)),JbQ i ps σ=some z →
  (∀k p,ps[k]?=some p→∃v y,vs[k]?=some v∧IoR own0 w0 (ids (i+k)) (regs (i+k)) p v y)→(∀k v,vs[k]?=some v→Z.pin (Jaa (i+k) 0)=some v) →
  ∀k,k<ps.length→(∀e,ps[k]?≠some (.take e))→∀b o,JaF (regs (i+k)) b o→own b o=some (Jaa (i+k) 0)∧Z.wr b o∧Jaa (i+k) 0∈ioS i ps
 | [],_,_,_,_,_,_,k,hk,_,_,_,_=>by simp at hk
 | p::r,i,vs,z,hz,hg,hp,k,hk,hnt,b,o,hr=>by
  cases k with
  | zero=>
   obtain⟨v,y,h1,h2⟩:=hg 0 p rfl;have hpin:=hp 0 v h1;simp only[Nat.add_zero] at h2 hpin hr ⊢;cases p with
   | val τ=>obtain⟨_,_,r3⟩:=hr;have:=h2.2;omega
   | nils e=>obtain⟨_,_,r3⟩:=hr;have:=h2.2;omega
   | pv q=>obtain⟨_,_,r3⟩:=hr;have:=h2.2;omega
   | box τ=>
    simp only[JbQ] at hz;split at hz
    · rename_i τ' x' hm
      obtain⟨x,hx,hz⟩:=Option.bind_eq_some_iff.1 hz;obtain⟨e,hx⟩:=cast?_some hx;subst e;have hM:=h.mems (Jaa i 0);rw[hm] at hM;obtain⟨g0,b1,o1,cs,g1,g2,g3⟩:=hM;have hb:=h.pins _ _ hpin (by rw[hm];rfl);obtain⟨_,b',o',cs',k1,k2,k3,k4⟩:=h2;rw[hb,k1] at g1;cases g1;have hl:=g3.length;obtain⟨r1,r2,r3⟩:=hr;rw[k2] at r1 r2 r3;simp only at r1 r2 r3;subst r1;obtain⟨q1,q2,_⟩:=g2 (o-o1) cs[o-o1] (List.getElem?_eq_getElem (by omega));rw[show o1+(o-o1)=o by omega] at q1 q2;exact⟨q1,q2,by simp[ioS]⟩
    · cases hz
   | row e=>
    simp only[JbQ] at hz;split at hz
    · rename_i e' xs hm
      obtain⟨x,hx,hz⟩:=Option.bind_eq_some_iff.1 hz;obtain⟨eq,hx⟩:=cast?_some hx;cases eq;have hM:=h.mems (Jaa i 0);rw[hm] at hM;obtain⟨ad,cap,g1,g2,g3,g4,g5⟩:=hM;have hb:=h.pins _ _ hpin (by rw[hm];rfl);obtain⟨ad',cap',k1,k2,k3,k4,k5⟩:=h2;rw[hb,k1] at g1;injection g1 with i1 i2 i3
      subst i1;subst i3;obtain⟨r1,r2,r3⟩:=hr;rcases k5 with ⟨q1,q2,q3⟩ | ⟨b1,o1,q1,q2,q3,q4,q5⟩
      · omega
      · rcases g5 with ⟨p2,p1⟩ | ⟨b',o',p1,p2,p3,p4⟩
        · rw[p1 rfl] at q1;cases q1
        · rw[p1] at q1;cases q1
          rw[q2] at r1 r2 r3;simp only at r1 r2 r3;subst r1;obtain⟨s1,s2,_⟩:=p4 o r2 r3;exact⟨s1,s2,by simp[ioS]⟩
    · cases hz
   | take e=>exact absurd rfl (hnt e)
  | succ k=>
   have hz':∃z',JbQ (i+1) r σ=some z':=by
    cases p with
    | val τ=>exact⟨z,hz⟩
    | nils e=>exact⟨z,hz⟩
    | pv q=>exact⟨z,hz⟩
    | box τ=>
     simp only[JbQ] at hz;split at hz
     · obtain⟨x,hx,hz⟩:=Option.bind_eq_some_iff.1 hz
       obtain⟨y,hy,hz⟩:=Option.bind_eq_some_iff.1 hz;exact⟨y,hy⟩
     · cases hz
    | row e=>
     simp only[JbQ] at hz;split at hz
     · obtain⟨x,hx,hz⟩:=Option.bind_eq_some_iff.1 hz
       obtain⟨y,hy,hz⟩:=Option.bind_eq_some_iff.1 hz;exact⟨y,hy⟩
     · cases hz
    | take e=>exact⟨z,hz⟩
   obtain⟨z',hz'⟩:=hz'
   have:=Jlp h r (i+1) vs.tail z' hz' (fun k p hk=>by
    have:=hg (k+1) p (by simpa using hk);rw[show i+(k+1)=i+1+k by omega] at this;obtain⟨v,y,h1,h2⟩:=this;exact⟨v,y,by cases vs<;>simpa using h1,h2⟩) (fun k v hk=>by
    have:=hp (k+1) v (by cases vs<;>simpa using hk);rw[show i+(k+1)=i+1+k by omega] at this;exact this) k (by simp at hk;omega) (fun e he=>hnt e (by simpa using he)) b o (by rw[show i+1+k=i+(k+1) by omega];exact hr)
   rw[show i+1+k=i+(k+1) by omega] at this;refine⟨this.1,this.2.1,?_⟩;cases p<;>simp only[ioS,List.mem_cons]
   · exact this.2.2
   · exact this.2.2
   · exact this.2.2
   · exact .inr this.2.2
   · exact .inr this.2.2
   · exact this.2.2
theorem Jci.rename {own own':Own} {B q:Nat} {p:Ty×Mode} {u:Value} {x:p.1.D} (hK:Keeps own own' w w) (hB:∀b o,B≤b→own' b o=own b o) (h:Jci own w B q p u x):Jci own' w B q p u x:=by
 have row:∀{e:Ty} {b o:Nat} {xs:List e.D} {cap:Nat},xs.length≤cap→(0<cap*e.size→B≤b)→JaX own w (some q) e b o xs→JaX own' w (some q) e b o xs:=by
  intro e b o xs cap hc hb hr i hi;obtain⟨es,g1,g2,g3⟩:=hr i hi;refine⟨es,g1,fun j v hj=>⟨?_,(g2 j v hj).2⟩,g3.keeps hK⟩;have hj':j<es.length:=(List.getElem?_eq_some_iff.1 hj).1;have i1:=Nat.inside (sz:=e.size) hi (show j<e.size by omega);have i2:=Nat.mul_le_mul_right e.size hc;rw[hB _ _ (hb (by omega))];exact (g2 j v hj).1
 obtain⟨τ,m⟩:=p;cases τ with
 | sl e=>cases m with
  | full=>
   obtain⟨ad,cap,h1,h2,h3,h4,h5⟩:=h;refine⟨ad,cap,h1,h2,h3,h4,h5.imp id ?_⟩;rintro⟨b,o,e1,e2,e3,e4,e5⟩;exact⟨b,o,e1,e2,row h2 e2 e3,e4,fun j j1 j2=>by rw[hB b j (e2 (by omega))];exact e5 j j1 j2⟩
  | tail=>
   obtain⟨ad,cap,h1,h2,h3,h4,h5⟩:=h;refine⟨ad,cap,h1,h2,h3,h4,h5.imp id ?_⟩;rintro⟨b,o,e1,e2,e3,e4⟩;refine⟨b,o,e1,fun i hi=>?_,e3,fun j j1 j2=>by rw[hB b j (e3 (by omega))];exact e4 j j1 j2⟩;obtain⟨es,g1,g2,g3⟩:=e2 i hi;exact⟨es,g1,fun j v hj=>⟨(hK _ _ _ (g2 j v hj).1 (g2 j v hj).2).1,(g2 j v hj).2⟩,g3.keeps hK⟩
  | view=>exact Jab.keeps hK h
  | gb l=>exact Jab.keeps hK h
  | bg=>exact Jab.keeps hK h
  | it b=>exact Jab.keeps hK h
  | mp=>
   have h:Jbh _ _ _ _ _ _ _:=h;show Jbh _ _ _ _ _ _ _;cases e with
   | pair K V=>
    obtain⟨r,es,c,h1,h2,h3,h4,h5⟩:=h;exact⟨r,es,c,h1,h2,by rw[hB r 0 h2];exact h3,h4,h5.keeps hK⟩
   | _=>exact h.elim
 | bool=>cases m<;>exact Jab.keeps hK h
 | str=>cases m<;>exact Jab.keeps hK h
 | unit=>cases m<;>exact Jab.keeps hK h
 | int k=>cases m<;>exact Jab.keeps hK h
 | pair p q=>cases m<;>exact Jab.keeps hK h
 | st b=>cases m<;>exact Jab.keeps hK h
 | arr n e=>cases m<;>exact Jab.keeps hK h
 | mp k v=>cases m<;>exact Jab.keeps hK h
theorem JbM.rename {own own':Own} {B:Nat} {rid:Nat→Nat} (hK:Keeps own own' w w) (hB:∀b o,B≤b→own' b o=own b o):∀{ps:List (Ty×Mode)} {i:Nat} {us:List Value} {x:Ds (ps.map (·.1))},
 JbM own w B rid i ps us x→JbM own' w B rid i ps us x
 | [],_,_,_,h=>h
 | [p],_,_,_,⟨u,h1,h2⟩=>⟨u,h1,h2.rename hK hB⟩
 | p::q::r,_,_,_,⟨u,us,h1,h2,h3⟩=>⟨u,us,h1,h2.rename hK hB,JbM.rename hK hB h3⟩
def An.flat:{R:Type}→An R→Bool
 | _,.leaf=>true
 | _,.rg _ _=>true
 | _,.nx=>true
 | _,.seq a b=>a.flat&&b.flat
 | _,.join _ a b=>a.flat&&b.flat
 | _,.cond a b=>a.flat&&b.flat
 | _,.block a=>a.flat
 | _,.reg b=>b.flat
 | _,.ofin _=>true
 | _,.oin _ _ _ _ a b=>a.flat&&b.flat
 | _,.oalt _ _ _ _ _ a=>a.flat
 | _,.loop _ _ _ _=>false
 | _,.unroll _ _=>false
theorem JgF:∀{l:List Prop},(∀p∈l,p)→JiF l
 | [],_=>trivial
 | p::r,h=>⟨h p (by simp),JgF fun q hq=>h q (List.mem_cons_of_mem _ hq)⟩
theorem JbB (E:Env):∀{R:Type} (an:An R) (N:Nat) (g:Tg) (Kn:S→Option R) (Ke:Nat→S→Option R) (Kr:S→Option R),an.flat=true→ob E an N g Kn Ke Kr
 | _,.leaf,_,_,_,_,_,_=>trivial
 | _,.rg _ _,_,_,_,_,_,_=>trivial
 | _,.nx,_,_,_,_,_,_=>trivial
 | _,.ofin _,_,_,_,_,_,_=>trivial
 | _,.seq a b,N,g,Kn,Ke,Kr,h=>by
  simp only[An.flat,Bool.and_eq_true] at h;unfold ob;split
  · exact⟨JbB E a _ _ _ _ _ h.1,JbB E b _ _ _ _ _ h.2⟩
  · trivial
 | _,.join J a b,N,g,Kn,Ke,Kr,h=>by
  simp only[An.flat,Bool.and_eq_true] at h;unfold ob;split
  · exact⟨fun _=>JbB E a _ _ _ _ _ h.1,JbB E b _ _ _ _ _ h.2⟩
  · trivial
 | _,.cond a b,N,g,Kn,Ke,Kr,h=>by
  simp only[An.flat,Bool.and_eq_true] at h;unfold ob;split
  · exact⟨JbB E a _ _ _ _ _ h.1,JbB E b _ _ _ _ _ h.2⟩
  · trivial
 | _,.block a,N,g,Kn,Ke,Kr,h=>by
  have h:a.flat=true:=h;unfold ob;split
  · exact JbB E a _ _ _ _ _ h
  · trivial
 | _,.reg b,N,g,Kn,Ke,Kr,h=>by
  have h:b.flat=true:=h;unfold ob;split
  · exact JbB E b _ _ _ _ _ h
  · trivial
 | _,.oin k f p _ a b,N,g,Kn,Ke,Kr,h=>by
  simp only[An.flat,Bool.and_eq_true] at h;unfold ob;split
  · split
    · split
      · exact⟨fun _=>JbB E a _ _ _ _ _ h.1,JbB E b _ _ _ _ _ h.2⟩
      · trivial
    · trivial
  · trivial
 | _,.oalt k f p fz vs a,N,g,Kn,Ke,Kr,h=>by
  have h:a.flat=true:=h;unfold ob;split
  · split
    · split
      · refine JgF fun p hp=>?_
        obtain⟨v,_,rfl⟩:=List.mem_map.1 hp;exact fun _=>JbB E a _ _ _ _ _ h
      · trivial
    · trivial
  · trivial
 | _,.loop _ _ _ _,_,_,_,_,_,h=>by cases h
 | _,.unroll _ _,_,_,_,_,_,h=>by cases h
open Classical in
theorem JnQ (hE:EnvOk P E) {f:Nat} {fn:Func} {c:Code} {ps:List Par} {rs:List RV} {an:An (Ds ((rs.map RV.pm).map (·.1)++ioTys ps))}
 (hf:P.funcs[f]?=some fn) (hb:fn.body=some c) (hname:(fn.name== "runtime.NumGoroutine")=false) (hN:Nat.ble ps.length fn.ntmps=true)
 (hrs:rvB E fn.results.toList rs=true) (hob:obF E fn.ntmps c ps rs an) {F:Ds (ps.map Par.ty)→Option (Ds ((rs.map RV.pm).map (·.1)++ioTys ps))}
 (hF:∀x,evF E fn.ntmps c ps rs an x=F x):FnOk P f {args:=ps,res:=rs.map RV.pm,f:=F} where
 fn:=⟨fn,hf,by rw[hb];rfl,hname⟩
 calls:=by
  intro w own0 ids rid regs vs x r harg hids hr;have hr:evF E fn.ntmps c ps rs an x=some r:=(hF x).trans hr;refine calls_of_wp hf hb ?_;have harg:JbD own0 w ids regs 0 ps vs x:=harg;obtain⟨hlen,hget⟩:=harg.get;have hget:∀k p,ps[k]?=some p→∃v y,vs[k]?=some v∧IoR own0 w (ids (0+k)) (regs (0+k)) p v y:=hget
  let a0:Act:={tmps:=vs.toArray++Array.replicate (fn.ntmps-vs.toArray.size) undef,defers:=[]}
  have hcell:∀i,i<ps.length→∀b o,JaF (regs i) b o→own0 b o=some (ids i)∧b<w.heap.size:=by
   intro i hi b o hr;obtain⟨v,y,h1,h2⟩:=hget i ps[i] (List.getElem?_eq_getElem hi);rw[Nat.zero_add] at h2;obtain⟨h3,u,h4⟩:=h2.cell hr;exact⟨h3,cell?_lt h4⟩
  have huniq:∀i j,i<ps.length→j<ps.length→∀b o,JaF (regs i) b o→JaF (regs j) b o→i=j:=by
   intro i j hi hj b o h1 h2;refine Classical.byContradiction fun hne=>?_;have l1:0<(regs i).2.2:=by obtain⟨_,_,_⟩:=h1;omega
   have l2:0<(regs j).2.2:=by obtain⟨_,_,_⟩:=h2;omega
   have e1:=(hcell i hi b o h1).1;have e2:=(hcell j hj b o h2).1;rw[e1] at e2;exact hids i j hne l1 l2 (Option.some.inj e2)
  have hIn:∀i,i<ps.length→∀b o,JaF (regs i) b o→JcI ps.length regs own0 b o=some (Jaa i 0):=by
   intro i hi b o hr;have hx:JeZ ps.length regs b o:=⟨i,hi,hr⟩;unfold JcI;rw[dif_pos hx];obtain⟨h1,h2⟩:=Classical.choose_spec hx;rw[huniq _ _ h1 hi b o h2 hr]
  have hK0:Keeps own0 (JcI ps.length regs own0) w w:=by
   suffices hk0:∀b o,own0 b o=none→JcI ps.length regs own0 b o=none from ⟨fun b o v h1 h2=>⟨hk0 _ _ h1,h2⟩,fun r es c h1 h2=>⟨hk0 _ _ h1,h2⟩⟩
   intro b o h1;unfold JcI;rw[dif_neg]
   · exact h1
   · rintro⟨i,hi,hr⟩
     rw[(hcell i hi b o hr).1] at h1;cases h1
  let Z:Base:=⟨w,JeZ ps.length regs,JcI ps.length regs own0,fun s=>some (Jas (fun _ _=>undef) a0 s),none⟩
  have hst0:St fn.ntmps Z (JcI ps.length regs own0) (Jas (fun _ _=>undef) a0) S.bare a0 w:={
   frame:=Frm.refl _ _ _
   old:=fun _ _ _ _=>rfl
   size:=by
    have:=Nat.le_of_ble_eq_true hN;simp[a0];omega
   defers:=rfl
   slots:=fun t=>trivial
   mems:=fun s=>trivial
   pins:=fun s v _ h=>by cases h
   kept:=fun q h=>by cases h
   cells:=fun s=>trivial}
  have htm:∀k v,vs[k]?=some v→a0.tmps.getD (0+k) undef=v:=by
   intro k v hk;have hk':k<vs.length:=(List.getElem?_eq_some_iff.1 hk).1;show (vs.toArray++Array.replicate (fn.ntmps-vs.toArray.size) undef).getD (0+k) undef=v;rw[Nat.zero_add,Array.getD_eq_getD_getElem?,Array.getElem?_append];simp only[List.size_toArray,hk',if_true,List.getElem?_toArray,hk,Option.getD_some]
  have hwr:Wr (fun _ _=>undef) Z (JcI ps.length regs own0) w a0 (JdW 0 ps x S.bare):=Wr.ent hK0 (fun s v h=>Option.some.inj h) ps 0 vs x S.bare
   (fun k hk b o hr=>by rw[Nat.zero_add] at hr ⊢;exact⟨hIn k hk b o hr,.inr ⟨k,hk,hr⟩⟩) harg htm Wr.bare
  have hst:St fn.ntmps Z (JcI ps.length regs own0) (Jas (fun _ _=>undef) a0) (JdW 0 ps x S.bare) a0 w:=Wr.st hst0 (fun _ _ _ _=>rfl) (Keeps.refl _ _) hwr
  have hpin:∀k v,vs[k]?=some v→Z.pin (Jaa (0+k) 0)=some v:=by
   intro k v hk;show some (Jas (fun _ _=>undef) a0 (Jaa (0+k) 0))=some v;rw[JaC,htm k v hk]
  have key:∀(σ:S) (own:Own) (β:Jai) (a':Act) (w':World),St fn.ntmps Z own β σ a' w'→Jfe ps rs σ=some r →
   a'.defers=[]∧∃v,(results fn a'.tmps).run P w'= .ok v w'∧(fun e w'=>∃own us,e=Ending.returned (Jdt us)∧Frm w.heap.size (fun b o=>∃i,JaF (regs i) b o) w w' ∧
    (∀b o,b<w.heap.size→(¬∃i,JaF (regs i) b o)→own b o=own0 b o) ∧
    JbM own w' w.heap.size rid 0 (rs.map RV.pm) us (dsL ((rs.map RV.pm).map (·.1)) (ioTys ps) r)∧JaE own w' ids regs 0 ps vs (dsR ((rs.map RV.pm).map (·.1)) (ioTys ps) r)) (.returned v) w':=by
   intro σ own β a' w' hs hk;unfold Jfe at hk;cases hc:Jb4 (Jay (rs.map RV.ji) σ++ioS 0 ps)&&(Jcp (JbZ (rs.map RV.ji) σ) (Jay (rs.map RV.ji) σ++ioS 0 ps)&&(!(ps.any Par.isTake)||(Jay (rs.map RV.ji) σ).isEmpty)) with
   | false=>rw[hc] at hk;cases hk
   | true=>
    rw[hc] at hk;simp only[Bool.and_eq_true] at hc;obtain⟨y,h1,h2⟩:=Option.bind_eq_some_iff.1 hk;obtain⟨z,h3,h4⟩:=Option.bind_eq_some_iff.1 h2;have h4:Jgv _ _ y z=r:=Option.some.inj h4
    let l:List (Nat×Nat×Nat):=Jew rid 0 rs σ a'++(ioS 0 ps).map (fun s=>(s,s,0))
    have hkeys:l.map (·.1)=Jay (rs.map RV.ji) σ++ioS 0 ps:=by
     simp only[l,List.map_append,JfN,List.map_map]
     congr 1
     exact List.map_id _
    have hn:(l.map (·.1)).Nodup:=by rw[hkeys];exact JcF hc.1
    have hio:=Jlp hs ps 0 vs z h3 hget hpin
    have hreg:∀k,k<ps.length→(∀e,ps[k]?≠some (.take e))→∀b o,JaF (regs k) b o→Jau Z own l b o=some (Jaa k 0):=by
     intro k hk hnt b o hr;have:=hio k hk hnt b o (by rw[Nat.zero_add];exact hr);rw[Nat.zero_add] at this;obtain⟨g1,g2,g3⟩:=this;rw[Jbt l g1 g2,Ja3 hn (p:=(Jaa k 0,Jaa k 0,0)) (List.mem_append_right _ (List.mem_map.2 ⟨_,g3,rfl⟩))];simp
    let ioK:Nat→Nat→Prop:=fun b o=>∃i,i<ps.length∧(∀e,ps[i]?≠some (.take e))∧JaF (regs i) b o
    let ownF:Own:=fun b o=>if ioK b o then own0 b o else if JeZ ps.length regs b o then none else Jau Z own l b o
    have hF1:∀k,k<ps.length→(∀e,ps[k]?≠some (.take e))→∀b o,JaF (regs k) b o→ownF b o=some (ids k):=by
     intro k hk hnt b o hr;show (if ioK b o then own0 b o else _)=_
     rw[if_pos ⟨k,hk,hnt,hr⟩];exact (hcell k hk b o hr).1
    have hKJ:Keeps (Jau Z own l) ownF w' w':=by
     suffices hk0:∀b o,Jau Z own l b o=none→ownF b o=none from ⟨fun b o v h1 h2=>⟨hk0 _ _ h1,h2⟩,fun r es c h1 h2=>⟨hk0 _ _ h1,h2⟩⟩
     intro b o h1;show (if ioK b o then own0 b o else _)=_
     rw[if_neg]
     · split
       · rfl
       · exact h1
     · rintro⟨i,hi,hnt,hr⟩;rw[hreg i hi hnt b o hr] at h1;cases h1
    have hKo:Keeps own ownF w' w':=(JbF l).trans hKJ
    have hBJ:∀b o,w.heap.size≤b→ownF b o=Jau Z own l b o:=by
     intro b o hb
     have hno:¬JeZ ps.length regs b o:=by
      rintro⟨i,hi,hr⟩;have:=(hcell i hi b o hr).2;omega
     show (if ioK b o then own0 b o else if JeZ ps.length regs b o then none else _)=_
     rw[if_neg (fun ⟨i,hi,_,hr⟩=>hno ⟨i,hi,hr⟩),if_neg hno]
    have hrv:∃us,Jbp (Jgb a' w' P) fn.results.toList us∧JbM ownF w' w.heap.size rid 0 (rs.map RV.pm) us y:=by
     have hs':=hs
     obtain⟨us,g1,g2⟩:=Jlo hE hs (B:=w.heap.size) hn rs (fun s b o hs' h1 h2=>by
      rcases h2 with h2 | ⟨i,hi,hr⟩
      · exact h2
      · exfalso
        by_cases hnt:∀e,ps[i]?≠some (.take e)
        case neg=>
         have hany:ps.any Par.isTake=true:=by
          obtain⟨e,he⟩:=Classical.not_forall.1 hnt;have he:=Classical.not_not.1 he;exact List.any_eq_true.2 ⟨_,List.mem_of_getElem? he,rfl⟩
         have hcc:=hc.2.2;rw[hany] at hcc;simp only[Bool.not_true,Bool.false_or,List.isEmpty_iff] at hcc;rw[hcc] at hs';cases hs'
        have:=hio i hi hnt b o (by rw[Nat.zero_add];exact hr);rw[Nat.zero_add] at this;rw[h1] at this;have e:=Option.some.inj this.1;have hd:=List.nodup_append.1 (hkeys▸hn);exact hd.2.2 s hs' _ this.2.2 e) 0 fn.results.toList y h1 hrs (fun _ h=>List.mem_append_left _ h)
      (fun s hs=>by rw[hkeys];exact Jcq.1 hc.2.1 s hs)
     exact⟨us,g1,g2.rename hKJ hBJ⟩
    obtain⟨us,g1,g2⟩:=hrv;refine⟨hs.defers,Jdt us,Jem g1,ownF,us,rfl,?_,?_,?_,?_⟩
    · have hfr:=hs.frame
      have hsub:∀b o,(¬∃i,JaF (regs i) b o)→¬JeZ ps.length regs b o:=fun b o h ⟨i,_,hr⟩=>h ⟨i,hr⟩
      exact⟨hfr.os,hfr.tape,hfr.output,hfr.size,fun b o hb h=>hfr.cell b o hb (hsub b o h),fun b o v hb hv=>hfr.live b o v hb hv,fun b k hb=>hfr.shape b k hb,
       fun b hb h=>hfr.block b hb fun o=>hsub b o (h o)⟩
    · intro b o hb h
      have hsub:¬JeZ ps.length regs b o:=fun ⟨i,_,hr⟩=>h ⟨i,hr⟩;show (if ioK b o then own0 b o else if JeZ ps.length regs b o then none else Jau Z own l b o)=own0 b o
      rw[if_neg (fun ⟨i,hi,_,hr⟩=>hsub ⟨i,hi,hr⟩),if_neg hsub]
      have:Jau Z own l b o=own b o:=by
       unfold Jau;rw[if_pos ⟨hb,hsub⟩]
      rw[this,hs.old b o hb hsub];show JcI ps.length regs own0 b o=own0 b o;unfold JcI;rw[dif_neg hsub]
    · rw[←h4,JjV];exact g2
    · rw[←h4,JjW]
      exact Jd0 hs hKo ps 0 vs z h3 hget hpin (fun k hk hnt b o hr=>by rw[Nat.zero_add] at hr ⊢;exact hF1 k hk hnt b o hr)
  have hst:St fn.ntmps Z (JcI ps.length regs own0) (Jas (fun _ _=>undef) a0) (JdW 0 ps x S.bare) (JaI #[] a0) w:=by rw[JiM];exact hst
  refine wp_mono ((Jbq hE an hob hr).1 #[] a0 w c (by rw[show (#[]:Array Value).size=0 from rfl,Jmn]) hst) fun e a' w' hp=>?_
  have hp:Jc2 fn.ntmps Z (Jfe ps rs) (fun _ _=>none) (Jfe ps rs) r e a' w':=by
   have hp:=hp;unfold Jfy at hp;rw[JiM] at hp;exact hp
  cases e with
  | normal=>obtain⟨σ,own,β,h1,h2⟩:=hp;exact key σ own β a' w' h1 h2
  | ret=>obtain⟨σ,own,β,h1,h2⟩:=hp;exact key σ own β a' w' h1 h2
  | exit i=>obtain⟨σ,own,β,h1,h2⟩:=hp;cases h2
  | _=>exact hp.elim
end
end Go.Re
namespace Go.Re
set_option linter.unusedVariables false
set_option linter.unusedSimpArgs false
def look {α:Type}:List (Nat×α)→Nat→Option α
 | [],_=>none
 | p::r,n=>bif Nat.beq p.1 n then some p.2 else look r n
theorem look_mem {α:Type}:∀{l:List (Nat×α)} {n:Nat} {x:α},look l n=some x→(n,x)∈l
 | [],_,_,h=>by cases h
 | p::r,n,x,h=>by
  unfold look at h;cases hb:Nat.beq p.1 n with
  | true=>
   rw[hb] at h;have:=Nat.eq_of_beq_eq_true hb;subst this;cases h;exact List.mem_cons_self
  | false=>rw[hb] at h;exact List.mem_cons_of_mem _ (look_mem h)
def scB:Value→Value→Bool
 | .bool a,.bool b=>match a,b with | true,true=>true | false,false=>true | _,_=>false
 | .int k n,.int k' n'=>decide (k=k')&&decide (n=n')
 | .string a,.string b=>match a,b with | ⟨x⟩,⟨y⟩=>x.toList.isEmpty&&y.toList.isEmpty
 | .slice none n c,.slice none n' c'=>Nat.beq n n'&&Nat.beq c c'
 | .map none,.map none=>true
 | _,_=>false
theorem Jlq {a b:Value} (h:scB a b=true):a=b:=by
 unfold scB at h;split at h
 · rename_i a b;cases a<;>cases b<;>first | rfl | cases h
 · simp only[Bool.and_eq_true,decide_eq_true_eq] at h;rw[h.1,h.2]
 · rename_i a b
   obtain⟨x⟩:=a;obtain⟨y⟩:=b;simp only[Bool.and_eq_true,List.isEmpty_iff] at h;have hx:x=#[]:=by simpa using h.1
   have hy:y=#[]:=by simpa using h.2
   rw[hx,hy]
 · simp only[Bool.and_eq_true] at h
   rw[Nat.eq_of_beq_eq_true h.1,Nat.eq_of_beq_eq_true h.2]
 · rfl
 · cases h
def scL:List Value→List Value→Bool
 | [],[]=>true
 | a::r,b::s=>scB a b&&scL r s
 | _,_=>false
theorem Jlr:∀{a b:List Value},scL a b=true→a=b
 | [],[],_=>rfl
 | a::r,b::s,h=>by
  simp only[scL,Bool.and_eq_true] at h;rw[Jlq h.1,Jlr h.2]
 | [],_::_,h=>by cases h
 | _::_,[],h=>by cases h
def vaB:Value→Value→Bool
 | .agg a,.agg b=>scL a.toList b.toList
 | a,b=>scB a b
theorem JnH {a b:Value} (h:vaB a b=true):a=b:=by
 unfold vaB at h;split at h
 · rw[Array.ext' (Jlr h)]
 · exact Jlq h
def JfA (ty:Nat→Option Ty):(off:Nat)→List Field→Ty→Bool
 | _,[],.unit=>true
 | off,f::fs,.pair a b=>Nat.beq f.offset off&&(decide (ty f.type=some a)&&(Nat.blt 0 a.size&&JfA ty (off+a.size) fs b))
 | _,_,_=>false
theorem JgG {ty:Nat→Option Ty}:∀{fs:List Field} {off:Nat} {b:Ty},JfA ty off fs b=true→JbG ty off fs b
 | [],_,.unit,_=>trivial
 | f::fs,off,.pair a b,h=>by
  simp only[JfA,Bool.and_eq_true,decide_eq_true_eq] at h;exact⟨Nat.eq_of_beq_eq_true h.1,h.2.1,by simpa [Nat.blt_eq] using h.2.2.1,JgG h.2.2.2⟩
 | [],_,.bool,h=>by cases h
 | [],_,.str,h=>by cases h
 | [],_,.int _,h=>by cases h
 | [],_,.pair _ _,h=>by cases h
 | [],_,.st _,h=>by cases h
 | [],_,.sl _,h=>by cases h
 | [],_,.arr _ _,h=>by cases h
 | [],_,.mp _ _,h=>by cases h
 | _::_,_,.unit,h=>by cases h
 | _::_,_,.bool,h=>by cases h
 | _::_,_,.str,h=>by cases h
 | _::_,_,.int _,h=>by cases h
 | _::_,_,.st _,h=>by cases h
 | _::_,_,.sl _,h=>by cases h
 | _::_,_,.arr _ _,h=>by cases h
 | _::_,_,.mp _ _,h=>by cases h
def JkO (P:Program) (ty:Nat→Option Ty) (t:Nat) (τ:Ty):Bool:=
 match τ,P.underlying t with
 | .bool,some .bool=>true
 | .str,some .string=>true
 | .int k,some (.int k')=>decide (k=k')
 | .sl e,some (.slice te)=>decide (ty te=some e)
 | .arr n e,some (.array n' te)=>Nat.beq n n'&&decide (ty te=some e)
 | .st b,some (.struct fs)=>JfA ty 0 fs.toList b
 | .mp k v,some (.map tk tv)=>decide (ty tk=some k)&&decide (ty tv=some v)
 | _,_=>false
theorem Jmu {P:Program} {ty:Nat→Option Ty} {t:Nat} {τ:Ty} (h:JkO P ty t τ=true):JkY P ty t τ:=by
 unfold JkO at h;split at h
 · assumption
 · assumption
 · rename_i hu;rw[of_decide_eq_true h];exact hu
 · rename_i hu;exact⟨_,hu,of_decide_eq_true h⟩
 · rename_i hu
   simp only[Bool.and_eq_true,decide_eq_true_eq] at h;exact⟨_,by rw[Nat.eq_of_beq_eq_true h.1];exact hu,h.2⟩
 · rename_i hu;exact⟨_,hu,JgG h⟩
 · rename_i hu
   simp only[Bool.and_eq_true,decide_eq_true_eq] at h;exact⟨_,_,hu,h.1,h.2⟩
 · cases h
def tyB (P:Program) (ty:Nat→Option Ty) (t:Nat) (τ:Ty):Bool:=
 τ.good&&((match P.info? t with
  | some i=>Nat.beq i.size τ.size&&(Nat.ble i.bytes 32768&&(match i.zero with | some z=>vaB z (mkV τ (zeroC τ)) | none=>false))
  | none=>false)&&JkO P ty t τ)
theorem JnI {P:Program} {ty:Nat→Option Ty} {t:Nat} {τ:Ty} (h:tyB P ty t τ=true):TyOk P ty t τ:=by
 simp only[tyB,Bool.and_eq_true] at h;obtain⟨h1,h2,h3⟩:=h;split at h2
 · rename_i i hi
   simp only[Bool.and_eq_true] at h2;obtain⟨h4,h5,h6⟩:=h2;split at h6
   · rename_i z hz
     exact⟨h1,⟨i,hi,Nat.eq_of_beq_eq_true h4,Nat.le_of_ble_eq_true h5,by rw[hz,JnH h6]⟩,Jmu h3⟩
   · cases h6
 · cases h2
def tabB (P:Program) (tab:List (Nat×Ty)):List (Nat×Ty)→Bool
 | []=>true
 | p::r=>tyB P (look tab) p.1 p.2&&tabB P tab r
theorem tabB_ok {P:Program} {tab:List (Nat×Ty)}:∀{l:List (Nat×Ty)},tabB P tab l=true→∀p∈l,TyOk P (look tab) p.1 p.2
 | [],_,_,h=>by cases h
 | q::r,h,p,hp=>by
  simp only[tabB,Bool.and_eq_true] at h;rcases List.mem_cons.1 hp with hp | hp
  · subst hp;exact JnI h.1
  · exact tabB_ok h.2 p hp
def Jhd (es:List Nat) (t:Nat):Ty→Bool
 | .st _=>Jan t es
 | .arr _ (.int _)=>Jan t es
 | .bool=>true | .str=>true | .int _=>true
 | _=>false
def JkP (ty:Nat→Option Ty) (es:List Nat):List Field→Bool
 | []=>true
 | f::r=>!(f.name== "_")&&((match ty f.type with | some τ=>Jhd es f.type τ | none=>false)&&JkP ty es r)
def Jmv (P:Program) (ty:Nat→Option Ty) (es:List Nat) (t:Nat):Bool:=
 match P.underlying t with
 | some (.struct fs)=>JkP ty es fs.toList
 | some (.array _ _)=>true
 | _=>false
theorem JjX {E:Env} {ty:Nat→Option Ty} {es:List Nat} (h1:E.ty=ty) (h2:E.eq=fun n=>Jan n es):∀{l:List Field},JkP ty es l=true→∀f∈l,f.name≠ "_"∧∀τ,E.ty f.type=some τ→Jgm E f.type τ
 | [],_,_,h=>by cases h
 | g::r,h,f,hf=>by
  simp only[JkP,Bool.and_eq_true,Bool.not_eq_true'] at h;rcases List.mem_cons.1 hf with hf | hf
  · subst hf
    refine⟨fun e=>by rw[e] at h;simp at h,fun τ hτ=>?_⟩;rw[h1] at hτ;have h3:=h.2.1;rw[hτ] at h3;cases τ with
    | arr n e=>cases e<;>first | (simp[Jhd] at h3;done) | (show E.eq _=true;rw[h2];exact h3)
    | _=>first | trivial | (simp[Jhd] at h3;done) | (show E.eq _=true;rw[h2];exact h3)
  · exact JjX h1 h2 h.2.2 f hf
def JgH (P:Program):List (Nat×Fun)→Prop
 | []=>True
 | p::r=>FnOk P p.1 p.2∧JgH P r
theorem JhK {P:Program}:∀{l:List (Nat×Fun)},JgH P l→∀p∈l,FnOk P p.1 p.2
 | [],_,_,h=>by cases h
 | q::r,h,p,hp=>by
  rcases List.mem_cons.1 hp with hp | hp
  · subst hp;exact h.1
  · exact JhK h.2 p hp
def JhX (P:Program):List (Nat×Func)→Prop
 | []=>True
 | p::r=>(P.funcs[p.1]?=some p.2∧p.2.body.isNone=false∧(p.2.name== "runtime.NumGoroutine")=false)∧JhX P r
theorem JhL {P:Program}:∀{l:List (Nat×Func)},JhX P l→∀p∈l,P.funcs[p.1]?=some p.2∧p.2.body.isNone=false∧(p.2.name== "runtime.NumGoroutine")=false
 | [],_,_,h=>by cases h
 | q::r,h,p,hp=>by
  rcases List.mem_cons.1 hp with hp | hp
  · subst hp;exact h.1
  · exact JhL h.2 p hp
def JgI (P:Program) (tab:List (Nat×Ty)):List (Nat×(Nat×Ty))→Bool
 | []=>true
 | p::r=>(match P.underlying p.1 with
  | some (.pointer ta)=>match P.underlying ta with
   | some (.array n te)=>Nat.beq n p.2.1&&decide (look tab te=some p.2.2)
   | _=>false
  | _=>false)&&JgI P tab r
theorem Ji6 {P:Program} {tab:List (Nat×Ty)}:∀{pa:List (Nat×(Nat×Ty))},JgI P tab pa=true→∀p∈pa,∃ta te,P.underlying p.1=some (.pointer ta)∧P.underlying ta=some (.array p.2.1 te)∧look tab te=some p.2.2
 | [],_,_,h=>by cases h
 | q::r,h,p,hp=>by
  simp only[JgI,Bool.and_eq_true] at h;rcases List.mem_cons.1 hp with rfl | hp
  · obtain⟨h1,_⟩:=h
    split at h1
    · rename_i ta h2
      split at h1
      · rename_i n te h3
        simp only[Bool.and_eq_true,decide_eq_true_eq] at h1;exact⟨ta,te,h2,by rw[h3,Nat.eq_of_beq_eq_true h1.1],h1.2⟩
      · cases h1
    · cases h1
  · exact Ji6 h.2 p hp
def Ji7 (P:Program):List Nat→Bool
 | []=>true
 | t::r=>(match P.underlying t with | some (.pointer _)=>true | some (.func _ _ _)=>true | _=>false)&&Ji7 P r
theorem JjY {P:Program}:∀{l:List Nat},Ji7 P l=true→∀t∈l,∃d,P.underlying t=some d∧((∃ta,d= .pointer ta)∨∃a b c,d= .func a b c)
 | [],_,_,h=>by cases h
 | q::r,h,t,hp=>by
  simp only[Ji7,Bool.and_eq_true] at h;rcases List.mem_cons.1 hp with rfl | hp
  · obtain⟨h1,_⟩:=h
    split at h1
    · rename_i ta h2;exact⟨_,h2,.inl ⟨ta,rfl⟩⟩
    · rename_i k1 k2 k3 h2;exact⟨_,h2,.inr ⟨k1,k2,k3,rfl⟩⟩
    · cases h1
  · exact JjY h.2 t hp
def Ji8 (P:Program):List Nat→Bool
 | []=>true
 | t::r=>(match P.underlying t with
  | some (.slice te)=>(match P.underlying te with
   | some (.pointer _)=>(match P.info? te with
    | some i=>Nat.beq i.size 1&&(match i.zero with | some (.pointer none)=>true | _=>false)
    | none=>false)
   | _=>false)
  | _=>false)&&Ji8 P r
theorem JjZ {P:Program}:∀{l:List Nat},Ji8 P l=true→∀t∈l,∃te ta i,P.underlying t=some (.slice te)∧P.underlying te=some (.pointer ta)∧P.info? te=some i∧i.size=1∧i.zero=some (.pointer none)
 | [],_,_,h=>by cases h
 | q::r,h,t,hp=>by
  simp only[Ji8,Bool.and_eq_true] at h;rcases List.mem_cons.1 hp with rfl | hp
  · obtain⟨h1,_⟩:=h
    split at h1
    · rename_i te h2
      split at h1
      · rename_i ta h3
        split at h1
        · rename_i i h4
          simp only[Bool.and_eq_true] at h1;obtain⟨h5,h6⟩:=h1;split at h6
          · rename_i h7;exact⟨te,ta,i,h2,h3,h4,Nat.eq_of_beq_eq_true h5,h7⟩
          · cases h6
        · cases h1
      · cases h1
    · cases h1
  · exact JjZ h.2 t hp
def Ji9 (P:Program) (tab:List (Nat×Ty)) (es:List Nat):List (Nat×(Ty×Ty))→Bool
 | []=>true
 | p::r=>(match P.underlying p.1 with
  | some (.map tk tv)=>(decide (look tab tk=some p.2.1)&&decide (look tab tv=some p.2.2))&&(!Jbb p.2.1||Jan tk es)
  | _=>false)&&Ji9 P tab es r
theorem Jj0 {P:Program} {tab:List (Nat×Ty)} {es:List Nat}:∀{pa:List (Nat×(Ty×Ty))},Ji9 P tab es pa=true→∀p∈pa,∃tk tv,P.underlying p.1=some (.map tk tv)∧look tab tk=some p.2.1∧look tab tv=some p.2.2∧(Jbb p.2.1=true→Jan tk es=true)
 | [],_,_,h=>by cases h
 | q::r,h,p,hp=>by
  simp only[Ji9,Bool.and_eq_true] at h;rcases List.mem_cons.1 hp with rfl | hp
  · obtain⟨h1,_⟩:=h
    split at h1
    · rename_i tk tv h2
      simp only[Bool.and_eq_true,decide_eq_true_eq] at h1;refine⟨tk,tv,h2,h1.1.1,h1.1.2,fun hk=>?_⟩;have:=h1.2;rw[hk] at this;simpa using this
    · cases h1
  · exact Jj0 h.2 p hp
theorem JnJ {P:Program} {tab:List (Nat×Ty)} {es cs ws os ns rs ps qs ls:List Nat} {fs:List (Nat×Fun)} {pa:List (Nat×(Nat×Ty))} {ms:List (Nat×(Ty×Ty))} {ga:Nat→List (Nat×Nat)} {gl gs mz vb vg cf sa vl dd:Nat→Bool} {pes:List (Nat×(Ty×List Stp×Ty))} {gb:Nat→List (Nat×Nat)} {bs:List (Nat×Func)} (h1:tabB P tab tab=true) (h2:∀t∈es,P.eqGuardType P.depth t=false∧P.stoodInHeld t=false∧Jmv P (look tab) es t=true)
 (h3:∀p∈fs,FnOk P p.1 p.2) (h4:P.follows .mixedOrders=true) (h5:JgI P tab pa=true) (h6:Ji7 P ps=true) (h7:Ji8 P qs=true) (h8:Ji9 P tab es ms=true) (h9:∀p∈bs,P.funcs[p.1]?=some p.2∧p.2.body.isNone=false∧(p.2.name== "runtime.NumGoroutine")=false) (h10:∀p∈pes,PeOk P p.1 p.2):EnvOk P {ty:=look tab,eq:=fun n=>Jan n es,fn:=look fs,cut:=fun n=>Jan n cs,win:=fun n=>Jan n ws,one:=fun n=>Jan n os,onc:=fun n=>Jan n ns,pre:=fun n=>Jan n rs,ptr:=fun n=>Jan n ps,psl:=fun n=>Jan n qs,parr:=look pa,mpt:=look ms,lnd:=fun n=>Jan n ls,mfz:=mz,gal:=ga,gld:=gl,gst:=gs,gbd:=gb,bd:=look bs,vbd:=vb,vag:=vg,cfz:=cf,asl:=sa,vld:=vl,ded:=dd,pe:=look pes} where
 ty t τ h:=tabB_ok h1 _ (look_mem h)
 eq t h:=by
  obtain⟨g1,g2,g3⟩:=h2 t (JaH.1 h);refine⟨g1,g2,fun fs' hu f hf=>?_⟩;unfold Jmv at g3;rw[hu] at g3;exact JjX (E:={ty:=look tab,eq:=fun n=>Jan n es,fn:=look fs}) rfl rfl g3 f hf
 fn f F h:=h3 _ (look_mem h)
 mixed:=h4
 pe f q h:=h10 _ (look_mem h)
 bd f fn h:=h9 _ (look_mem h)
 parr t n e h:=Ji6 h5 _ (look_mem h)
 ptr t h:=JjY h6 t (JaH.1 h)
 psl t h:=JjZ h7 t (JaH.1 h)
 mpt t K V h:=Jj0 h8 _ (look_mem h)
structure EL where
 fs:List (Nat×Fun):=[]
 bs:List (Nat×Func):=[]
 es:List Nat:=[]
 cs:List Nat:=[]
 ws:List Nat:=[]
 os:List Nat:=[]
 ns:List Nat:=[]
 rs:List Nat:=[]
 ps:List Nat:=[]
 qs:List Nat:=[]
 ls:List Nat:=[]
 mz:List Nat:=[]
 vb:List Nat:=[]
 vg:List Nat:=[]
 cf:List Nat:=[]
 sa:List Nat:=[]
 vl:List Nat:=[]
 dd:List Nat:=[]
 gl:List Nat:=[]
 gs:List Nat:=[]
 pa:List (Nat×(Nat×Ty)):=[]
 ms:List (Nat×(Ty×Ty)):=[]
 ga:List (Nat×List (Nat×Nat)):=[]
 gb:List (Nat×List (Nat×Nat)):=[]
 pes:List (Nat×(Ty×List Stp×Ty)):=[]
def EL.E (l:EL) (tab:List (Nat×Ty)):Env:=
 {ty:=look tab,eq:=fun n=>Jan n l.es,fn:=look l.fs,cut:=fun n=>Jan n l.cs,win:=fun n=>Jan n l.ws,one:=fun n=>Jan n l.os,onc:=fun n=>Jan n l.ns,pre:=fun n=>Jan n l.rs,ptr:=fun n=>Jan n l.ps,psl:=fun n=>Jan n l.qs,parr:=look l.pa,mpt:=look l.ms,lnd:=fun n=>Jan n l.ls,mfz:=fun n=>Jan n l.mz,gal:=fun n=>(look l.ga n).getD [],gld:=fun n=>Jan n l.gl,gst:=fun n=>Jan n l.gs,gbd:=fun n=>(look l.gb n).getD [],bd:=look l.bs,vbd:=fun n=>Jan n l.vb,vag:=fun n=>Jan n l.vg,cfz:=fun n=>Jan n l.cf,asl:=fun n=>Jan n l.sa,vld:=fun n=>Jan n l.vl,ded:=fun n=>Jan n l.dd,pe:=look l.pes}
def EL.chk (l:EL) (P:Program) (tab:List (Nat×Ty)):Bool:=
 (l.es.all fun t=>!P.eqGuardType P.depth t&&(!P.stoodInHeld t&&Jmv P (look tab) l.es t))&&(JgI P tab l.pa&&(Ji7 P l.ps&&(Ji8 P l.qs&&Ji9 P tab l.es l.ms)))
theorem wpOps_v {P:Program} {ops:Array Oper} {Q:Exit→Act→World→Prop} {i:Nat} {rest:List Nat} {a:Act} {w:World} {o:Oper} {u:Value} (ho:ops[i]?=some o) (hg:o.guard=none)
 (hr:(execOp a.eval o).run P w= .ok (.value u) w) (k:wpOps P ops Q rest (a.put o.dst u) w):wpOps P ops Q (i::rest) a w:=by
 unfold wpOps;rw[ho];simp only[Region.wanted,hg,if_true]
 left
 unfold Oper.wp;rw[hr];exact k
def stB:Ty→Ty
 | .st b=>b
 | t=>t
def JgJ (P:Program):List (Nat×(Ty×List Stp×Ty))→Prop
 | []=>True
 | p::r=>PeOk P p.1 p.2∧JgJ P r
theorem JhM {P:Program}:∀{l:List (Nat×(Ty×List Stp×Ty))},JgJ P l→∀p∈l,PeOk P p.1 p.2
 | [],_,_,hp=>by cases hp
 | q::l,h,p,hp=>by
  rcases List.mem_cons.1 hp with rfl | hp
  · exact h.1
  · exact JhM h.2 p hp
theorem EL.ok {P:Program} {tab:List (Nat×Ty)} {l:EL} (h1:tabB P tab tab=true) (h4:P.follows .mixedOrders=true) (hc:l.chk P tab=true) (hf:JgH P l.fs) (hb:JhX P l.bs) (hp:JgJ P l.pes):EnvOk P (l.E tab):=by
 simp only[EL.chk,Bool.and_eq_true,List.all_eq_true,Bool.not_eq_true'] at hc
 exact JnJ (mz:=fun n=>Jan n l.mz) (ga:=fun n=>(look l.ga n).getD []) (gl:=fun n=>Jan n l.gl) (gs:=fun n=>Jan n l.gs) (gb:=fun n=>(look l.gb n).getD []) (vb:=fun n=>Jan n l.vb) (vg:=fun n=>Jan n l.vg) (cf:=fun n=>Jan n l.cf) (sa:=fun n=>Jan n l.sa) (vl:=fun n=>Jan n l.vl) (dd:=fun n=>Jan n l.dd)
  h1 (fun t ht=>hc.1 t ht) (JhK hf) h4 hc.2.1 hc.2.2.1 hc.2.2.2.1 hc.2.2.2.2 (JhL hb) (JhM hp)
def bdF (f:Func):Code:=match f.body with | some c=>c | none=>.skip
abbrev RT (rs:List RV) (ps:List Par):Type:=Ds ((rs.map RV.pm).map (·.1)++ioTys ps)
theorem fnW {P:Program} {E:Env} {f:Nat} {fn:Func} {ps:List Par} {rs:List RV} {an:An (RT rs ps)} (hE:EnvOk P E) (hf:P.funcs[f]?=some fn)
 (hk:(fn.body.isSome&&(!(fn.name== "runtime.NumGoroutine")&&(Nat.ble ps.length fn.ntmps&&rvB E fn.results.toList rs)))=true) (hob:obF E fn.ntmps (bdF fn) ps rs an)
 {F:Ds (ps.map Par.ty)→Option (RT rs ps)} (hF:∀x,evF E fn.ntmps (bdF fn) ps rs an x=F x):FnOk P f {args:=ps,res:=rs.map RV.pm,f:=F}:=by
 simp only[Bool.and_eq_true,Bool.not_eq_true'] at hk;obtain⟨h1,h2,h3,h4⟩:=hk;obtain⟨c,hc⟩:=Option.isSome_iff_exists.1 h1;have hb:bdF fn=c:=by unfold bdF;rw[hc]
 rw[hb] at hob hF;exact JnQ hE hf hc h2 h3 h4 hob hF
def JfB (P:Program):List (Nat×Func)→Prop
 | []=>True
 | p::r=>P.funcs[p.1]?=some p.2∧JfB P r
def bsB (l:List (Nat×Func)):Bool:=l.all fun p=>!p.2.body.isNone&&!(p.2.name== "runtime.NumGoroutine")
theorem JfB.ok {P:Program}:∀{l:List (Nat×Func)},JfB P l→bsB l=true→JhX P l
 | [],_,_=>trivial
 | p::r,h,hb=>by
  simp only[bsB,List.all_cons,Bool.and_eq_true,Bool.not_eq_true'] at hb;exact⟨⟨h.1,hb.1.1,hb.1.2⟩,JfB.ok h.2 hb.2⟩
@[reducible] def fg (ps:List Par) (rs:List RV) (F:Ds (ps.map Par.ty)→Option (RT rs ps)):Fun:={args:=ps,res:=rs.map RV.pm,f:=F}
abbrev AG (g:Fun):Type 1:=An (Ds (g.res.map (·.1)++ioTys g.args))
theorem obw {E:Env} {R:Type} {an:An R} {N:Nat} {g:Tg} {Kn:S→Option R} {Ke:Nat→S→Option R} {Kr:S→Option R} (h:an.flat=true):ob E an N g Kn Ke Kr:=JbB E an N g Kn Ke Kr h
theorem fnX {P:Program} {tab:List (Nat×Ty)} (h1:tabB P tab tab=true) (h4:P.follows .mixedOrders=true) {f:Nat} {fn:Func} {ps:List Par} {rs:List RV} {F:Ds (ps.map Par.ty)→Option (RT rs ps)} (l:EL) (an:An (RT rs ps))
 (hA:JgH P l.fs) (hf:P.funcs[f]?=some fn) (hob:obF (l.E tab) fn.ntmps (bdF fn) ps rs an)
 (hk:(l.chk P tab&&(bsB l.bs&&(fn.body.isSome&&(!(fn.name== "runtime.NumGoroutine")&&(Nat.ble ps.length fn.ntmps&&rvB (l.E tab) fn.results.toList rs)))))=true:=by kernel_rfl)
 (hF:∀x,evF (l.E tab) fn.ntmps (bdF fn) ps rs an x=F x:=by intro x;kernel_rfl) (hB:JfB P l.bs:=by exact trivial) (hP:JgJ P l.pes:=by exact trivial):FnOk P f (fg ps rs F):=by
 simp only[Bool.and_eq_true] at hk;exact fnW (EL.ok h1 h4 hk.1 hA (hB.ok hk.2.1) hP) hf (by simp only[Bool.and_eq_true];exact hk.2.2) hob hF
theorem fnY {P:Program} {tab:List (Nat×Ty)} (h1:tabB P tab tab=true) (h4:P.follows .mixedOrders=true) {f:Nat} {fn:Func} {ps:List Par} {rs:List RV} {F:Ds (ps.map Par.ty)→Option (RT rs ps)} (l:EL) (an:An (RT rs ps))
 (hA:JgH P l.fs) (hf:P.funcs[f]?=some fn)
 (hk:(an.flat&&(l.chk P tab&&(bsB l.bs&&(fn.body.isSome&&(!(fn.name== "runtime.NumGoroutine")&&(Nat.ble ps.length fn.ntmps&&rvB (l.E tab) fn.results.toList rs))))))=true:=by kernel_rfl)
 (hF:∀x,evF (l.E tab) fn.ntmps (bdF fn) ps rs an x=F x:=by intro x;kernel_rfl) (hB:JfB P l.bs:=by exact trivial) (hP:JgJ P l.pes:=by exact trivial):FnOk P f (fg ps rs F):=by
 rw[Bool.and_eq_true] at hk;exact fnX h1 h4 l an hA hf (obw hk.1) hk.2 hF hB hP
noncomputable def cloneM {α:Type} (x:List α):Option (List α):=bif decide (x.length≤lim) then some x else none
theorem clone_eq {α:Type} (x:List α):(bif List.isEmpty x then both (some []) ((chk (decide (([]:List α).length+x.length≤lim))).bind fun _=>some ([]++x))
 else (chk (decide (([]:List α).length+x.length≤lim))).bind fun _=>some ([]++x))=cloneM x:=by
 cases x with
 | nil=>
  show both (some []) (some [])=some [];exact both_self _
 | cons a l=>
  show (chk (decide (0+(a::l).length≤lim))).bind (fun _=>some (a::l))=_;unfold cloneM chk;rw[Nat.zero_add];cases decide ((a::l).length≤lim)<;>rfl
end Go.Re
namespace Go.Re
set_option linter.unusedVariables false
set_option linter.unusedSimpArgs false
theorem Jee {α β:Type} {f:α→Option β}:∀{l:List α} {xs:List β},l.mapM f=some xs→xs.length=l.length∧∀i (h:i<l.length) (h':i<xs.length),f l[i]=some xs[i]
 | [],xs,h=>by
  simp at h;subst h;exact⟨rfl,fun i h=>by simp at h⟩
 | a::l,xs,h=>by
  rw[List.mapM_cons] at h;obtain⟨y,h1,h2⟩:=Option.bind_eq_some_iff.1 h;obtain⟨ys,h3,h4⟩:=Option.bind_eq_some_iff.1 h2;cases h4;obtain⟨h5,h6⟩:=Jee h3;refine⟨by simp[h5],fun i hi hi'=>?_⟩;cases i with
  | zero=>exact h1
  | succ i=>exact h6 i (by simpa using hi) (by simpa using hi')
theorem Jfn {α:Type} (p:Nat→α→Prop):∀(n:Nat),(∀i,i<n→∃y,p i y)→∃ys:List α,ys.length=n∧∀i (h:i<ys.length),p i ys[i]
 | 0,_=>⟨[],rfl,fun i h=>by simp at h⟩
 | n+1,h=>by
  obtain⟨ys,h1,h2⟩:=Jfn p n fun i hi=>h i (by omega);obtain⟨y,hy⟩:=h n (by omega);refine⟨ys++[y],by simp[h1],fun i hi=>?_⟩;rcases Nat.lt_or_ge i ys.length with h3 | h3
  · rw[List.getElem_append_left h3];exact h2 i h3
  · have:i=ys.length:=by simp at hi;omega
    subst this;rw[List.getElem_append_right (Nat.le_refl _)];simp[h1] at hy ⊢;exact hy
def JdI:Own:=fun _ _=>none
theorem Jls {k:IntKind} {n:Int} (hg:(Ty.int k).good=true) (h:(Lit.int k n).wf=true):okN k n=true:=by
 simp only[Lit.wf,Bool.and_eq_true,decide_eq_true_eq] at h;obtain⟨h1,h2⟩:=h;cases k<;>first | (simp[Ty.good] at hg;done) | (simp[IntKind.min,IntKind.max,IntKind.signed,IntKind.bits] at h1 h2;simp[okN];omega)
section
variable {P:Program} {ty:Nat→Option Ty} {H:Type} {enc:TypeId×Value→H} {W:World}
theorem Jde {t:TypeId} {d:DataW H}:∀{l:List (DataW H)},d∈l→∀n∈DataW.weights P t d,n∈DataW.weightsAll P t l
 | [],h,_,_=>by cases h
 | x::r,h,n,hn=>by
  unfold DataW.weightsAll;rcases List.mem_cons.1 h with h | h
  · subst h;exact List.mem_append_left _ hn
  · exact List.mem_append_right _ (Jde h n hn)
theorem Jlt {fuel t:Nat} {cs:List Value} {d:DataW H} {ps:List MemPlace} (hd:P.underlying t=some .bool) (h:DataW.trod enc P W 0 (fun _=>true) true (fuel+1) t cs=some (d,ps)):
 ∃b,cs=[.bool b]:=by
 unfold DataW.trod at h;rw[hd] at h;split at h<;>simp_all
theorem Jmw {fuel t:Nat} {cs:List Value} {d:DataW H} {ps:List MemPlace} {k:IntKind} (hd:P.underlying t=some (.int k)) (h:DataW.trod enc P W 0 (fun _=>true) true (fuel+1) t cs=some (d,ps)):
 ∃n,cs=[.int k n]∧(Lit.int k n).wf=true:=by
 unfold DataW.trod at h;rw[hd] at h;split at h<;>simp_all
theorem Jmx {fuel t:Nat} {cs:List Value} {d:DataW H} {ps:List MemPlace} (hd:P.underlying t=some .string) (h:DataW.trod enc P W 0 (fun _=>true) true (fuel+1) t cs=some (d,ps)):
 ∃s:ByteArray,cs=[.string s]∧d= .lit (.string s.data.toList):=by
 unfold DataW.trod at h;rw[hd] at h;split at h<;>simp_all
theorem Jjp {fuel t:Nat} {cs:List Value} {d:DataW H} {ps:List MemPlace} {fs:Array Field} (hd:P.underlying t=some (.struct fs)) (h:DataW.trod enc P W 0 (fun _=>true) true (fuel+1) t cs=some (d,ps)):
 cs.length=P.cellsOf t∧∃xs,(fs.toList.mapM fun f=>DataW.trod enc P W 0 (fun _=>true) true fuel f.type ((cs.drop f.offset).take (P.cellsOf f.type)))=some xs∧d= .agg (xs.map (·.1)):=by
 unfold DataW.trod at h;rw[hd] at h;simp only at h;split at h
 · rename_i hl
   obtain⟨xs,h1,h2⟩:=Option.map_eq_some_iff.1 h;exact⟨hl,xs,h1,by cases h2;rfl⟩
 · cases h
theorem JkQ {fuel t n e:Nat} {cs:List Value} {d:DataW H} {ps:List MemPlace} (hd:P.underlying t=some (.array n e)) (h:DataW.trod enc P W 0 (fun _=>true) true (fuel+1) t cs=some (d,ps)):
 cs.length=P.cellsOf t∧∃xs,((List.range n).mapM fun i=>DataW.trod enc P W 0 (fun _=>true) true fuel e ((cs.drop (i*P.cellsOf e)).take (P.cellsOf e)))=some xs∧d= .agg (xs.map (·.1)):=by
 unfold DataW.trod at h;rw[hd] at h;simp only at h;split at h
 · rename_i hl
   obtain⟨xs,h1,h2⟩:=Option.map_eq_some_iff.1 h;exact⟨hl,xs,h1,by cases h2;rfl⟩
 · cases h
theorem JkR {fuel t e:Nat} {cs:List Value} {d:DataW H} {ps:List MemPlace} (hd:P.underlying t=some (.slice e)) (h:DataW.trod enc P W 0 (fun _=>true) true (fuel+1) t cs=some (d,ps)):
 cs=[.slice none 0 0]∨∃(a:Addr) (len cap:Nat) (xs ys:List (DataW H×List MemPlace)),cs=[.slice (some a) len cap]∧len≤cap∧cap≤maxLen∧d= .slice (xs.map (·.1)) (ys.map (·.1)) ∧
  ((List.range len).mapM fun i=>(W.cells? 0 (a.add (i*P.cellsOf e)) (P.cellsOf e)).bind (DataW.trod enc P W 0 (fun _=>true) true fuel e))=some xs ∧
  ((List.range (cap-len)).mapM fun j=>(W.cells? 0 (a.add ((len+j)*P.cellsOf e)) (P.cellsOf e)).bind (DataW.trod enc P W 0 (fun _=>true) true fuel e))=some ys:=by
 unfold DataW.trod at h;rw[hd] at h;split at h<;>try (first | (rename_i e1 _;cases e1;done) | (rename_i e1;cases e1;done))
 · exact .inl rfl
 · rename_i e' a len cap e1
   cases e1
   right
   simp only[if_true] at h;split at h
   · rename_i hc
     obtain⟨xs,h1,h2⟩:=Option.bind_eq_some_iff.1 h;obtain⟨ys,h3,h4⟩:=Option.map_eq_some_iff.1 h2;exact⟨a,len,cap,xs,ys,rfl,hc.2.1,hc.2.2,by cases h4;rfl,h1,h3⟩
   · cases h
 · cases h
theorem JgK {fuel:Nat} (hcells:∀{t τ},ty t=some τ→P.cellsOf t=τ.size)
 (ih:∀(t:Nat) (τ:Ty) (cs:List Value) (d:DataW H) (ps:List MemPlace),ty t=some τ→DataW.trod enc P W 0 (fun _=>true) true fuel t cs=some (d,ps) →
  (∀n∈DataW.weights P t d,n≤reachBytes)→∃x:τ.D,Jag JdI W τ cs x) {cs:List Value}:
 ∀(fs:List Field) (off:Nat) (b:Ty) (xs:List (DataW H×List MemPlace)),JbG ty off fs b →
  (fs.mapM fun f=>DataW.trod enc P W 0 (fun _=>true) true fuel f.type ((cs.drop f.offset).take (P.cellsOf f.type)))=some xs →
  (∀n∈DataW.weightsEach P (fs.map (·.type)) (xs.map (·.1)),n≤reachBytes)→cs.length=off+b.size→∃x:b.D,Jag JdI W b (cs.drop off) x
 | [],off,.unit,_,_,_,_,hl=>⟨(),List.drop_eq_nil_of_le (by simp[Ty.size] at hl;omega)⟩
 | f::fs,off,.pair a b,xs,⟨h1,h2,_,h3⟩,hm,hw,hl=>by
  rw[List.mapM_cons] at hm;obtain⟨y,h4,h5⟩:=Option.bind_eq_some_iff.1 hm;obtain⟨ys,h6,h7⟩:=Option.bind_eq_some_iff.1 h5;cases h7;simp only[List.map_cons,DataW.weightsEach,List.mem_append] at hw;simp only[Ty.size] at hl;obtain⟨x1,g1⟩:=ih f.type a _ y.1 y.2 h2 h4 (fun n hn=>hw n (.inl hn));obtain⟨x2,g2⟩:=JgK hcells ih fs (off+a.size) b ys h3 h6 (fun n hn=>hw n (.inr hn)) (by omega);refine⟨(x1,x2),(cs.drop off).take a.size,cs.drop (off+a.size),?_,?_,g2⟩
  · rw[←List.drop_drop,List.take_append_drop]
  · rw[h1,hcells h2] at g1;exact g1
 | [],_,.bool,_,h,_,_,_=>h.elim
 | [],_,.str,_,h,_,_,_=>h.elim
 | [],_,.int _,_,h,_,_,_=>h.elim
 | [],_,.pair _ _,_,h,_,_,_=>h.elim
 | [],_,.st _,_,h,_,_,_=>h.elim
 | [],_,.sl _,_,h,_,_,_=>h.elim
 | [],_,.arr _ _,_,h,_,_,_=>h.elim
 | _::_,_,.unit,_,h,_,_,_=>h.elim
 | _::_,_,.bool,_,h,_,_,_=>h.elim
 | _::_,_,.str,_,h,_,_,_=>h.elim
 | _::_,_,.int _,_,h,_,_,_=>h.elim
 | _::_,_,.st _,_,h,_,_,_=>h.elim
 | _::_,_,.sl _,_,h,_,_,_=>h.elim
 | _::_,_,.arr _ _,_,h,_,_,_=>h.elim
theorem Jmy (hty:∀t τ,ty t=some τ→TyOk P ty t τ) (hpos:∀t τ,ty t=some τ→0<P.bytesOf t∧0<τ.size∧τ.isMap=false):
 ∀(fuel t:Nat) (τ:Ty) (cs:List Value) (d:DataW H) (ps:List MemPlace),ty t=some τ→DataW.trod enc P W 0 (fun _=>true) true fuel t cs=some (d,ps) →
  (∀n∈DataW.weights P t d,n≤reachBytes)→∃x:τ.D,Jag JdI W τ cs x:=by
 intro fuel
 induction fuel with
 | zero=>intro t τ cs d ps _ h;cases h
 | succ fuel ih=>
  intro t τ cs d ps ht h hw;have hT:=hty t τ ht
  have hcells:∀{t τ},ty t=some τ→P.cellsOf t=τ.size:=by
   intro t τ ht;obtain⟨i,h1,h2,_⟩:=(hty t τ ht).info;simp[Program.cellsOf,h1,h2]
  have hd:=hT.desc;cases τ with
  | bool=>obtain⟨b,rfl⟩:=Jlt hd h;exact⟨b,rfl⟩
  | str=>
   obtain⟨s,rfl,rfl⟩:=Jmx hd h;refine⟨s.data.toList.map UInt8.toBitVec,s,rfl,rfl,?_⟩;have:=hw s.data.toList.length (by simp[DataW.weights]);have h2:reachBytes≤big:=by decide
   simp only[List.length_map];omega
  | int k=>
   obtain⟨n,rfl,h1⟩:=Jmw hd h;obtain⟨h2,h3⟩:=Jjt (Jls hT.good h1);exact⟨ofI k n,by rw[h2],h3⟩
  | unit=>exact hd.elim
  | pair a b=>exact hd.elim
  | mp k v=>have:=(hpos t _ ht).2.2;cases this
  | st b=>
   obtain⟨fs,hu,hf⟩:=hd;obtain⟨h1,xs,h2,rfl⟩:=Jjp hu h
   have hw:∀n∈DataW.weightsEach P (fs.toList.map (·.type)) (xs.map (·.1)),n≤reachBytes:=by
    intro n hn;exact hw n (by rw[DataW.weights,hu];exact hn)
   obtain⟨x,hx⟩:=JgK (cs:=cs) hcells ih fs.toList 0 b xs hf h2 hw (by rw[h1,hcells ht];simp[Ty.size]);exact⟨x,by rw[List.drop_zero] at hx;exact hx⟩
  | arr n e=>
   obtain⟨te,hu,he⟩:=hd;obtain⟨h1,xs,h2,rfl⟩:=JkQ hu h
   have hw:∀n∈DataW.weightsAll P te (xs.map (·.1)),n≤reachBytes:=by
    intro n hn;exact hw n (by rw[DataW.weights,hu];exact hn)
   obtain⟨h3,h4⟩:=Jee h2;have hlen:xs.length=n:=by simpa using h3
   obtain⟨ys,g1,g2⟩:=Jfn (fun i (y:e.D)=>Jag JdI W e ((cs.drop (i*e.size)).take e.size) y) n (by
    intro i hi;have h5:=h4 i (by simpa using hi) (by omega);simp only[List.getElem_range] at h5;rw[hcells he] at h5;exact ih te e _ _ _ he h5 fun m hm=>hw m (Jde (List.mem_map.2 ⟨_,List.getElem_mem _,rfl⟩) m hm))
   exact⟨ys,g1,by rw[h1,hcells ht];rfl,fun i hi=>g2 i hi⟩
  | sl e=>
   obtain⟨te,hu,he⟩:=hd;rcases JkR hu h with rfl | ⟨a,len,cap,xs,zs,rfl,h1,h2,rfl,h3,h4⟩
   · exact⟨[],none,0,rfl,Nat.le_refl _,by omega,Nat.zero_le _,.inl rfl⟩
   · obtain⟨hb,hs,_⟩:=hpos te e he
     have hwx:∀n∈DataW.weightsAll P te (xs.map (·.1)),n≤reachBytes:=by
      intro n hn;exact hw n (by rw[DataW.weights,hu];simp[hn])
     have hwl:=hw (((xs.map (·.1)).length+(zs.map (·.1)).length)*P.bytesOf te) (by rw[DataW.weights,hu];simp);obtain⟨g1,g2⟩:=Jee h3;obtain⟨k1,k2⟩:=Jee h4;simp only[List.length_range] at g1 k1
     have hlen:len≤big:=by
      have h5:reachBytes≤big:=by decide
      simp only[List.length_map,g1] at hwl;have h6:=Nat.mul_le_mul_left (len+zs.length) hb;omega
     have hmax:cap<9223372036854775808:=by
      have:maxLen<9223372036854775808:=by decide
      omega
     have helem:∀i (hi:i<len),∃es,W.cells? 0 (a.add (i*e.size)) e.size=some es∧∃x:e.D,Jag JdI W e es x:=by
      intro i hi;have h5:=g2 i (by simpa using hi) (by omega);simp only[List.getElem_range,hcells he] at h5;obtain⟨es,h6,h7⟩:=Option.bind_eq_some_iff.1 h5;exact⟨es,h6,ih te e es _ _ he h7 fun m hm=>hwx m (Jde (List.mem_map.2 ⟨_,List.getElem_mem _,rfl⟩) m hm)⟩
     rcases Nat.eq_zero_or_pos cap with hc | hc
     · have:len=0:=by omega
       subst this;exact⟨[],some a,cap,rfl,h1,hmax,Nat.zero_le _,.inl hc⟩
     · have hspot:a.spot=none:=by
        have:∃es,W.cells? 0 (a.add (0*e.size)) e.size=some es:=by
         rcases Nat.eq_zero_or_pos len with h0 | h0
         · subst h0
           have h5:=k2 0 (by simpa using hc) (by omega);simp only[List.getElem_range,hcells he,Nat.add_zero] at h5;obtain⟨es,h6,_⟩:=Option.bind_eq_some_iff.1 h5;exact⟨es,h6⟩
         · obtain⟨es,h6,_⟩:=helem 0 h0;exact⟨es,h6⟩
        obtain⟨es,h6⟩:=this;obtain⟨_,h7,h8⟩:=World.cells?_some h6;have h9:=h8 0 hs;rw[List.getElem?_eq_getElem (by omega)] at h9;simp only[Nat.zero_mul,Addr.add,if_true] at h9;unfold World.cell? at h9;split at h9
        · split at h9
          · cases h9
          · rename_i hn;simpa using hn
        · cases h9
       obtain⟨b,o,sp⟩:=a;have hspot:sp=none:=hspot;subst hspot
       have hadd:∀k,(⟨b,o,none⟩:Addr).add k=⟨b,o+k,none⟩:=by
        intro k;unfold Addr.add;split
        · rename_i h;subst h;rfl
        · rfl
       obtain⟨ys,q1,q2⟩:=Jfn (fun i (y:e.D)=>∃es,W.cells? 0 ⟨b,o+i*e.size,none⟩ e.size=some es∧Jag JdI W e es y) len (by
        intro i hi;obtain⟨es,h6,x,h7⟩:=helem i hi;rw[hadd] at h6;exact⟨x,es,h6,h7⟩)
       refine⟨ys,some ⟨b,o,none⟩,cap,by rw[q1],by omega,hmax,by omega,.inr ⟨b,o,rfl,fun i hi=>?_⟩⟩;obtain⟨es,h6,h7⟩:=q2 i hi;obtain⟨_,h8,h9⟩:=World.cells?_some h6;refine⟨es,h8,fun j v hj=>⟨rfl,?_⟩,h7⟩;have hj':j<es.length:=(List.getElem?_eq_some_iff.1 hj).1;have:=h9 j (by omega)
       have hadd':(⟨b,o+i*e.size,none⟩:Addr).add j=⟨b,o+i*e.size+j,none⟩:=by
        unfold Addr.add;split
        · rename_i h;subst h;rfl
        · rfl
       rw[hadd',hj] at this;exact this
theorem arg_rep (hty:∀t τ,ty t=some τ→TyOk P ty t τ) (hpos:∀t τ,ty t=some τ→0<P.bytesOf t∧0<τ.size∧τ.isMap=false) {t:Nat} {τ:Ty} {v:Value} {d:DataW H} {ps:List MemPlace} {base:Nat}
 (ht:ty t=some τ) (hok:Value.okWide P W .any base t v) (h:DataW.Trod enc P W 0 (fun _=>true) true t v d ps) (hw:∀n∈DataW.weights P t d,n≤reachBytes):∃x:τ.D,Jab JdI W τ v x:=by
 have hT:=hty t τ ht;obtain⟨fuel,hf⟩:=h;obtain⟨x,hx⟩:=Jmy hty hpos fuel t τ _ d ps ht hf hw;refine⟨x,hT.isVal,v.cells.toList,?_,hx⟩;have hd:=hT.desc;unfold Value.okWide at hok
 have plain:(∀cs,v≠ .agg cs)→τ.isAgg=false→v=mkV τ v.cells.toList:=by
  intro hv ha
  have:v.cells=#[v]:=by
   unfold Value.cells;split
   · exact absurd rfl (hv _)
   · rfl
  rw[this];simp[mkV,ha]
 cases τ with
 | bool=>
  have hd:P.underlying t=some .bool:=hd;rw[hd] at hok;refine plain (fun cs e=>?_) rfl;subst e;simp[Cell.okWide,Cell.ok,hd] at hok
 | str=>
  have hd:P.underlying t=some .string:=hd;rw[hd] at hok;refine plain (fun cs e=>?_) rfl;subst e;simp[Cell.okWide,Cell.ok,hd] at hok
 | int k=>
  have hd:P.underlying t=some (.int k):=hd;rw[hd] at hok;refine plain (fun cs e=>?_) rfl;subst e;simp[Cell.okWide,Cell.ok,hd] at hok
 | sl e=>
  obtain⟨te,hd,_⟩:=hd;rw[hd] at hok;refine plain (fun cs e=>?_) rfl;subst e;simp[Cell.okWide,Cell.ok,hd] at hok
 | st b=>
  obtain⟨fs,hd,_⟩:=hd;rw[hd] at hok;obtain⟨cs,rfl,_⟩:=hok;simp[mkV,Ty.isAgg,Value.cells]
 | arr n e=>
  obtain⟨te,hd,_⟩:=hd;rw[hd] at hok;obtain⟨cs,rfl,_⟩:=hok;simp[mkV,Ty.isAgg,Value.cells]
 | unit=>exact hd.elim
 | pair a b=>exact hd.elim
 | mp k v=>have:=(hpos t _ ht).2.2;cases this
def posB (P:Program):List (Nat×Ty)→Bool
 | []=>true
 | p::r=>(Nat.blt 0 (P.bytesOf p.1)&&!p.2.isMap)&&(Nat.blt 0 p.2.size&&posB P r)
theorem posB_ok:∀{l:List (Nat×Ty)},posB P l=true→∀p∈l,0<P.bytesOf p.1∧0<p.2.size∧p.2.isMap=false
 | [],_,_,h=>by cases h
 | q::r,h,p,hp=>by
  simp only[posB,Bool.and_eq_true,Bool.not_eq_true'] at h;rcases List.mem_cons.1 hp with hp | hp
  · subst hp;exact⟨by simpa [Nat.blt_eq] using h.1.1,by simpa [Nat.blt_eq] using h.2.1,h.1.2⟩
  · exact posB_ok h.2.2 p hp
end
end Go.Re
namespace Go.Re
set_option linter.unusedVariables false
set_option linter.unusedSimpArgs false
open Go.RowKit (Below)
def Ty.ok:(τ:Ty)→τ.D→Prop
 | .bool,_=>True
 | .str,x=>x.length≤big
 | .unit,_=>True
 | .int k,x=>okI k x
 | .pair a b,x=>a.ok x.1∧b.ok x.2
 | .st b,x=>b.ok x
 | .sl e,x=>x.length≤big∧∀i (h:i<x.length),e.ok x[i]
 | .arr n e,x=>x.length=n∧∀i (h:i<x.length),e.ok x[i]
 | .mp _ _,_=>True
theorem Jag.okD {own:Own} {w:World}:∀{τ:Ty} {cs:List Value} {x:τ.D},Jag own w τ cs x→τ.ok x
 | .bool,_,_,_=>trivial
 | .str,_,_,⟨_,_,_,h⟩=>h
 | .unit,_,_,_=>trivial
 | .int _,_,_,h=>h.2
 | .pair a b,_,_,⟨_,_,_,h1,h2⟩=>⟨Jag.okD (τ:=a) h1,Jag.okD (τ:=b) h2⟩
 | .st b,_,_,h=>Jag.okD (τ:=b) h
 | .mp _ _,_,_,_=>trivial
 | .arr _ e,_,_,⟨h1,_,h3⟩=>⟨h1,fun i hi=>Jag.okD (τ:=e) (h3 i hi)⟩
 | .sl e,_,_,⟨_,cap,_,h2,_,h4,h5⟩=>⟨h4,fun i hi=>by
  rcases h5 with h5 | ⟨_,_,_,h6⟩
  · omega
  · obtain⟨_,_,_,h7⟩:=h6 i hi;exact Jag.okD (τ:=e) h7⟩
theorem Jab.okD {own:Own} {w:World} {τ:Ty} {v:Value} {x:τ.D} (h:Jab own w τ v x):τ.ok x:=let ⟨_,_,_,h⟩:=h;h.okD
theorem law_calls {P:Program} {f:Nat} {ps:List Par} {F:Ds (ps.map Par.ty)→Option (Ds ([Ty.bool]++ioTys ps))} (hf:FnOk P f {args:=ps,res:=[(.bool,.view)],f:=F}) {W:World} {vs:List Value}
 {x:Ds (ps.map Par.ty)} {r:Ds ([Ty.bool]++ioTys ps)} (ha:JbD JdI W (fun _=>0) (fun _=>(0,0,0)) 0 ps vs x) (hr:F x=some r):
 Calls P f vs.toArray W fun e W'=>e= .returned (.bool (dsL [Ty.bool] (ioTys ps) r))∧Below W.heap.size W W':=by
 refine (hf.calls W JdI (fun _=>0) (fun _=>0) (fun _=>(0,0,0)) vs x r ha (fun i j _ h=>absurd h (Nat.lt_irrefl 0)) hr).mono fun e W' h=>?_;obtain⟨own,us,he,hfr,_,hret,_⟩:=h;obtain⟨u,hu,hu'⟩:=hret;have hu':Jab own W' .bool u (dsL [Ty.bool] (ioTys ps) r):=hu';refine⟨?_,⟨hfr.os,hfr.tape,hfr.output,hfr.size,fun b hb=>hfr.block b hb fun o ⟨_,hi⟩=>?_⟩⟩
 · rw[he,hu,Jab.bool.1 hu'];rfl
 · obtain⟨_,h1,h2⟩:=hi
   simp at h2
theorem sized_arg {H:Type} {P:Program} {ts:List TypeId} {ds:List (DataW H)} (h:(DataW.weightsEach P ts ds).all (·≤reachBytes)=true) (j:Nat) {t:TypeId} {d:DataW H} (ht:ts[j]?=some t) (hd:ds[j]?=some d):
 ∀n∈DataW.weights P t d,n≤reachBytes:=fun n hn=>by
 have:=List.all_eq_true.1 h _ (DataW.weights_mem_each ht hd n hn);simpa using this
end Go.Re
namespace Go.Re
set_option linter.unusedVariables false
set_option linter.unusedSimpArgs false
theorem JnK {α:Type} (l:List α) (n:Nat):ix l (n:Int)=l[n]?:=by simp[ix]
theorem ix_at {α:Type} (l:List α) (n:Nat) (h:n<l.length):ix l (n:Int)=some l[n]:=by rw[JnK,List.getElem?_eq_getElem h]
theorem chk_true {b:Bool} (h:b=true):chk b=some ():=by rw[h];rfl
theorem chk_dec {p:Prop} [Decidable p] (h:p):chk (decide p)=some ():=chk_true (decide_eq_true h)
theorem w64_succ (n:Nat) (h:n<9223372036854775807):w64 ((n:Int)+1)=((n+1:Nat):Int):=by rw[w64_in]<;>omega
theorem jn_inl {A R:Type} (a:A) (k:A→Option R):jn (some (.inl a)) k=k a:=rfl
theorem Jn0 {A R:Type} (r:R) (k:A→Option R):jn (some (.inr r)) k=some r:=rfl
theorem inLen_ok {i:Int} {n:Nat} (h:0≤i) (h2:i<n):inLen i n=true:=by simp[inLen,h,h2]
theorem JnS {i n:Nat} (h:i<n):inLen (i:Int) n=true:=inLen_ok (by omega) (by omega)
theorem big_lt {n:Nat} (h:n<18446744073709551616):n<Big:=h
def nv:List (BitVec 8)→Nat
 | []=>0
 | c::r=>c.toNat+256*nv r
theorem JkS:∀l:List (BitVec 8),nv l<256^l.length
 | []=>by simp[nv]
 | c::r=>by
  have:=JkS r;have h:=c.isLt;simp only[nv,List.length_cons,Nat.pow_succ];omega
theorem JhN:∀a b:List (BitVec 8),nv (a++b)=nv a+256^a.length*nv b
 | [],b=>by simp[nv]
 | c::r,b=>by
  have:=JhN r b;simp only[List.cons_append,nv,this,List.length_cons,Nat.pow_succ,Nat.mul_add];rw[Nat.mul_comm (256^r.length) 256,Nat.mul_assoc];omega
theorem JnV {l:List (BitVec 8)} (h:l.length≤8):nv l<18446744073709551616:=by
 have h1:=JkS l;have h2:256^l.length≤256^8:=Nat.pow_le_pow_right (by decide) h;have h3:(256:Nat)^8=18446744073709551616:=by decide
 omega
theorem Jlu (i:Nat):(256:Nat)^i=2^(8*i):=by
 rw[show (256:Nat)=2^8 from rfl,←Nat.pow_mul]
def leN (k:Nat) (x:BitVec 64):List (BitVec 8):=(List.range k).map fun i=>(x >>> (8*i)).setWidth 8
theorem JkT (k:Nat) (x:BitVec 64):(leN k x).length=k:=by simp[leN]
theorem Jmz (k:Nat) (x:BitVec 64):leN (k+1) x=leN k x++[(x >>> (8*k)).setWidth 8]:=by
 simp[leN,List.range_succ]
theorem JnW (k:Nat) (x:BitVec 64) (i:Nat) (h:i<k):(leN k x)[i]?=some ((x >>> (8*i)).setWidth 8):=by
 simp[leN,h]
theorem JnL (x:BitVec 64):∀k,nv (leN k x)=x.toNat%256^k
 | 0=>by simp[leN,nv];omega
 | k+1=>by
  rw[Jmz,JhN,JnL x k,JkT];simp only[nv,Nat.mul_zero,Nat.add_zero,BitVec.toNat_setWidth,BitVec.toNat_ushiftRight,Nat.shiftRight_eq_div_pow,←Jlu];rw[show (2:Nat)^8=256 from rfl,Nat.pow_succ,Nat.mod_mul]
theorem JnX (x:BitVec 64) (c:BitVec 8) (v:Nat) (hx:x.toNat=v) (hv:v<72057594037927936):((x <<< 8) ||| c.setWidth 64).toNat=c.toNat+256*v:=by
 have hc:=c.isLt
 rw[BitVec.toNat_or,BitVec.toNat_shiftLeft,BitVec.toNat_setWidth,hx,Nat.shiftLeft_eq,Nat.mod_eq_of_lt (by omega),Nat.mod_eq_of_lt (by omega),
  show v*2^8=2^8*v by omega,←Nat.two_pow_add_eq_or_of_lt (by omega)]
 omega
theorem JnR (x:BitVec 64) (c:BitVec 8) (v:Nat) (hx:x.toNat=v) (hv:v<72057594037927936):((x*256#64)+c.setWidth 64).toNat=c.toNat+256*v:=by
 have hc:=c.isLt;rw[BitVec.toNat_add,BitVec.toNat_mul,BitVec.toNat_setWidth,hx,show (256#64).toNat=256 from rfl,Nat.mod_eq_of_lt (a:=v*256) (by omega),Nat.mod_eq_of_lt (a:=c.toNat) (by omega)];rw[Nat.mod_eq_of_lt (by omega)];omega
theorem Jn1 (x:BitVec 64) (c:BitVec 8) (v i:Nat) (hx:x.toNat=v) (hi:i<8) (hv:v<256^i):(x ||| (c.setWidth 64 <<< (8*i))).toNat=v+256^i*c.toNat:=by
 have hc:=c.isLt;rw[Jlu] at hv ⊢
 have h1:c.toNat*2^(8*i)<2^64:=by
  have h2:c.toNat*2^(8*i)<2^8*2^(8*i):=Nat.mul_lt_mul_of_pos_right (by omega) (Nat.two_pow_pos _);rw[←Nat.pow_add] at h2;have h3:(2:Nat)^(8+8*i)≤2^64:=Nat.pow_le_pow_right (by decide) (by omega);omega
 rw[BitVec.toNat_or,BitVec.toNat_shiftLeft,BitVec.toNat_setWidth,hx,Nat.mod_eq_of_lt (a:=c.toNat) (by omega),Nat.shiftLeft_eq,Nat.mod_eq_of_lt h1,
  Nat.mul_comm c.toNat,Nat.or_comm,←Nat.two_pow_add_eq_or_of_lt hv]
 omega
theorem Jn3 {l:List (BitVec 8)} (h:l.length<8):nv l<72057594037927936:=by
 have h1:=JkS l;have h2:256^l.length≤256^7:=Nat.pow_le_pow_right (by decide) (by omega);have h3:(256:Nat)^7=72057594037927936:=by decide
 omega
theorem JnT {x:BitVec 64} {v:Nat} (h:x.toNat=v):x=BitVec.ofNat 64 v:=by
 rw[←h];simp
theorem JnM (p:List (BitVec 8)) (i:Nat) (h:i<p.length):nv (p.take (i+1)).reverse=p[i].toNat+256*nv (p.take i).reverse:=by
 rw[List.take_add_one,List.getElem?_eq_getElem h,List.reverse_append];rfl
theorem JnY:((lim:Nat):Int)=2147483648:=rfl
theorem le_lim {n:Nat} (h:n≤2147483648):n≤lim:=h
theorem Jn2 {α:Type} (a b:List α) (y z:α):(a++z::b).set a.length y=a++y::b:=by
 rw[List.set_append_right _ _ (Nat.le_refl _)];simp
end Go.Re
