/- The library of the reflection: an evaluator of the program's code, and that it is sound. -/
import Derived.Test.YthnpgnabfcaaiaaGreatLib1
import Derived.Orders
import Derived.WideKeyRuns
import Derived.Laws.IdiomRangeMap
namespace Go.Re
set_option linter.unusedVariables false
set_option linter.unusedSimpArgs false
open Go.RowKit (Below)
section
variable {P:Program} {E:Env} {N:Nat} {Z:Base} {own:Own} {β:Jai} {σ:S} {a:Act} {w:World} {o:Oper}
theorem Jd2 {x:Option Operand} {v:Option Int} (h:(x=none∧v=none)∨∃op kd i,x=some op∧a.eval op= .int kd i∧v=some i):
 (x.map a.eval=none∧v=none)∨∃kd i,x.map a.eval=some (.int kd i)∧v=some i:=by
 rcases h with ⟨rfl,rfl⟩ | ⟨op,kd,i,rfl,h,rfl⟩
 · exact .inl ⟨rfl,rfl⟩
 · exact .inr ⟨kd,i,by simp[h],rfl⟩
theorem St.thawBox (h:St N Z own β σ a w) {s ver:Nat} {τ:Ty} {x:τ.D} (hm:σ.mem s= .box ver τ x) {b o:Nat} {cs:List Value} (hb:β s= .pointer (some ⟨b,o,none⟩)) (hr:Jef Z own w s b o cs) {n:Nat} (hn:cs.length=n):
 ∃own',St N Z own' β (σ.set s (.gone ver)) a w∧Keeps own own' w w∧∀j v,cs[j]?=some v→own' b (o+j)=none∧w.cell? ⟨b,o+j,none⟩=some v:=by
 have hown:∀b' o',(b'=b∧o≤o'∧o'<o+n)→own b' o'=some s∧Z.wr b' o':=by
  rintro b' o' ⟨rfl,h1,h2⟩;obtain⟨g1,g2,_⟩:=hr (o'-o) cs[o'-o] (List.getElem?_eq_getElem (by omega));rw[show o+(o'-o)=o' by omega] at g1 g2;exact⟨g1,g2⟩
 have hk:Keeps own (JbL own b o n) w w:=by
  suffices hk0:∀b' o',own b' o'=none→JbL own b o n b' o'=none from ⟨fun b' o' v h1 h2=>⟨hk0 _ _ h1,h2⟩,fun r es c h1 h2=>⟨hk0 _ _ h1,h2⟩⟩
  intro b' o' h1;unfold JbL;split
  · rfl
  · exact h1
 have hks:∀s',s'≠s→Jah s' own (JbL own b o n) w w:=by
  intro s' hs'
  have keep:∀b' o',own b' o'=some s'→JbL own b o n b' o'=some s':=by
   intro b' o' h1;unfold JbL;split
   · rename_i hc;rw[(hown b' o' hc).1] at h1;cases h1;exact absurd rfl hs'
   · exact h1
  exact⟨fun b' o' v h1 h2=>⟨keep _ _ h1,h2,rfl⟩,fun r es c h1 h2=>⟨keep _ _ h1,h2⟩⟩
 refine⟨JbL own b o n,h.go (Frm.refl _ _ _) ?_ hk ?_ rfl ?_ (JaO rfl hks),hk,fun j v hj=>⟨?_,(hr j v hj).2.2.1⟩⟩
 · intro b' o' hlt hio
   unfold JbL;split
   · rename_i hc
     rcases (hown b' o' hc).2 with h4 | h4
     · omega
     · exact absurd h4 hio
   · rfl
 · intro s'
   show Evo β β s' (σ.mem s') (upd σ.mem s _ s');rw[Jad];split
   · rename_i e;subst e;rw[hm];exact⟨Nat.le_refl _,fun _ _ _ he _=>by (cases he),fun _ _ _ _ he _=>by (cases he),fun _ _ _ he _=>by (cases he)⟩
   · exact Evo.same _ rfl
 · intro s'
   show Jaj Z _ w β s' (upd σ.mem s _ s');rw[Jad];split
   · trivial
   · rename_i e;exact (h.mems s').keeps hk (hks s' e) (fun _ _ e=>e) rfl
 · have hj':j<cs.length:=(List.getElem?_eq_some_iff.1 hj).1
   unfold JbL;rw[if_pos ⟨rfl,by omega,by omega⟩]
theorem Je8 {n:Nat} {e:Ty} {b o:Nat} {cs:List Value} {x:List e.D} (hn:n≤65536) (hr:Jag own w (.arr n e) cs x)
 (hc:∀j v,cs[j]?=some v→own b (o+j)=none∧w.cell? ⟨b,o+j,none⟩=some v):Jab own w (.sl e) (.slice (some ⟨b,o,none⟩) n n) x:=by
 obtain⟨r1,r2,r3⟩:=hr;have:=JaX.frozen (own:=own) (w:=w) (e:=e) (a:=some ⟨b,o,none⟩) (cap:=n) (x:=x) (by omega) (by omega) (by simp only[big];omega) (.inr ⟨b,o,rfl,fun i hi=>?_⟩)
 · rw[r1] at this;exact this
 · have hie:i*e.size+e.size≤n*e.size:=by rw[←Nat.succ_mul];exact Nat.mul_le_mul_right _ (by omega)
   refine⟨(cs.drop (i*e.size)).take e.size,by rw[List.length_take,List.length_drop];omega,fun j v hj=>?_,r3 i hi⟩;rw[List.getElem?_take] at hj;split at hj
   · rw[List.getElem?_drop] at hj
     have:=hc _ _ hj
     rwa [←Nat.add_assoc] at this
   · cases hj
theorem Jk3 (hE:EnvOk P E) (h:St N Z own β σ a w) {t:Nat} {v:V} {u:Value} {lo hi:Option Operand} {lo' hi':Option Int} {r:V×S} (hu:Jac own w β σ.mem v u)
 (hlo:(lo.map a.eval=none∧lo'=none)∨∃kd i,lo.map a.eval=some (.int kd i)∧lo'=some i) (hhi:(hi.map a.eval=none∧hi'=none)∨∃kd i,hi.map a.eval=some (.int kd i)∧hi'=some i)
 (he:execOp a.eval o=(do pure (.value (←Instr.sliceAt t u (lo.map a.eval) (hi.map a.eval) none)))) (hr:(Jh2 E t v lo' hi').run σ=some r):Did P N Z o a w r.2 r.1:=by
 have bounds:∀{n:Nat},Jcs lo' hi' n=true→∃l m:Nat,l≤m∧m≤n∧(∀{α:Type} (xs:List α),xs.length=n→Jdr xs lo' hi'=(xs.take m).drop l) ∧
  ∀(isSl:Bool) (cap:Nat),n≤cap→(Instr.sliceBounds isSl n cap (lo.map a.eval) (hi.map a.eval) none).run P w= .ok (l,m,cap) w:=by
  intro n hok;obtain⟨l,m,h1,h2,h3,h4,h5,h6,h7⟩:=JdS hok;refine⟨l,m,h5,h6,h7,fun isSl cap hc=>JbE h5 h6 hc ?_ ?_⟩
  · rcases hlo with ⟨e1,e2⟩ | ⟨kd,i,e1,e2⟩
    · exact .inl ⟨e1,h2 e2⟩
    · exact .inr ⟨kd,by rw[e1,h1 i e2]⟩
  · rcases hhi with ⟨e1,e2⟩ | ⟨kd,i,e1,e2⟩
    · exact .inl ⟨e1,h4 e2⟩
    · exact .inr ⟨kd,by rw[e1,h3 i e2]⟩
 unfold Jh2 at hr;split at hr
 · rename_i ht
   obtain⟨x,h1,h2⟩:=JdP h hu hr;obtain⟨s,rfl,h3,h4⟩:=Jab.str.1 h1.str;obtain⟨y,h5,h6⟩:=Jal h2;have hl:x.length=s.size:=by rw[←h3];simp
   obtain⟨l,m,g1,g2,g3,g4⟩:=bounds (Jap h5);have hd:P.underlying t=some .string:=(hE.ty t _ ht).desc;rw[h6];refine Jae (exec_v he (u:=.string (s.extract l m)) (w':=w) ?_) h ?_
   · have:=g4 false s.size (by omega)
     rw[hl] at this;simp[Instr.sliceAt,run_underlying hd,Instr.slice,this]
   · rw[g3 x rfl]
     refine Jab.str.2 ⟨_,rfl,?_,?_⟩
     · rw[←h3]
       simp[ByteArray.data_extract,List.extract_eq_take_drop,List.map_take,List.map_drop,List.drop_take]
     · simp;omega
 · rename_i e ht
   split at hr
   ·
    obtain⟨y,h5,h6⟩:=Jal hr;have hu:u= .slice none 0 0:=hu;obtain⟨l,m,g1,g2,g3,g4⟩:=bounds (Jap h5);obtain⟨te,hd,hte⟩:=(hE.ty t _ ht).desc;have hT:=hE.ty te e hte;obtain rfl:m=0:=by omega
    obtain rfl:l=0:=by omega
    rw[h6];refine Jae (exec_v he (u:=.slice none 0 0) (w':=w) ?_) h rfl;have:=g4 true 0 (Nat.le_refl _);rw[hu];simp[Instr.sliceAt,run_underlying hd,Instr.slice,this,hT.cells]
   rename_i hnn;obtain⟨x,fr,hf,hA,hR,h2⟩:=JbK h hu hr;obtain⟨y,h5,h6⟩:=Jal h2;obtain⟨own1,s1,k1,v1⟩:=h.freeze hf;have hV:=v1 _ _ _ hA;obtain⟨ad,cap,q,rfl,e2,e3,e4,e5⟩:=hR.q;obtain⟨l,m,g1,g2,g3,g4⟩:=bounds (Jap h5);obtain⟨te,hd,hte⟩:=(hE.ty t _ ht).desc;have hT:=hE.ty te e hte;rw[h6];simp only[JaD];refine Jae (exec_v he (u:=.slice (if cap=l then ad else ad.map (·.add (l*e.size))) (m-l) (cap-l)) (w':=w) ?_) s1 ?_
   · have:=g4 true cap e2
     simp[Instr.sliceAt,run_underlying hd,Instr.slice,this,hT.cells]
   · rw[g3 x rfl]
     exact (hV.piece g1 g2).2.2
 ·
  rename_i n e hp;obtain⟨te,q2,q3⟩:=(hE.ty t _ hp).desc;have hT:=hE.ty te e q3;unfold Jh1 at hr;split at hr
  · rename_i s ver
    simp only[M.run] at hr;split at hr
    · rename_i ver' τb x hm
      split at hr
      · rename_i hc
        obtain⟨hc1,hc2⟩:=hc;subst hc1;split at hr
        · rename_i xs hx
          obtain⟨eq,hx⟩:=cast?_some hx;subst eq;have hx:x=xs:=hx;subst hx;obtain⟨y,h5,h6⟩:=Jal hr;obtain⟨l,m,g1,g2,g3,g4⟩:=bounds (Jap h5);obtain⟨b,o,k1,k2⟩:=hu.2 (.arr n e) x hm;rw[Jao,Nat.add_zero] at k2;have hmm:=h.mems s;rw[hm] at hmm;obtain⟨hv,b',o',cs,k3,k4,k5⟩:=hmm;rw[k1] at k3;cases k3;obtain⟨r1,r2,r3⟩:=k5;obtain⟨own1,s1,kk,hrow⟩:=h.thawBox hm k1 k4 r2
          have hV:Jab own1 w (.sl e) (.slice (some ⟨b,o,none⟩) n n) x:=by
           have:=JaX.frozen (own:=own1) (w:=w) (e:=e) (a:=some ⟨b,o,none⟩) (cap:=n) (x:=x) (by omega) (by omega) (by simp only[big];omega) (.inr ⟨b,o,rfl,fun i hi=>?_⟩)
           · rw[r1] at this;exact this
           · have hie:i*e.size+e.size≤n*e.size:=by rw[←Nat.succ_mul];exact Nat.mul_le_mul_right _ (by omega)
             refine⟨(cs.drop (i*e.size)).take e.size,by rw[List.length_take,List.length_drop];omega,fun j v hj=>?_,(r3 i hi).keeps kk⟩;rw[List.getElem?_take] at hj;split at hj
             · rw[List.getElem?_drop] at hj
               have:=hrow _ _ hj
               rwa [←Nat.add_assoc] at this
             · cases hj
          rw[h6];refine Jae (exec_v he (u:=.slice (if n=l then some ⟨b,o,none⟩ else (some ⟨b,o,none⟩:Option Addr).map (·.add (l*e.size))) (m-l) (n-l)) (w':=w) ?_) s1 ?_
          · have:=g4 false n (Nat.le_refl _)
            rw[k2];simp[Instr.sliceAt,run_underlying q2,this,hT.cells,Instr.sureAddr];split<;>rfl
          · rw[g3 x r1]
            exact (hV.piece g1 g2).2.2
        · cases hr
      · cases hr
    · cases hr
  ·
   rename_i s ver i p;simp only[M.run] at hr;split at hr
   · rename_i ver' τe xs hm
     split at hr
     · rename_i hc
       obtain⟨hc1,hc2⟩:=hc;subst hc1;split at hr
       rotate_left
       · cases hr
       rename_i ys hys;obtain⟨x,hx,hy⟩:=Option.bind_eq_some_iff.1 hys;obtain⟨z,h5,h6⟩:=Jal hr;obtain⟨l,m,g1,g2,g3,g4⟩:=bounds (Jap h5);obtain⟨hi,b,off,nn,cc,k1,k2⟩:=hu.2 τe xs .tail hm;have hmm:=h.mems s;rw[hm] at hmm;obtain⟨ad,cap,k3,k4,k5,k6,k7⟩:=hmm;rw[k1] at k3;cases k3;obtain⟨hx1,hx2⟩:=List.getElem?_eq_some_iff.1 hx;rcases k7 with ⟨k8,_⟩ | ⟨b',off',k8,k9,_⟩
       · omega
       cases k8;obtain⟨es,q1,q2',q3'⟩:=k9 i hx1;rw[hx2] at q3';obtain⟨q4,q5⟩:=Jbv τe x es p _ ys q3' hy
       have hV:=Je8 (own:=own) (w:=w) (b:=b) (o:=off+i*τe.size+offP τe p) hc2 q5 (fun j v hj=>by
        rw[List.getElem?_take] at hj;split at hj
        · rw[List.getElem?_drop] at hj
          have:=q2' _ _ hj
          rwa [←Nat.add_assoc] at this
        · cases hj)
       rw[h6];refine Jae (exec_v he (u:=.slice (if n=l then some ⟨b,off+i*τe.size+offP τe p,none⟩ else (some ⟨b,off+i*τe.size+offP τe p,none⟩:Option Addr).map (·.add (l*e.size))) (m-l) (n-l)) (w':=w) ?_) h ?_
       · have:=g4 false n (Nat.le_refl _)
         rw[k2];simp[Instr.sliceAt,run_underlying q2,this,hT.cells,Instr.sureAddr];split<;>rfl
       · rw[g3 ys q5.1]
         exact (hV.piece g1 g2).2.2
     · cases hr
   · cases hr
  · rename_i τ x
    split at hr
    · rename_i xs hx
      split at hr
      · rename_i hc2
        obtain⟨eq,hx⟩:=cast?_some hx;subst eq;have hx:x=xs:=hx;subst hx;obtain⟨y,h5,h6⟩:=Jal hr;obtain⟨l,m,g1,g2,g3,g4⟩:=bounds (Jap h5);obtain⟨_,b,off,cs,k2,k3,q5⟩:=hu;have hV:=Je8 (own:=own) (w:=w) (b:=b) (o:=off) hc2 q5 k3;rw[h6];refine Jae (exec_v he (u:=.slice (if n=l then some ⟨b,off,none⟩ else (some ⟨b,off,none⟩:Option Addr).map (·.add (l*e.size))) (m-l) (n-l)) (w':=w) ?_) h ?_
        · have:=g4 false n (Nat.le_refl _)
          rw[k2];simp[Instr.sliceAt,run_underlying q2,this,hT.cells,Instr.sureAddr];split<;>rfl
        · rw[g3 x q5.1]
          exact (hV.piece g1 g2).2.2
      · cases hr
    · cases hr
  · cases hr
 · cases hr
theorem JmU (hE:EnvOk P E) (h:St N Z own β σ a w) {t:Nat} {v:V} {u:Value} {hi:Option Operand} {hi':Option Int} {r:V×S} (hu:Jac own w β σ.mem v u)
 (hhi:(hi.map a.eval=none∧hi'=none)∨∃kd i,hi.map a.eval=some (.int kd i)∧hi'=some i)
 (he:execOp a.eval o=(do pure (.value (←Instr.sliceAt t u none (hi.map a.eval) none)))) (hr:(Jlx E t v hi').run σ=some r):Did P N Z o a w r.2 r.1:=by
 unfold Jlx at hr;split at hr
 · rename_i e ht
   split at hr
   · rename_i s ver hx
     simp only[M.run] at hr;split at hr
     · rename_i ver' e' xs hm
       split at hr
       · rename_i hc;subst hc
         split at hr
         · rename_i xs' hxs
           obtain⟨eq,hxs⟩:=cast?_some hxs;cases eq;have hxs:xs=xs':=hxs;subst hxs;obtain⟨y,h5,h6⟩:=Jal hr;have h5:=Jap h5;simp only[Bool.and_eq_true,decide_eq_true_eq] at h5;obtain⟨h5,h7⟩:=h5;obtain⟨m,rfl⟩:∃m:Nat,hx=(m:Int):=⟨hx.toNat,by omega⟩;have hml:m≤xs.length:=by omega
           obtain⟨te,hd,hte⟩:=(hE.ty t _ ht).desc;have hT:=hE.ty te e hte;have hv:u=β s:=hu.2 e xs .full hm;have hmm:=h.mems s;rw[hm] at hmm;obtain⟨ad,cap,f1,f2,f3,f4,f5⟩:=hmm;rw[h6];have hlen:(xs.take m).length=m:=by simp;omega
           have hst:St N Z own (upd β s (.slice ad m cap)) (σ.set s (.own (nextVer (σ.mem s)) e (xs.take m) .full)) a w:=by
            refine h.newSite (Frm.refl _ _ _) (fun _ _ _ _=>rfl) (Keeps.refl _ _) (fun _ _=>Jah.refl _ _ _) (fun _ _ e=>e) (fun β'=>Evo.newOwn _ _ _ _) ?_;refine⟨ad,cap,by rw[Jad,if_pos rfl,hlen],by omega,f3,by omega,f5.imp id ?_⟩;rintro⟨b,off,g1,g2,g3⟩;refine⟨b,off,g1,fun i hi=>?_,g3⟩;obtain⟨es,q1,q2,q3⟩:=g2 i (by omega);exact⟨es,q1,q2,by rw[List.getElem_take];exact q3⟩
           refine Jae (exec_v he (u:=.slice ad m cap) (w':=w) ?_) hst ?_
           · have hb:(Instr.sliceBounds true xs.length cap none (hi.map a.eval) none).run P w= .ok (0,m,cap) w:=by
              refine JbE (Nat.zero_le _) hml f2 (.inl ⟨rfl,rfl⟩) ?_;rcases hhi with ⟨_,e2⟩ | ⟨kd,i,e1,e2⟩
              · cases e2
              · cases e2;exact .inr ⟨kd,e1⟩
             rw[hv,f1];simp only[Instr.sliceAt,Sem.run_bind,run_underlying hd,Result.andThen_ok,Instr.slice,hb,hT.cells,Sem.run_pure,Nat.zero_mul,Nat.sub_zero];cases ad with
             | none=>simp
             | some x=>simp[Addr.add]
           · have:=Ja0 own w β σ.mem s (.slice ad m cap) (σ.mem s) e (xs.take m) .full
             exact this
         · cases hr
       · cases hr
     · cases hr
   · cases hr
 · cases hr
theorem JmV (hE:EnvOk P E) (h:St N Z own β σ a w) {t:Nat} {v:V} {u:Value} {lo:Option Operand} {lo':Option Int} {r:V×S} (hu:Jac own w β σ.mem v u)
 (hlo:(lo.map a.eval=none∧lo'=none)∨∃kd i,lo.map a.eval=some (.int kd i)∧lo'=some i)
 (he:execOp a.eval o=(do pure (.value (←Instr.sliceAt t u (lo.map a.eval) none none)))) (hr:(Jly E t v lo').run σ=some r):Did P N Z o a w r.2 r.1:=by
 unfold Jly at hr;split at hr
 · rename_i e ht
   split at hr
   · rename_i s ver hx
     simp only[M.run] at hr;split at hr
     · rename_i ver' e' xs hm
       split at hr
       · rename_i hc
         obtain⟨hc1,hc2⟩:=hc;subst hc1;subst hc2;obtain⟨y,h5,h6⟩:=Jal hr;have h5:=Jap h5;simp only[Bool.and_eq_true,decide_eq_true_eq] at h5;obtain⟨h5,h7⟩:=h5;obtain⟨l,rfl⟩:∃l:Nat,hx=(l:Int):=⟨hx.toNat,by omega⟩;have hll:l≤xs.length:=by omega
         obtain⟨te,hd,hte⟩:=(hE.ty t _ ht).desc;have hT:=hE.ty te e' hte;have hv:u=β s:=hu.2 e' xs .full hm;have hmm:=h.mems s;rw[hm] at hmm;obtain⟨ad,cap,f1,f2,f3,f4,f5⟩:=hmm;rw[h6];refine Jae (exec_v he (u:=.slice (if cap=l then ad else ad.map (·.add (l*e'.size))) (xs.length-l) (cap-l)) (w':=w) ?_) h ⟨hu.1,fun τ ys m hm'=>?_⟩
         · have hb:(Instr.sliceBounds true xs.length cap (lo.map a.eval) none none).run P w= .ok (l,xs.length,cap) w:=by
            refine JbE hll (Nat.le_refl _) f2 ?_ (.inl ⟨rfl,rfl⟩);rcases hlo with ⟨_,e2⟩ | ⟨kd,i,e1,e2⟩
            · cases e2
            · cases e2;exact .inr ⟨kd,e1⟩
           rw[hv,f1];simp[Instr.sliceAt,run_underlying hd,Instr.slice,hb,hT.cells]
         · have hm':σ.mem s= .own ver τ ys m:=hm'
           rw[hm] at hm';cases hm';exact fun _=>⟨by omega,ad,cap,f1,by simp⟩
       · cases hr
     · cases hr
   · cases hr
 · cases hr
theorem JmW (hE:EnvOk P E) (h:St N Z own β σ a w) {t:Nat} {v:V} {u:Value} {hi:Option Operand} {hi':Option Int} {r:V×S} (hu:Jac own w β σ.mem v u)
 (hhi:(hi.map a.eval=none∧hi'=none)∨∃kd i,hi.map a.eval=some (.int kd i)∧hi'=some i)
 (he:execOp a.eval o=(do pure (.value (←Instr.sliceAt t u none (hi.map a.eval) none)))) (hr:(Jlz E t v hi').run σ=some r):Did P N Z o a w r.2 r.1:=by
 unfold Jlz at hr;split at hr
 · rename_i e ht
   split at hr
   · rename_i s ver hx
     simp only[M.run] at hr;split at hr
     · rename_i ver' e' xs hm
       split at hr
       · rename_i hc
         obtain⟨hc1,hc2⟩:=hc;subst hc1;subst hc2;obtain⟨y,h5,h6⟩:=Jal hr;have h5:=Jap h5;simp only[Bool.and_eq_true,decide_eq_true_eq] at h5;obtain⟨h5,h7⟩:=h5;obtain⟨l,rfl⟩:∃l:Nat,hx=(l:Int):=⟨hx.toNat,by omega⟩;have hll:l≤xs.length:=by omega
         obtain⟨te,hd,hte⟩:=(hE.ty t _ ht).desc;have hT:=hE.ty te e' hte;have hv:u=β s:=hu.2 e' xs .full hm;have hmm:=h.mems s;rw[hm] at hmm;obtain⟨ad,cap,f1,f2,f3,f4,f5⟩:=hmm;rw[h6];refine Jae (exec_v he (u:=.slice ad l cap) (w':=w) ?_) h ⟨hu.1,fun τ ys m hm'=>?_⟩
         · have hb:(Instr.sliceBounds true xs.length cap none (hi.map a.eval) none).run P w= .ok (0,l,cap) w:=by
            refine JbE (Nat.zero_le _) hll f2 (.inl ⟨rfl,rfl⟩) ?_;rcases hhi with ⟨_,e2⟩ | ⟨kd,i,e1,e2⟩
            · cases e2
            · cases e2;exact .inr ⟨kd,e1⟩
           rw[hv,f1];simp only[Instr.sliceAt,Sem.run_bind,run_underlying hd,Result.andThen_ok,Instr.slice,hb,hT.cells,Sem.run_pure,Nat.zero_mul,Nat.sub_zero];cases ad with
           | none=>simp
           | some x=>simp[Addr.add]
         · have hm':σ.mem s= .own ver τ ys m:=hm'
           rw[hm] at hm';cases hm';exact fun _=>⟨by omega,ad,cap,f1,rfl⟩
       · cases hr
     · cases hr
   · cases hr
 · cases hr
theorem JmX (hE:EnvOk P E) (h:St N Z own β σ a w) {t:Nat} {v:V} {u:Value} {lo hi:Option Operand} {lo' hi':Option Int} {r:V×S} (hu:Jac own w β σ.mem v u)
 (hlo:(lo.map a.eval=none∧lo'=none)∨∃kd i,lo.map a.eval=some (.int kd i)∧lo'=some i) (hhi:(hi.map a.eval=none∧hi'=none)∨∃kd i,hi.map a.eval=some (.int kd i)∧hi'=some i)
 (he:execOp a.eval o=(do pure (.value (←Instr.sliceAt t u (lo.map a.eval) (hi.map a.eval) none)))) (hr:(JlA E t v lo' hi').run σ=some r):Did P N Z o a w r.2 r.1:=by
 unfold JlA at hr;split at hr
 · rename_i n e ht
   obtain⟨te,q2,q3⟩:=(hE.ty t _ ht).desc;have hT:=hE.ty te e q3;split at hr
   · rename_i hc
     obtain⟨hn2,hn,rfl,rfl⟩:=hc;have e1:lo.map a.eval=none:=hlo.elim (·.1) (fun ⟨_,_,_,e⟩=>by cases e);have e2:hi.map a.eval=none:=hhi.elim (·.1) (fun ⟨_,_,_,e⟩=>by cases e)
     have go:∀{ad:Addr},u= .pointer (some ad)→(execOp a.eval o).run P w= .ok (.value (.slice (some ad) n n)) w:=by
      intro ad hu;refine exec_v he ?_;have hb:(Instr.sliceBounds false n n none none none).run P w= .ok (0,n,n) w:=JbE (Nat.zero_le _) (Nat.le_refl _) (Nat.le_refl _) (.inl ⟨rfl,rfl⟩) (.inl ⟨rfl,rfl⟩);rw[hu,e1,e2];have hn0:¬n=0:=by omega
      simp[Instr.sliceAt,run_underlying q2,hb,hT.cells,Instr.sureAddr,hn0,Addr.add]
     split at hr
     · rename_i s ver p
       simp only[M.run] at hr;split at hr
       · rename_i ver' τb x hm
         split at hr
         · rename_i hc2
           obtain⟨rfl,hp⟩:=hc2;rw[Jaq hr];obtain⟨b,off,g1,g2⟩:=hu.2 τb x hm;exact Jae (go g2) h ⟨_,rfl,by rw[←g2];exact hu⟩
         · cases hr
       · cases hr
     · rename_i s ver i p
       simp only[M.run] at hr;split at hr
       · rename_i ver' τe xs m hm
         split at hr
         · rename_i hc2
           obtain⟨rfl,hp⟩:=hc2;rw[Jaq hr];obtain⟨_,b,off,nn,cc,g1,g2⟩:=hu.2 τe xs m hm;exact Jae (go g2) h ⟨_,rfl,by rw[←g2];exact hu⟩
         · cases hr
       · cases hr
     · cases hr
   · cases hr
 · cases hr
theorem JlX (hE:EnvOk P E) (h:St N Z own β σ a w) {t:Nat} {v:V} {u:Value} {lo hi:Option Operand} {lo' hi':Option Int} {r:V×S} (hu:Jac own w β σ.mem v u)
 (hlo:(lo.map a.eval=none∧lo'=none)∨∃kd i,lo.map a.eval=some (.int kd i)∧lo'=some i) (hhi:(hi.map a.eval=none∧hi'=none)∨∃kd i,hi.map a.eval=some (.int kd i)∧hi'=some i)
 (he:execOp a.eval o=(do pure (.value (←Instr.sliceAt t u (lo.map a.eval) (hi.map a.eval) none)))) (hr:(Jj3 E t v lo' hi').run σ=some r):Did P N Z o a w r.2 r.1:=by
 unfold Jj3 at hr;split at hr
 · rename_i e ht
   split at hr
   · rename_i s ver k l hh
     simp only[M.run] at hr;split at hr
     · rename_i ver' e' xs hm
       split at hr
       · rename_i hc
         obtain⟨rfl,rfl⟩:=hc;obtain⟨_,h5,h6⟩:=Jal hr;have h5:=Jap h5;simp only[Bool.and_eq_true,decide_eq_true_eq] at h5;obtain⟨⟨h5,h7⟩,h8⟩:=h5;subst h8;obtain⟨l,rfl⟩:∃m:Nat,l=(m:Int):=⟨l.toNat,by omega⟩;have hll:l≤xs.length:=by omega
         obtain⟨te,hd,hte⟩:=(hE.ty t _ ht).desc;have hT:=hE.ty te e' hte;obtain⟨g0,ad,cap,g1,g2⟩:=hu.2 e' xs .full hm rfl;have hmm:=h.mems s;rw[hm] at hmm;obtain⟨ad',cap',f1,f2,f3,f4,f5⟩:=hmm;rw[g1] at f1;cases f1;rw[h6];refine Jae (exec_v he (u:=.slice (if cap=l then ad else ad.map (·.add (l*e'.size))) (xs.length-l) (cap-l)) (w':=w) ?_) h ⟨hu.1,fun τ ys m hm'=>?_⟩
         · have hb:(Instr.sliceBounds true k cap (lo.map a.eval) (hi.map a.eval) none).run P w= .ok (l,xs.length,cap) w:=by
            rcases hlo with ⟨_,e2⟩ | ⟨kd,i,e1,e2⟩
            · cases e2
            cases e2;rcases hhi with ⟨_,e4⟩ | ⟨kd',i',e3,e4⟩
            · cases e4
            cases e4;rw[e1,e3];simp[Instr.sliceBounds,Jcv,hll,f2]
           rw[g2];simp[Instr.sliceAt,run_underlying hd,Instr.slice,hb,hT.cells]
         · have hm':σ.mem s= .own ver τ ys m:=hm'
           rw[hm] at hm';cases hm';exact fun _=>⟨by omega,ad,cap,g1,by simp⟩
       · cases hr
     · cases hr
   · cases hr
 · cases hr
theorem JmY (hE:EnvOk P E) (h:St N Z own β σ a w) {t:Nat} {v:V} {u:Value} {lo:Option Operand} {lo':Option Int} {k k':IntKind} {hi mx:Int} {ho mo:Value} {r:V×S} (hu:Jac own w β σ.mem v u)
 (hlo:(lo.map a.eval=none∧lo'=none)∨∃kd i,lo.map a.eval=some (.int kd i)∧lo'=some i) (hho:ho= .int k hi) (hmo:mo= .int k' mx)
 (he:execOp a.eval o=(do pure (.value (←Instr.sliceAt t u (lo.map a.eval) (some ho) (some mo))))) (hr:(JlB E t v lo' hi mx).run σ=some r):Did P N Z o a w r.2 r.1:=by
 unfold JlB at hr;split at hr
 · rename_i e ht
   split at hr
   · rename_i s ver
     simp only[M.run] at hr;split at hr
     · rename_i ver' e' xs hm
       split at hr
       · rename_i hc
         obtain⟨rfl,rfl⟩:=hc;obtain⟨_,h5,h6⟩:=Jal hr;have h5:=Jap h5;simp only[Bool.and_eq_true,decide_eq_true_eq] at h5;obtain⟨⟨h5,h7⟩,h8⟩:=h5;obtain⟨l,m,b1,b2,b3,b4,b5,b6,b7⟩:=JdS h5;obtain rfl:hi=(m:Int):=b3 hi rfl;obtain⟨x,rfl⟩:∃x:Nat,mx=(x:Int):=⟨mx.toNat,by omega⟩;have hmx:m≤x:=by omega
         have hxl:x≤xs.length:=by omega
         obtain⟨te,hd,hte⟩:=(hE.ty t _ ht).desc;have hT:=hE.ty te e' hte;have hv:u=β s:=hu.2 e' xs .full hm;have hmm:=h.mems s;rw[hm] at hmm;obtain⟨ad,cap,f1,f2,f3,f4,f5⟩:=hmm
         have hb:(Instr.sliceBounds true xs.length cap (lo.map a.eval) (some ho) (some mo)).run P w= .ok (l,m,x) w:=by
          rw[hho,hmo]
          have h1:lo.map a.eval=none∧l=0∨∃k,lo.map a.eval=some (.int k (l:Int)):=by
           rcases hlo with ⟨c1,c2⟩ | ⟨kd,i,c1,c2⟩
           · exact .inl ⟨c1,b2 c2⟩
           · exact .inr ⟨kd,by rw[c1,b1 i c2]⟩
          rcases h1 with ⟨e1,rfl⟩ | ⟨k2,e1⟩<;>rw[e1] <;>
           simp[Instr.sliceBounds,Jcv,b5,hmx,Nat.le_trans hxl f2]
         rw[h6];refine Jae (exec_v he (u:=.slice (if x=l then ad else ad.map (·.add (l*e'.size))) (m-l) (x-l)) (w':=w) ?_) h trivial
         rw[hv,f1];simp[Instr.sliceAt,run_underlying hd,Instr.slice,hb,hT.cells]
       · cases hr
     · cases hr
   · cases hr
 · cases hr
theorem JlY (h:St N Z own β σ a w) {v:V} {u:Value} {r:V×S} (hu:Jac own w β σ.mem v u) (he:execOp a.eval o=pure (.value u)) (hr:(JlC v).run σ=some r):Did P N Z o a w r.2 r.1:=by
 unfold JlC at hr;split at hr
 · rename_i s ver k
   simp only[M.run] at hr;split at hr
   · rename_i ver' e xs hm
     split at hr
     · rename_i hc
       subst hc;obtain⟨_,_,h6⟩:=Jal hr;obtain⟨g0,ad,cap,g1,g2⟩:=hu.2 e xs .full hm rfl;have hmm:=h.mems s;rw[hm] at hmm;obtain⟨ad',cap',f1,f2,f3,f4,f5⟩:=hmm;rw[g1] at f1;cases f1;rw[h6];have hlen:(xs.take k).length=k:=by simp;omega
       have hst:St N Z own (upd β s (.slice ad k cap)) (σ.set s (.own (nextVer (σ.mem s)) e (xs.take k) .full)) a w:=by
        refine h.newSite (Frm.refl _ _ _) (fun _ _ _ _=>rfl) (Keeps.refl _ _) (fun _ _=>Jah.refl _ _ _) (fun _ _ e=>e) (fun β'=>Evo.newOwn _ _ _ _) ?_;refine⟨ad,cap,by rw[Jad,if_pos rfl,hlen],by omega,f3,by omega,f5.imp id ?_⟩;rintro⟨b,off,g1,g2,g3⟩;refine⟨b,off,g1,fun i hi=>?_,g3⟩;obtain⟨es,q1,q2,q3⟩:=g2 i (by omega);exact⟨es,q1,q2,by rw[List.getElem_take];exact q3⟩
       refine Jae (u:=u) (w':=w) (by rw[he];rfl) hst ?_;rw[g2];exact Ja0 own w β σ.mem s (.slice ad k cap) (σ.mem s) e (xs.take k) .full
     · cases hr
   · cases hr
 · rw[Jaq hr]
   exact Jae (by rw[he];rfl) h hu
theorem Jjd (hE:EnvOk P E) (h:St N Z own β σ a w) {d t:Nat} {v:V} {u:Value} {lo hi:Option Operand} {lo' hi':Option Int} {r:V×S} (hu:Jac own w β σ.mem v u)
 (hlo:(lo.map a.eval=none∧lo'=none)∨∃kd i,lo.map a.eval=some (.int kd i)∧lo'=some i) (hhi:(hi.map a.eval=none∧hi'=none)∨∃kd i,hi.map a.eval=some (.int kd i)∧hi'=some i)
 (he:execOp a.eval o=(do pure (.value (←Instr.sliceAt t u (lo.map a.eval) (hi.map a.eval) none)))) (hr:(JfP E d t v lo' hi').run σ=some r):Did P N Z o a w r.2 r.1:=by
 unfold JfP at hr;cases hasl:E.asl d with
 | true=>rw[hasl] at hr;exact JmX hE h hu hlo hhi he hr
 | false=>
 rw[hasl,cond_false] at hr;cases hc:E.cut d with
 | true=>
  rw[hc] at hr;simp only[cond_true] at hr;rcases hlo with ⟨e1,rfl⟩ | ⟨kd,i,e1,rfl⟩
  · rw[e1] at he
    exact JmU hE h hu hhi he hr
  · cases hr
 | false=>
  rw[hc] at hr;simp only[cond_false] at hr;cases hw:E.win d with
  | true=>
   rw[hw] at hr;simp only[cond_true] at hr;rcases hhi with ⟨e1,rfl⟩ | ⟨kd,i,e1,rfl⟩
   · rw[e1] at he
     exact JmV hE h hu hlo he hr
   · exact JlX hE h hu hlo (.inr ⟨kd,i,e1,rfl⟩) he hr
  | false=>
   rw[hw] at hr;simp only[cond_false] at hr;cases hp:E.pre d with
   | true=>
    rw[hp] at hr;simp only[cond_true] at hr;rcases hlo with ⟨e1,rfl⟩ | ⟨kd,i,e1,rfl⟩
    · rw[e1] at he
      exact JmW hE h hu hhi he hr
    · cases hr
   | false=>
    rw[hp] at hr;exact Jk3 hE h hu hlo hhi he hr
theorem JfU {n cap l m:Nat} (hl:l≤m) (hm:m≤n) (hc:n≤cap) {lo:Option Value} {k k':IntKind} (h1:lo=none∧l=0∨∃k,lo=some (.int k (l:Int))):
 (Instr.sliceBounds true n cap lo (some (.int k (m:Int))) (some (.int k' (m:Int)))).run P w= .ok (l,m,m) w:=by
 rcases h1 with ⟨rfl,rfl⟩ | ⟨k2,rfl⟩ <;>
  simp[Instr.sliceBounds,Jcv,hl,Nat.le_trans hm hc]
theorem Jab.piece3 {e:Ty} {ad:Option Addr} {n cap:Nat} {x:List e.D} (h:Jab own w (.sl e) (.slice ad n cap) x) {l m:Nat} (h1:l≤m) (h2:m≤n):
 n=x.length∧n≤cap∧Jab own w (.sl e) (.slice (if m=l then ad else ad.map (·.add (l*e.size))) (m-l) (m-l)) ((x.take m).drop l):=by
 obtain⟨a',cap',e1,e2,e3,e4,e5⟩:=Jab.sl.1 h;cases e1
 have:Jab own w (.sl e) (.slice ad m m) (x.take m):=by
  have hlen:(x.take m).length=m:=by simp;omega
  refine Jab.sl.2 ⟨ad,m,by rw[hlen],by omega,by omega,by omega,?_⟩;rcases e5 with e6 | ⟨b,o,rfl,e6⟩
  · left;omega
  · right
    refine⟨b,o,rfl,fun i hi=>?_⟩;obtain⟨es,g1,g2,g3⟩:=e6 i (by omega);exact⟨es,g1,g2,by rw[List.getElem_take];exact g3⟩
 have h3:=(this.piece h1 (Nat.le_refl m)).2.2;rw[List.take_take,Nat.min_self] at h3;exact⟨rfl,e2,h3⟩
theorem Jkp (hE:EnvOk P E) (h:St N Z own β σ a w) {d t:Nat} {v:V} {u:Value} {lo:Option Operand} {lo':Option Int} {k k':IntKind} {hi mx:Int} {ho mo:Value} {r:V×S} (hu:Jac own w β σ.mem v u)
 (hlo:(lo.map a.eval=none∧lo'=none)∨∃kd i,lo.map a.eval=some (.int kd i)∧lo'=some i) (hho:ho= .int k hi) (hmo:mo= .int k' mx)
 (he:execOp a.eval o=(do pure (.value (←Instr.sliceAt t u (lo.map a.eval) (some ho) (some mo))))) (hr:(JgL E d t v lo' hi mx).run σ=some r):Did P N Z o a w r.2 r.1:=by
 unfold JgL at hr;split at hr
 · rename_i e ht
   obtain⟨x,fr,hf,hA,hR,h2⟩:=JbK h hu hr;simp only[Jjq,M.run] at h2;obtain⟨_,h50,h6⟩:=Option.map_eq_some_iff.1 h2;have h51:=Jap h50;simp only[Bool.and_eq_true,decide_eq_true_eq] at h51;obtain⟨h5,h7⟩:=h51;clear h50;subst h7;obtain⟨own1,s1,k1,v1⟩:=h.freeze hf;have hV:=v1 _ _ _ hA;obtain⟨ad,cap,q,rfl,e2,e3,e4,e5⟩:=hR.q;obtain⟨l,m,b1,b2,b3,b4,b5,b6,b7⟩:=JdS h5;obtain rfl:hi=(m:Int):=b3 hi rfl;obtain⟨te,hd,hte⟩:=(hE.ty t _ ht).desc;have hT:=hE.ty te e hte;have hP:=hV.piece3 b5 b6;subst h6;rw[JeG,b7 x rfl];have hlen:((x.take m).drop l).length=m-l:=by simp;omega
   have hrun:(Instr.sliceAt t (.slice ad x.length cap) (lo.map a.eval) (some ho) (some mo)).run P w= .ok (.slice (if m=l then ad else ad.map (·.add (l*e.size))) (m-l) (m-l)) w:=by
    have hb:(Instr.sliceBounds true x.length cap (lo.map a.eval) (some ho) (some mo)).run P w= .ok (l,m,m) w:=by
     rw[hho,hmo];refine JfU b5 b6 e2 ?_;rcases hlo with ⟨c1,c2⟩ | ⟨kd,i,c1,c2⟩
     · exact .inl ⟨c1,b2 c2⟩
     · exact .inr ⟨kd,by rw[c1,b1 i c2]⟩
    simp[Instr.sliceAt,run_underlying hd,Instr.slice,hb,hT.cells]
   generalize hval:(Value.slice (if m=l then ad else ad.map (·.add (l*e.size))) (m-l) (m-l))=val at hrun hP
   obtain⟨ad',cap',c1,c2,c3,c4,c5⟩:=Jab.sl.1 hP.2.2;have c1:val= .slice ad' ((x.take m).drop l).length cap':=by cases c1;rfl
   have hcap:cap'=((x.take m).drop l).length:=by rw[←hval] at c1;injection c1 with _ _ c;rw[hlen];exact c.symm
   have hver:nextVer ((Jaz σ fr).mem (Jaa d 0))=nextVer (σ.mem (Jaa d 0)):=JdQ fr hf.weak (Jaa d 0)
   have hst:St N Z own1 (upd β (Jaa d 0) val) ((Jaz σ fr).set (Jaa d 0) (.own (nextVer ((Jaz σ fr).mem (Jaa d 0))) e ((x.take m).drop l) .tail)) a w:=by
    refine s1.newSite (Frm.refl _ _ _) (fun _ _ _ _=>rfl) (Keeps.refl _ _) (fun _ _=>Jah.refl _ _ _) (fun _ _ e=>e) (fun β'=>Evo.newOwn _ _ _ _) ?_;refine⟨ad',cap',by rw[Jad,if_pos rfl];exact c1,c2,c3,c4,?_⟩;rcases c5 with c5 | ⟨b,o',c6,c7⟩
    · exact .inl ⟨c5,fun h=>by cases h⟩
    · exact .inr ⟨b,o',c6,c7,fun j j1 j2=>by rw[hcap] at j2;omega⟩
   refine Jae (exec_v he hrun) (by rw[hver] at hst;exact hst) ?_;have:=Ja0 own1 w β (Jaz σ fr).mem (Jaa d 0) val ((Jaz σ fr).mem (Jaa d 0)) e ((x.take m).drop l) .tail;rw[hver] at this;exact this
 · cases hr
theorem JaB.of_arr {n:Nat} {e:Ty} {cs:List Value} {x:List e.D} (h:Jag own w (.arr n e) cs x):JaB own w e cs x∧x.length=n∧cs.length=n*e.size:=
 ⟨⟨by rw[h.1,h.2.1];exact Nat.le_refl _,h.2.2⟩,h.1,h.2.1⟩
theorem Jik {α:Type} (z:List α):∀(n j:Nat),((List.replicate n z).flatten)[j]?=if j<n*z.length then z[j%z.length]? else none
 | 0,j=>by simp
 | n+1,j=>by
  rw[List.replicate_succ,List.flatten_cons];rcases Nat.lt_or_ge j z.length with h | h
  · rw[List.getElem?_append_left h,if_pos (by rw[Nat.succ_mul];omega),Nat.mod_eq_of_lt h]
  · rw[List.getElem?_append_right h,Jik z n]
    have e1:(j-z.length)%z.length=j%z.length:=(Nat.mod_eq_sub_mod h).symm;rw[e1];by_cases h2:j-z.length<n*z.length
    · rw[if_pos h2,if_pos (by rw[Nat.succ_mul];omega)]
    · rw[if_neg h2,if_neg (by rw[Nat.succ_mul];omega)]
theorem JfV {τ:Ty} (hv:τ.isVal=true) (hg:τ.good=true) (n:Nat):(Array.range (n*τ.size)).map (fun i=>((mkV τ (zeroC τ)).cells)[i%((mkV τ (zeroC τ)).cells).size]!)=(zeroC (.arr n τ)).toArray:=by
 have hz:=Jat (own:=fun _ _=>none) (w:=default) hg;have hc:=Ja1 hv hz;have hl:=hz.length;have hcs:(mkV τ (zeroC τ)).cells=(zeroC τ).toArray:=Array.ext' hc;rw[hcs];apply Array.ext';simp only[Array.toList_map,Array.toList_range];show _=(List.replicate n (zeroC τ)).flatten;apply List.ext_getElem?;intro j;rw[List.getElem?_map,Jik,hl];by_cases hj:j<n*τ.size
 · have hs:0<τ.size:=by
    rcases Nat.eq_zero_or_pos τ.size with h0 | h0
    · rw[h0,Nat.mul_zero] at hj;omega
    · exact h0
   have hm:j%τ.size<(zeroC τ).length:=by rw[hl];exact Nat.mod_lt _ hs
   rw[List.getElem?_range hj,Option.map_some,if_pos hj,List.getElem?_eq_getElem hm];simp[hl,List.getElem?_eq_getElem hm]
 · rw[List.getElem?_eq_none (by simp;omega),if_neg hj]
   rfl
theorem JgX (h:St N Z own β σ a w) {d:Nat} {w':World} {τ:Ty} {xs:List τ.D} {c:List Value} (ha:Alloc1 w w' c) (hr:JaB own w τ c xs) (cap:Nat) (h1:xs.length≤cap)
 (h2:cap<9223372036854775808) (h3:xs.length≤big) (h4:c.length=cap*τ.size)
 (hrun:(execOp a.eval o).run P w= .ok (.value (.slice (some ⟨w.heap.size,0,none⟩) xs.length cap)) w'):
 Did P N Z o a w (σ.set d (.own (nextVer (σ.mem d)) τ xs .full)) (.ref d (nextVer (σ.mem d))):=
 Jae hrun (h.newRow ha d hr cap h1 h2 h3 h4) (Ja0 _ _ _ _ _ _ _ _ _ _)
theorem JlZ (hE:EnvOk P E) (h:St N Z own β σ a w) {d t:Nat} {e:Ty} {k k':IntKind} {n c:Int} (ht:E.ty t=some (.sl e)) (hc:(decide (0≤n)&&decide (n≤c)&&decide (c≤(lim:Int)))=true)
 (he:execOp a.eval o=(do pure (.value (←Instr.makeSlice t (.int k n) (.int k' c))))):
 Did P N Z o a w (σ.set (Jaa d 0) (.own (nextVer (σ.mem (Jaa d 0))) e (List.replicate n.toNat e.zero) .full)) (.ref (Jaa d 0) (nextVer (σ.mem (Jaa d 0)))):=by
 rw[Bool.and_eq_true,Bool.and_eq_true] at hc;have h0:0≤n:=of_decide_eq_true hc.1.1;have h1:n≤c:=of_decide_eq_true hc.1.2;have h2:c≤2147483648:=of_decide_eq_true hc.2;obtain⟨te,hd,hte⟩:=(hE.ty t _ ht).desc;have hT:=hE.ty te e hte;obtain⟨i,g1,g2,g3,g4⟩:=hT.info;have hz:=JfV hT.isVal hT.good c.toNat;have w1:w64 n=n:=w64_in (by omega) (by omega);have w2:w64 c=c:=w64_in (by omega) (by omega);unfold w64 at w1 w2;have hrepz:=Jat (own:=own) (w:=w) (τ:=.arr c.toNat e) hT.good;obtain⟨q1,q2,q3⟩:=JaB.of_arr hrepz;have hlen:(List.replicate n.toNat e.zero).length=n.toNat:=by simp
 have hbytes:¬((i.bytes:Int)*c>2^48):=by
  have:(i.bytes:Int)*c≤32768*2147483648:=Int.mul_le_mul (by omega) h2 (by omega) (by omega);omega
 have el:JaB own w e (zeroC (.arr c.toNat e)) (List.replicate n.toNat e.zero):=by
  refine⟨?_,?_⟩
  · rw[hlen,q3];exact Nat.mul_le_mul_right _ (by omega)
  · intro j hj
    rw[hlen] at hj;have hx:(Ty.zero (.arr c.toNat e)).length=c.toNat:=q2;have:=q1.2 j (by rw[hx];omega);have e1:(Ty.zero (.arr c.toNat e))[j]'(by rw[hx];omega)=e.zero:=by simp[Ty.zero]
    rw[e1] at this;simpa using this
 refine JgX h (w':={w with heap:=w.heap.push (.cells (zeroC (.arr c.toNat e)).toArray te (0,0))}) (Jca w (zeroC (.arr c.toNat e)) te w.drawn) el c.toNat (by rw[hlen];omega) (by omega) (by rw[hlen];simp only[big];omega) q3 ?_
 rw[hlen];refine exec_v he ?_;have hcn:¬(c<0):=by omega
 have hnn:¬(n<0):=by omega
 have hnc:¬(n>c):=by omega
 simp only[Instr.makeSlice,Sem.run_bind,run_underlying hd,Result.andThen_ok,asInt,asIntOf,Sem.run_pure,typeInfo,run_program,g1,w1,w2]
 have hcond:¬(decide (c<0)||decide ((i.bytes:Int)*c>2^48)||decide (n<0)||decide (n>c))=true:=by
  simp only[Bool.or_eq_true,decide_eq_true_eq,not_or];exact⟨⟨⟨hcn,hbytes⟩,hnn⟩,hnc⟩
 rw[if_neg hcond];simp only[Sem.run_bind,run_askRoom,Result.andThen_ok,hT.cells,Sem.run_ite];by_cases hz0:c.toNat*e.size=0
 · have e0:(zeroC (.arr c.toNat e)).toArray=#[]:=by
    have:(zeroC (.arr c.toNat e)).length=0:=by rw[q3];exact hz0
    rw[List.eq_nil_of_length_eq_zero this]
   rw[if_pos hz0,e0];simp[newRow,hz0,Array.range_zero']
 · rw[if_neg hz0]
   simp only[Sem.run_bind,hT.zeroRun,Result.andThen_ok,Sem.run_pure,newRow,run_newObj,hz]
theorem Jkq {e:Ty} {b o:Nat} {x:List e.D} (h:JaX own w none e b o x) {n:Nat} (hn:n≤x.length):
 ∃cs,Jag own w (.arr n e) cs (x.take n)∧∀j v,cs[j]?=some v→own b (o+j)=none∧w.cell? ⟨b,o+j,none⟩=some v:=by
 have key:∀n,n≤x.length→∃cs:List Value,cs.length=n*e.size∧(∀i (h:i<n) (h':i<x.length),Jag own w e ((cs.drop (i*e.size)).take e.size) x[i]) ∧
  ∀j v,cs[j]?=some v→own b (o+j)=none∧w.cell? ⟨b,o+j,none⟩=some v:=by
  intro n
  induction n with
  | zero=>exact fun _=>⟨[],by simp,fun i h=>by omega,fun j v h=>by simp at h⟩
  | succ n ih=>
   intro hn;obtain⟨cs,k1,k2,k3⟩:=ih (by omega);obtain⟨es,g1,g2,g3⟩:=h n hn;refine⟨cs++es,by rw[List.length_append,k1,g1,Nat.succ_mul],?_,?_⟩
   · intro i hi hi'
     rcases Nat.lt_or_ge i n with h | h
     · have hb:i*e.size+e.size≤n*e.size:=by rw[←Nat.succ_mul];exact Nat.mul_le_mul_right _ h
       rw[List.drop_append_of_le_length (by omega),List.take_append_of_le_length (by simp;omega)];exact k2 i h hi'
     · have:i=n:=by omega
       subst this;rw[List.drop_append,List.drop_eq_nil_of_le (by omega),List.nil_append,k1,Nat.sub_self,List.drop_zero,←g1,List.take_length];exact g3
   · intro j v hj
     rcases Nat.lt_or_ge j cs.length with h | h
     · rw[List.getElem?_append_left h] at hj;exact k3 j v hj
     · rw[List.getElem?_append_right h] at hj
       have:=g2 _ _ hj
       rwa [show o+n*e.size+(j-cs.length)=o+j by omega] at this
 obtain⟨cs,k1,k2,k3⟩:=key n hn;refine⟨cs,⟨by rw[List.length_take];omega,k1,fun i hi=>?_⟩,k3⟩;have hi':i<n:=by rw[List.length_take] at hi;omega
 have:=k2 i hi' (by omega);rw[List.getElem_take];exact this
theorem Jk4 (hE:EnvOk P E) (h:St N Z own β σ a w) {t n:Nat} {e:Ty} {y:List e.D} {fr:List (Nat×Entry)} {u:Value} (ht:E.ty t=some (.arr n e)) (hn:1≤n) (hf:Frz σ fr) (hA:Jch own w β σ.mem fr (.sl e) u y)
 (he:execOp a.eval o=(do pure (.value (←Instr.arrayAt t u)))) {r:V×S} (hr:(M.fin Unit (chk (decide (n≤y.length))) (fun _=>V.rpt (.arr n e) (y.take n)) (JaV fr)).run σ=some r):Did P N Z o a w r.2 r.1:=by
 obtain⟨_,h1,h2⟩:=Jal hr;have h1:=of_decide_eq_true (Jap h1);obtain⟨own1,s1,k1,v1⟩:=h.freeze hf;obtain⟨te,q2,q3⟩:=(hE.ty t _ ht).desc;obtain⟨ad,cap,e1,e2,e3,e4,e5⟩:=Jab.sl.1 (v1 _ _ _ hA);cases e1;rcases e5 with e5 | ⟨b,off,e5,e6⟩
 · omega
 obtain⟨cs,g1,g2⟩:=Jkq (own:=own1) (w:=w) (e:=e) (b:=b) (o:=off) (x:=y) e6 h1;rw[h2];simp only[JaD];refine Jae (exec_v he (u:=.pointer (some ⟨b,off,none⟩)) (w':=w) ?_) s1 ⟨rfl,b,off,cs,rfl,g2,g1⟩;have hl:¬(y.length<n):=by omega
 simp[Instr.arrayAt,run_underlying q2,hl,e5]
end
end Go.Re
namespace Go.Re
set_option linter.unusedVariables false
set_option linter.unusedSimpArgs false
open Go.RowKit (Below)
section
variable {P:Program} {E:Env} {N:Nat} {Z:Base} {own:Own} {β:Jai} {σ:S} {a:Act} {w:World} {o:Oper}
theorem Jhe (vs:List Value):∀(cs:Array Value) (off:Nat),off+vs.length≤cs.size →
 (vs.toArray.zipIdx.foldl (fun cs (p:Value×Nat)=>cs.setIfInBounds (off+p.2) p.1) cs)=(Jax cs.toList off vs).toArray:=by
 intro cs off hle
 have key:∀(vs:List Value) (cs:Array Value) (k:Nat),off+k+vs.length≤cs.size →
  ((vs.zipIdx k).foldl (fun cs (p:Value×Nat)=>cs.setIfInBounds (off+p.2) p.1) cs)=(Jax cs.toList (off+k) vs).toArray:=by
  intro vs
  induction vs with
  | nil=>intro cs k _;apply Array.ext';simp[Jax]
  | cons v vs ih=>
   intro cs k hk;simp only[List.length_cons] at hk;rw[List.zipIdx_cons,List.foldl_cons,ih _ _ (by simp;omega)]
   congr 1
   apply List.ext_getElem?;intro j;rw[show off+(k+1)=off+k+1 by omega,getElem?_splice (by simp;omega),getElem?_splice (by simp;omega)];simp only[List.length_cons,Array.toList_setIfInBounds,List.getElem?_set];by_cases h1:j=off+k
   · rw[if_neg (by omega),if_pos (h1.symm),if_pos (show off+k<cs.toList.length by simp;omega),if_pos (show off+k≤j∧j<off+k+(vs.length+1) by omega),show j-(off+k)=0 by omega];rfl
   · rw[if_neg (Ne.symm h1)]
     by_cases h2:off+k+1≤j∧j<off+k+1+vs.length
     · rw[if_pos h2,if_pos (by omega),show j-(off+k)=(j-(off+k+1))+1 by omega];rfl
     · rw[if_neg h2,if_neg (by omega)]
 have:=key vs cs 0 (by omega);rw[Nat.add_zero] at this;rw[←this,←Array.foldl_toList];simp
theorem JcR (h:St N Z own β σ a w) {d:Nat} {b:Ty} {path:Nat→List Stp} {place:Nat→Option (Nat×Nat)}
 (hpl:∀i τ',tyP b (path i)=some τ'→place i=some (offP b (path i),τ'.size)):
 ∀(ps:List (Nat×Operand)) {x:b.D} {fr:List (Nat×Entry)} {k:b.D→List (Nat×Entry)→M V} {r:V×S},Frz σ fr→(Jcf d b path x fr ps k).run σ=some r →
  ∃x' fr',Frz σ fr'∧(∀p∈fr,p∈fr')∧(k x' fr').run σ=some r ∧
   ∀(own1:Own),(∀τ u y,Jch own w β σ.mem fr' τ u y→Jab own1 w τ u y)→∀cs:List Value,Jag own1 w b cs x →
    ∃cs':List Value,Instr.fill place cs.toArray (ps.map fun p=>(p.1,a.eval p.2))=some cs'.toArray∧Jag own1 w b cs' x' ∧
     ∀j,(∀p∈ps,∀τ',tyP b (path p.1)=some τ'→j<offP b (path p.1)∨offP b (path p.1)+τ'.size≤j)→cs'[j]?=cs[j]?
 | [],x,fr,k,r,hf,hr=>⟨x,fr,hf,fun _ h=>h,hr,fun _ _ cs hc=>⟨cs,rfl,hc,fun _ _=>rfl⟩⟩
 | (i,op)::ps,x,fr,k,r,hf,hr=>by
  unfold Jcf at hr;obtain⟨v,h1,h2⟩:=Jak h hr;split at h2
  · rename_i τ' hp
    cases hiv:τ'.isVal with
    | false=>rw[hiv] at h2;cases h2
    | true=>
    rw[hiv,cond_true] at h2;obtain⟨y,fr1,hf1,hA,_,h3⟩:=JbK h h1 h2 hiv;split at h3
    · rename_i x' hx'
      obtain⟨x2,fr2,hf2,hs2,h4,h5⟩:=JcR h hpl ps (hf1.append hf) h3;refine⟨x2,fr2,hf2,fun p hp=>hs2 p (by simp[hp]),h4,?_⟩;intro own1 hown cs hc;have hV:=hown τ' _ y (hA.mono fun p hp=>hs2 p (by simp[hp]));have hds:=hV.cells;obtain⟨g1,g2,g3⟩:=Jc5 b x cs (path i) τ' y _ x' hc hds hx';obtain⟨cs',g4,g5,g6⟩:=h5 own1 hown _ g3;have hl:=hds.length;have hcl:=hc.length;refine⟨cs',?_,g5,fun j hj=>?_⟩
      rotate_left
      · rw[g6 j fun p hp=>hj p (List.mem_cons_of_mem _ hp),getElem?_splice (by omega),if_neg]
        have:=hj (i,op) List.mem_cons_self τ' g1;simp only at this;omega
      rw[Array.length_toList] at hl;simp only[List.map_cons,Instr.fill,hpl i τ' g1];rw[if_neg (by simp;omega)];have e:=Jhe (a.eval op).cells.toList cs.toArray (offP b (path i)) (by simp;omega);simp only[Array.toArray_toList] at e;rw[e];exact g4
    · cases h3
  · cases h2
theorem JdC (hE:EnvOk P E):∀(fs:List Field) (b:Ty) (off:Nat),JbG E.ty off fs b→(fs.mapM fun f=>(do pure (f.offset,←sizeOf f.type):Sem (Nat×Nat))).run P w =
 .ok (fs.map fun f=>(f.offset,P.cellsOf f.type)) w
 | [],_,_,_=>by simp
 | f::fs,b,off,h=>by
  cases b with
  | pair p q=>
   obtain⟨h1,h2,h3,h4⟩:=h;have hT:=hE.ty f.type p h2;have hsz:=hT.cells w
   have hsz':P.cellsOf f.type=p.size:=by
    obtain⟨i,g1,g2,_⟩:=hT.info;simp[Program.cellsOf,g1,g2]
   simp only[List.mapM_cons,Sem.run_bind,hsz,Result.andThen_ok,Sem.run_pure,JdC hE fs q (off+p.size) h4,List.map_cons,hsz']
  | unit=>exact h.elim
  | _=>exact h.elim
theorem Jk5 (hE:EnvOk P E) (h:St N Z own β σ a w) {d t:Nat} {b:Ty} {ps:Array (Nat×Operand)} {r:V×S} (ht:E.ty t=some (.st b))
 (he:execOp a.eval o=(do pure (.value (←Instr.build t (ps.map fun (i,x)=>(i,a.eval x))))))
 (hr:(Jcf d b Jaf b.zero [] ps.toList fun x fr=>.fin Unit (some ()) (fun _=>.val (.st b) x) (JaV fr)).run σ=some r):Did P N Z o a w r.2 r.1:=by
 have hT:=hE.ty t _ ht;obtain⟨fs,e1,e2⟩:=hT.desc
 have hpl:∀i τ',tyP b (Jaf i)=some τ'→((fs.toList.map fun f=>(f.offset,P.cellsOf f.type)).toArray[i]?)=some (offP b (Jaf i),τ'.size):=by
  intro i τ' hp;obtain⟨fd,e3,e4,e5,e6⟩:=Ja2 E.ty i b 0 fs.toList τ' e2 hp;have hT':=hE.ty fd.type τ' e5
  have hsz':P.cellsOf fd.type=τ'.size:=by
   obtain⟨i,g1,g2,_⟩:=hT'.info;simp[Program.cellsOf,g1,g2]
  simp only[List.getElem?_toArray,List.getElem?_map,e3,Option.map_some,hsz',e4,Nat.zero_add]
 obtain⟨x,fr,hf,_,h2,h3⟩:=JcR (place:=fun i=>(fs.toList.map fun f=>(f.offset,P.cellsOf f.type)).toArray[i]?) h hpl ps.toList (x:=b.zero) (fr:=[]) (by simp[Frz]) hr;obtain⟨_,h4,h5⟩:=Jal h2;obtain⟨own1,s1,k1,v1⟩:=h.freeze hf;have hz:Jag own1 w b (zeroC b) b.zero:=Jat (τ:=b) hT.good;obtain⟨cs',g1,g2,_⟩:=h3 own1 v1 (zeroC b) hz;rw[h5];simp only[JaD];refine Jae (exec_v he (u:=.agg cs'.toArray) (w':=w) ?_) s1 ((Jab.agg rfl).2 ⟨cs',rfl,g2⟩);have hm:=JdC (w:=w) hE fs.toList b 0 e2;have hz0:(mkV (.st b) (zeroC (.st b))).cells=(zeroC b).toArray:=rfl;simp only[Instr.build,Sem.run_bind,hT.zeroRun,Result.andThen_ok,Sem.run_pure,run_underlying e1,hz0]
 have hm':(fs.mapM fun f=>(do pure (f.offset,←sizeOf f.type):Sem (Nat×Nat))).run P w= .ok (fs.toList.map fun f=>(f.offset,P.cellsOf f.type)).toArray w:=by
  have:(fs.mapM fun f=>(do pure (f.offset,←sizeOf f.type):Sem (Nat×Nat)))=List.toArray <$> (fs.toList.mapM fun f=>(do pure (f.offset,←sizeOf f.type):Sem (Nat×Nat))):=by
   rw[Array.mapM_eq_mapM_toList]
  rw[this,Sem.run_map,hm];rfl
 rw[hm'];simp only[Result.andThen_ok];have hps:(Array.map (fun x=>match x with | (i,x)=>(i,a.eval x)) ps).toList=ps.toList.map fun p=>(p.1,a.eval p.2):=by simp
 rw[hps,g1];rfl
theorem Jkr (hE:EnvOk P E) (h:St N Z own β σ a w) {d t:Nat} {b:Ty} {ps:Array (Nat×Operand)} {r:V×S} {z:List (Nat×Nat)} (hz0k:zOk b ps.toList z=true) (ht:E.ty t=some (.st b))
 (he:execOp a.eval o=(do pure (.value (←Instr.build t (ps.map fun (i,x)=>(i,a.eval x))))))
 (hr:(Jcf d b Jaf b.zero [] ps.toList fun x fr=>.fin Unit (some ()) (fun _=>.zval (.st b) x z) (JaV fr)).run σ=some r):Did P N Z o a w r.2 r.1:=by
 have hT:=hE.ty t _ ht;obtain⟨fs,e1,e2⟩:=hT.desc
 have hpl:∀i τ',tyP b (Jaf i)=some τ'→((fs.toList.map fun f=>(f.offset,P.cellsOf f.type)).toArray[i]?)=some (offP b (Jaf i),τ'.size):=by
  intro i τ' hp;obtain⟨fd,e3,e4,e5,e6⟩:=Ja2 E.ty i b 0 fs.toList τ' e2 hp;have hT':=hE.ty fd.type τ' e5
  have hsz':P.cellsOf fd.type=τ'.size:=by
   obtain⟨i,g1,g2,_⟩:=hT'.info;simp[Program.cellsOf,g1,g2]
  simp only[List.getElem?_toArray,List.getElem?_map,e3,Option.map_some,hsz',e4,Nat.zero_add]
 obtain⟨x,fr,hf,_,h2,h3⟩:=JcR (place:=fun i=>(fs.toList.map fun f=>(f.offset,P.cellsOf f.type)).toArray[i]?) h hpl ps.toList (x:=b.zero) (fr:=[]) (by simp[Frz]) hr;obtain⟨_,h4,h5⟩:=Jal h2;obtain⟨own1,s1,k1,v1⟩:=h.freeze hf;have hz:Jag own1 w b (zeroC b) b.zero:=Jat (τ:=b) hT.good;obtain⟨cs',g1,g2,g3⟩:=h3 own1 v1 (zeroC b) hz;rw[h5];simp only[JaD];refine Jae (exec_v he (u:=.agg cs'.toArray) (w':=w) ?_) s1 ⟨(Jab.agg rfl).2 ⟨cs',rfl,g2⟩,fun q hq=>?_⟩
 rotate_left
 · have h6:=List.all_eq_true.1 hz0k q hq
   simp only[Bool.and_eq_true] at h6
   have h7:(zeroC b)[q.1]?=some (.slice none 0 0):=by
    have h8:=h6.1;revert h8
    generalize (zeroC b)[q.1]?=y
    intro hy;unfold Je5 at hy;split at hy
    · rfl
    · cases hy
   show cs'[q.1]?=_;rw[g3 q.1 fun p hp τ' hp'=>?_]
   · exact h7
   · have h8:=List.all_eq_true.1 h6.2 p hp
     rw[hp'] at h8;simp only[Bool.or_eq_true] at h8;rcases h8 with h8 | h8
     · have:=Nat.le_of_ble_eq_true h8;omega
     · have:=Nat.le_of_ble_eq_true h8;omega
 have hm:=JdC (w:=w) hE fs.toList b 0 e2;have hz0:(mkV (.st b) (zeroC (.st b))).cells=(zeroC b).toArray:=rfl;simp only[Instr.build,Sem.run_bind,hT.zeroRun,Result.andThen_ok,Sem.run_pure,run_underlying e1,hz0]
 have hm':(fs.mapM fun f=>(do pure (f.offset,←sizeOf f.type):Sem (Nat×Nat))).run P w= .ok (fs.toList.map fun f=>(f.offset,P.cellsOf f.type)).toArray w:=by
  have:(fs.mapM fun f=>(do pure (f.offset,←sizeOf f.type):Sem (Nat×Nat)))=List.toArray <$> (fs.toList.mapM fun f=>(do pure (f.offset,←sizeOf f.type):Sem (Nat×Nat))):=by
   rw[Array.mapM_eq_mapM_toList]
  rw[this,Sem.run_map,hm];rfl
 rw[hm'];simp only[Result.andThen_ok];have hps:(Array.map (fun x=>match x with | (i,x)=>(i,a.eval x)) ps).toList=ps.toList.map fun p=>(p.1,a.eval p.2):=by simp
 rw[hps,g1];rfl
theorem Jil (hE:EnvOk P E) (h:St N Z own β σ a w) {d t n:Nat} {e:Ty} {ps:Array (Nat×Operand)} {r:V×S} (ht:E.ty t=some (.arr n e))
 (he:execOp a.eval o=(do pure (.value (←Instr.build t (ps.map fun (i,x)=>(i,a.eval x))))))
 (hr:(Jcf d (.arr n e) (fun i=>[.idx i]) (Ty.arr n e).zero [] ps.toList fun x fr=>.fin Unit (some ()) (fun _=>.val (.arr n e) x) (JaV fr)).run σ=some r):Did P N Z o a w r.2 r.1:=by
 have hT:=hE.ty t _ ht;obtain⟨te,e1,e2⟩:=hT.desc;have hTe:=hE.ty te e e2
 have hpl:∀i τ',tyP (.arr n e) [.idx i]=some τ'→(some (i*e.size,e.size):Option (Nat×Nat))=some (offP (.arr n e) [.idx i],τ'.size):=by
  intro i τ' hp;have hp:tyP e []=some τ':=hp;rw[Ja8] at hp;cases hp;simp[offP,Jao]
 obtain⟨x,fr,hf,_,h2,h3⟩:=JcR (place:=fun i=>some (i*e.size,e.size)) h hpl ps.toList (x:=(Ty.arr n e).zero) (fr:=[]) (by simp[Frz]) hr;obtain⟨_,h4,h5⟩:=Jal h2;obtain⟨own1,s1,k1,v1⟩:=h.freeze hf;have hz:Jag own1 w (.arr n e) (zeroC (.arr n e)) (Ty.arr n e).zero:=Jat (τ:=.arr n e) hT.good;obtain⟨cs',g1,g2,_⟩:=h3 own1 v1 _ hz;rw[h5];simp only[JaD];refine Jae (exec_v he (u:=.agg cs'.toArray) (w':=w) ?_) s1 ((Jab.agg rfl).2 ⟨cs',rfl,g2⟩);have hz0:(mkV (.arr n e) (zeroC (.arr n e))).cells=(zeroC (.arr n e)).toArray:=rfl;simp only[Instr.build,Sem.run_bind,hT.zeroRun,Result.andThen_ok,Sem.run_pure,run_underlying e1,hz0,hTe.cells];have hps:(Array.map (fun x=>match x with | (i,x)=>(i,a.eval x)) ps).toList=ps.toList.map fun p=>(p.1,a.eval p.2):=by simp
 rw[hps,g1];rfl
theorem JgY (hE:EnvOk P E) (h:St N Z own β σ a w) {d t n:Nat} {e:Ty} {ps:Array (Nat×Operand)} {r:V×S} (ht:E.ty t=some (.sl e)) (hn:n≤65536) (hsz:e.size≤256)
 (he:execOp a.eval o=(do pure (.value (←Instr.buildSlice t n (ps.map fun (i,x)=>(i,a.eval x))))))
 (hr:(Jcf d (.arr n e) (fun i=>[.idx i]) (Ty.arr n e).zero [] ps.toList fun x fr=>Jh0 d e x .full fr).run σ=some r):Did P N Z o a w r.2 r.1:=by
 have hT:=hE.ty t _ ht;obtain⟨te,e1,e2⟩:=hT.desc;have hTe:=hE.ty te e e2
 have hpl:∀i τ',tyP (.arr n e) [.idx i]=some τ'→(some (i*e.size,e.size):Option (Nat×Nat))=some (offP (.arr n e) [.idx i],τ'.size):=by
  intro i τ' hp;have hp:tyP e []=some τ':=hp;rw[Ja8] at hp;cases hp;simp[offP,Jao]
 obtain⟨x,fr,hf,_,h2,h3⟩:=JcR (place:=fun i=>some (i*e.size,e.size)) h hpl ps.toList (x:=(Ty.arr n e).zero) (fr:=[]) (by simp[Frz]) hr;obtain⟨own1,s1,k1,v1⟩:=h.freeze hf;have hz:Jag own1 w (.arr n e) (zeroC (.arr n e)) (Ty.arr n e).zero:=Jat (τ:=.arr n e) hTe.good;obtain⟨cs',g1,g2,_⟩:=h3 own1 v1 _ hz;unfold Jh0 at h2;simp only[M.run] at h2;obtain⟨_,_,h5⟩:=Option.map_eq_some_iff.1 h2;subst h5;simp only[JeG];have hver:=JdQ fr hf.weak (Jaa d 0);rw[←hver];have hxl:List.length x=n:=g2.1;have hcl:cs'.length=n*e.size:=g2.2.1;have hx0:Jag own1 w (.arr n e) cs' x:=g2;have:=JgX (o:=o) (P:=P) s1 (d:=Jaa d 0) (w':={w with heap:=w.heap.push (.cells cs'.toArray te (0,0))}) (Jca w cs' te w.drawn) (JaB.of_arr hx0).1 n (by omega) (by omega) (by simp only[big];omega) hcl ?_
 · exact this
 · refine exec_v he ?_
   rw[hxl]
   have hbig:¬(n*e.size>2^24):=by
    have:n*e.size≤65536*256:=Nat.mul_le_mul hn hsz;omega
   have hps:(Array.map (fun x=>match x with | (i,x)=>(i,a.eval x)) ps).toList=ps.toList.map fun p=>(p.1,a.eval p.2):=by simp
   simp only[Instr.buildSlice,Sem.run_bind,run_underlying e1,Result.andThen_ok,Sem.run_pure,hTe.cells];rw[if_neg hbig];simp only[Sem.run_pure,Result.andThen_ok,Sem.run_bind,Sem.run_ite];have hzeros:=JfV hTe.isVal hTe.good n;by_cases hz0:n*e.size=0
   · rw[if_pos hz0]
     have e0:zeroC (.arr n e)=[]:=by
      apply List.eq_nil_of_length_eq_zero;have:=hz.2.1;omega
     simp only[Result.andThen_ok,hz0,Array.range_zero',Array.map_empty,hps];rw[e0] at g1;have g1':Instr.fill (fun i=>some (i*e.size,e.size)) #[] (List.map (fun p=>(p.1,a.eval p.2)) ps.toList)=some cs'.toArray:=g1;rw[g1'];simp[newRow]
   · rw[if_neg hz0]
     simp only[Sem.run_bind,hTe.zeroRun,Result.andThen_ok,Sem.run_pure,hps];rw[hzeros,g1];simp[newRow]
end
end Go.Re
namespace Go.Re
set_option linter.unusedVariables false
set_option linter.unusedSimpArgs false
open Go.RowKit (Below)
section
variable {P:Program} {E:Env} {N:Nat} {Z:Base} {own:Own} {β:Jai} {σ:S} {a:Act} {w:World} {o:Oper}
theorem Wrote.keeps {b off:Nat} {vs:List Value} {w w':World} (h:Wrote b off vs w w') {own:Own} {s:Nat} (ho:∀j,j<vs.length→own b (off+j)=some s):Keeps own own w w':=by
 refine⟨?_,fun r es c h1 h2=>⟨h1,h.maps h2⟩⟩;intro b' o' v h1 h2;refine⟨h1,?_⟩;by_cases hb:b'=b
 · subst hb
   rw[h.outside]
   · exact h2
   · rcases Nat.lt_or_ge o' off with h3 | h3
     · exact .inl h3
     · rcases Nat.lt_or_ge o' (off+vs.length) with h4 | h4
       · have:=ho (o'-off) (by omega)
         rw[show off+(o'-off)=o' by omega,h1] at this;cases this
       · exact .inr h4
 · rw[cell?_of_heap (h.block b' hb)];exact h2
theorem Wrote.ownKeeps {b off:Nat} {vs:List Value} {w w':World} (h:Wrote b off vs w w') {own:Own} {s s':Nat} (ho:∀j,j<vs.length→own b (off+j)=some s) (hs:s'≠s):Jah s' own own w w':=by
 refine⟨?_,fun r ob ho h1 h2=>⟨h1,h.objs ho h2⟩⟩;intro b' o' v h1 h2;refine⟨h1,?_,?_⟩
 · by_cases hb:b'=b
   · subst hb
     rw[h.outside]
     · exact h2
     · rcases Nat.lt_or_ge o' off with h3 | h3
       · exact .inl h3
       · rcases Nat.lt_or_ge o' (off+vs.length) with h4 | h4
         · have:=ho (o'-off) (by omega)
           rw[show off+(o'-off)=o' by omega,h1] at this;cases this;exact absurd rfl hs
         · exact .inr h4
   · rw[cell?_of_heap (h.block b' hb)];exact h2
 · by_cases hb:b'=b
   · subst hb;exact h.frozen o'
   · exact frozen?_of_heap (h.block b' hb)
theorem Wrote.cell {b off:Nat} {vs:List Value} {w w':World} (h:Wrote b off vs w w') (j:Nat):w'.cell? ⟨b,j,none⟩=if off≤j∧j<off+vs.length then vs[j-off]? else w.cell? ⟨b,j,none⟩:=by
 by_cases hj:off≤j∧j<off+vs.length
 · rw[if_pos hj]
   have:=h.inside (j-off) vs[j-off] (List.getElem?_eq_getElem (by omega));rw[show off+(j-off)=j by omega] at this;rw[this,List.getElem?_eq_getElem (by omega)]
 · rw[if_neg hj];exact h.outside j (by omega)
theorem Jbj {γ:Type} (b:γ) {fr:List (Nat×Entry)} {s:Nat} {e:γ→Entry}:Jaw σ b (JaV fr++[(s,e)])=(Jaz σ fr).set s (e b):=by
 rw[Jb6,JaD];rfl
theorem Jef.wrote {s b o off:Nat} {cs ds:List Value} {w':World} (h:Jef Z own w s b o cs) (hw:Wrote b (o+off) ds w w') (hl:off+ds.length≤cs.length):Jef Z own w' s b o (Jax cs off ds):=by
 intro j v hj
 have hlen:j<cs.length:=by
  have:=(List.getElem?_eq_some_iff.1 hj).1
  rwa [JaS hl] at this
 obtain⟨e1,e2,e3,e4⟩:=h j cs[j] (List.getElem?_eq_getElem hlen);refine⟨e1,e2,?_,by rw[hw.frozen];exact e4⟩;rw[hw.cell];rw[getElem?_splice hl] at hj;by_cases hc:off≤j∧j<off+ds.length
 · rw[if_pos hc] at hj
   rw[if_pos (by omega),show o+j-(o+off)=j-off by omega];exact hj
 · rw[if_neg hc] at hj
   rw[if_neg (by omega),e3,←hj,List.getElem?_eq_getElem hlen]
theorem Jhf (hE:EnvOk P E) (h:St N Z own β σ a w) {t:Nat} {τ:Ty} {v v':V} {u u':Value} {r:V×S} (ht:E.ty t=some τ) (hu:Jac own w β σ.mem v u) (hu':Jac own w β σ.mem v' u')
 (he:execOp a.eval o=(do Instr.storeAt t u u';pure .skip)) (hr:(Jge τ v v').run σ=some r):Did P N Z o a w r.2 r.1:=by
 have hT:=hE.ty t τ ht;unfold Jge at hr;obtain⟨y,fr,hf,hA,_,h2⟩:=JbK h hu' hr hT.isVal;obtain⟨own1,s1,k1,v1⟩:=h.freeze hf;have hV:=v1 _ _ _ hA;have hds:=hV.cells;have hdl:=hds.length;split at h2
 ·
  rename_i s ver p;simp only[M.run] at h2;split at h2
  · rename_i ver' τb x hm
    split at h2
    · rename_i e;subst e
      obtain⟨x',h3,h4⟩:=Jal h2;obtain⟨b,off,h5,rfl⟩:=hu.2 τb x hm;have hm1:=Jif hf hm;have hmm:=s1.mems s;rw[hm1] at hmm;obtain⟨hv,b',off',cs,h6,h7,h8⟩:=hmm;rw[h5] at h6;cases h6;obtain⟨g1,g2,g3⟩:=Jc5 τb x cs p τ y _ x' h8 hds h3;have hcl:=h8.length;have hin:∀j,j<τ.size→∃v,cs[offP τb p+j]?=some v:=fun j hj=>⟨_,List.getElem?_eq_getElem (by omega)⟩
      obtain⟨w',h9,h10⟩:=hT.store (w:=w) (b:=b) (off:=off+offP τb p) hV (fun j hj=>by
       obtain⟨v,hv⟩:=hin j hj;obtain⟨_,_,e3,e4⟩:=h7 _ v hv;rw[←Nat.add_assoc] at e3 e4;exact⟨⟨v,e3⟩,e4⟩)
      have hown:∀j,j<u'.cells.toList.length→own1 b (off+offP τb p+j)=some s:=fun j hj=>by
       obtain⟨v,hv⟩:=hin j (by omega);have:=(h7 _ v hv).1
       rwa [←Nat.add_assoc] at this
      have hwr:∀j,j<u'.cells.toList.length→Z.wr b (off+offP τb p+j):=fun j hj=>by
       obtain⟨v,hv⟩:=hin j (by omega);have:=(h7 _ v hv).2.1
       rwa [←Nat.add_assoc] at this
      rw[h4];simp only[Jbj];refine Jcj (β':=β) (own':=own1) (w':=w') ?_ ?_
      · rw[he];exact JeE (by simp only[Instr.storeAt,Instr.sureAddr,Sem.run_bind,Sem.run_pure,Result.andThen_ok];exact h9)
      · refine s1.go (h10.frame hwr) (fun _ _ _ _=>rfl) (h10.keeps hown) ?_ rfl ?_ (JaO rfl fun _ e=>h10.ownKeeps hown e)
        · intro s'
          show Evo β β s' _ (upd (Jaz σ fr).mem s _ s');rw[Jad];split
          · rename_i e;subst e;rw[hm1];exact Evo.setBox rfl
          · exact Evo.same _ rfl
        · intro s'
          show Jaj Z own1 w' β s' (upd (Jaz σ fr).mem s _ s');rw[Jad];split
          · rename_i e;subst e
            exact⟨hv,b,off,_,h5,h7.wrote h10 (by omega),g3.keeps (h10.keeps hown)⟩
          · rename_i e
            exact (s1.mems s').keeps (h10.keeps hown) (h10.ownKeeps hown e) h10.shps rfl
    · cases h2
  · cases h2
 ·
  rename_i s ver i p;simp only[M.run] at h2;split at h2
  · rename_i ver' τe xs hm
    split at h2
    · rename_i e
      obtain⟨e,hfr⟩:=e;subst e;obtain⟨xs',h3,h4⟩:=Jal h2;obtain⟨hi,b,off,nn,cc,h5,rfl⟩:=hu.2 τe xs .full hm
      have hnot:∀q∈fr,q.1≠s:=by
       intro q hq e;have:=List.all_eq_true.1 hfr q hq;rw[e] at this;simp at this
      have hm1:(Jaz σ fr).mem s= .own ver τe xs .full:=by rw[Ja9 fr hnot];exact hm
      have hmm:=s1.mems s;rw[hm1] at hmm;obtain⟨ad,cap,h6,h7,h8,h9,h10⟩:=hmm;rw[h5] at h6;cases h6;rcases h10 with ⟨h11,_⟩ | ⟨b',off',h11,h12,h13,h14⟩
      · omega
      · cases h11
        obtain⟨es,q1,q2,q3⟩:=h12 i hi
        have hset:∃z,xs'=xs.set i z∧Jcd τe xs[i] p τ y=some z:=by
         cases p with
         | nil=>
          obtain⟨z,hz,rfl⟩:=Option.map_eq_some_iff.1 h3;exact⟨z,rfl,by rw[Jia];exact hz⟩
         | cons p0 p=>
          obtain⟨x,hx,hy⟩:=Option.bind_eq_some_iff.1 h3;obtain⟨z,hz,rfl⟩:=Option.map_eq_some_iff.1 hy;have hx':xs[i]=x:=(List.getElem?_eq_some_iff.1 hx).2;exact⟨z,rfl,by rw[hx'];exact hz⟩
        obtain⟨z,rfl,hz⟩:=hset;obtain⟨g1,g2,g3⟩:=Jc5 τe xs[i] es p τ y _ z q3 hds hz;have hin:∀j,j<τ.size→∃v,es[offP τe p+j]?=some v:=fun j hj=>⟨_,List.getElem?_eq_getElem (by omega)⟩;have hib:i*τe.size+τe.size≤cc*τe.size:=by rw[←Nat.succ_mul];exact Nat.mul_le_mul_right _ (by omega)
        obtain⟨w',h15,h16⟩:=hT.store (w:=w) (b:=b) (off:=off+i*τe.size+offP τe p) hV (fun j hj=>by
         obtain⟨v,hv⟩:=hin j hj;have e3:=(q2 _ v hv).2;have e4:=(h14 (off+i*τe.size+offP τe p+j) (by omega) (by omega)).2.2.2;rw[←Nat.add_assoc] at e3;exact⟨⟨v,e3⟩,e4⟩)
        have hown:∀j,j<u'.cells.toList.length→own1 b (off+i*τe.size+offP τe p+j)=some s:=fun j hj=>(h14 _ (by omega) (by omega)).1;have hwr:∀j,j<u'.cells.toList.length→Z.wr b (off+i*τe.size+offP τe p+j):=fun j hj=>(h14 _ (by omega) (by omega)).2.1;rw[h4];simp only[Jbj];refine Jcj (β':=β) (own':=own1) (w':=w') ?_ ?_
        · rw[he];exact JeE (by simp only[Instr.storeAt,Instr.sureAddr,Sem.run_bind,Sem.run_pure,Result.andThen_ok];exact h15)
        · refine s1.go (h16.frame hwr) (fun _ _ _ _=>rfl) (h16.keeps hown) ?_ rfl ?_ (JaO rfl fun _ e=>h16.ownKeeps hown e)
          · intro s'
            show Evo β β s' _ (upd (Jaz σ fr).mem s _ s');rw[Jad];split
            · rename_i e;subst e;rw[hm1];exact Evo.setOwn rfl (by simp)
            · exact Evo.same _ rfl
          · intro s'
            show Jaj Z own1 w' β s' (upd (Jaz σ fr).mem s _ s');rw[Jad];split
            · rename_i e;subst e
              have hlen:(xs.set i z).length=xs.length:=by simp
              refine⟨_,cc,by rw[h5,hlen],by rw[hlen];exact h7,h8,by rw[hlen];exact h9,.inr ⟨b,off,rfl,?_,?_,?_⟩⟩
              · intro k hk
                rw[hlen] at hk;by_cases hki:k=i
                · subst hki
                  refine⟨Jax es (offP τe p) u'.cells.toList,by rw[JaS (by omega)];exact q1,?_,by rw[List.getElem_set_self];exact g3.keeps (h16.keeps hown)⟩;intro j v hj
                  have hjl:j<es.length:=by
                   have:=(List.getElem?_eq_some_iff.1 hj).1
                   rwa [JaS (by omega)] at this
                  obtain⟨e1,e2⟩:=q2 j es[j] (List.getElem?_eq_getElem hjl);refine⟨e1,?_⟩;rw[h16.cell];rw[getElem?_splice (by omega)] at hj;by_cases hc:offP τe p≤j∧j<offP τe p+u'.cells.toList.length
                  · rw[if_pos hc] at hj
                    rw[if_pos (by omega),show off+k*τe.size+j-(off+k*τe.size+offP τe p)=j-offP τe p by omega];exact hj
                  · rw[if_neg hc] at hj
                    rw[if_neg (by omega),e2,←hj,List.getElem?_eq_getElem hjl]
                · obtain⟨es',r1,r2,r3⟩:=h12 k hk
                  refine⟨es',r1,?_,by rw[List.getElem_set_ne (Ne.symm hki)];exact r3.keeps (h16.keeps hown)⟩;intro j v hj;obtain⟨e1,e2⟩:=r2 j v hj;refine⟨e1,?_⟩;have hjl:j<es'.length:=(List.getElem?_eq_some_iff.1 hj).1;rw[h16.cell,if_neg,e2];rintro⟨c1,c2⟩;rcases Nat.lt_or_gt_of_ne hki with hlt | hgt
                  · have:k*τe.size+τe.size≤i*τe.size:=by rw[←Nat.succ_mul];exact Nat.mul_le_mul_right _ hlt
                    omega
                  · have:i*τe.size+τe.size≤k*τe.size:=by rw[←Nat.succ_mul];exact Nat.mul_le_mul_right _ hgt
                    omega
              · exact h16.shps _ _ h13
              · intro j c1 c2
                obtain⟨d1,d2,⟨v,d3⟩,d4⟩:=h14 j c1 c2;refine⟨d1,d2,?_,by rw[h16.frozen];exact d4⟩;rw[h16.cell];split
                · rename_i hc
                  exact⟨_,List.getElem?_eq_getElem (by omega)⟩
                · exact⟨v,d3⟩
            · rename_i e
              exact (s1.mems s').keeps (h16.keeps hown) (h16.ownKeeps hown e) h16.shps rfl
    · cases h2
  · cases h2
 · cases h2
theorem Jjz (σ:S) (s:Nat) (e e':Entry):(σ.set s e).set s e'=σ.set s e':=by
 unfold S.set
 congr 1
 funext k
 rw[Jad,Jad];split
 · rfl
 · rename_i hk;show upd σ.mem s e k=_;rw[Jad,if_neg hk]
theorem JmZ {α:Type}:∀{v:V} {τ:Ty} {k:τ.D→List (Nat×Entry)→M α} {r:α×S},(asD τ v k).run σ=some r →
 ∃y fr,(k y fr).run σ=some r∧∀k':τ.D→List (Nat×Entry)→M α,(asD τ v k').run σ=(k' y fr).run σ:=by
 intro v
 induction v with
 | val τ' x=>
  intro τ k r hr;simp only[asD] at hr ⊢;split at hr
  · exact⟨_,_,hr,fun _=>rfl⟩
  · cases hr
 | nil=>
  intro τ k r hr;cases τ with
  | sl e=>exact⟨_,_,hr,fun _=>rfl⟩
  | _=>cases hr
 | ref s ver=>
  intro τ k r hr;simp only[asD,M.run] at hr ⊢;split at hr
  · rename_i ver' τe xs m hm
    cases hmp:m.noRd with
    | true=>rw[hmp] at hr;cases hr
    | false=>
    rw[hmp,cond_false] at hr;split at hr
    · rename_i e
      split at hr
      · rename_i y hy
        exact⟨_,_,hr,fun _=>by simp only[e,if_true,cond_false,hy]⟩
      · cases hr
    · cases hr
  · cases hr
 | agg b t ih=>
  intro τ k r hr;cases τ with
  | st b'=>
   simp only[asD] at hr ⊢;split at hr
   · rename_i e;subst e
     obtain⟨y,fr,h1,h2⟩:=ih hr;exact⟨y,fr,h1,fun k'=>by rw[if_pos rfl];exact h2 k'⟩
   · cases hr
  | _=>cases hr
 | tnil=>
  intro τ k r hr;cases τ with
  | unit=>exact⟨_,_,hr,fun _=>rfl⟩
  | _=>cases hr
 | tcons v t ihv iht=>
  intro τ k r hr;cases τ with
  | pair a0 r0=>
   obtain⟨x,fr,h1,h2⟩:=ihv (τ:=a0) hr;obtain⟨y,fr',h3,h4⟩:=iht h1;exact⟨_,_,h3,fun k'=>(h2 _).trans (h4 _)⟩
  | _=>cases hr
 | _=>
  intro τ k r hr;simp only[asD,M.run] at hr;cases hr
theorem Jl0 (hE:EnvOk P E) (h:St N Z own β σ a w) {t:Nat} {τ:Ty} {v v':V} {u u':Value} {r:V×S} (ht:E.ty t=some τ) (hu:Jac own w β σ.mem v u) (hu':Jac own w β σ.mem v' u')
 (he:execOp a.eval o=(do Instr.storeAt t u u';pure .skip)) (hr:(JmB τ v v').run σ=some r):Did P N Z o a w r.2 r.1:=by
 have key:∃s ver τe xs fr,(Jge τ v v').run σ=some (V.dead,(Jaz σ fr).set s (.own ver τe xs .full))∧r=(V.dead,(Jaz σ fr).set s (.own ver τe xs .tail)):=by
  have gen:∀(k k':τ.D→List (Nat×Entry)→M V),(∀y fr,(k y fr).run σ=some r→∃s ver τe xs fr',(k' y fr).run σ=some (V.dead,(Jaz σ fr').set s (.own ver τe xs .full))∧r=(V.dead,(Jaz σ fr').set s (.own ver τe xs .tail))) →
   (asD τ v' k).run σ=some r→∃s ver τe xs fr,(asD τ v' k').run σ=some (V.dead,(Jaz σ fr).set s (.own ver τe xs .full))∧r=(V.dead,(Jaz σ fr).set s (.own ver τe xs .tail)):=by
   intro k k' hk hr;obtain⟨y,fr,h1,h2⟩:=JmZ hr;rw[h2 k'];exact hk _ _ h1
  refine gen _ _ ?_ hr;intro y fr h2;cases v with
  | elp s ver i p=>
   simp only[M.run] at h2 ⊢;split at h2
   · rename_i ver' τe xs hm
     split at h2
     · rename_i e
       rw[if_pos e];obtain⟨xs',h3,h4⟩:=Jal h2;refine⟨s,ver',τe,xs',fr,?_,?_⟩
       · simp only[M.run,h3,Option.map_some,Jbj]
       · rw[h4];simp only[Jbj]
     · cases h2
   · cases h2
  | _=>cases h2
 obtain⟨s,ver,τe,xs,fr,h1,h2⟩:=key;have hd:=Jhf hE h ht hu hu' he h1;subst h2;intro Q;refine Oper.wp_mono ?_ (hd Q);rintro a' w' ⟨u0,e1,own',β',hs,_⟩;obtain⟨own2,hs2,_,_⟩:=hs.freeze1 (s:=s) (ver:=ver) (τ:=τe) (xs:=xs) (by show upd _ _ _ _=_;rw[Jad,if_pos rfl]);rw[Jjz] at hs2;exact⟨u0,e1,own2,β',hs2,trivial⟩
end
end Go.Re
namespace Go.Re
set_option linter.unusedVariables false
set_option linter.unusedSimpArgs false
open Go.RowKit (Below)
section
variable {P:Program} {E:Env} {N:Nat} {Z:Base} {own:Own} {β:Jai} {σ:S} {a:Act} {w:World} {o:Oper}
theorem St.newSite' (h:St N Z own β σ a w) {s:Nat} {e':Entry} {c:Value} {w':World} {own':Own} (hb:Frm Z.w.heap.size Z.io w w')
 (ho:∀b o,b<Z.w.heap.size→¬Z.io b o→own' b o=own b o) (k:Keeps own own' w w') (hks:∀s',s'≠s→Jaj Z own' w' β s' (σ.mem s'))
 (hev:∀β',Evo β β' s (σ.mem s) e') (he:Jaj Z own' w' (upd β s c) s e') (hx:∀s',s'≠s→Ja5 (σ.mem s')=true→Jah s' own own' w w') (hv:Ja5 e'=false:=by rfl):St N Z own' (upd β s c) (σ.set s e') a w':=by
 refine h.go hb ho k ?_ rfl ?_ (JmL hv hx)
 · intro s'
   show Evo β (upd β s c) s' (σ.mem s') (upd σ.mem s e' s');rw[Jad σ.mem];split
   · rename_i e;subst e;exact hev _
   · rename_i e;exact Evo.same _ (by rw[Jad,if_neg e])
 · intro s'
   show Jaj Z own' w' (upd β s c) s' (upd σ.mem s e' s');rw[Jad σ.mem];split
   · rename_i e;subst e;exact he
   · rename_i e;exact (hks s' e).keeps (Keeps.refl _ _) (Jah.refl _ _ _) (fun _ _ h=>h) (by rw[Jad,if_neg e])
def Jbk (s:ByteArray) (n:Nat):Array Value:=s.data.map (fun (b:UInt8)=>Value.int .u8 (b.toNat:Int))++Array.replicate n (Value.int .u8 0)
theorem Jim (s:ByteArray) (n:Nat):JaB own w (.int .u8) (Jbk s n).toList (s.data.toList.map UInt8.toBitVec):=by
 refine⟨by simp[Ty.size,Jbk],?_⟩;intro i hi;have hi':i<s.data.size:=by simpa using hi
 have:(((Jbk s n).toList.drop (i*Ty.size (.int .u8))).take (Ty.size (.int .u8)))=[.int .u8 ((s.data[i]).toNat:Int)]:=by
  simp only[Ty.size,Nat.mul_one]
  have hlt:i<(Jbk s n).toList.length:=by
   have e:(Jbk s n).toList.length=s.data.size+n:=by simp[Jbk]
   omega
  have hget:(Jbk s n).toList[i]=Value.int .u8 ((s.data[i]).toNat:Int):=by
   apply Option.some.inj;rw[←List.getElem?_eq_getElem hlt];have hi2:i<s.size:=hi';simp[Jbk,List.getElem?_append,hi2,Array.getElem?_eq_getElem hi']
  rw[List.drop_eq_getElem_cons hlt,List.take_succ_cons,List.take_zero,hget]
 rw[this];exact⟨by simp[toI],trivial⟩
theorem Jdv (n o e t:Nat) (hn:n<9223372036854775808):n≤(Question.appendCap n o e).cut t∧(Question.appendCap n o e).cut t<9223372036854775808:=by
 simp only[Question.cut];have:t%(2^63-n)<2^63-n:=Nat.mod_lt _ (by omega);omega
theorem Jl1 (w:World) (c:List Value) (t:TypeId) (d:Nat):∃w',((markStringish ⟨w.heap.size,0,none⟩).run P {w with heap:=w.heap.push (.cells c.toArray t (0,0)),drawn:=d})= .ok () w'∧Alloc1 w w' c:=by
 refine⟨{w with heap:=w.heap.push (.cells c.toArray t (c.length,c.length+1)),drawn:=d},?_,JgT w c t d _ rfl⟩
 have hsh:({w with heap:=w.heap.push (.cells c.toArray t (0,0)),drawn:=d}:World).shape? w.heap.size=some (t,c.length):=by
  simp[World.shape?,Array.getElem?_push]
 simp only[markStringish,Sem.run_bind,run_shape,hsh,Result.andThen_ok,run_freeze]
 congr 1
 unfold World.freeze;simp only[Nat.one_ne_zero,if_false]
 congr 1
 apply Array.ext
 · simp
 · intro i h1 h2
   simp only[Array.size_modify,Array.size_push] at h1;rw[Array.getElem_modify];by_cases hi:w.heap.size=i
   · subst hi;simp
   · rw[if_neg hi,Array.getElem_push_lt (by omega),Array.getElem_push_lt (by omega)]
theorem Jje (hE:EnvOk P E) (h:St N Z own β σ a w) {d src dst:Nat} {s:ByteArray} (h1:E.ty src=some .str) (h2:E.ty dst=some (.sl (.int .u8))) (hl:s.size≤lim)
 (he:execOp a.eval o=(do pure (.value (←convert src dst (.string s))))):
 Did P N Z o a w (σ.set (Jaa d 0) (.own (nextVer (σ.mem (Jaa d 0))) (.int .u8) (s.data.toList.map UInt8.toBitVec) .full)) (.ref (Jaa d 0) (nextVer (σ.mem (Jaa d 0)))):=by
 have e1:P.underlying src=some .string:=(hE.ty src _ h1).desc;obtain⟨te,e2,e3⟩:=(hE.ty dst _ h2).desc;have e4:P.underlying te=some (.int .u8):=(hE.ty te _ e3).desc;have hl':s.size≤2147483648:=hl;obtain⟨c1,c2⟩:=Jdv s.size 0 te (w.tape w.drawn (.appendCap s.size 0 te)) (by omega)
 generalize hcap:(Question.appendCap s.size 0 te).cut (w.tape w.drawn (.appendCap s.size 0 te))=cap at c1 c2
 have hxl:(s.data.toList.map UInt8.toBitVec).length=s.size:=by simp
 obtain⟨w',g1,g2⟩:=Jl1 (P:=P) w (Jbk s (cap-s.size)).toList te (w.drawn+1)
 have hlen:(Jbk s (cap-s.size)).toList.length=cap*Ty.size (.int .u8):=by
  simp[Ty.size,Jbk];have:s.data.size=s.size:=rfl;omega
 refine JgX (o:=o) (P:=P) h (w':=w') g2 (Jim s (cap-s.size)) cap (by rw[hxl];exact c1) c2 (by rw[hxl];simp only[big];omega) hlen ?_;rw[hxl];refine exec_v he ?_;simp only[convert,Sem.run_bind,run_underlying e1,run_underlying e2,Result.andThen_ok,run_underlying e4,Conv.stringToBytes,run_choose,Question.forced,Bool.false_eq_true,if_false,hcap,newRow,run_newObj,Sem.run_pure];rw[Array.toArray_toList] at g1;unfold Jbk at g1;rw[g1];rfl
theorem Jl2 (hE:EnvOk P E) (h:St N Z own β σ a w) {src s ver:Nat} {xs:List (BitVec 8)} {u:Value} (h1:E.ty src=some (.sl (.int .u8))) (hm:σ.mem s= .own ver (.int .u8) xs .full) (hx:0<xs.length)
 (hu:Jac own w β σ.mem (.ref s ver) u) (he:execOp a.eval o=(do pure (.value (←convert src src u)))):Did P N Z o a w σ (.ref s ver):=by
 obtain⟨te,e2,e3⟩:=(hE.ty src _ h1).desc;have e4:P.underlying te=some (.int .u8):=(hE.ty te _ e3).desc;have hus:=hu.2 (.int .u8) xs .full hm;have hmm:=h.mems s;rw[hm] at hmm;obtain⟨ad,cap,f1,f2,f3,f4,f5⟩:=hmm;rcases f5 with ⟨f6,_⟩ | ⟨b,off,rfl,f6,f7,f8⟩
 · omega
 obtain⟨n,fz,g1,g2,g3⟩:=f7
 have hblk:∃c t,w.heap[b]?=some (.cells c t fz)∧c.size=n:=by
  unfold shp at g1;split at g1
  · rename_i c t fz' hb
    cases g1;exact⟨c,t,hb,rfl⟩
  · cases g1
 obtain⟨c,t,hb,hc⟩:=hblk;have hlt:b<w.heap.size:=Jep g1
 let w':World:=w.freeze ⟨b,n,none⟩ 1
 have hw':w'={w with heap:=w.heap.modify b fun
  | .cells c elem (lo,hi)=>.cells c elem (if lo==hi then (n,n+1) else (min lo n,max hi (n+1)))
  | o=>o}:=by
  show World.freeze _ _ _=_;unfold World.freeze;rw[if_neg (by decide)]
  congr 2
 have hheap:∀k,k≠b→w'.heap[k]?=w.heap[k]?:=by
  intro k hk;rw[hw'];simp[Array.getElem?_modify,Ne.symm hk]
 have hbl:w'.heap[b]?=some (.cells c t (n,n+1)):=by
  rw[hw'];simp only[Array.getElem?_modify,if_true,hb,Option.map_some];rcases g3 with rfl | rfl
  · simp
  · simp
 have hcell:∀b' j,w'.cell? ⟨b',j,none⟩=w.cell? ⟨b',j,none⟩:=by
  intro b' j;by_cases e:b'=b
  · subst e;simp[World.cell?,hbl,hb]
  · exact cell?_of_heap (hheap b' e)
 have hfroz:∀b' j v,w.cell? ⟨b',j,none⟩=some v→w'.frozen? ⟨b',j,none⟩=w.frozen? ⟨b',j,none⟩:=by
  intro b' j v hv;by_cases e:b'=b
  · subst e
    have hj:j<n:=by
     simp[World.cell?,hb] at hv;have:=(Array.getElem?_eq_some_iff.1 hv).1;omega
    simp only[World.frozen?,hbl,hb];rcases g3 with rfl | rfl
    · simp;omega
    · simp
  · exact frozen?_of_heap (hheap b' e)
 have hshp:∀b' k,Jc6 w b' k→Jc6 w' b' k:=by
  rintro b' k ⟨x,fz',q1,q2,q3⟩;by_cases e:b'=b
  · subst e
    rw[g1] at q1;cases q1;exact⟨n,(n,n+1),by simp[shp,hbl,hc],q2,.inr rfl⟩
  · exact⟨x,fz',by rw[JaY (hheap b' e)];exact q1,q2,q3⟩
 have hwr:Z.wr b off:=(f8 off (by omega) (by simp[Ty.size];omega)).2.1
 have hframe:Frm Z.w.heap.size Z.io w w':={
  os:=by rw[hw']
  tape:=by rw[hw']
  output:=by rw[hw']
  size:=by rw[hw'];simp
  cell:=fun b' o' _ _=>hcell b' o'
  live:=fun b' o' v _ hv=>⟨⟨v,by rw[hcell];exact hv⟩,hfroz b' o' v hv⟩
  shape:=fun b' k _=>hshp b' k
  block:=fun b' hb' hio=>by
   by_cases e:b'=b
   · subst e
     rcases hwr with h3 | h3
     · omega
     · exact absurd h3 (hio off)
   · exact hheap b' e}
 have hkk:Keeps own own w w':=⟨fun b o v q1 q2=>⟨q1,by rw[hcell];exact q2⟩,fun r es c q1 q2=>⟨q1,by rw[hheap r (fun e=>by rw[e,hb] at q2;cases q2)];exact q2⟩⟩
 have hok:∀s,Jah s own own w w':=fun s=>⟨fun b o v q1 q2=>⟨q1,by rw[hcell];exact q2,hfroz _ _ _ q2⟩,
  fun r ob ho q1 q2=>⟨q1,by rw[hheap r (fun e=>by rw[e,hb] at q2;cases q2;cases ho)];exact q2⟩⟩
 have hst:St N Z own β σ a w':=h.go hframe (fun _ _ _ _=>rfl) hkk (fun s=>Evo.same _ rfl) rfl
  (fun s=>(h.mems s).keeps hkk (hok s) hshp rfl) (fun s _=>⟨rfl,hok s⟩)
 refine Jae (exec_v he (u:=u) (w':=w') ?_) hst (hu.go hkk (fun s=>Evo.same _ rfl));rw[hus,f1];have hsh:w.shape? b=some (t,n):=by simp[World.shape?,hb,hc]
 simp only[convert,Sem.run_bind,run_underlying e2,Result.andThen_ok,run_underlying e4,beq_self_eq_true,markStringish,run_shape,hsh,run_freeze,Sem.run_pure];rfl
end
end Go.Re
namespace Go.Re
set_option linter.unusedVariables false
set_option linter.unusedSimpArgs false
open Go.RowKit (Below)
section
variable {P:Program} {E:Env} {N:Nat} {Z:Base} {own:Own} {β:Jai} {σ:S} {a:Act} {w:World} {o:Oper}
def Src (P:Program) (own:Own) (w:World) (e:Ty) (x:Value) (ys:List e.D):Prop:=
 (Builtin.lenOf x).run P w= .ok ys.length w∧ys.length≤big∧∃cs:List Value,cs.length=ys.length*e.size∧JaB own w e cs ys ∧
  (∀v∈cs,v.oneCell'=true)∧∀m,m≤ys.length→∀w',w'.heap=w.heap→(Builtin.firstCells e.size m x).run P w'= .ok (cs.take (m*e.size)).toArray w'
theorem JaB.one {e:Ty} {cs:List Value} {xs:List e.D} (h:JaB own w e cs xs) (hl:cs.length=xs.length*e.size):∀v∈cs,v.oneCell'=true:=by
 intro v hv;obtain⟨i,hi,hv⟩:=Je6 hl hv;exact (h.2 i hi).one v hv
theorem Jds.src {e:Ty} {u:Value} {x:List e.D} (h:Jds own w e u x):Src P own w e u x:=by
 obtain⟨ad,cap,rfl,h2,h3,h4,h5⟩:=h.loads;refine⟨rfl,h4,?_⟩;rcases h5 with ⟨rfl,rfl⟩ | ⟨b,off,cs,rfl,h6,h7,h8⟩
 · refine⟨[],by simp,⟨by simp,fun i h=>by simp at h⟩,by simp,fun m hm w' _=>?_⟩
   cases ad with
   | none=>simp[Builtin.firstCells]
   | some ad=>
    have:m=0:=by simpa using hm
    subst this;simp[Builtin.firstCells,Jdm]
 · refine⟨cs,h6,h7,h7.one h6,fun m hm w' hw'=>?_⟩
   have hb:m*e.size≤cs.length:=by rw[h6];exact Nat.mul_le_mul_right _ hm
   simp only[Builtin.firstCells]
   exact Jce (cs.take (m*e.size)) (m*e.size) (by simp;omega) (fun j v hj=>by
    rw[List.getElem?_take] at hj;split at hj
    · rw[cell?_of_heap (w:=w) (by rw[hw'])];exact h8 j v hj
    · cases hj)
theorem Jm0 {s:ByteArray} (h:s.size≤big):Src P own w (.int .u8) (.string s) (s.data.toList.map UInt8.toBitVec):=by
 have hl:(s.data.toList.map UInt8.toBitVec).length=s.size:=by simp
 have hcs:=Jim (own:=own) (w:=w) s 0;have hlen:(Jbk s 0).toList.length=s.size:=by simp[Jbk]
 refine⟨by rw[hl];rfl,by rw[hl];exact h,(Jbk s 0).toList,by rw[hl,hlen];simp[Ty.size],hcs,hcs.one (by rw[hl,hlen];simp[Ty.size]),fun m hm w' _=>?_⟩;rw[hl] at hm;simp only[Builtin.firstCells,Sem.run_pure,Ty.size,Nat.mul_one]
 congr 1
 apply Array.ext';simp[Jbk,ByteArray.data_extract,List.extract_eq_take_drop,List.map_take]
theorem Jin (hE:EnvOk P E) (h:St N Z own β σ a w) {t:Nat} {e:Ty} {v:V} {u:Value} {α:Type} {k:List e.D→M α} {r:α×S} (hu:Jac own w β σ.mem v u) (hr:(more E t e v k).run σ=some r):
 ∃ys,Src P own w e u ys∧(∀w,(underlying t).run P w= .ok .string w∨∃te,(underlying t).run P w= .ok (.slice te) w)∧(k ys).run σ=some r:=by
 unfold more at hr;split at hr
 · rename_i ht
   have hd:P.underlying t=some .string:=(hE.ty t _ ht).desc;split at hr
   · rename_i x
     split at hr
     · rename_i y hy
       obtain⟨eq,hy⟩:=cast?_some hy;cases eq;have hy:x=y:=hy;subst hy;obtain⟨s,rfl,h1,h2⟩:=Jab.str.1 hu;subst h1;exact⟨_,Jm0 (by simpa using h2),fun w=>.inl (run_underlying hd w),hr⟩
     · cases hr
   · cases hr
 · rename_i e' ht
   obtain⟨te,hd,_⟩:=(hE.ty t _ ht).desc;split at hr
   · rename_i s ver hi
     simp only[M.run] at hr;split at hr
     · rename_i ver' e1 xs hm
       split at hr
       · rename_i eq;subst eq
         split at hr
         · rename_i xs' hx
           obtain⟨eq,hx⟩:=cast?_some hx;cases eq;have hx:xs=xs':=hx;subst hx;obtain⟨h1,ad,cap,h2,h3⟩:=hu.2 _ xs .full hm rfl;have hE':=h.mems s;rw[hm] at hE';obtain⟨ad',cap',e1,e2,e3,e4,e5⟩:=hE';rw[h2] at e1;injection e1 with i1 i2 i3
           subst i1;subst i3;have hl:(xs.take hi).length=hi:=by simp;omega
           have hq:Jds own w e u (xs.take hi):=by
            refine⟨ad,cap,some s,by rw[hl];exact h3,by omega,e3,by omega,e5.imp (·.1) ?_⟩;rintro⟨b,off,g1,g2,g3⟩;refine⟨b,off,g1,fun i hi'=>?_⟩;obtain⟨es,q1,q2,q3⟩:=g2 i (by omega);exact⟨es,q1,q2,by rw[List.getElem_take];exact q3⟩
           exact⟨_,hq.src,fun w=>.inr ⟨te,run_underlying hd w⟩,hr⟩
         · cases hr
       · cases hr
     · cases hr
   · obtain⟨ys,h1,h2⟩:=JdP h hu hr
     exact⟨ys,h1.q.src,fun w=>.inr ⟨te,run_underlying hd w⟩,h2⟩
 · cases hr
theorem Jhg (n:Nat):∀(r c:Nat),Builtin.growBy n r c≤max c (n+(n+768)/4)
 | 0,c=>Nat.le_max_left _ _
 | r+1,c=>by
  unfold Builtin.growBy;split
  · exact Nat.le_max_left _ _
  · have:=Jhg n r (c+(c+768)/4)
    omega
theorem Jd3 {n c:Nat} (h:c<n):Builtin.nextslicecap n c≤2*n+256:=by
 unfold Builtin.nextslicecap;split
 · omega
 · split
   · omega
   · have:=Jhg n 4 c
     omega
theorem Jks (hE:EnvOk P E) {t t' te ty:Nat} {e:Ty} {ad:Option Addr} {n cap:Nat} {x:Value} {ys:List e.D} (ht:P.underlying t=some (.slice te)) (hte:E.ty te=some e)
 (hsrc:(Builtin.lenOf x).run P w= .ok ys.length w) (hu:∀w,(underlying t').run P w= .ok .string w∨∃te,(underlying t').run P w= .ok (.slice te) w) (hl:n+ys.length≤lim) (hc:cap<9223372036854775808)
 {yc oc:List Value} (hyc:∀w',(w'.heap=w.heap)→(Builtin.firstCells e.size ys.length x).run P w'= .ok yc.toArray w')
 (hoc:∀w',(w'.heap=w.heap)→(Builtin.firstCells e.size n (.slice ad n cap)).run P w'= .ok oc.toArray w'):
 if n+ys.length≤cap then
  (Builtin.append_ #[t,t'] ty #[.slice ad n cap,x]).run P w =
   ((match ad with | some b=>storeCells (b.add (n*e.size)) yc | none=>pure ()).run P w).andThen fun _ w'=>.ok (.slice ad (n+ys.length) cap) w'
 else ∃c,n+ys.length≤c∧c<9223372036854775808∧(Builtin.append_ #[t,t'] ty #[.slice ad n cap,x]).run P w =
  .ok (.slice (some ⟨w.heap.size,0,none⟩) (n+ys.length) c) {w with heap:=w.heap.push (.cells (oc++yc++(Builtin.zeroCells (mkV e (zeroC e)).cells (c-(n+ys.length))).toList).toArray te (0,0)),drawn:=w.drawn+1}:=by
 have hT:=hE.ty te e hte;obtain⟨i,g1,g2,g3,g4⟩:=hT.info;have hl':n+ys.length≤2147483648:=hl
 have hz:∀w,((do pure ((←underlying t') matches .int _):Sem Bool)).run P w= .ok false w:=by
  intro w;rcases hu w with h | ⟨te',h⟩<;>simp[h]
 have hlen:(Builtin.lenOf x).run P w= .ok ys.length w:=hsrc;have hy0:=hyc w rfl;split
 · rename_i hle
   rcases hu w with hu' | ⟨te',hu'⟩
   all_goals
    simp only[Builtin.append_,List.getElem?_toArray,List.getElem?_cons_zero,List.getElem?_cons_succ,Sem.run_bind,run_underlying ht,Result.andThen_ok,hT.cells,Sem.run_pure,hu',Bool.false_eq_true,if_false,hlen,hle,if_true,Bool.not_false,hy0];cases ad with
    | none=>simp
    | some b=>simp
 · rename_i hle
   have hcn:cap<n+ys.length:=by omega
   obtain⟨c1,c2⟩:=Jdv (n+ys.length) cap te (w.tape w.drawn (.appendCap (n+ys.length) cap te)) (by omega);have hnx:=Jd3 hcn
   have hb:¬(Builtin.nextslicecap (n+ys.length) cap*i.bytes>2^48):=by
    have:Builtin.nextslicecap (n+ys.length) cap*i.bytes≤(2*2147483648+256)*32768:=Nat.mul_le_mul (by omega) g3;omega
   have hmx:¬((n+ys.length:Nat):Int)>IntKind.i64.max:=by rw[IntKind.max_i64];omega
   have hy1:=hyc {w with drawn:=w.drawn+1} rfl
   have ho1:=hoc {w with drawn:=w.drawn+1} rfl
   refine⟨_,c1,c2,?_⟩;rcases hu w with hu' | ⟨te',hu'⟩
   all_goals
    simp only[Builtin.append_,List.getElem?_toArray,List.getElem?_cons_zero,List.getElem?_cons_succ,Sem.run_bind,run_underlying ht,Result.andThen_ok,hT.cells,Sem.run_pure,hu',Bool.false_eq_true,if_false,hlen,hle,Bool.not_false,if_true,
     hmx,false_and,typeInfo,run_program,g1,hb,run_choose,Question.forced,run_askRoom,ho1,hy1,hT.zeroRun,newRow,run_newObj]
    congr 4
    apply Array.ext';simp
def Jnw (P:Program) (w:World) (t t' ty te:Nat) (e:Ty) (x:Value) (k:Nat) (yc:List Value):Prop:=
 ∀(ad:Option Addr) (n cap:Nat) (oc:List Value),n+k≤lim→cap<9223372036854775808 →
  (∀w',(w'.heap=w.heap)→(Builtin.firstCells e.size n (.slice ad n cap)).run P w'= .ok oc.toArray w') →
  if n+k≤cap then
   (Builtin.append_ #[t,t'] ty #[.slice ad n cap,x]).run P w =
    ((match ad with | some b=>storeCells (b.add (n*e.size)) yc | none=>pure ()).run P w).andThen fun _ w'=>.ok (.slice ad (n+k) cap) w'
  else ∃c,n+k≤c∧c<9223372036854775808∧(Builtin.append_ #[t,t'] ty #[.slice ad n cap,x]).run P w =
   .ok (.slice (some ⟨w.heap.size,0,none⟩) (n+k) c) {w with heap:=w.heap.push (.cells (oc++yc++(Builtin.zeroCells (mkV e (zeroC e)).cells (c-(n+k))).toList).toArray te (0,0)),drawn:=w.drawn+1}
def Jgn (P:Program) (E:Env) (own:Own) (w:World) (t t' ty:Nat) (e:Ty) (x:Value) (ys:List e.D):Prop:=
 ∃yc:List Value,yc.length=ys.length*e.size∧JaB own w e yc ys∧(∀v∈yc,v.oneCell'=true) ∧
  ∀te,P.underlying t=some (.slice te)→E.ty te=some e→Jnw P w t t' ty te e x ys.length yc
theorem Src.app (hE:EnvOk P E) {t t' ty:Nat} {e:Ty} {x:Value} {ys:List e.D} (hsrc:Src P own w e x ys) (hu:∀w,(underlying t').run P w= .ok .string w∨∃te,(underlying t').run P w= .ok (.slice te) w):
 Jgn P E own w t t' ty e x ys:=by
 obtain⟨s1,s2,yc,s3,s4,s5,s6⟩:=hsrc
 have hyc:∀w',w'.heap=w.heap→(Builtin.firstCells e.size ys.length x).run P w'= .ok yc.toArray w':=fun w' hw'=>by
  have:=s6 ys.length (Nat.le_refl _) w' hw'
  rwa [←s3,List.take_length] at this
 exact⟨yc,s3,s4,s5,fun te ht hte ad n cap oc hl hc hoc=>Jks hE ht hte s1 hu hl hc hyc hoc⟩
theorem Jl3 (hE:EnvOk P E) {t t' ty:Nat} {e:Ty} {m:Nat} (hi:E.ty t'=some (.int .i64)) (hm:m≤lim) (hv:e.isVal=true) (hg:e.good=true):
 Jgn P E own w t t' ty e (.int .i64 (m:Int)) (List.replicate m e.zero):=by
 have hz:=JfV hv hg m;have hrepz:=Jat (own:=own) (w:=w) (τ:=.arr m e) hg;obtain⟨q1,q2,q3⟩:=JaB.of_arr hrepz;have hlz:(List.replicate m e.zero).length=m:=by simp
 refine⟨zeroC (.arr m e),by rw[hlz];exact q3,q1,q1.one (by rw[q3];congr 1;exact hlz.symm),fun te ht hte ad n cap oc hl hc hoc=>?_⟩;have hT:=hE.ty te e hte;obtain⟨i,g1,g2,g3,g4⟩:=hT.info;have hm':m≤2147483648:=hm;rw[hlz] at hl ⊢;have hl':n+m≤2147483648:=hl;have hu':P.underlying t'=some (.int .i64):=(hE.ty t' _ hi).desc;have hw:IntKind.i64.wrap (m:Int)=(m:Int):=by have:=w64_in (n:=(m:Int)) (by omega) (by omega);exact this
 have hneg:¬((m:Int)<0):=by omega
 have hbytes:¬((m:Int)*(i.bytes:Int)>2^48):=by
  have:(m:Int)*(i.bytes:Int)≤2147483648*32768:=Int.mul_le_mul (by omega) (by omega) (by omega) (by omega);omega
 have hzc:(if m*e.size=0 then #[] else (Builtin.zeroCells (mkV e (zeroC e)).cells m))=(zeroC (.arr m e)).toArray:=by
  have hzl:(mkV e (zeroC e)).cells.size=e.size:=by
   have hz0:=Jat (own:=own) (w:=w) hg;have h1:=Ja1 hv hz0;rw[←Array.length_toList,h1];exact hz0.length
  split
  · rename_i h0
    have:(zeroC (.arr m e)).length=0:=by rw[q3];exact h0
    rw[List.eq_nil_of_length_eq_zero this]
  · unfold Builtin.zeroCells
    rw[show m*(mkV e (zeroC e)).cells.size=m*e.size by rw[hzl]];exact hz
 split
 · rename_i hle
   simp only[Builtin.append_,List.getElem?_toArray,List.getElem?_cons_zero,List.getElem?_cons_succ,Sem.run_bind,run_underlying ht,Result.andThen_ok,hT.cells,Sem.run_pure,run_underlying hu',if_true,asInt,asIntOf,hw,hneg,if_false,
    typeInfo,run_program,g1,hbytes,Int.toNat_natCast,hle,Bool.not_true,Bool.false_eq_true]
   have e1:∀w',((if m*e.size=0 then pure #[] else (do pure (Builtin.zeroCells (←zeroValue te).cells m)):Sem (Array Value))).run P w'= .ok (zeroC (.arr m e)).toArray w':=by
    intro w';rw[←hzc];split
    · rfl
    · simp only[Sem.run_bind,hT.zeroRun,Result.andThen_ok,Sem.run_pure]
   rw[e1];cases ad with
   | none=>simp
   | some b=>simp
 · rename_i hle
   have hcn:cap<n+m:=by omega
   obtain⟨c1,c2⟩:=Jdv (n+m) cap te (w.tape w.drawn (.appendCap (n+m) cap te)) (by omega);have hnx:=Jd3 hcn
   have hb:¬(Builtin.nextslicecap (n+m) cap*i.bytes>2^48):=by
    have:Builtin.nextslicecap (n+m) cap*i.bytes≤(2*2147483648+256)*32768:=Nat.mul_le_mul (by omega) g3;omega
   have hmx:¬((n+m:Nat):Int)>IntKind.i64.max:=by rw[IntKind.max_i64];omega
   have ho1:=hoc {w with drawn:=w.drawn+1} rfl
   refine⟨_,c1,c2,?_⟩
   have e1:∀w',((if m*e.size=0 then pure #[] else (do pure (Builtin.zeroCells (←zeroValue te).cells m)):Sem (Array Value))).run P w'= .ok (zeroC (.arr m e)).toArray w':=by
    intro w';rw[←hzc];split
    · rfl
    · simp only[Sem.run_bind,hT.zeroRun,Result.andThen_ok,Sem.run_pure]
   simp only[Builtin.append_,List.getElem?_toArray,List.getElem?_cons_zero,List.getElem?_cons_succ,Sem.run_bind,run_underlying ht,Result.andThen_ok,hT.cells,Sem.run_pure,run_underlying hu',if_true,asInt,asIntOf,hw,hneg,if_false,
    typeInfo,run_program,g1,hbytes,Int.toNat_natCast,hle,Bool.not_true,Bool.false_eq_true,hmx,false_and,hb,run_choose,Question.forced,run_askRoom,ho1,hT.zeroRun,newRow,run_newObj,e1]
   congr 4
   apply Array.ext';simp
def JbN (own:Own) (b lo mid hi:Nat) (q:Option Nat) (d:Nat):Own:=fun b' j=>if b'=b∧lo≤j∧j<hi then (if j<mid then q else some d) else own b' j
def JaZ (m:Mode) (ver:Nat) (e:Ty) (xs:List e.D):Entry:=
 match m with
 | .full=>.gone ver
 | _=>.own ver e xs .view
theorem Jio (h:St N Z own β σ a w) {s d ver:Nat} {e:Ty} {xs ys:List e.D} {m:Mode} (hm:σ.mem s= .own ver e xs m) (hmv:m= .full∨m= .tail) {b off cap:Nat}
 (hβ:β s= .slice (some ⟨b,off,none⟩) xs.length cap) (hcap:cap<9223372036854775808) (hrow:JaX own w (m.owner s) e b off xs) (hrest:m.rest Z own w s b off xs.length cap e.size)
 (hle:xs.length+ys.length≤cap) (hl:xs.length+ys.length≤lim) {yc:List Value} (hyl:yc.length=ys.length*e.size) (hye:JaB own w e yc ys) {w':World} (hw:Wrote b (off+xs.length*e.size) yc w w'):
 St N Z (JbN own b off (off+(xs.length+ys.length)*e.size) (off+cap*e.size) (m.owner d) d) (upd β d (.slice (some ⟨b,off,none⟩) (xs.length+ys.length) cap))
  ((σ.set s (JaZ m ver e xs)).set d (.own (nextVer (σ.mem d)) e (xs++ys) m)) a w':=by
 have hl':xs.length+ys.length≤2147483648:=hl;have hmul:(xs.length+ys.length)*e.size=xs.length*e.size+ys.length*e.size:=Nat.add_mul _ _ _;have hcapm:(xs.length+ys.length)*e.size≤cap*e.size:=Nat.mul_le_mul_right _ hle
 have tailOwn:∀j,off+xs.length*e.size≤j→j<off+cap*e.size→own b j=some s∧Z.wr b j∧(∃v,w.cell? ⟨b,j,none⟩=some v)∧w.frozen? ⟨b,j,none⟩=false:=by
  intro j h1 h2;rcases hmv with rfl | rfl
  · exact hrest.2 j (by omega) h2
  · exact hrest j h1 h2
 have hown:∀j,j<yc.length→own b (off+xs.length*e.size+j)=some s:=fun j hj=>(tailOwn _ (by omega) (by omega)).1;have hwr:∀j,j<yc.length→Z.wr b (off+xs.length*e.size+j):=fun j hj=>(tailOwn _ (by omega) (by omega)).2.1;have hkw:=hw.keeps hown
 have hk:Keeps own (JbN own b off (off+(xs.length+ys.length)*e.size) (off+cap*e.size) (m.owner d) d) w w':=by
  suffices hk0:∀b' j,own b' j=none→JbN own b off (off+(xs.length+ys.length)*e.size) (off+cap*e.size) (m.owner d) d b' j=none from
   ⟨fun b' j v h1 h2=>⟨hk0 _ _ h1,(hkw b' j v h1 h2).2⟩,fun r es c h1 h2=>⟨hk0 _ _ h1,(hkw.map r es c h1 h2).2⟩⟩
  intro b' j h1;unfold JbN;split
  · rename_i hc
    obtain⟨rfl,c1,c2⟩:=hc;rcases Nat.lt_or_ge j (off+xs.length*e.size) with h3 | h3
    · rcases hmv with rfl | rfl
      · have:=(hrest.2 j c1 c2).1
        rw[h1] at this;cases this
      · rw[if_pos (by omega)];rfl
    · have:=(tailOwn j h3 c2).1
      rw[h1] at this;cases this
  · exact h1
 have hks:∀s',s'≠s→Jah s' own (JbN own b off (off+(xs.length+ys.length)*e.size) (off+cap*e.size) (m.owner d) d) w w':=by
  intro s' hs';have keep:∀b' j,own b' j=some s'→JbN own b off (off+(xs.length+ys.length)*e.size) (off+cap*e.size) (m.owner d) d b' j=some s':=?_
  · exact⟨fun b' j v h1 h2=>⟨keep _ _ h1,((hw.ownKeeps hown hs').1 b' j v h1 h2).2⟩,fun r ob ho h1 h2=>⟨keep _ _ h1,hw.objs ho h2⟩⟩
  intro b' j h1;unfold JbN;split
  · rename_i hc
    obtain⟨rfl,c1,c2⟩:=hc;rcases Nat.lt_or_ge j (off+xs.length*e.size) with h3 | h3
    · rcases hmv with rfl | rfl
      · have:=(hrest.2 j c1 c2).1
        rw[h1] at this;cases this;exact absurd rfl hs'
      ·
       exfalso
       have hpos:0<e.size:=by
        rcases Nat.eq_zero_or_pos e.size with h0 | h0
        · rw[h0] at h3;omega
        · exact h0
       have hi:(j-off)/e.size<xs.length:=by rw[Nat.div_lt_iff_lt_mul hpos];omega
       obtain⟨es,g1,g2,g3⟩:=hrow _ hi;have hmod:=Nat.mod_lt (j-off) hpos;have:=(g2 ((j-off)%e.size) es[(j-off)%e.size] (List.getElem?_eq_getElem (by omega))).1
       have e1:off+(j-off)/e.size*e.size+(j-off)%e.size=j:=by
        have:=Nat.div_add_mod' (j-off) e.size;omega
       rw[e1,h1] at this;cases this
    · have:=(tailOwn j h3 c2).1
      rw[h1] at this;cases this;exact absurd rfl hs'
  · exact h1
 have h1:St N Z own β (σ.set s (JaZ m ver e xs)) a w:=by
  refine h.go (Frm.refl _ _ _) (fun _ _ _ _=>rfl) (Keeps.refl _ _) ?_ rfl ?_ (JaO (by rcases hmv with rfl | rfl<;>rfl) fun _ _=>Jah.refl _ _ _)
  · intro s'
    show Evo β β s' (σ.mem s') (upd σ.mem s _ s');rw[Jad];split
    · rename_i e;subst e;rw[hm]
      rcases hmv with rfl | rfl
      · exact Evo.gone
      · exact Evo.setOwn rfl rfl
    · exact Evo.same _ rfl
  · intro s'
    show Jaj Z own w β s' (upd σ.mem s _ s');rw[Jad];split
    · rename_i e;subst e
      rcases hmv with rfl | rfl
      · trivial
      · exact⟨_,cap,hβ,by omega,hcap,by simp only[big];omega,.inr ⟨b,off,rfl,hrow,trivial⟩⟩
    · exact h.mems s'
 have hver:nextVer ((σ.set s (JaZ m ver e xs)).mem d)=nextVer (σ.mem d):=by
  show nextVer (upd σ.mem s _ d)=_;rw[Jad];split
  · rename_i e;subst e;rw[hm]
    rcases hmv with rfl | rfl<;>rfl
  · rfl
 rw[←hver]
 have hx:∀s',s'≠d→Ja5 ((σ.set s (JaZ m ver e xs)).mem s')=true→Jah s' own (JbN own b off (off+(xs.length+ys.length)*e.size) (off+cap*e.size) (m.owner d) d) w w':=by
  intro s' _ hv;refine hks s' fun eq=>?_;subst eq;have hv:Ja5 (upd σ.mem s' (JaZ m ver e xs) s')=true:=hv;rw[Jad,if_pos rfl] at hv;rcases hmv with rfl | rfl<;>cases hv
 refine h1.newSite' (hw.frame hwr) ?_ hk ?_ (fun β'=>Evo.newOwn _ _ _ _) ?_ hx
 · intro b' j hlt hio
   unfold JbN;split
   · rename_i hc
     obtain⟨rfl,c1,c2⟩:=hc;rcases Nat.lt_or_ge j (off+xs.length*e.size) with h3 | h3
     · rcases hmv with rfl | rfl
       · rcases (hrest.2 j c1 c2).2.1 with h4 | h4
         · omega
         · exact absurd h4 hio
       · rw[if_pos (by omega)]
         have hpos:0<e.size:=by
          rcases Nat.eq_zero_or_pos e.size with h0 | h0
          · rw[h0] at h3;omega
          · exact h0
         have hi:(j-off)/e.size<xs.length:=by rw[Nat.div_lt_iff_lt_mul hpos];omega
         obtain⟨es,g1,g2,g3⟩:=hrow _ hi;have hmod:=Nat.mod_lt (j-off) hpos;have:=(g2 ((j-off)%e.size) es[(j-off)%e.size] (List.getElem?_eq_getElem (by omega))).1
         have e1:off+(j-off)/e.size*e.size+(j-off)%e.size=j:=by
          have:=Nat.div_add_mod' (j-off) e.size;omega
         rw[e1] at this;exact this.symm
     · rcases (tailOwn j h3 c2).2.1 with h4 | h4
       · omega
       · exact absurd h4 hio
   · rfl
 · intro s' hs'
   show Jaj Z _ w' β s' (upd σ.mem s _ s');rw[Jad];split
   · rename_i eq;subst eq
     rcases hmv with rfl | rfl
     · trivial
     · exact⟨_,cap,hβ,by omega,hcap,by simp only[big];omega,.inr ⟨b,off,rfl,hrow.keeps hk (fun b o v q1 q2=>hk b o v q1 q2),trivial⟩⟩
   · rename_i eq
     exact (h.mems s').keeps hk (hks s' eq) hw.shps rfl
 · have hlen:(xs++ys).length=xs.length+ys.length:=by simp
   refine Jaj.ofRow (by rcases hmv with rfl | rfl<;>rfl) ⟨_,cap,by rw[Jad,if_pos rfl,hlen],by rw[hlen];exact hle,hcap,by rw[hlen];simp only[big];omega,.inr ⟨b,off,rfl,?_,?_⟩⟩
   · intro i hi
     rw[hlen] at hi;have hib:i*e.size+e.size≤(xs.length+ys.length)*e.size:=by rw[←Nat.succ_mul];exact Nat.mul_le_mul_right _ hi
     rcases Nat.lt_or_ge i xs.length with h3 | h3
     · obtain⟨es,g1,g2,g3⟩:=hrow i h3
       have hib2:i*e.size+e.size≤xs.length*e.size:=by rw[←Nat.succ_mul];exact Nat.mul_le_mul_right _ h3
       refine⟨es,g1,?_,by rw[List.getElem_append_left h3];exact g3.keeps hk⟩;intro j v hj;have hjl:j<es.length:=(List.getElem?_eq_some_iff.1 hj).1;obtain⟨f1,f2⟩:=g2 j v hj;refine⟨?_,by rw[hw.outside _ (by omega)];exact f2⟩;unfold JbN;rw[if_pos ⟨rfl,by omega,by omega⟩,if_pos (by omega)]
     · have hi2:i-xs.length<ys.length:=by omega
       have g3:=hye.2 (i-xs.length) hi2;refine⟨_,g3.length,?_,by rw[List.getElem_append_right h3];exact g3.keeps hk⟩;intro j v hj;rw[List.getElem?_take] at hj;split at hj
       · rename_i hjs
         rw[List.getElem?_drop] at hj;have e1:i*e.size=xs.length*e.size+(i-xs.length)*e.size:=by rw[←Nat.add_mul];congr 1;omega
         refine⟨?_,?_⟩
         · unfold JbN
           rw[if_pos ⟨rfl,by omega,by omega⟩,if_pos (by omega)]
         · have:=hw.inside _ v hj
           rwa [show off+xs.length*e.size+((i-xs.length)*e.size+j)=off+i*e.size+j by omega] at this
       · cases hj
   · have cells:∀j,off≤j→j<off+cap*e.size→(own b j=some s∧Z.wr b j∧(∃v,w.cell? ⟨b,j,none⟩=some v)∧w.frozen? ⟨b,j,none⟩=false) →
      Z.wr b j∧(∃v,w'.cell? ⟨b,j,none⟩=some v)∧w'.frozen? ⟨b,j,none⟩=false:=by
      rintro j c1 c2 ⟨d1,d2,⟨v,d3⟩,d4⟩;refine⟨d2,?_,by rw[hw.frozen];exact d4⟩;rw[hw.cell];split
      · exact⟨_,List.getElem?_eq_getElem (by omega)⟩
      · exact⟨v,d3⟩
     rw[hlen];rcases hmv with rfl | rfl
     · refine⟨hw.shps _ _ hrest.1,?_⟩
       intro j c1 c2;refine⟨?_,cells j c1 c2 (hrest.2 j c1 c2)⟩;unfold JbN;rw[if_pos ⟨rfl,c1,c2⟩];split<;>rfl
     · intro j c1 c2
       refine⟨?_,cells j (by omega) c2 (tailOwn j (by omega) c2)⟩;unfold JbN;rw[if_pos ⟨rfl,by omega,c2⟩,if_neg (by omega)]
end
end Go.Re
namespace Go.Re
set_option linter.unusedVariables false
set_option linter.unusedSimpArgs false
open Go.RowKit (Below)
section
variable {P:Program} {E:Env} {N:Nat} {Z:Base} {own:Own} {β:Jai} {σ:S} {a:Act} {w:World} {o:Oper}
theorem JbV {e:Ty} (hv:e.isVal=true) (hg:e.good=true) (k:Nat):(Builtin.zeroCells (mkV e (zeroC e)).cells k).toList.length=k*e.size:=by
 have hz:=Jat (own:=fun _ _=>none) (w:=default) hg;have hc:=Ja1 hv hz;have hl:=hz.length
 have:(mkV e (zeroC e)).cells.size=e.size:=by
  have:=congrArg List.length hc
  rwa [Array.length_toList,hl] at this
 simp[Builtin.zeroCells,this]
def JbO (own:Own) (n mid:Nat) (q:Option Nat) (d:Nat):Own:=fun b j=>if b=n then (if j<mid then q else some d) else own b j
theorem JaB.append {e:Ty} {c1 c2 c3:List Value} {xs ys:List e.D} (h1:JaB own w e c1 xs) (h2:JaB own w e c2 ys) (hl:c1.length=xs.length*e.size):JaB own w e (c1++c2++c3) (xs++ys):=by
 have hl2:=h2.1;refine⟨by simp[hl,Nat.add_mul];omega,?_⟩;intro i hi;rcases Nat.lt_or_ge i xs.length with h3 | h3
 · have hb:i*e.size+e.size≤xs.length*e.size:=by rw[←Nat.succ_mul];exact Nat.mul_le_mul_right _ h3
   rw[List.getElem_append_left h3,List.append_assoc,List.drop_append_of_le_length (by omega),List.take_append_of_le_length (by simp;omega)];exact h1.2 i h3
 · have hi2:i-xs.length<ys.length:=by simp at hi;omega
   have hb:(i-xs.length)*e.size+e.size≤ys.length*e.size:=by rw[←Nat.succ_mul];exact Nat.mul_le_mul_right _ hi2
   have e1:i*e.size=c1.length+(i-xs.length)*e.size:=by rw[hl,←Nat.add_mul];congr 1;omega
   rw[List.getElem_append_right h3,List.append_assoc,e1,←List.drop_drop,List.drop_left,List.drop_append_of_le_length (by omega),List.take_append_of_le_length (by simp;omega)];exact h2.2 _ hi2
theorem JfE (h:St N Z own β σ a w) {d:Nat} {e:Ty} {xs:List e.D} {m:Mode} (hmv:m= .full∨m= .tail) {c:List Value} {cap:Nat} {w':World} (ha:Alloc1 w w' c)
 (hcl:c.length=cap*e.size) (he:JaB own w e c xs) (h1:xs.length≤cap) (h2:cap<9223372036854775808) (h3:xs.length≤big):
 St N Z (JbO own w.heap.size (xs.length*e.size) (m.owner d) d) (upd β d (.slice (some ⟨w.heap.size,0,none⟩) xs.length cap)) (σ.set d (.own (nextVer (σ.mem d)) e xs m)) a w':=by
 have hB:=h.base
 have hk:Keeps own (JbO own w.heap.size (xs.length*e.size) (m.owner d) d) w w':=by
  refine⟨?_,?_⟩
  · intro b j v q1 q2
    have hlt:=cell?_lt q2;refine⟨?_,by rw[cell?_of_heap (ha.block b hlt)];exact q2⟩;unfold JbO;rw[if_neg (by omega)];exact q1
  · intro r es c' q1 q2
    have hlt:=Ja6 q2;refine⟨?_,by rw[ha.block r hlt];exact q2⟩;unfold JbO;rw[if_neg (by omega)];exact q1
 have hks:∀s',Jah s' own (JbO own w.heap.size (xs.length*e.size) (m.owner d) d) w w':=by
  intro s';refine⟨?_,?_⟩
  · intro b j v q1 q2
    have hlt:=cell?_lt q2;refine⟨?_,by rw[cell?_of_heap (ha.block b hlt)];exact q2,frozen?_of_heap (ha.block b hlt)⟩;unfold JbO;rw[if_neg (by omega)];exact q1
  · intro r es c' q1 q2
    have hlt:=Ja6 q2;refine⟨?_,by rw[ha.block r hlt];exact q2⟩;unfold JbO;rw[if_neg (by omega)];exact q1
 refine h.newSite' (ha.frame _ hB) ?_ hk (fun s' _=>(h.mems s').keeps hk (hks s') ha.shps rfl) (fun β'=>Evo.newOwn _ _ _ _) ?_ (fun s' _ _=>hks s')
 · intro b j hlt _;unfold JbO;rw[if_neg (by omega)]
 · refine Jaj.ofRow (by rcases hmv with rfl | rfl<;>rfl) ⟨_,cap,by rw[Jad,if_pos rfl],h1,h2,h3,.inr ⟨w.heap.size,0,rfl,?_,?_⟩⟩
   · intro i hi
     have g:=he.2 i hi;have hib:i*e.size+e.size≤xs.length*e.size:=by rw[←Nat.succ_mul];exact Nat.mul_le_mul_right _ hi
     refine⟨_,g.length,?_,g.keeps hk⟩;intro j v hj;rw[List.getElem?_take] at hj;split at hj
     · rw[List.getElem?_drop] at hj
       rw[Nat.zero_add];refine⟨?_,by rw[ha.cell];exact hj⟩;unfold JbO;rw[if_pos rfl,if_pos (by omega)]
     · cases hj
   · have hxc:xs.length*e.size≤cap*e.size:=Nat.mul_le_mul_right _ h1
     have cells:∀j,j<cap*e.size→Z.wr w.heap.size j∧(∃v,w'.cell? ⟨w.heap.size,j,none⟩=some v)∧w'.frozen? ⟨w.heap.size,j,none⟩=false:=fun j hj=>
      ⟨.inl hB,⟨c[j]'(by omega),by rw[ha.cell,List.getElem?_eq_getElem]⟩,ha.free j (by omega)⟩
     rcases hmv with rfl | rfl
     · refine⟨let ⟨fz,f1,f2⟩:=ha.shape;⟨_,fz,f1,by omega,f2⟩,?_⟩
       intro j _ c2;refine⟨?_,cells j (by omega)⟩;unfold JbO;rw[if_pos rfl];split<;>rfl
     · intro j c1 c2
       refine⟨?_,cells j (by omega)⟩;unfold JbO;rw[if_pos rfl,if_neg (by omega)]
theorem Jgo (hE:EnvOk P E) (h:St N Z own β σ a w) {s d ver t t' ty:Nat} {e:Ty} {xs ys:List e.D} {m:Mode} (ht:E.ty t=some (.sl e)) (hm:σ.mem s= .own ver e xs m) (hmv:m= .full∨m= .tail)
 {x:Value} (hsrc:Jgn P E own w t t' ty e x ys) (hl:xs.length+ys.length≤lim)
 (he:execOp a.eval o=(do pure (.value (←Builtin.append_ #[t,t'] ty #[β s,x])))):
 Did P N Z o a w ((σ.set s (JaZ m ver e xs)).set d (.own (nextVer (σ.mem d)) e (xs++ys) m)) (.ref d (nextVer (σ.mem d))):=by
 obtain⟨te,hd,hte⟩:=(hE.ty t _ ht).desc;have hT:=hE.ty te e hte;have hl':xs.length+ys.length≤2147483648:=hl;have hmm:=h.mems s;rw[hm] at hmm;have hnm:m.isMp=false:=by rcases hmv with rfl | rfl<;>rfl
 obtain⟨ad,cap,f1,f2,f3,f4,f5⟩:=Jaj.row hnm hmm;obtain⟨yc,s3,s4,s5,s6⟩:=hsrc;have hq:Jds own w e (β s) xs:=⟨ad,cap,m.owner s,f1,f2,f3,f4,f5.imp (·.1) fun ⟨b,o,q1,q2,_⟩=>⟨b,o,q1,q2⟩⟩;obtain⟨_,_,oc,o3,o4,o5,o6⟩:=hq.src (P:=P)
 have hoc:∀w',w'.heap=w.heap→(Builtin.firstCells e.size xs.length (.slice ad xs.length cap)).run P w'= .ok oc.toArray w':=fun w' hw'=>by
  have:=o6 xs.length (Nat.le_refl _) w' hw'
  rwa [←o3,List.take_length,f1] at this
 have hlen:(xs++ys).length=xs.length+ys.length:=by simp
 have hrun:=s6 te hd hte ad xs.length cap oc hl f3 hoc;rw[f1] at he;split at hrun
 · rename_i hle
   rcases f5 with ⟨rfl,had⟩ | ⟨b,off,rfl,g1,g2⟩
   ·
    have hx0:xs=[]:=List.eq_nil_of_length_eq_zero (by omega);have hy0:ys=[]:=List.eq_nil_of_length_eq_zero (by omega);subst hx0;subst hy0
    have hst:St N Z own β (σ.set s (JaZ m ver e [])) a w:=by
     refine h.go (Frm.refl _ _ _) (fun _ _ _ _=>rfl) (Keeps.refl _ _) ?_ rfl ?_ (JaO (by rcases hmv with rfl | rfl<;>rfl) fun _ _=>Jah.refl _ _ _)
     · intro s'
       show Evo β β s' (σ.mem s') (upd σ.mem s _ s');rw[Jad];split
       · rename_i e;subst e;rw[hm]
         rcases hmv with rfl | rfl
         · exact Evo.gone
         · exact Evo.setOwn rfl rfl
       · exact Evo.same _ rfl
     · intro s'
       show Jaj Z own w β s' (upd σ.mem s _ s');rw[Jad];split
       · rename_i e;subst e
         rcases hmv with rfl | rfl
         · trivial
         · exact⟨ad,0,f1,by simp,by omega,by simp,.inl ⟨rfl,fun h=>by cases h⟩⟩
       · exact h.mems s'
    have hver:nextVer ((σ.set s (JaZ m ver e [])).mem d)=nextVer (σ.mem d):=by
     show nextVer (upd σ.mem s _ d)=_;rw[Jad];split
     · rename_i e;subst e;rw[hm]
       rcases hmv with rfl | rfl<;>rfl
     · rfl
    have hst2:=hst.newSite' (s:=d) (c:=.slice ad 0 0) (e':=.own (nextVer ((σ.set s (JaZ m ver e [])).mem d)) e [] m) (Frm.refl _ _ _) (fun _ _ _ _=>rfl) (Keeps.refl _ _) (fun s' _=>hst.mems s') (fun β'=>Evo.newOwn _ _ _ _)
     (Jaj.ofRow hnm ⟨ad,0,by rw[Jad,if_pos rfl];rfl,by simp,by omega,by simp,.inl ⟨rfl,had⟩⟩) (fun _ _ _=>Jah.refl _ _ _)
    rw[hver] at hst2;refine Jae (exec_v he (u:=.slice ad 0 0) (w':=w) ?_) hst2 (Ja0 _ _ _ (σ.set s (JaZ m ver e [])).mem d _ (σ.mem d) e [] m);have hyc0:yc=[]:=List.eq_nil_of_length_eq_zero (by rw[s3];simp);rw[hrun,hyc0];cases ad<;>simp[storeCells]
   ·
    have hcapm:(xs.length+ys.length)*e.size≤cap*e.size:=Nat.mul_le_mul_right _ hle;have hmul:(xs.length+ys.length)*e.size=xs.length*e.size+ys.length*e.size:=Nat.add_mul _ _ _
    have tailOwn:∀j,off+xs.length*e.size≤j→j<off+cap*e.size→(∃v,w.cell? ⟨b,j,none⟩=some v)∧w.frozen? ⟨b,j,none⟩=false:=by
     intro j h1 h2;rcases hmv with rfl | rfl
     · exact (g2.2 j (by omega) h2).2.2
     · exact (g2 j h1 h2).2.2
    obtain⟨w',k1,k2⟩:=Jbs (P:=P) (b:=b) (o:=off+xs.length*e.size) yc 0 w s5 (fun j hj=>by rw[Nat.zero_add];exact (tailOwn _ (by omega) (by omega)).1)
     (fun j hj=>by rw[Nat.zero_add];exact (tailOwn _ (by omega) (by omega)).2)
    have hst:=Jio h hm hmv (d:=d) f1 f3 g1 g2 hle hl s3 s4 k2;refine Jae (exec_v he (u:=.slice (some ⟨b,off,none⟩) (xs.length+ys.length) cap) (w':=w') ?_) hst ?_
    · rw[hrun]
      simp only[Jbx,k1,Result.andThen_ok]
    · exact Ja0 _ _ _ (σ.set s (JaZ m ver e xs)).mem d _ (σ.mem d) e (xs++ys) m
 ·
  obtain⟨c,c1,c2,hrun⟩:=hrun;have hz:=JbV hT.isVal hT.good (c-(xs.length+ys.length));have ha:=Jca w (oc++yc++(Builtin.zeroCells (mkV e (zeroC e)).cells (c-(xs.length+ys.length))).toList) te (w.drawn+1)
  have hcl:(oc++yc++(Builtin.zeroCells (mkV e (zeroC e)).cells (c-(xs.length+ys.length))).toList).length=c*e.size:=by
   rw[List.length_append,List.length_append,o3,s3,hz,←Nat.add_mul,←Nat.add_mul];congr 1;omega
  have hst:St N Z own β (σ.set s (JaZ m ver e xs)) a w:=by
   refine h.go (Frm.refl _ _ _) (fun _ _ _ _=>rfl) (Keeps.refl _ _) ?_ rfl ?_ (JaO (by rcases hmv with rfl | rfl<;>rfl) fun _ _=>Jah.refl _ _ _)
   · intro s'
     show Evo β β s' (σ.mem s') (upd σ.mem s _ s');rw[Jad];split
     · rename_i e;subst e;rw[hm]
       rcases hmv with rfl | rfl
       · exact Evo.gone
       · exact Evo.setOwn rfl rfl
     · exact Evo.same _ rfl
   · intro s'
     show Jaj Z own w β s' (upd σ.mem s _ s');rw[Jad];split
     · rename_i e;subst e
       rcases hmv with rfl | rfl
       · trivial
       · exact⟨ad,cap,f1,f2,f3,f4,f5.imp (fun h=>⟨h.1,fun h=>by cases h⟩) fun ⟨b,o,q1,q2,_⟩=>⟨b,o,q1,q2,trivial⟩⟩
     · exact h.mems s'
  have hver:nextVer ((σ.set s (JaZ m ver e xs)).mem d)=nextVer (σ.mem d):=by
   show nextVer (upd σ.mem s _ d)=_;rw[Jad];split
   · rename_i e;subst e;rw[hm]
     rcases hmv with rfl | rfl<;>rfl
   · rfl
  have hst2:=JfE hst (d:=d) (xs:=xs++ys) hmv ha hcl (o4.append s4 o3) (by rw[hlen];exact c1) c2 (by rw[hlen];simp only[big];omega);rw[hver,hlen] at hst2;refine Jae (exec_v he hrun) hst2 (Ja0 _ _ _ (σ.set s (JaZ m ver e xs)).mem d _ (σ.mem d) e (xs++ys) m)
end
end Go.Re
namespace Go.Re
set_option linter.unusedVariables false
set_option linter.unusedSimpArgs false
open Go.RowKit (Below)
section
variable {P:Program} {E:Env} {N:Nat} {Z:Base} {own:Own} {β:Jai} {σ:S} {a:Act} {w:World} {o:Oper}
theorem JhO (hE:EnvOk P E) (h:St N Z own β σ a w) {d t t' ty:Nat} {e:Ty} {ys:List e.D} (ht:E.ty t=some (.sl e))
 {x:Value} (hsrc:Jgn P E own w t t' ty e x ys) (hl:ys.length≤lim)
 (he:execOp a.eval o=(do pure (.value (←Builtin.append_ #[t,t'] ty #[.slice none 0 0,x])))):
 Did P N Z o a w (σ.set d (.own (nextVer (σ.mem d)) e ys .full)) (.ref d (nextVer (σ.mem d))):=by
 obtain⟨te,hd,hte⟩:=(hE.ty t _ ht).desc;have hT:=hE.ty te e hte;have hl':ys.length≤2147483648:=hl;obtain⟨yc,s3,s4,s5,s6⟩:=hsrc;have hrun:=s6 te hd hte none 0 0 [] (by omega) (by omega) (fun w' _=>by simp[Builtin.firstCells]);simp only[Nat.zero_add] at hrun;split at hrun
 · rename_i hle
   have hy0:ys=[]:=List.eq_nil_of_length_eq_zero (by omega);subst hy0;refine Jae (exec_v he (u:=.slice none 0 0) (w':=w) ?_) (h.newNil d e) (Ja0 _ _ _ σ.mem d _ (σ.mem d) e [] .full);rw[hrun];simp
 · obtain⟨c,c1,c2,hrun⟩:=hrun
   have hz:=JbV hT.isVal hT.good (c-ys.length);have ha:=Jca w ([]++yc++(Builtin.zeroCells (mkV e (zeroC e)).cells (c-ys.length)).toList) te (w.drawn+1)
   have hcl:([]++yc++(Builtin.zeroCells (mkV e (zeroC e)).cells (c-ys.length)).toList).length=c*e.size:=by
    rw[List.length_append,List.length_append,s3,hz,List.length_nil,Nat.zero_add,←Nat.add_mul];congr 1;omega
   have hnil:JaB own w e [] ([]:List e.D):=⟨by simp,fun i h=>by simp at h⟩;have hst2:=JfE h (d:=d) (xs:=[]++ys) (m:=.full) (.inl rfl) ha hcl (hnil.append s4 (by simp)) (by simpa using c1) c2 (by simp only[List.nil_append,big];omega);refine Jae (exec_v he hrun) hst2 (Ja0 _ _ _ σ.mem d _ (σ.mem d) e ys .full)
theorem Jl4 (hE:EnvOk P E) (h:St N Z own β σ a w) {s ver t t' ty:Nat} {e:Ty} {xs ys:List e.D} (ht:E.ty t=some (.sl e)) (hm:σ.mem s= .own ver e xs .full)
 {x:Value} (hsrc:Src P own w e x ys) (he:execOp a.eval o=(do pure (.value (←Builtin.copy_ #[t,t'] ty #[β s,x])))):
 Did P N Z o a w (σ.set s (.own ver e (over xs ys) .full)) (.val (.int .i64) ((min ys.length xs.length:Nat):Int)):=by
 obtain⟨te,hd,hte⟩:=(hE.ty t _ ht).desc;have hT:=hE.ty te e hte;have hmm:=h.mems s;rw[hm] at hmm;obtain⟨ad,cap,f1,f2,f3,f4,f5⟩:=hmm;obtain⟨s1,s2,yc,s3,s4,s5,s6⟩:=hsrc;have hmin:min ys.length xs.length≤ys.length:=Nat.min_le_left _ _;have hfc:=s6 (min ys.length xs.length) hmin w rfl;have hlen:(over xs ys).length=xs.length:=by simp[over];omega
 have hres:Jac own w β (σ.set s (.own ver e (over xs ys) .full)).mem (.val (.int .i64) ((min ys.length xs.length:Nat):Int)) (goInt (min ys.length xs.length:Nat)):=
  Jfq (by omega)
 have hev:∀s',Evo β β s' (σ.mem s') ((σ.set s (.own ver e (over xs ys) .full)).mem s'):=by
  intro s';show Evo β β s' (σ.mem s') (upd σ.mem s _ s');rw[Jad];split
  · rename_i e;subst e;rw[hm];exact Evo.setOwn rfl hlen.symm
  · exact Evo.same _ rfl
 rw[f1] at he;rcases f5 with ⟨rfl,had⟩ | ⟨b,off,rfl,g1,g2⟩
 · obtain rfl:=had rfl
   have hx0:xs=[]:=List.eq_nil_of_length_eq_zero (by omega);subst hx0;have hov:over [] ys=([]:List e.D):=by simp[over]
   refine Jae (own':=own) (β':=β) (exec_v he (u:=goInt (min ys.length 0:Nat)) (w':=w) ?_) ?_ hres
   · have hfc':(Builtin.firstCells e.size (min ys.length 0) x).run P w= .ok (yc.take (min ys.length 0*e.size)).toArray w:=hfc
     simp only[Builtin.copy_,List.getElem?_toArray,List.getElem?_cons_zero,List.getElem?_cons_succ,Sem.run_bind,run_underlying hd,Result.andThen_ok,hT.cells,Sem.run_pure,s1,List.length_nil];have:Nat.min ys.length 0=min ys.length 0:=rfl;rw[this,hfc'];simp
   · refine h.go (Frm.refl _ _ _) (fun _ _ _ _=>rfl) (Keeps.refl _ _) hev rfl ?_ (JaO rfl fun _ _=>Jah.refl _ _ _)
     intro s';show Jaj Z own w β s' (upd σ.mem s _ s');rw[Jad];split
     · rename_i e;subst e;rw[hov];exact⟨none,0,f1,by simp,by omega,by simp,.inl ⟨rfl,had⟩⟩
     · exact h.mems s'
 ·
  let k:=min ys.length xs.length
  have hk:k=min ys.length xs.length:=rfl;have hkx:k*e.size≤xs.length*e.size:=Nat.mul_le_mul_right _ (by omega);have hky:k*e.size≤ys.length*e.size:=Nat.mul_le_mul_right _ (by omega);have hcapm:xs.length*e.size≤cap*e.size:=Nat.mul_le_mul_right _ f2;have htl:(yc.take (k*e.size)).length=k*e.size:=by simp;omega
  obtain⟨w',k1,k2⟩:=Jbs (P:=P) (b:=b) (o:=off) (yc.take (k*e.size)) 0 w (fun v hv=>s5 v (List.mem_of_mem_take hv))
   (fun j hj=>by rw[Nat.zero_add];exact (g2.2 _ (by omega) (by omega)).2.2.1) (fun j hj=>by rw[Nat.zero_add];exact (g2.2 _ (by omega) (by omega)).2.2.2)
  rw[Nat.add_zero] at k2;have hown:∀j,j<(yc.take (k*e.size)).length→own b (off+j)=some s:=fun j hj=>(g2.2 _ (by omega) (by omega)).1;have hwr:∀j,j<(yc.take (k*e.size)).length→Z.wr b (off+j):=fun j hj=>(g2.2 _ (by omega) (by omega)).2.1;have hkeep:=k2.keeps hown;refine Jae (own':=own) (β':=β) (exec_v he (u:=goInt (min ys.length xs.length:Nat)) (w':=w') ?_) ?_ (hres.go hkeep (fun s=>Evo.same _ rfl))
  · simp only[Builtin.copy_,List.getElem?_toArray,List.getElem?_cons_zero,List.getElem?_cons_succ,Sem.run_bind,run_underlying hd,Result.andThen_ok,hT.cells,Sem.run_pure,s1]
    have:Nat.min ys.length xs.length=k:=rfl;rw[this];have hfc':(Builtin.firstCells e.size k x).run P w= .ok (yc.take (k*e.size)).toArray w:=hfc;rw[hfc'];simp only[Result.andThen_ok,Sem.run_bind];rw[k1];rfl
  · refine h.go (k2.frame hwr) (fun _ _ _ _=>rfl) hkeep hev rfl ?_ (JaO rfl fun _ e=>k2.ownKeeps hown e)
    intro s';show Jaj Z own w' β s' (upd σ.mem s _ s');rw[Jad];split
    · rename_i eq;subst eq
      refine⟨_,cap,by rw[f1,hlen],by rw[hlen];exact f2,f3,by rw[hlen];exact f4,.inr ⟨b,off,rfl,?_,k2.shps _ _ g2.1,?_⟩⟩
      · intro i hi
        rw[hlen] at hi;have hib:i*e.size+e.size≤xs.length*e.size:=by rw[←Nat.succ_mul];exact Nat.mul_le_mul_right _ hi
        rcases Nat.lt_or_ge i ys.length with h3 | h3
        · have g:=s4.2 i h3
          have hik:i*e.size+e.size≤k*e.size:=by rw[←Nat.succ_mul];exact Nat.mul_le_mul_right _ (by omega)
          have hget:(over xs ys)[i]'(by rw[hlen];exact hi)=ys[i]:=by
           unfold over;rw[List.getElem_append_left (by simp;omega)];simp
          refine⟨_,g.length,?_,by rw[hget];exact g.keeps hkeep⟩;intro j v hj;rw[List.getElem?_take] at hj;split at hj
          · rename_i hjs
            rw[List.getElem?_drop] at hj;refine⟨(g2.2 _ (by omega) (by omega)).1,?_⟩;have:=k2.inside (i*e.size+j) v (by rw[List.getElem?_take,if_pos (by omega)];exact hj)
            rwa [←Nat.add_assoc] at this
          · cases hj
        · obtain⟨es,q1,q2,q3⟩:=g1 i hi
          have hki:k*e.size≤i*e.size:=Nat.mul_le_mul_right _ (by omega)
          have hget:(over xs ys)[i]'(by rw[hlen];exact hi)=xs[i]:=by
           unfold over;rw[List.getElem_append_right (by simp;omega)];simp
           congr 1;omega
          refine⟨es,q1,?_,by rw[hget];exact q3.keeps hkeep⟩;intro j v hj;obtain⟨r1,r2⟩:=q2 j v hj;refine⟨r1,?_⟩;rw[k2.outside _ (by omega)];exact r2
      · intro j c1 c2
        obtain⟨d1,d2,⟨v,d3⟩,d4⟩:=g2.2 j c1 c2;refine⟨d1,d2,?_,by rw[k2.frozen];exact d4⟩;rw[k2.cell];split
        · exact⟨_,List.getElem?_eq_getElem (by omega)⟩
        · exact⟨v,d3⟩
    · rename_i eq
      exact (h.mems s').keeps hkeep (k2.ownKeeps hown eq) k2.shps rfl
theorem JdD {α:Type} (lo:Nat) (xs ys:List α) (hlo:lo≤xs.length) (i:Nat) (hi:i<xs.length):(overAt lo xs ys)[i]?=if lo≤i∧i<lo+ys.length then ys[i-lo]? else xs[i]?:=by
 unfold overAt over;by_cases h1:i<lo
 · rw[if_neg (by omega),List.getElem?_append_left (by simp;omega),List.getElem?_take,if_pos h1]
 · rw[List.getElem?_append_right (by simp;omega)]
   have e1:(xs.take lo).length=lo:=by simp;omega
   rw[e1];by_cases h2:i<lo+ys.length
   · rw[if_pos ⟨by omega,h2⟩,List.getElem?_append_left (by simp;omega),List.getElem?_take,if_pos (by simp;omega)]
   · rw[if_neg (by omega),List.getElem?_append_right (by simp;omega),List.getElem?_drop,List.getElem?_drop]
     congr 1;simp;omega
theorem Jdw {α:Type} (lo:Nat) (xs ys:List α) (hlo:lo≤xs.length):(overAt lo xs ys).length=xs.length:=by
 simp[overAt,over];omega
theorem Jjf (hE:EnvOk P E) (h:St N Z own β σ a w) {s ver t t' ty lo:Nat} {e:Ty} {xs ys:List e.D} (ht:E.ty t=some (.sl e)) (hm:σ.mem s= .own ver e xs .full) (hlo:lo≤xs.length)
 {ad:Option Addr} {cap:Nat} (hb:β s= .slice ad xs.length cap) {x:Value} (hsrc:Src P own w e x ys)
 (he:execOp a.eval o=(do pure (.value (←Builtin.copy_ #[t,t'] ty #[.slice (if cap=lo then ad else ad.map (·.add (lo*e.size))) (xs.length-lo) (cap-lo),x])))):
 Did P N Z o a w (σ.set s (.own ver e (overAt lo xs ys) .full)) (.val (.int .i64) ((min ys.length (xs.length-lo):Nat):Int)):=by
 obtain⟨te,hd,hte⟩:=(hE.ty t _ ht).desc;have hT:=hE.ty te e hte;have hmm:=h.mems s;rw[hm] at hmm;obtain⟨ad',cap',f1,f2,f3,f4,f5⟩:=hmm;rw[hb] at f1;cases f1;obtain⟨s1,s2,yc,s3,s4,s5,s6⟩:=hsrc;have hlen:=Jdw lo xs ys hlo;obtain⟨k,hk⟩:∃k,min ys.length (xs.length-lo)=k:=⟨_,rfl⟩;have hfc:=s6 k (by omega) w rfl
 have hres:Jac own w β (σ.set s (.own ver e (overAt lo xs ys) .full)).mem (.val (.int .i64) ((min ys.length (xs.length-lo):Nat):Int)) (goInt (min ys.length (xs.length-lo):Nat)):=
  Jfq (by omega)
 have hev:∀s',Evo β β s' (σ.mem s') ((σ.set s (.own ver e (overAt lo xs ys) .full)).mem s'):=by
  intro s';show Evo β β s' (σ.mem s') (upd σ.mem s _ s');rw[Jad];split
  · rename_i e;subst e;rw[hm];exact Evo.setOwn rfl hlen.symm
  · exact Evo.same _ rfl
 have hrun0:∀(A:Option Addr) (w':World),(match A with | some b=>(storeCells b (yc.take (k*e.size)) 0).run P w= .ok () w' | none=>w'=w∧yc.take (k*e.size)=[]) →
  (Builtin.copy_ #[t,t'] ty #[.slice A (xs.length-lo) (cap-lo),x]).run P w= .ok (goInt (min ys.length (xs.length-lo):Nat)) w':=by
  intro A w' hA;simp only[Builtin.copy_,List.getElem?_toArray,List.getElem?_cons_zero,List.getElem?_cons_succ,Sem.run_bind,run_underlying hd,Result.andThen_ok,hT.cells,Sem.run_pure,s1];have:Nat.min ys.length (xs.length-lo)=k:=hk;rw[this,hfc,hk];cases A with
  | none=>obtain⟨h1,h2⟩:=hA;subst h1;simp
  | some b=>simp only[Result.andThen_ok,Sem.run_bind,hA];rfl
 by_cases hk0:k=0
 ·
  have hov:overAt lo xs ys=xs:=by
   apply List.ext_getElem?;intro i;rcases Nat.lt_or_ge i xs.length with hi | hi
   · rw[JdD lo xs ys hlo i hi,if_neg (by omega)]
   · rw[List.getElem?_eq_none (by omega),List.getElem?_eq_none (by omega)]
  refine Jae (own':=own) (β':=β) (exec_v he (w':=w) (hrun0 _ w ?_)) ?_ hres
  · subst hk0
    generalize (if cap=lo then ad else ad.map (·.add (lo*e.size)))=A
    cases A with
    | none=>simp
    | some b=>simp[storeCells]
  · refine h.go (Frm.refl _ _ _) (fun _ _ _ _=>rfl) (Keeps.refl _ _) hev rfl ?_ (JaO rfl fun _ _=>Jah.refl _ _ _)
    intro s';show Jaj Z own w β s' (upd σ.mem s _ s');rw[Jad];split
    · rename_i e;subst e;rw[hov,←hm];have:=h.mems s';rw[hm] at this ⊢;exact this
    · exact h.mems s'
 · rcases f5 with ⟨hc,_⟩ | ⟨b,off,rfl,g1,g2⟩
   · omega
   have hcl:¬cap=lo:=by omega
   have hkx:lo*e.size+k*e.size≤xs.length*e.size:=by rw[←Nat.add_mul];exact Nat.mul_le_mul_right _ (by omega)
   have hky:k*e.size≤ys.length*e.size:=Nat.mul_le_mul_right _ (by omega);have hcapm:xs.length*e.size≤cap*e.size:=Nat.mul_le_mul_right _ f2;have htl:(yc.take (k*e.size)).length=k*e.size:=by simp;omega
   obtain⟨w',k1,k2⟩:=Jbs (P:=P) (b:=b) (o:=off+lo*e.size) (yc.take (k*e.size)) 0 w (fun v hv=>s5 v (List.mem_of_mem_take hv))
    (fun j hj=>by rw[Nat.zero_add];exact (g2.2 _ (by omega) (by omega)).2.2.1) (fun j hj=>by rw[Nat.zero_add];exact (g2.2 _ (by omega) (by omega)).2.2.2)
   rw[Nat.add_zero] at k2;have hown:∀j,j<(yc.take (k*e.size)).length→own b (off+lo*e.size+j)=some s:=fun j hj=>(g2.2 _ (by omega) (by omega)).1;have hwr:∀j,j<(yc.take (k*e.size)).length→Z.wr b (off+lo*e.size+j):=fun j hj=>(g2.2 _ (by omega) (by omega)).2.1;have hkeep:=k2.keeps hown;refine Jae (own':=own) (β':=β) (exec_v he (w':=w') (hrun0 _ w' ?_)) ?_ (hres.go hkeep (fun s=>Evo.same _ rfl))
   · rw[if_neg hcl]
     simp only[Option.map_some,Jbx];exact k1
   · refine h.go (k2.frame hwr) (fun _ _ _ _=>rfl) hkeep hev rfl ?_ (JaO rfl fun _ e=>k2.ownKeeps hown e)
     intro s';show Jaj Z own w' β s' (upd σ.mem s _ s');rw[Jad];split
     · rename_i eq;subst eq
       refine⟨_,cap,by rw[hb,hlen],by rw[hlen];exact f2,f3,by rw[hlen];exact f4,.inr ⟨b,off,rfl,?_,k2.shps _ _ g2.1,?_⟩⟩
       · intro i hi
         rw[hlen] at hi;have hib:i*e.size+e.size≤xs.length*e.size:=by rw[←Nat.succ_mul];exact Nat.mul_le_mul_right _ hi
         have hgo:=JdD lo xs ys hlo i hi;rw[List.getElem?_eq_getElem (by omega)] at hgo;by_cases h3:lo≤i∧i<lo+ys.length
         · rw[if_pos h3,List.getElem?_eq_getElem (by omega)] at hgo
           have hgo:=Option.some.inj hgo;have g:=s4.2 (i-lo) (by omega);have hik:(i-lo)*e.size+e.size≤k*e.size:=by rw[←Nat.succ_mul];exact Nat.mul_le_mul_right _ (by omega)
           have hil:i*e.size=lo*e.size+(i-lo)*e.size:=by rw[←Nat.add_mul];congr 1;omega
           refine⟨_,g.length,?_,by rw[hgo];exact g.keeps hkeep⟩;intro j v hj;rw[List.getElem?_take] at hj;split at hj
           · rename_i hjs
             rw[List.getElem?_drop] at hj;refine⟨(g2.2 _ (by omega) (by omega)).1,?_⟩;have:=k2.inside ((i-lo)*e.size+j) v (by rw[List.getElem?_take,if_pos (by omega)];exact hj)
             rwa [show off+lo*e.size+((i-lo)*e.size+j)=off+i*e.size+j by omega] at this
           · cases hj
         · rw[if_neg h3,List.getElem?_eq_getElem hi] at hgo
           have hgo:=Option.some.inj hgo;obtain⟨es,q1,q2,q3⟩:=g1 i hi;refine⟨es,q1,?_,by rw[hgo];exact q3.keeps hkeep⟩;intro j v hj;obtain⟨r1,r2⟩:=q2 j v hj;refine⟨r1,?_⟩;have hj':j<es.length:=(List.getElem?_eq_some_iff.1 hj).1;rw[k2.outside _ ?_]
           · exact r2
           · rw[htl]
             by_cases h4:i<lo
             · left
               have:i*e.size+e.size≤lo*e.size:=by rw[←Nat.succ_mul];exact Nat.mul_le_mul_right _ (by omega)
               omega
             · right
               have:(lo+k)*e.size≤i*e.size:=Nat.mul_le_mul_right _ (by omega);rw[Nat.add_mul] at this;omega
       · intro j c1 c2
         obtain⟨d1,d2,⟨v,d3⟩,d4⟩:=g2.2 j c1 c2;refine⟨d1,d2,?_,by rw[k2.frozen];exact d4⟩;rw[k2.cell];split
         · exact⟨_,List.getElem?_eq_getElem (by omega)⟩
         · exact⟨v,d3⟩
     · rename_i eq
       exact (h.mems s').keeps hkeep (k2.ownKeeps hown eq) k2.shps rfl
theorem JjA (hE:EnvOk P E) (h:St N Z own β σ a w) {s ver t lo:Nat} {e:Ty} {xs ys:List e.D} (ht:E.ty t=some (.sl e)) (hm:σ.mem s= .own ver e xs .full) (hlo:lo≤xs.length)
 {ad:Option Addr} {cap:Nat} (hb:β s= .slice ad xs.length cap) {yc:List Value} (s3:yc.length=ys.length*e.size) (s4:JaB own w e yc ys) (s5:∀v∈yc,v.oneCell'=true) {v:V} {u:Value} (hv:∀own w,Jac own w β (σ.set s (.own ver e (overAt lo xs ys) .full)).mem v u) {k:Nat} (hk:min ys.length (xs.length-lo)=k)
 (hrun0:∀(A:Option Addr) (w':World),A=(if cap=lo then ad else ad.map (·.add (lo*e.size)))→(match A with | some b=>(storeCells b (yc.take (k*e.size)) 0).run P w= .ok () w' | none=>w'=w∧yc.take (k*e.size)=[]) →
  (execOp a.eval o).run P w= .ok (.value u) w'):
 Did P N Z o a w (σ.set s (.own ver e (overAt lo xs ys) .full)) v:=by
 obtain⟨te,hd,hte⟩:=(hE.ty t _ ht).desc;have hT:=hE.ty te e hte;have hmm:=h.mems s;rw[hm] at hmm;obtain⟨ad',cap',f1,f2,f3,f4,f5⟩:=hmm;rw[hb] at f1;cases f1;have hlen:=Jdw lo xs ys hlo
 have hev:∀s',Evo β β s' (σ.mem s') ((σ.set s (.own ver e (overAt lo xs ys) .full)).mem s'):=by
  intro s';show Evo β β s' (σ.mem s') (upd σ.mem s _ s');rw[Jad];split
  · rename_i e;subst e;rw[hm];exact Evo.setOwn rfl hlen.symm
  · exact Evo.same _ rfl
 by_cases hk0:k=0
 ·
  have hov:overAt lo xs ys=xs:=by
   apply List.ext_getElem?;intro i;rcases Nat.lt_or_ge i xs.length with hi | hi
   · rw[JdD lo xs ys hlo i hi,if_neg (by omega)]
   · rw[List.getElem?_eq_none (by omega),List.getElem?_eq_none (by omega)]
  refine Jae (own':=own) (β':=β) (hrun0 _ w rfl ?_) ?_ (hv _ _)
  · subst hk0
    generalize (if cap=lo then ad else ad.map (·.add (lo*e.size)))=A
    cases A with
    | none=>simp
    | some b=>simp[storeCells]
  · refine h.go (Frm.refl _ _ _) (fun _ _ _ _=>rfl) (Keeps.refl _ _) hev rfl ?_ (JaO rfl fun _ _=>Jah.refl _ _ _)
    intro s';show Jaj Z own w β s' (upd σ.mem s _ s');rw[Jad];split
    · rename_i e;subst e;rw[hov,←hm];have:=h.mems s';rw[hm] at this ⊢;exact this
    · exact h.mems s'
 · rcases f5 with ⟨hc,_⟩ | ⟨b,off,rfl,g1,g2⟩
   · omega
   have hcl:¬cap=lo:=by omega
   have hkx:lo*e.size+k*e.size≤xs.length*e.size:=by rw[←Nat.add_mul];exact Nat.mul_le_mul_right _ (by omega)
   have hky:k*e.size≤ys.length*e.size:=Nat.mul_le_mul_right _ (by omega);have hcapm:xs.length*e.size≤cap*e.size:=Nat.mul_le_mul_right _ f2;have htl:(yc.take (k*e.size)).length=k*e.size:=by simp;omega
   obtain⟨w',k1,k2⟩:=Jbs (P:=P) (b:=b) (o:=off+lo*e.size) (yc.take (k*e.size)) 0 w (fun v hv=>s5 v (List.mem_of_mem_take hv))
    (fun j hj=>by rw[Nat.zero_add];exact (g2.2 _ (by omega) (by omega)).2.2.1) (fun j hj=>by rw[Nat.zero_add];exact (g2.2 _ (by omega) (by omega)).2.2.2)
   rw[Nat.add_zero] at k2;have hown:∀j,j<(yc.take (k*e.size)).length→own b (off+lo*e.size+j)=some s:=fun j hj=>(g2.2 _ (by omega) (by omega)).1;have hwr:∀j,j<(yc.take (k*e.size)).length→Z.wr b (off+lo*e.size+j):=fun j hj=>(g2.2 _ (by omega) (by omega)).2.1;have hkeep:=k2.keeps hown;refine Jae (own':=own) (β':=β) (hrun0 _ w' rfl ?_) ?_ (hv _ _)
   · rw[if_neg hcl]
     simp only[Option.map_some,Jbx];exact k1
   · refine h.go (k2.frame hwr) (fun _ _ _ _=>rfl) hkeep hev rfl ?_ (JaO rfl fun _ e=>k2.ownKeeps hown e)
     intro s';show Jaj Z own w' β s' (upd σ.mem s _ s');rw[Jad];split
     · rename_i eq;subst eq
       refine⟨_,cap,by rw[hb,hlen],by rw[hlen];exact f2,f3,by rw[hlen];exact f4,.inr ⟨b,off,rfl,?_,k2.shps _ _ g2.1,?_⟩⟩
       · intro i hi
         rw[hlen] at hi;have hib:i*e.size+e.size≤xs.length*e.size:=by rw[←Nat.succ_mul];exact Nat.mul_le_mul_right _ hi
         have hgo:=JdD lo xs ys hlo i hi;rw[List.getElem?_eq_getElem (by omega)] at hgo;by_cases h3:lo≤i∧i<lo+ys.length
         · rw[if_pos h3,List.getElem?_eq_getElem (by omega)] at hgo
           have hgo:=Option.some.inj hgo;have g:=s4.2 (i-lo) (by omega);have hik:(i-lo)*e.size+e.size≤k*e.size:=by rw[←Nat.succ_mul];exact Nat.mul_le_mul_right _ (by omega)
           have hil:i*e.size=lo*e.size+(i-lo)*e.size:=by rw[←Nat.add_mul];congr 1;omega
           refine⟨_,g.length,?_,by rw[hgo];exact g.keeps hkeep⟩;intro j v hj;rw[List.getElem?_take] at hj;split at hj
           · rename_i hjs
             rw[List.getElem?_drop] at hj;refine⟨(g2.2 _ (by omega) (by omega)).1,?_⟩;have:=k2.inside ((i-lo)*e.size+j) v (by rw[List.getElem?_take,if_pos (by omega)];exact hj)
             rwa [show off+lo*e.size+((i-lo)*e.size+j)=off+i*e.size+j by omega] at this
           · cases hj
         · rw[if_neg h3,List.getElem?_eq_getElem hi] at hgo
           have hgo:=Option.some.inj hgo;obtain⟨es,q1,q2,q3⟩:=g1 i hi;refine⟨es,q1,?_,by rw[hgo];exact q3.keeps hkeep⟩;intro j v hj;obtain⟨r1,r2⟩:=q2 j v hj;refine⟨r1,?_⟩;have hj':j<es.length:=(List.getElem?_eq_some_iff.1 hj).1;rw[k2.outside _ ?_]
           · exact r2
           · rw[htl]
             by_cases h4:i<lo
             · left
               have:i*e.size+e.size≤lo*e.size:=by rw[←Nat.succ_mul];exact Nat.mul_le_mul_right _ (by omega)
               omega
             · right
               have:(lo+k)*e.size≤i*e.size:=Nat.mul_le_mul_right _ (by omega);rw[Nat.add_mul] at this;omega
       · intro j c1 c2
         obtain⟨d1,d2,⟨v,d3⟩,d4⟩:=g2.2 j c1 c2;refine⟨d1,d2,?_,by rw[k2.frozen];exact d4⟩;rw[k2.cell];split
         · exact⟨_,List.getElem?_eq_getElem (by omega)⟩
         · exact⟨v,d3⟩
     · rename_i eq
       exact (h.mems s').keeps hkeep (k2.ownKeeps hown eq) k2.shps rfl
end
end Go.Re
namespace Go.Re
set_option linter.unusedVariables false
set_option linter.unusedSimpArgs false
open Go.RowKit (Below)
theorem Jd4:∀(τ:Ty) (x:τ.D) (p:List Stp) (τ':Ty),tyP τ p=some τ'→JcP p=true→Jcx τ x p τ'=some (JcJ τ x p τ'):=by
 have hc:∀(τ τ':Ty) (x:τ.D),some τ=some τ'→cast? τ τ' x=some (if h:τ=τ' then h▸x else τ'.zero):=by
  intro τ τ' x h;cases h;simp[cast?]
 intro τ
 induction τ with
 | pair a b iha ihb=>
  intro x p τ' h hn
  match p,h,hn with
  | [],h,_=>exact hc _ _ x h
  | .fst::p,h,hn=>exact iha x.1 p τ' h hn
  | .snd::p,h,hn=>exact ihb x.2 p τ' h hn
 | st b ih=>
  intro x p τ' h hn
  match p,h,hn with
  | [],h,_=>exact hc _ _ x h
  | s::p,h,hn=>exact ih x (s::p) τ' h hn
 | arr n e ih=>
  intro x p τ' h hn
  match p,h,hn with
  | [],h,_=>exact hc _ _ x h
 | _=>
  intro x p τ' h hn
  match p,h,hn with
  | [],h,_=>exact hc _ _ x h
theorem Jhh:∀(τ:Ty) (x:τ.D) (p:List Stp) (τ':Ty) (y:τ'.D),tyP τ p=some τ'→JcP p=true→Jcd τ x p τ' y=some (JdM τ x p τ' y):=by
 have hc:∀(τ τ':Ty) (x:τ.D) (y:τ'.D),some τ=some τ'→cast? τ' τ y=some (if h:τ'=τ then h▸y else x):=by
  intro τ τ' x y h;cases h;simp[cast?]
 intro τ
 induction τ with
 | pair a b iha ihb=>
  intro x p τ' y h hn
  match p,h,hn with
  | [],h,_=>exact hc _ _ x y h
  | .fst::p,h,hn=>simp only[Jcd,iha x.1 p τ' y h hn,Option.map_some,JdM]
  | .snd::p,h,hn=>simp only[Jcd,ihb x.2 p τ' y h hn,Option.map_some,JdM]
 | st b ih=>
  intro x p τ' y h hn
  match p,h,hn with
  | [],h,_=>exact hc _ _ x y h
  | s::p,h,hn=>exact ih x (s::p) τ' y h hn
 | arr n e ih=>
  intro x p τ' y h hn
  match p,h,hn with
  | [],h,_=>exact hc _ _ x y h
 | _=>
  intro x p τ' y h hn
  match p,h,hn with
  | [],h,_=>exact hc _ _ x y h
section
variable {P:Program} {E:Env} {N:Nat} {Z:Base} {own:Own} {β:Jai} {σ:S} {a:Act} {w:World} {o:Oper}
def JbP (own:Own) (w:World) (β:Jai) (mem:Nat→Entry) (fr:List (Nat×Entry)):(p:Par)→Value→p.ty.D→Io [p]→Prop
 | .val τ,u,x,_=>Jch own w β mem fr τ u x
 | .nils _,u,_,_=>u= .slice none 0 0
 | .pv k,u,x,_=>∀β mem,Jac own w β mem (k.V x) u
 | .box τ,u,x,io=>
  (∃s ver τb xb p b off,mem s= .box ver τb xb∧tyP τb p=some τ∧JcP p=true∧τ.isVal=true∧β s= .pointer (some ⟨b,off,none⟩)∧u= .pointer (some ⟨b,off+offP τb p,none⟩) ∧
   x=JcJ τb xb p τ∧io=((s,fun z=>.box ver τb (JdM τb xb p τ z)),())) ∨
  (∃s ver τe xs i p b off n c,mem s= .own ver τe xs .full∧i<xs.length∧tyP τe p=some τ∧JcP p=true∧τ.isVal=true∧β s= .slice (some ⟨b,off,none⟩) n c ∧
   u= .pointer (some ⟨b,off+i*τe.size+offP τe p,none⟩)∧x=JcJ τe (xs.getD i τe.zero) p τ∧io=((s,fun z=>.own ver τe (xs.set i (JdM τe (xs.getD i τe.zero) p τ z)) .full),()))
 | .row e,u,x,io=>∃s ver xs,mem s= .own ver e xs .full∧u=β s∧x=xs∧io=((s,fun z=>.own ver e z .full),())
 | .take e,u,x,io=>∃s ver xs,mem s= .own ver e xs .full∧u=β s∧x=xs∧io=((s,.gone ver),())
theorem JfW (h:St N Z own β σ a w) {α:Type} {p:Par} {v:V} {u:Value} (hu:Jac own w β σ.mem v u) {k:p.ty.D→List (Nat×Entry)→Io [p]→M α} {r:α×S} (hr:(Jc3 p v k).run σ=some r):
 ∃x fr io,Frz σ fr∧JbP own w β σ.mem fr p u x io∧(k x fr io).run σ=some r:=by
 cases p with
 | val τ=>
  cases hiv:τ.isVal with
  | false=>simp only[Jc3,hiv] at hr;cases hr
  | true=>
  have hr':(asD τ v fun x fr=>k x fr ()).run σ=some r:=by simpa only[Jc3,hiv,cond_true] using hr
  obtain⟨x,fr,h1,h2,_,h3⟩:=JbK h hu hr' hiv;exact⟨x,fr,(),h1,h2,h3⟩
 | nils e=>
  simp only[Jc3] at hr;split at hr
  · exact⟨(),[],(),by simp[Frz],hu,hr⟩
  · cases hr
 | pv q=>
  simp only[Jc3] at hr;split at hr
  · rename_i x hx
    have:=PK.read_some hx;subst this;exact⟨x,[],(),by simp[Frz],fun _ _=>PK.indep hu,hr⟩
  · cases hr
 | box τ=>
  simp only[Jc3,Jno] at hr;split at hr
  · rename_i s ver p
    simp only[M.run] at hr;split at hr
    · rename_i ver' τb xb hm
      split at hr
      · rename_i eq
        obtain⟨e1,e2,e3,e4⟩:=eq;subst e1;obtain⟨b,off,h1,h2⟩:=hu.2 τb xb hm;exact⟨_,[],_,by simp[Frz],.inl ⟨s,ver,τb,xb,p,b,off,hm,e2,e3,e4,h1,h2,rfl,rfl⟩,hr⟩
      · cases hr
    · cases hr
  · rename_i s ver i p
    simp only[M.run] at hr;split at hr
    · rename_i ver' τe xs hm
      split at hr
      · rename_i eq
        obtain⟨e1,e2,e3,e4⟩:=eq;subst e1;obtain⟨hi,b,off,n,c,h1,h2⟩:=hu.2 τe xs .full hm;exact⟨_,[],_,by simp[Frz],.inr ⟨s,ver,τe,xs,i,p,b,off,n,c,hm,hi,e2,e3,e4,h1,h2,rfl,rfl⟩,hr⟩
      · cases hr
    · cases hr
  · cases hr
 | row e=>
  simp only[Jc3,Jnp] at hr;split at hr
  · rename_i s ver
    simp only[M.run] at hr;split at hr
    · rename_i ver' e' xs hm
      split at hr
      · rename_i eq;subst eq
        split at hr
        · rename_i xs' hx
          obtain⟨eq,hx⟩:=cast?_some hx;cases eq;have hx:xs=xs':=hx;subst hx;exact⟨_,[],_,by simp[Frz],⟨s,ver,xs,hm,hu.2 e xs .full hm,rfl,rfl⟩,hr⟩
        · cases hr
      · cases hr
    · cases hr
  · cases hr
 | take e=>
  simp only[Jc3,JmG] at hr;split at hr
  · rename_i s ver
    simp only[M.run] at hr;split at hr
    · rename_i ver' e' xs hm
      split at hr
      · rename_i eq;subst eq
        split at hr
        · rename_i xs' hx
          obtain⟨eq,hx⟩:=cast?_some hx;cases eq;have hx:xs=xs':=hx;subst hx;exact⟨_,[],_,by simp[Frz],⟨s,ver,xs,hm,hu.2 e xs .full hm,rfl,rfl⟩,hr⟩
        · cases hr
      · cases hr
    · cases hr
  · cases hr
def JaT (own:Own) (w:World) (β:Jai) (mem:Nat→Entry) (fr:List (Nat×Entry)):(ps:List Par)→List Value→Ds (ps.map Par.ty)→Io ps→Prop
 | [],us,_,_=>us=[]
 | [p],us,x,io=>∃u,us=[u]∧JbP own w β mem fr p u x io
 | p::q::r,us,x,io=>∃u us' io1 io2,us=u::us'∧io=Jen p (q::r) io1 io2∧JbP own w β mem fr p u x.1 io1∧JaT own w β mem fr (q::r) us' x.2 io2
theorem JbP.mono {fr fr':List (Nat×Entry)} (hs:∀p∈fr,p∈fr') {mem:Nat→Entry} {p:Par} {u:Value} {x:p.ty.D} {io:Io [p]} (h:JbP own w β mem fr p u x io):JbP own w β mem fr' p u x io:=by
 cases p with
 | val τ=>exact Jch.mono h hs
 | nils e=>exact h
 | pv q=>exact h
 | box τ=>exact h
 | row e=>exact h
 | take e=>exact h
theorem JaT.mono {fr fr':List (Nat×Entry)} (hs:∀p∈fr,p∈fr') {mem:Nat→Entry}:∀{ps:List Par} {us:List Value} {x:Ds (ps.map Par.ty)} {io:Io ps},JaT own w β mem fr ps us x io→JaT own w β mem fr' ps us x io
 | [],_,_,_,h=>h
 | [p],_,_,_,⟨u,h1,h2⟩=>⟨u,h1,h2.mono hs⟩
 | p::q::r,_,_,_,⟨u,us',io1,io2,h1,h2,h3,h4⟩=>⟨u,us',io1,io2,h1,h2,h3.mono hs,JaT.mono hs (ps:=q::r) h4⟩
def Xs (own:Own) (w:World) (β:Jai) (mem:Nat→Entry) (a:Act):List (Operand⊕V)→List Value→Prop
 | [],us=>us=[]
 | .inl o::r,us=>∃us',us=a.eval o::us'∧Xs own w β mem a r us'
 | .inr v::r,us=>∃u us',us=u::us'∧Jac own w β mem v u∧Xs own w β mem a r us'
theorem Jfs (h:St N Z own β σ a w) {α:Type} {x:Operand⊕V} {k:V→M α} {r:α×S} {xs:List (Operand⊕V)} {us:List Value} (hx:Xs own w β σ.mem a (x::xs) us) (hr:(rdX x k).run σ=some r):
 ∃v u us',us=u::us'∧Xs own w β σ.mem a xs us'∧Jac own w β σ.mem v u∧(k v).run σ=some r:=by
 cases x with
 | inl o=>
  obtain⟨us',h1,h2⟩:=hx;obtain⟨v,h3,h4⟩:=Jak h hr;exact⟨v,_,us',h1,h2,h3,h4⟩
 | inr v=>
  obtain⟨u,us',h1,h2,h3⟩:=hx;exact⟨v,u,us',h1,h3,h2,hr⟩
theorem Jhi (h:St N Z own β σ a w) {α:Type}:∀(ps:List Par) (os:List (Operand⊕V)) (us:List Value) {k:Ds (ps.map Par.ty)→List (Nat×Entry)→Io ps→M α} {r:α×S},Xs own w β σ.mem a os us→(JhU ps os k).run σ=some r →
 ∃x fr io,Frz σ fr∧JaT own w β σ.mem fr ps us x io∧(k x fr io).run σ=some r
 | [],[],us,k,r,hx,hr=>⟨(),[],(),by simp[Frz],hx,hr⟩
 | [p],[op],us,k,r,hx,hr=>by
  obtain⟨v,u,us',h0,h0',h1,h2⟩:=Jfs h hx hr;obtain⟨x,fr,io,h3,h4,h5⟩:=JfW h h1 h2;have h0':us'=[]:=h0';exact⟨x,fr,io,h3,⟨_,by rw[h0,h0'],h4⟩,h5⟩
 | p::q::ps,op::os,us,k,r,hx,hr=>by
  obtain⟨v,u,us',h0,h0',h1,h2⟩:=Jfs h hx hr;subst h0;obtain⟨x,fr,io,h3,h4,h5⟩:=JfW h h1 h2;obtain⟨xs,fr',io',h6,h7,h8⟩:=Jhi h (q::ps) os us' h0' h5;refine⟨(x,xs),fr++fr',Jen p (q::ps) io io',h3.append h6,⟨_,_,io,io',rfl,rfl,h4.mono (by simp +contextual),h7.mono (by simp +contextual)⟩,h8⟩
 | [],_::_,_,k,r,_,hr=>by cases hr
 | _::_,[],_,k,r,_,hr=>by
  unfold JhU at hr;split at hr<;>first | cases hr | (rename_i h1 h2;cases h1;done) | (rename_i h1 h2;cases h2;done) | skip
  all_goals simp_all
 | [p],_::_::_,_,k,r,_,hr=>by cases hr
theorem Jhj {α:Type} {d:Nat}:∀(n:Nat) {k:(Nat→Nat)→M α} {r:α×S},(Jj6 d n k).run σ=some r→∃f,(∀i,i<n→f i=nextVer (σ.mem (Jaa d i)))∧(k f).run σ=some r
 | 0,k,r,hr=>⟨_,fun i h=>by omega,hr⟩
 | n+1,k,r,hr=>by
  obtain⟨f,h1,h2⟩:=Jhj n (k:=fun f=>.mem (Jaa d n) fun e=>k fun i=>bif Nat.beq i n then nextVer e else f i) hr;simp only[M.run] at h2;refine⟨_,?_,h2⟩;intro i hi;have e:=Jad f n (nextVer (σ.mem (Jaa d n))) i;unfold upd at e;rw[e];split
  · rename_i e;subst e;rfl
  · exact h1 i (by omega)
end
end Go.Re
namespace Go.Re
set_option linter.unusedVariables false
set_option linter.unusedSimpArgs false
open Go.RowKit (Below)
section
variable {P:Program} {E:Env} {N:Nat} {Z:Base} {own:Own} {β:Jai} {σ:S} {a:Act} {w:World} {o:Oper}
def Jav:(ps:List Par)→Io ps→Ds (ioTys ps)→List (Nat×Entry)
 | [],_,_=>[]
 | .val _::r,io,y=>Jav r io y
 | .nils _::r,io,y=>Jav r io y
 | .pv _::r,io,y=>Jav r io y
 | .box τ::r,io,y=>(io.1.1,io.1.2 (dsH τ (ioTys r) y))::Jav r io.2 (dsT τ (ioTys r) y)
 | .row e::r,io,y=>(io.1.1,io.1.2 (dsH (.sl e) (ioTys r) y))::Jav r io.2 (dsT (.sl e) (ioTys r) y)
 | .take _::r,io,y=>(io.1.1,io.1.2)::Jav r io.2 y
theorem Jcl {γ:Type}:∀(ps:List Par) (io:Io ps) (g:γ→Ds (ioTys ps)) (b:γ) (σ:S),Jaw σ b (Je3 ps io g)=Jaz σ (Jav ps io (g b))
 | [],_,_,_,_=>rfl
 | .val _::r,io,g,b,σ=>Jcl r io g b σ
 | .nils _::r,io,g,b,σ=>Jcl r io g b σ
 | .pv _::r,io,g,b,σ=>Jcl r io g b σ
 | .box τ::r,io,g,b,σ=>Jcl r io.2 (fun b=>dsT τ (ioTys r) (g b)) b _
 | .row e::r,io,g,b,σ=>Jcl r io.2 (fun b=>dsT (.sl e) (ioTys r) (g b)) b _
 | .take _::r,io,g,b,σ=>Jcl r io.2 g b _
theorem Jbc:∀(ps:List Par) (io:Io ps) (y:Ds (ioTys ps)),(Jav ps io y).map (·.1)=Jar ps io
 | [],_,_=>rfl
 | .val _::r,io,y=>Jbc r io y
 | .nils _::r,io,y=>Jbc r io y
 | .pv _::r,io,y=>Jbc r io y
 | .box τ::r,io,y=>by simp only[Jav,Jar,List.map_cons,Jbc r]
 | .row e::r,io,y=>by simp only[Jav,Jar,List.map_cons,Jbc r]
 | .take _::r,io,y=>by simp only[Jav,Jar,List.map_cons,Jbc r]
def Jm1 (own own':Own) (w w':World) (reg:Nat×Nat×Nat) (s:Nat):Prop:=
 ∀b j v,own b j=some s→w.cell? ⟨b,j,none⟩=some v→¬JaF reg b j→own' b j=some s∧w'.cell? ⟨b,j,none⟩=some v∧w'.frozen? ⟨b,j,none⟩=w.frozen? ⟨b,j,none⟩
theorem JbP.open1 (h:St N Z own β σ a w) {p:Par} {u:Value} {x:p.ty.D} {io:Io [p]} (hr:JbP own w β σ.mem [] p u x io):
 ∃(id:Nat) (reg:Nat×Nat×Nat),IoR own w id reg p u x∧((Jar [p] io=[]∧reg.2.2=0)∨id∈Jar [p] io)∧(∀b j,JaF reg b j→own b j=some id∧Z.wr b j∧∃v,w.cell? ⟨b,j,none⟩=some v) ∧
  ∀(own':Own) (w':World),Keeps own own' w w'→Jm1 own own' w w' reg id→Jbw w w'→∀y:Ds (ioTys [p]),JaE own' w' (fun _=>id) (fun _=>reg) 0 [p] [u] y →
   ∀s e',(s,e')∈Jav [p] io y→Jaj Z own' w' β s e'∧Evo β β s (σ.mem s) e':=by
 cases p with
 | val τ=>
  have hr:Jab own w τ u x:=hr own ⟨Keeps.refl _ _,fun _ _ _ _ _ hm=>by cases hm⟩;exact⟨0,(0,0,0),⟨hr,rfl⟩,.inl ⟨rfl,rfl⟩,fun b j ⟨_,h1,h2⟩=>by simp at h2,fun _ _ _ _ _ y _ s e' hm=>by simp[Jav] at hm⟩
 | nils e=>exact⟨0,(0,0,0),⟨hr,rfl⟩,.inl ⟨rfl,rfl⟩,fun b j ⟨_,h1,h2⟩=>by simp at h2,fun _ _ _ _ _ y _ s e' hm=>by simp[Jav] at hm⟩
 | pv q=>exact⟨0,(0,0,0),⟨hr,rfl⟩,.inl ⟨rfl,rfl⟩,fun b j ⟨_,h1,h2⟩=>by simp at h2,fun _ _ _ _ _ y _ s e' hm=>by simp[Jav] at hm⟩
 | box τ=>
  rcases hr with ⟨s,ver,τb,xb,p,b,off,hm,h1,h2,hval,h3,rfl,rfl,rfl⟩ | ⟨s,ver,τe,xs,i,p,b,off,n,c,hm,hi,h1,h2,hval,h3,rfl,rfl,rfl⟩
  ·
   have hmm:=h.mems s;rw[hm] at hmm;obtain⟨hv,b',off',cs,h4,h5,h6⟩:=hmm;rw[h3] at h4;cases h4;have hcl:=h6.length;have hg:=Jd4 τb xb p τ h1 h2;obtain⟨g1,g2⟩:=Jbv τb xb cs p τ _ h6 hg;have hin:∀j,j<τ.size→∃v,cs[offP τb p+j]?=some v:=fun j hj=>⟨_,List.getElem?_eq_getElem (by omega)⟩;refine⟨s,(b,off+offP τb p,τ.size),⟨hval,b,_,_,rfl,rfl,g2,?_⟩,.inr (by simp[Jar]),?_,?_⟩
   · intro j u hj
     rw[List.getElem?_take] at hj;split at hj
     · rw[List.getElem?_drop] at hj
       obtain⟨e1,_,e2,e3⟩:=h5 _ _ hj;rw[←Nat.add_assoc] at e1 e2 e3;exact⟨e1,e2,e3⟩
     · cases hj
   · rintro b' j ⟨rfl,c1,c2⟩
     simp only at c1 c2;obtain⟨v,hv'⟩:=hin (j-(off+offP τb p)) (by omega);obtain⟨e1,e0,e2,e3⟩:=h5 _ _ hv';rw[show off+(offP τb p+(j-(off+offP τb p)))=j by omega] at e1 e0 e2 e3;exact⟨e1,e0,_,e2⟩
   · intro own' w' hk hkb hsh y hout s' e' hmem
     simp only[Jav,List.mem_cons,List.not_mem_nil,or_false,Prod.mk.injEq] at hmem;obtain⟨rfl,rfl⟩:=hmem;obtain⟨⟨_,b2,o2,cs2,q1,q2,q3,q4⟩,_⟩:=hout;simp only[List.headD_cons] at q1;cases q1;have hs2:=Jhh τb xb p τ (dsH τ [] y) h1 h2;have h6':=h6.keeps hk;obtain⟨_,r2,r3⟩:=Jc5 τb xb cs p τ _ cs2 _ h6' q3 hs2;have hl2:=q3.length;refine⟨⟨hv,b,off,_,h3,?_,r3⟩,by rw[hm];exact Evo.setBox rfl⟩;intro j v hj
     have hjl:j<cs.length:=by
      have:=(List.getElem?_eq_some_iff.1 hj).1
      rwa [JaS (by omega)] at this
     obtain⟨e1,e0,e2,e3⟩:=h5 j cs[j] (List.getElem?_eq_getElem hjl);rw[getElem?_splice (by omega)] at hj;split at hj
     · obtain⟨f1,f2,f3⟩:=q4 _ _ hj
       rw[show off+offP τb p+(j-offP τb p)=off+j by omega] at f1 f2 f3;exact⟨f1,e0,f2,f3⟩
     · rename_i hc
       obtain⟨f1,f2,f3⟩:=hkb b (off+j) _ e1 e2 (by rintro⟨_,c1,c2⟩;simp only at c1 c2;omega);rw[List.getElem?_eq_getElem hjl] at hj;cases hj;exact⟨f1,e0,f2,f3.trans e3⟩
  ·
   have hmm:=h.mems s;rw[hm] at hmm;obtain⟨ad,cap,f1,f2,f3,f4,f5⟩:=hmm;rw[h3] at f1;cases f1;rcases f5 with ⟨f5,_⟩ | ⟨b',off',f5,f6,f7,f8⟩
   · omega
   cases f5;obtain⟨es,q1,q2,q3⟩:=f6 i hi;have hgd:xs.getD i τe.zero=xs[i]:=by rw[List.getD_eq_getElem?_getD,List.getElem?_eq_getElem hi];rfl
   have hg:=Jd4 τe (xs.getD i τe.zero) p τ h1 h2;obtain⟨g1,g2⟩:=Jbv τe (xs.getD i τe.zero) es p τ _ (by rw[hgd];exact q3) hg;have hib:i*τe.size+τe.size≤c*τe.size:=by rw[←Nat.succ_mul];exact Nat.mul_le_mul_right _ (by omega)
   refine⟨s,(b,off+i*τe.size+offP τe p,τ.size),⟨hval,b,_,_,rfl,rfl,g2,?_⟩,.inr (by simp[Jar]),?_,?_⟩
   · intro j u hj
     rw[List.getElem?_take] at hj;split at hj
     · rw[List.getElem?_drop] at hj
       obtain⟨e1,e2⟩:=q2 _ _ hj;rw[←Nat.add_assoc] at e1 e2;exact⟨e1,e2,(f8 _ (by omega) (by omega)).2.2.2⟩
     · cases hj
   · rintro b' j ⟨rfl,c1,c2⟩
     simp only at c1 c2;obtain⟨d1,d2,⟨v,d3⟩,_⟩:=f8 j (by omega) (by omega);exact⟨d1,d2,_,d3⟩
   · intro own' w' hk hkb hsh y hout s' e' hmem
     simp only[Jav,List.mem_cons,List.not_mem_nil,or_false,Prod.mk.injEq] at hmem;obtain⟨rfl,rfl⟩:=hmem;obtain⟨⟨_,b2,o2,cs2,t1,t2,t3,t4⟩,_⟩:=hout;simp only[List.headD_cons] at t1;cases t1;have hs2:=Jhh τe (xs.getD i τe.zero) p τ (dsH τ [] y) h1 h2;obtain⟨_,r2,r3⟩:=Jc5 τe (xs.getD i τe.zero) es p τ _ cs2 _ (by rw[hgd];exact q3.keeps hk) t3 hs2;have hl2:=t3.length;refine⟨?_,by rw[hm];exact Evo.setOwn rfl (by simp)⟩
     have kept:∀j v,own b j=some s'→w.cell? ⟨b,j,none⟩=some v→(j<off+i*τe.size+offP τe p∨off+i*τe.size+offP τe p+τ.size≤j)→own' b j=some s'∧w'.cell? ⟨b,j,none⟩=some v∧w'.frozen? ⟨b,j,none⟩=w.frozen? ⟨b,j,none⟩:=
      fun j v e1 e2 e3=>hkb b j v e1 e2 (by rintro⟨_,c1,c2⟩;simp only at c1 c2;omega)
     have hlen:∀z:τe.D,(xs.set i z).length=xs.length:=by simp
     refine⟨_,c,by rw[h3,hlen],by rw[hlen];exact f2,f3,by rw[hlen];exact f4,.inr ⟨b,off,rfl,?_,hsh _ _ f7,?_⟩⟩
     · intro k hk2
       rw[hlen] at hk2;by_cases hki:k=i
       · subst hki
         refine⟨Jax es (offP τe p) cs2,by rw[JaS (by omega)];exact q1,?_,by rw[List.getElem_set_self];exact r3⟩;intro j v hj
         have hjl:j<es.length:=by
          have:=(List.getElem?_eq_some_iff.1 hj).1
          rwa [JaS (by omega)] at this
         obtain⟨e1,e2⟩:=q2 j es[j] (List.getElem?_eq_getElem hjl);rw[getElem?_splice (by omega)] at hj;split at hj
         · obtain⟨u1,u2,u3⟩:=t4 _ _ hj
           rw[show off+k*τe.size+offP τe p+(j-offP τe p)=off+k*τe.size+j by omega] at u1 u2 u3;exact⟨u1,u2⟩
         · rename_i hc
           obtain⟨u1,u2,u3⟩:=kept _ _ e1 e2 (by omega);rw[List.getElem?_eq_getElem hjl] at hj;cases hj;exact⟨u1,u2⟩
       · obtain⟨es',v1,v2,v3⟩:=f6 k hk2
         refine⟨es',v1,?_,by rw[List.getElem_set_ne (Ne.symm hki)];exact v3.keeps hk⟩;intro j v hj;have hjl:j<es'.length:=(List.getElem?_eq_some_iff.1 hj).1;obtain⟨e1,e2⟩:=v2 j v hj
         obtain⟨u1,u2,u3⟩:=kept _ _ e1 e2 (by
          rcases Nat.lt_or_gt_of_ne hki with hlt | hgt
          · have:k*τe.size+τe.size≤i*τe.size:=by rw[←Nat.succ_mul];exact Nat.mul_le_mul_right _ hlt
            omega
          · have:i*τe.size+τe.size≤k*τe.size:=by rw[←Nat.succ_mul];exact Nat.mul_le_mul_right _ hgt
            omega)
         exact⟨u1,u2⟩
     · intro j c1 c2
       obtain⟨d1,d2,⟨v,d3⟩,d4⟩:=f8 j c1 c2;by_cases hc:off+i*τe.size+offP τe p≤j∧j<off+i*τe.size+offP τe p+τ.size
       · have hjl:j-(off+i*τe.size+offP τe p)<cs2.length:=by omega
         obtain⟨u1,u2,u3⟩:=t4 _ _ (List.getElem?_eq_getElem hjl);rw[show off+i*τe.size+offP τe p+(j-(off+i*τe.size+offP τe p))=j by omega] at u1 u2 u3;exact⟨u1,d2,⟨_,u2⟩,u3⟩
       · obtain⟨u1,u2,u3⟩:=kept _ _ d1 d3 (by omega)
         exact⟨u1,d2,⟨v,u2⟩,u3.trans d4⟩
 | row e=>
  obtain⟨s,ver,xs,hm,rfl,rfl,rfl⟩:=hr;have hmm:=h.mems s;rw[hm] at hmm;obtain⟨ad,cap,f1,f2,f3,f4,f5⟩:=hmm;rcases f5 with ⟨rfl,had⟩ | ⟨b,off,rfl,f6,f7,f8⟩
  · obtain rfl:=had rfl
    refine⟨s,(0,0,0),⟨none,0,f1,f2,f3,f4,.inl ⟨rfl,rfl,rfl⟩⟩,.inr (by simp[Jar]),fun b j ⟨_,h1,h2⟩=>by simp at h2,?_⟩;intro own' w' hk hkb hsh y hout s' e' hmem;simp only[Jav,List.mem_cons,List.not_mem_nil,or_false,Prod.mk.injEq] at hmem;obtain⟨rfl,rfl⟩:=hmem;obtain⟨⟨ad2,cap2,q1,q2,q3,q4,q5⟩,_⟩:=hout;simp only[List.headD_cons] at q1;rw[f1] at q1;injection q1 with z1 z2 z3
    subst z1;subst z3;exact⟨⟨none,0,by rw[f1,z2],q2,q3,q4,.inl ⟨rfl,fun _=>rfl⟩⟩,by rw[hm];exact Evo.setOwn rfl z2⟩
  · refine⟨s,(b,off,cap*e.size),⟨_,cap,f1,f2,f3,f4,.inr ⟨b,off,rfl,rfl,f6,f7,fun j c1 c2=>?_⟩⟩,.inr (by simp[Jar]),?_,?_⟩
    · obtain⟨d1,d2,d3,d4⟩:=f8 j c1 c2
      exact⟨d1,d3,d4⟩
    · rintro b' j ⟨rfl,c1,c2⟩
      obtain⟨d1,d2,⟨v,d3⟩,d4⟩:=f8 j c1 c2;exact⟨d1,d2,_,d3⟩
    · intro own' w' hk hkb hsh y hout s' e' hmem
      simp only[Jav,List.mem_cons,List.not_mem_nil,or_false,Prod.mk.injEq] at hmem;obtain⟨rfl,rfl⟩:=hmem;obtain⟨⟨ad2,cap2,q1,q2,q3,q4,q5⟩,_⟩:=hout;simp only[List.headD_cons] at q1;rw[f1] at q1;injection q1 with z1 z2 z3
      subst z3;refine⟨?_,by rw[hm];exact Evo.setOwn rfl z2⟩;rcases q5 with ⟨q5,_⟩ | ⟨b2,o2,q5,q6,q7,q8,q9⟩
      · rw[q5] at z1;cases z1
      · rw[q5] at z1;cases z1
        refine⟨_,cap,by rw[f1,z2],q2,q3,q4,.inr ⟨b,off,rfl,q7,q8,?_⟩⟩;intro j c1 c2;obtain⟨u1,u2,u3⟩:=q9 j c1 c2;exact⟨u1,(f8 j c1 c2).2.1,u2,u3⟩
 | take e=>
  obtain⟨s,ver,xs,hm,rfl,rfl,rfl⟩:=hr;have hmm:=h.mems s;rw[hm] at hmm;obtain⟨ad,cap,f1,f2,f3,f4,f5⟩:=hmm
  have hgone:∀(own':Own) (w':World) (y:Ds (ioTys [Par.take e])) s' e',(s',e')∈Jav [.take e] ((s,.gone ver),()) y→Jaj Z own' w' β s' e'∧Evo β β s' (σ.mem s') e':=by
   intro own' w' y s' e' hmem;simp only[Jav,List.mem_cons,List.not_mem_nil,or_false,Prod.mk.injEq] at hmem;obtain⟨rfl,rfl⟩:=hmem;exact⟨trivial,by rw[hm];exact Evo.gone⟩
  rcases f5 with ⟨rfl,had⟩ | ⟨b,off,rfl,f6,f7,f8⟩
  · obtain rfl:=had rfl
    exact⟨s,(0,0,0),⟨none,0,f1,f2,f3,f4,.inl ⟨rfl,rfl,rfl⟩⟩,.inr (by simp[Jar]),fun b j ⟨_,h1,h2⟩=>by simp at h2,fun own' w' _ _ _ y _=>hgone own' w' y⟩
  · refine⟨s,(b,off,cap*e.size),⟨_,cap,f1,f2,f3,f4,.inr ⟨b,off,rfl,rfl,f6,f7,fun j c1 c2=>?_⟩⟩,.inr (by simp[Jar]),?_,fun own' w' _ _ _ y _=>hgone own' w' y⟩
    · obtain⟨d1,d2,d3,d4⟩:=f8 j c1 c2
      exact⟨d1,d3,d4⟩
    · rintro b' j ⟨rfl,c1,c2⟩
      obtain⟨d1,d2,⟨v,d3⟩,d4⟩:=f8 j c1 c2;exact⟨d1,d2,_,d3⟩
theorem JbD.congr {ids ids':Nat→Nat} {regs regs':Nat→Nat×Nat×Nat}:∀{ps:List Par} {i:Nat} {us:List Value} {x:Ds (ps.map Par.ty)},(∀k,i≤k→ids k=ids' k∧regs k=regs' k)→JbD own w ids regs i ps us x→JbD own w ids' regs' i ps us x
 | [],_,_,_,_,h=>h
 | [p],i,_,_,hk,⟨u,h1,h2⟩=>⟨u,h1,by rw[←(hk i (Nat.le_refl _)).1,←(hk i (Nat.le_refl _)).2];exact h2⟩
 | p::q::r,i,_,_,hk,⟨u,us,h1,h2,h3⟩=>⟨u,us,h1,by rw[←(hk i (Nat.le_refl _)).1,←(hk i (Nat.le_refl _)).2];exact h2,JbD.congr (ps:=q::r) (fun k h=>hk k (by omega)) h3⟩
theorem JaE.congr {ids ids':Nat→Nat} {regs regs':Nat→Nat×Nat×Nat}:∀{ps:List Par} {i:Nat} {us:List Value} {y:Ds (ioTys ps)},(∀k,i≤k→ids k=ids' k∧regs k=regs' k)→JaE own w ids regs i ps us y→JaE own w ids' regs' i ps us y
 | [],_,_,_,_,h=>h
 | .val _::r,i,us,y,hk,h=>JaE.congr (ps:=r) (fun k hle=>hk k (by omega)) h
 | .nils _::r,i,us,y,hk,h=>JaE.congr (ps:=r) (fun k hle=>hk k (by omega)) h
 | .pv _::r,i,us,y,hk,h=>JaE.congr (ps:=r) (fun k hle=>hk k (by omega)) h
 | .box τ::r,i,us,y,hk,h=>⟨by rw[←(hk i (Nat.le_refl _)).1,←(hk i (Nat.le_refl _)).2];exact h.1,JaE.congr (ps:=r) (fun k hle=>hk k (by omega)) h.2⟩
 | .row e::r,i,us,y,hk,h=>⟨by rw[←(hk i (Nat.le_refl _)).1,←(hk i (Nat.le_refl _)).2];exact h.1,JaE.congr (ps:=r) (fun k hle=>hk k (by omega)) h.2⟩
 | .take _::r,i,us,y,hk,h=>JaE.congr (ps:=r) (fun k hle=>hk k (by omega)) h
theorem JaE.split {ids:Nat→Nat} {regs:Nat→Nat×Nat×Nat} {p:Par} {r:List Par} {i:Nat} {u:Value} {us:List Value} {y:Ds (ioTys (p::r))} {io1:Io [p]} {io2:Io r}
 (h:JaE own w ids regs i (p::r) (u::us) y):∃(y1:Ds (ioTys [p])) (y2:Ds (ioTys r)),JaE own w (fun _=>ids i) (fun _=>regs i) 0 [p] [u] y1∧JaE own w ids regs (i+1) r us y2 ∧
  ∀s e',(s,e')∈Jav (p::r) (Jen p r io1 io2) y→(s,e')∈Jav [p] io1 y1∨(s,e')∈Jav r io2 y2:=by
 cases p with
 | val τ=>exact⟨(),y,trivial,h,fun s e' hm=>.inr hm⟩
 | nils e=>exact⟨(),y,trivial,h,fun s e' hm=>.inr hm⟩
 | pv q=>exact⟨(),y,trivial,h,fun s e' hm=>.inr hm⟩
 | box τ=>
  refine⟨dsH τ (ioTys r) y,dsT τ (ioTys r) y,⟨h.1,trivial⟩,h.2,fun s e' hm=>?_⟩;rcases List.mem_cons.1 hm with hm | hm
  · left;exact List.mem_singleton.2 hm
  · right;exact hm
 | row e=>
  refine⟨dsH (.sl e) (ioTys r) y,dsT (.sl e) (ioTys r) y,⟨h.1,trivial⟩,h.2,fun s e' hm=>?_⟩;rcases List.mem_cons.1 hm with hm | hm
  · left;exact List.mem_singleton.2 hm
  · right;exact hm
 | take e=>
  refine⟨(),y,trivial,h,fun s e' hm=>?_⟩;rcases List.mem_cons.1 hm with hm | hm
  · left;exact List.mem_singleton.2 hm
  · right;exact hm
theorem Jcm (p:Par) (r:List Par) (io1:Io [p]) (io2:Io r):Jar (p::r) (Jen p r io1 io2)=Jar [p] io1++Jar r io2:=by
 cases p<;>rfl
theorem JaT.open (h:St N Z own β σ a w):∀(ps:List Par) (i:Nat) {us:List Value} {x:Ds (ps.map Par.ty)} {io:Io ps},JaT own w β σ.mem [] ps us x io→(Jar ps io).Nodup →
 ∃(ids:Nat→Nat) (regs:Nat→Nat×Nat×Nat),JbD own w ids regs i ps us x∧(∀k,0<(regs k).2.2→ids k∈Jar ps io∧i≤k)∧(∀k b j,JaF (regs k) b j→own b j=some (ids k)∧Z.wr b j∧∃v,w.cell? ⟨b,j,none⟩=some v) ∧
  (∀k l,k≠l→0<(regs k).2.2→0<(regs l).2.2→ids k≠ids l) ∧
  ∀(own':Own) (w':World),Keeps own own' w w'→(∀s∈Jar ps io,∀b j v,own b j=some s→w.cell? ⟨b,j,none⟩=some v→(∀k,¬JaF (regs k) b j)→own' b j=some s∧w'.cell? ⟨b,j,none⟩=some v∧w'.frozen? ⟨b,j,none⟩=w.frozen? ⟨b,j,none⟩) →
   Jbw w w'→∀y:Ds (ioTys ps),JaE own' w' ids regs i ps us y→∀s e',(s,e')∈Jav ps io y→Jaj Z own' w' β s e'∧Evo β β s (σ.mem s) e'
 | [],i,us,x,io,hr,hn=>⟨fun _=>0,fun _=>(0,0,0),hr,fun k h=>by simp at h,fun k b j ⟨_,h1,h2⟩=>by simp at h2,fun k l _ h=>by simp at h,fun _ _ _ _ _ _ _ s e' hm=>by simp[Jav] at hm⟩
 | [p],i,us,x,io,⟨u,h1,h2⟩,hn=>by
  subst h1;obtain⟨id,reg,g1,g2,g3,g4⟩:=h2.open1 h;have hregs:∀k,upd (fun _=>((0,0,0):Nat×Nat×Nat)) i reg k=if k=i then reg else (0,0,0):=fun k=>Jad _ _ _ _
  refine⟨fun _=>id,upd (fun _=>(0,0,0)) i reg,⟨u,rfl,by rw[hregs,if_pos rfl];exact g1⟩,?_,?_,?_,?_⟩
  · intro k hk
    rw[hregs] at hk;split at hk
    · rename_i e;subst e
      rcases g2 with ⟨_,g2⟩ | g2
      · omega
      · exact⟨g2,Nat.le_refl _⟩
    · simp at hk
  · intro k b j hk
    rw[hregs] at hk;split at hk
    · exact g3 b j hk
    · obtain⟨_,c1,c2⟩:=hk;simp at c2
  · intro k l hkl hk hl
    rw[hregs] at hk hl;split at hk
    · split at hl
      · omega
      · simp at hl
    · simp at hk
  · intro own' w' hK hC hS y hO s e' hmem
    have hid:id∈Jar [p] io:=by
     rcases g2 with ⟨g2,_⟩ | g2
     · have:=List.mem_map_of_mem (f:=(·.1)) hmem
       rw[Jbc,g2] at this;cases this
     · exact g2
    refine g4 own' w' hK ?_ hS y ?_ s e' hmem
    · intro b j v e1 e2 e3
      refine hC id hid b j v e1 e2 fun k hk=>?_;rw[hregs] at hk;split at hk
      · exact e3 hk
      · obtain⟨_,c1,c2⟩:=hk;simp at c2
    · cases p with
      | val τ=>trivial
      | nils e=>trivial
      | pv q=>trivial
      | box τ=>exact⟨by have:=hO.1;rw[hregs,if_pos rfl] at this;exact this,trivial⟩
      | row e=>exact⟨by have:=hO.1;rw[hregs,if_pos rfl] at this;exact this,trivial⟩
      | take e=>trivial
 | p::q::r,i,us,x,io,⟨u,us',io1,io2,h1,h2,h3,h4⟩,hn=>by
  subst h1;subst h2;rw[Jcm] at hn;obtain⟨hn1,hn2,hn3⟩:=List.nodup_append.1 hn;obtain⟨id,reg,g1,g2,g3,g4⟩:=h3.open1 h;obtain⟨ids,regs,k1,k2,k3,k4,k5⟩:=JaT.open h (q::r) (i+1) h4 hn2;have hids:∀k,upd ids i id k=if k=i then id else ids k:=fun k=>Jad _ _ _ _
  have hregs:∀k,upd regs i reg k=if k=i then reg else regs k:=fun k=>Jad _ _ _ _
  have hcg:∀k,i+1≤k→ids k=upd ids i id k∧regs k=upd regs i reg k:=fun k hk=>by
   rw[hids,hregs,if_neg (by omega),if_neg (by omega)];exact⟨rfl,rfl⟩
  have hsame:∀k,k≠i→0<(regs k).2.2→id∈Jar [p] io1→ids k≠id:=by
   intro k _ hk hid e;exact hn3 id hid (ids k) (k2 k hk).1 e.symm
  refine⟨upd ids i id,upd regs i reg,⟨u,us',rfl,?_,k1.congr hcg⟩,?_,?_,?_,?_⟩
  · rw[hids,hregs,if_pos rfl,if_pos rfl];exact g1
  · intro k hk
    rw[hregs] at hk;rw[hids,Jcm];split at hk
    · rename_i e;subst e
      rw[if_pos rfl];rcases g2 with ⟨_,g2⟩ | g2
      · omega
      · exact⟨List.mem_append_left _ g2,Nat.le_refl _⟩
    · rename_i e
      rw[if_neg e];obtain⟨c1,c2⟩:=k2 k hk;exact⟨List.mem_append_right _ c1,by omega⟩
  · intro k b j hk
    rw[hregs] at hk;rw[hids];split at hk
    · rename_i e;rw[if_pos e];exact g3 b j hk
    · rename_i e;rw[if_neg e];exact k3 k b j hk
  · intro k l hkl hk hl
    rw[hregs] at hk hl;rw[hids,hids]
    have gid:0<reg.2.2→id∈Jar [p] io1:=fun h=>by
     rcases g2 with ⟨_,g2⟩ | g2
     · omega
     · exact g2
    by_cases e1:k=i
    · rw[if_pos e1] at hk ⊢
      have e2:l≠i:=by omega
      rw[if_neg e2] at hl ⊢;exact (hsame l e2 hl (gid hk)).symm
    · rw[if_neg e1] at hk ⊢
      by_cases e2:l=i
      · rw[if_pos e2] at hl ⊢
        exact hsame k e1 hk (gid hl)
      · rw[if_neg e2] at hl ⊢
        exact k4 k l hkl hk hl
  · intro own' w' hK hC hS y hO s e' hmem
    obtain⟨y1,y2,o1,o2,o3⟩:=JaE.split (io1:=io1) (io2:=io2) hO;rw[hids,hregs,if_pos rfl,if_pos rfl] at o1;have o2':=o2.congr (ids':=ids) (regs':=regs) (fun k hk=>⟨(hcg k hk).1.symm,(hcg k hk).2.symm⟩);rcases o3 s e' hmem with hmem | hmem
    ·
     have hid:id∈Jar [p] io1:=by
      rcases g2 with ⟨g2,_⟩ | g2
      · have:=List.mem_map_of_mem (f:=(·.1)) hmem
        rw[Jbc,g2] at this;cases this
      · exact g2
     refine g4 own' w' hK ?_ hS y1 o1 s e' hmem;intro b j v e1 e2 e3;refine hC id (by rw[Jcm];exact List.mem_append_left _ hid) b j v e1 e2 fun k hk=>?_;rw[hregs] at hk;split at hk
     · exact e3 hk
     · rename_i hki
       have h5:=(k3 k b j hk).1;rw[e1] at h5;have h6:0<(regs k).2.2:=by obtain⟨_,c1,c2⟩:=hk;omega
       exact hsame k hki h6 hid (Option.some.inj h5).symm
    · refine k5 own' w' hK ?_ hS y2 o2' s e' hmem
      intro s2 hs2 b j v e1 e2 e3;refine hC s2 (by rw[Jcm];exact List.mem_append_right _ hs2) b j v e1 e2 fun k hk=>?_;rw[hregs] at hk;split at hk
      · have h5:=(g3 b j hk).1
        rw[e1] at h5;cases h5;have h6:0<reg.2.2:=by obtain⟨_,c1,c2⟩:=hk;omega
        rcases g2 with ⟨_,g2⟩ | g2
        · omega
        · exact hn3 _ g2 _ hs2 rfl
      · exact e3 k hk
theorem JbP.noVb {mem:Nat→Entry} {fr:List (Nat×Entry)} {p:Par} {u:Value} {x:p.ty.D} {io:Io [p]} (h:JbP own w β mem fr p u x io) (y:Ds (ioTys [p])):∀s e',(s,e')∈Jav [p] io y→Ja5 e'=false:=by
 intro s e' hm;cases p with
 | val τ=>simp[Jav] at hm
 | nils e=>simp[Jav] at hm
 | pv q=>simp[Jav] at hm
 | box τ=>
  rcases h with ⟨s,ver,τb,xb,p,b,off,_,_,_,_,_,_,_,rfl⟩ | ⟨s,ver,τe,xs,i,p,b,off,n,c,_,_,_,_,_,_,_,_,rfl⟩
  · have hm:=List.mem_singleton.1 hm;cases hm;rfl
  · have hm:=List.mem_singleton.1 hm;cases hm;rfl
 | row e=>
  obtain⟨s,ver,xs,_,_,_,rfl⟩:=h;have hm:=List.mem_singleton.1 hm;cases hm;rfl
 | take e=>
  obtain⟨s,ver,xs,_,_,_,rfl⟩:=h;have hm:=List.mem_singleton.1 hm;cases hm;rfl
theorem Jjg (p:Par) (r:List Par) (io1:Io [p]) (io2:Io r) (y:Ds (ioTys (p::r))):∃(y1:Ds (ioTys [p])) (y2:Ds (ioTys r)),
 ∀s e',(s,e')∈Jav (p::r) (Jen p r io1 io2) y→(s,e')∈Jav [p] io1 y1∨(s,e')∈Jav r io2 y2:=by
 cases p with
 | val τ=>exact⟨(),y,fun s e' hm=>.inr hm⟩
 | nils e=>exact⟨(),y,fun s e' hm=>.inr hm⟩
 | pv q=>exact⟨(),y,fun s e' hm=>.inr hm⟩
 | box τ=>
  refine⟨dsH τ (ioTys r) y,dsT τ (ioTys r) y,fun s e' hm=>?_⟩;rcases List.mem_cons.1 hm with hm | hm
  · left;exact List.mem_singleton.2 hm
  · right;exact hm
 | row e=>
  refine⟨dsH (.sl e) (ioTys r) y,dsT (.sl e) (ioTys r) y,fun s e' hm=>?_⟩;rcases List.mem_cons.1 hm with hm | hm
  · left;exact List.mem_singleton.2 hm
  · right;exact hm
 | take e=>
  refine⟨(),y,fun s e' hm=>?_⟩;rcases List.mem_cons.1 hm with hm | hm
  · left;exact List.mem_singleton.2 hm
  · right;exact hm
theorem JaT.noVb {mem:Nat→Entry} {fr:List (Nat×Entry)}:∀{ps:List Par} {us:List Value} {x:Ds (ps.map Par.ty)} {io:Io ps},JaT own w β mem fr ps us x io→∀y s e',(s,e')∈Jav ps io y→Ja5 e'=false
 | [],_,_,_,_,y,s,e',hm=>by simp[Jav] at hm
 | [p],_,_,_,⟨u,_,h2⟩,y,s,e',hm=>h2.noVb y s e' hm
 | p::q::r,_,_,_,⟨u,us',io1,io2,_,h2,h3,h4⟩,y,s,e',hm=>by
  subst h2;obtain⟨y1,y2,h5⟩:=Jjg p (q::r) io1 io2 y;rcases h5 s e' hm with h5 | h5
  · exact h3.noVb y1 s e' h5
  · exact JaT.noVb (ps:=q::r) h4 y2 s e' h5
end
end Go.Re
namespace Go.Re
set_option linter.unusedVariables false
set_option linter.unusedSimpArgs false
open Go.RowKit (Below)
section
variable {P:Program} {E:Env} {N:Nat} {Z:Base} {own:Own} {β:Jai} {σ:S} {a:Act} {w:World} {o:Oper}
theorem Jip:∀(l:List (Nat×Entry)) (σ:S) (s:Nat),(s∉l.map (·.1)∧(Jaz σ l).mem s=σ.mem s)∨∃e',(s,e')∈l∧(Jaz σ l).mem s=e'
 | [],σ,s=>.inl ⟨by simp,rfl⟩
 | p::l,σ,s=>by
  rcases Jip l (σ.set p.1 p.2) s with ⟨h1,h2⟩ | ⟨e',h1,h2⟩
  · have h3:(σ.set p.1 p.2).mem s=if s=p.1 then p.2 else σ.mem s:=Jad _ _ _ _
    by_cases e:s=p.1
    · right
      refine⟨p.2,by rw[e];exact List.mem_cons_self ..,?_⟩;show (Jaz (σ.set p.1 p.2) l).mem s=_;rw[h2,h3,if_pos e]
    · left
      refine⟨by simp only[List.map_cons,List.mem_cons,not_or];exact⟨e,h1⟩,?_⟩;show (Jaz (σ.set p.1 p.2) l).mem s=_;rw[h2,h3,if_neg e]
  · right
    exact⟨e',List.mem_cons_of_mem _ h1,h2⟩
theorem JbP.froz {own1:Own} {fr:List (Nat×Entry)} (hf:Frz σ fr) (k1:Keeps own own1 w w) (v1:∀τ u x,Jch own w β σ.mem fr τ u x→Jab own1 w τ u x) {p:Par} {u:Value} {x:p.ty.D} {io:Io [p]}
 (hs:∀s∈Jar [p] io,∀q∈fr,q.1≠s) (h:JbP own w β σ.mem fr p u x io):JbP own1 w β (Jaz σ fr).mem [] p u x io:=by
 cases p with
 | val τ=>exact Jch.of (v1 _ _ _ h)
 | nils e=>exact h
 | pv q=>exact fun β' mem'=>Jac.go k1 (fun s=>Evo.same _ rfl) (h β' mem')
 | box τ=>
  rcases h with ⟨s,ver,τb,xb,p,b,off,hm,h1⟩ | ⟨s,ver,τe,xs,i,p,b,off,n,c,hm,hi,h1,h2,h2',h3,h4,h5,h6⟩
  · exact .inl ⟨s,ver,τb,xb,p,b,off,Jif hf hm,h1⟩
  · refine .inr ⟨s,ver,τe,xs,i,p,b,off,n,c,?_,hi,h1,h2,h2',h3,h4,h5,h6⟩
    rw[Ja9 fr (hs s (by rw[h6];simp[Jar]))];exact hm
 | row e=>
  obtain⟨s,ver,xs,hm,h1,h2,h3⟩:=h;refine⟨s,ver,xs,?_,h1,h2,h3⟩;rw[Ja9 fr (hs s (by rw[h3];simp[Jar]))];exact hm
 | take e=>
  obtain⟨s,ver,xs,hm,h1,h2,h3⟩:=h;refine⟨s,ver,xs,?_,h1,h2,h3⟩;rw[Ja9 fr (hs s (by rw[h3];simp[Jar]))];exact hm
theorem JaT.froz {own1:Own} {fr:List (Nat×Entry)} (hf:Frz σ fr) (k1:Keeps own own1 w w) (v1:∀τ u x,Jch own w β σ.mem fr τ u x→Jab own1 w τ u x):∀{ps:List Par} {us:List Value} {x:Ds (ps.map Par.ty)} {io:Io ps},
 (∀s∈Jar ps io,∀q∈fr,q.1≠s)→JaT own w β σ.mem fr ps us x io→JaT own1 w β (Jaz σ fr).mem [] ps us x io
 | [],_,_,_,_,h=>h
 | [p],_,_,_,hs,⟨u,h1,h2⟩=>⟨u,h1,h2.froz hf k1 v1 hs⟩
 | p::q::r,_,_,_,hs,⟨u,us,io1,io2,h1,h2,h3,h4⟩=>by
  subst h2;rw[Jcm] at hs;exact⟨u,us,io1,io2,h1,rfl,h3.froz hf k1 v1 (fun s hm=>hs s (List.mem_append_left _ hm)),JaT.froz (ps:=q::r) hf k1 v1 (fun s hm=>hs s (List.mem_append_right _ hm)) h4⟩
theorem JeH:∀(l:List Nat),Jb4 l=true→l.Nodup
 | [],_=>List.nodup_nil
 | n::r,h=>by
  simp only[Jb4,Bool.and_eq_true,List.all_eq_true] at h;refine List.nodup_cons.2 ⟨fun hm=>?_,JeH r h.2⟩;have:=h.1 n hm;simp at this
theorem JjB (h:St N Z own β σ a w) {B s:Nat} (hB:Z.w.heap.size≤B) (p:Ty×Mode) {u:Value} {x:p.1.D} {γ:Type} {g:γ→p.1.D} {b:γ} (hg:g b=x) (hr:Jci own w B s p u x):
 ∃β',St N Z own β' (Jaw σ b (Je4 s (nextVer (σ.mem s)) p g)) a w∧Jac own w β' (Jaw σ b (Je4 s (nextVer (σ.mem s)) p g)).mem (JgM s (nextVer (σ.mem s)) p x) u ∧
  (∀s',s'≠s→(Jaw σ b (Je4 s (nextVer (σ.mem s)) p g)).mem s'=σ.mem s'∧β' s'=β s')∧∀s',Evo β β' s' (σ.mem s') ((Jaw σ b (Je4 s (nextVer (σ.mem s)) p g)).mem s'):=by
 have plain:∀{τ:Ty} {x:τ.D},Jab own w τ u x→∃β',St N Z own β' σ a w∧Jac own w β' σ.mem (.val τ x) u∧(∀s',s'≠s→σ.mem s'=σ.mem s'∧β' s'=β s')∧∀s',Evo β β' s' (σ.mem s') (σ.mem s'):=
  fun hv=>⟨β,h,hv,fun _ _=>⟨rfl,rfl⟩,fun s=>Evo.same _ rfl⟩
 have mine0:∀{e:Ty} {x:List e.D} {m:Mode},(∀β',β' s=u→Jaj Z own w β' s (.own (nextVer (σ.mem s)) e x m)) →
  ∃β',St N Z own β' (σ.set s (.own (nextVer (σ.mem s)) e x m)) a w∧Jac own w β' (σ.set s (.own (nextVer (σ.mem s)) e x m)).mem (.ref s (nextVer (σ.mem s))) u ∧
   (∀s',s'≠s→(σ.set s (.own (nextVer (σ.mem s)) e x m)).mem s'=σ.mem s'∧β' s'=β s')∧∀s',Evo β β' s' (σ.mem s') ((σ.set s (.own (nextVer (σ.mem s)) e x m)).mem s'):=by
  intro e x m h1;refine⟨upd β s u,?_,Ja0 _ _ _ σ.mem s u (σ.mem s) e x m,?_,?_⟩
  · exact h.newSite' (Frm.refl _ _ _) (fun _ _ _ _=>rfl) (Keeps.refl _ _) (fun s' _=>h.mems s') (fun β'=>Evo.newOwn _ _ _ _) (h1 _ (by rw[Jad,if_pos rfl])) (fun _ _ _=>Jah.refl _ _ _)
  · intro s' hs'
    exact⟨by show upd σ.mem s _ s'=_;rw[Jad,if_neg hs'],by rw[Jad,if_neg hs']⟩
  · intro s'
    show Evo β _ s' (σ.mem s') (upd σ.mem s _ s');rw[Jad σ.mem];split
    · rename_i e;subst e;exact Evo.newOwn _ _ _ _
    · rename_i e;exact Evo.same _ (by rw[Jad,if_neg e])
 have mine:∀{e:Ty} {x:List e.D} {m:Mode} {ad:Option Addr} {cap:Nat},m.isMp=false→u= .slice ad x.length cap→x.length≤cap→cap<9223372036854775808→x.length≤big →
  ((cap=0∧(m= .full→ad=none))∨∃b o,ad=some ⟨b,o,none⟩∧JaX own w (m.owner s) e b o x∧m.rest Z own w s b o x.length cap e.size) →
  ∃β',St N Z own β' (σ.set s (.own (nextVer (σ.mem s)) e x m)) a w∧Jac own w β' (σ.set s (.own (nextVer (σ.mem s)) e x m)).mem (.ref s (nextVer (σ.mem s))) u ∧
   (∀s',s'≠s→(σ.set s (.own (nextVer (σ.mem s)) e x m)).mem s'=σ.mem s'∧β' s'=β s')∧∀s',Evo β β' s' (σ.mem s') ((σ.set s (.own (nextVer (σ.mem s)) e x m)).mem s'):=by
  intro e x m ad cap hnm h1 h2 h3 h4 h5;exact mine0 fun β' hb=>Jaj.ofRow hnm ⟨ad,cap,hb.trans h1,h2,h3,h4,h5⟩
 obtain⟨τ,m⟩:=p;subst hg;cases τ with
 | sl e=>
  cases m with
  | full=>
   obtain⟨ad,cap,h1,h2,h3,h4,h5⟩:=hr;exact mine (e:=e) (x:=g b) (m:=.full) rfl h1 h2 h3 h4 (h5.imp (fun h=>⟨h.2,fun _=>h.1⟩) fun ⟨b,o,q1,q2,q3,q4,q5⟩=>⟨b,o,q1,q3,q4,fun j c1 c2=>⟨(q5 j c1 c2).1,.inl (Nat.le_trans hB (q2 (by omega))),(q5 j c1 c2).2⟩⟩)
  | tail=>
   obtain⟨ad,cap,h1,h2,h3,h4,h5⟩:=hr;refine mine (e:=e) (x:=g b) (m:=.tail) rfl h1 h2 h3 h4 (h5.imp (fun h=>⟨h,fun h=>by cases h⟩) fun ⟨bb,o,q1,q3,q2,q5⟩=>⟨bb,o,q1,q3,fun j c1 c2=>⟨(q5 j c1 c2).1,.inl ?_,(q5 j c1 c2).2⟩⟩);exact Nat.le_trans hB (q2 (by omega))
  | view=>exact plain hr
  | gb l=>exact plain hr
  | bg=>exact plain hr
  | it b=>exact plain hr
  | mp=>
   refine mine0 (e:=e) (x:=g b) (m:=.mp) fun β' hb=>?_;show Jbh _ _ _ _ _ _ _;rw[hb];exact Jbh.base hB hr
 | bool=>cases m<;>exact plain hr
 | str=>cases m<;>exact plain hr
 | unit=>cases m<;>exact plain hr
 | int k=>cases m<;>exact plain hr
 | pair p q=>cases m<;>exact plain hr
 | st b=>cases m<;>exact plain hr
 | arr n e=>cases m<;>exact plain hr
 | mp p q=>cases m<;>exact plain hr
theorem Jl5 {d i j:Nat} (h:i≠j):Jaa d i≠Jaa d j:=by unfold Jaa;omega
theorem JjC {B d:Nat} (hB:Z.w.heap.size≤B):∀(ps:List (Ty×Mode)) (i:Nat) {σ:S} {β:Jai} (_:St N Z own β σ a w) {us:List Value} {x:Ds (ps.map (·.1))} {γ:Type} {g:γ→Ds (ps.map (·.1))} {b:γ} (_:g b=x)
 {ver:Nat→Nat} (_:∀k,i≤k→k<i+ps.length→ver k=nextVer (σ.mem (Jaa d k))) (_:JbM own w B (fun k=>Jaa d k) i ps us x),
 ∃β',St N Z own β' (Jaw σ b (Jdg d ver i ps g)) a w∧Jac own w β' (Jaw σ b (Jdg d ver i ps g)).mem (Jgf d ver i ps x) (.tuple us.toArray) ∧
  (∀s',(∀k,i≤k→s'≠Jaa d k)→(Jaw σ b (Jdg d ver i ps g)).mem s'=σ.mem s'∧β' s'=β s')∧(∀s',Evo β β' s' (σ.mem s') ((Jaw σ b (Jdg d ver i ps g)).mem s')) ∧
  ∀p,ps=[p]→∃u,us=[u]∧∃y:p.1.D,HEq x y∧Jac own w β' (Jaw σ b (Jdg d ver i ps g)).mem (JgM (Jaa d i) (ver i) p y) u
 | [],i,σ,β,h,us,x,γ,g,b,hg,ver,hv,hr=>⟨β,h,by have hr:us=[]:=hr;rw[hr];exact rfl,fun _ _=>⟨rfl,rfl⟩,fun s=>Evo.same _ rfl,fun p hp=>by cases hp⟩
 | [p],i,σ,β,h,us,x,γ,g,b,hg,ver,hv,⟨u,h1,h2⟩=>by
  have hvi:=hv i (Nat.le_refl _) (by simp);obtain⟨β',k1,k2,k3,k4⟩:=JjB h (s:=Jaa d i) hB p (g:=g) (b:=b) hg h2;have e1:Jdg d ver i [p] g=Je4 (Jaa d i) (ver i) p g:=rfl;rw[e1,hvi,h1];refine⟨β',k1,⟨u,[],rfl,?_,rfl⟩,fun s' hs'=>k3 s' (hs' i (Nat.le_refl _)),k4,fun p' hp'=>?_⟩
  · rw[hvi];exact k2
  · cases hp'
    exact⟨u,rfl,x,HEq.rfl,k2⟩
 | p::q::r,i,σ,β,h,us,x,γ,g,b,hg,ver,hv,⟨u,us',h1,h2,h3⟩=>by
  have hvi:=hv i (Nat.le_refl _) (by simp);obtain⟨β1,k1,k2,k3,k4⟩:=JjB h (s:=Jaa d i) hB p (g:=fun b=>(g b).1) (b:=b) (by rw[hg]) h2;rw[←hvi] at k1 k2 k3 k4
  obtain⟨β2,l1,l2,l3,l4,_⟩:=JjC hB (q::r) (i+1) k1 (g:=fun b=>(g b).2) (b:=b) (by rw[hg]) (ver:=ver) (by
   intro k h4 h5;rw[(k3 (Jaa d k) (Jl5 (by omega))).1];exact hv k (by omega) (by simp only[List.length_cons] at h5 ⊢;omega)) h3
  have e1:Jaw σ b (Jdg d ver i (p::q::r) g)=Jaw (Jaw σ b (Je4 (Jaa d i) (ver i) p (fun b=>(g b).1))) b (Jdg d ver (i+1) (q::r) (fun b=>(g b).2)):=Jb6 _ _ _ _;rw[e1,h1];refine⟨β2,l1,⟨u,us',rfl,?_,l2⟩,?_,fun s'=>(k4 s').trans (l4 s'),fun p' hp'=>by cases hp'⟩
  · exact k2.go (Keeps.refl _ _) l4
  · intro s' hs'
    obtain⟨m1,m2⟩:=l3 s' (fun k hk=>hs' k (by omega));obtain⟨m3,m4⟩:=k3 s' (hs' i (Nat.le_refl _));exact⟨m1.trans m3,m2.trans m4⟩
end
end Go.Re
namespace Go.Re
set_option linter.unusedVariables false
set_option linter.unusedSimpArgs false
open Go.RowKit (Below)
section
variable {P:Program} {E:Env} {N:Nat} {Z:Base} {own:Own} {β:Jai} {σ:S} {a:Act} {w:World} {o:Oper}
theorem Jd5 {f:Nat} {args:Array Operand} {ats:Array TypeId} (ho:o.op= .call {callee:=.value (.func f),args,argTypes:=ats})
 (hfn:∃fn,P.funcs[f]?=some fn∧fn.body.isNone=false∧(fn.name== "runtime.NumGoroutine")=false):(execOp a.eval o).run P w= .ok (.enter f (args.map a.eval)) w:=by
 obtain⟨fn,h1,h2,h3⟩:=hfn;unfold execOp;rw[ho];simp only[resolve,Deferred.ofValue,Act.eval,Sem.run_bind,Sem.run_pure,Result.andThen_ok,invoke,callFunc,run_program,h1,h2,h3,Bool.false_eq_true,if_false,Array.append_empty]
 congr 2
 simp
theorem Jiq {t g:Nat} {us:List Value} {args:Array Operand} {ats:Array TypeId} (ho:o.op= .call {callee:=.value (.tmp t),args,argTypes:=ats}) (hv:a.eval (.tmp t)= .func (.func g) #[] us.toArray)
 (hfn:∃fn,P.funcs[g]?=some fn∧fn.body.isNone=false∧(fn.name== "runtime.NumGoroutine")=false):(execOp a.eval o).run P w= .ok (.enter g (args.map a.eval++us.toArray)) w:=by
 obtain⟨fn,h1,h2,h3⟩:=hfn;unfold execOp;rw[ho];simp only[resolve,hv,Deferred.ofValue,Sem.run_bind,Sem.run_pure,Result.andThen_ok,invoke,callFunc,run_program,h1,h2,h3,Bool.false_eq_true,if_false]
 congr 2
 simp
theorem Jhk (hE:EnvOk P E) (h:St N Z own β σ a w) {f:Nat} {F:Fun} {xs:List (Operand⊕V)} {vs:List Value} (hF:E.fn f=some F) (hX:Xs own w β σ.mem a xs vs)
 (hexec:(∃fn,P.funcs[f]?=some fn∧fn.body.isNone=false∧(fn.name== "runtime.NumGoroutine")=false)→(execOp a.eval o).run P w= .ok (.enter f vs.toArray) w)
 {r:V×S} {d:Nat} (hr:(Jfo d F xs).run σ=some r):Did P N Z o a w r.2 r.1:=by
 have hC:=hE.fn f F hF;unfold Jfo at hr;obtain⟨x,fr,io,hf,hA,h2⟩:=Jhi h _ _ _ hX hr;obtain⟨ver,hver,h3⟩:=Jhj _ h2;split at h3
 case isFalse=>cases h3
 rename_i hcond;obtain⟨hnd,hfrs,hres⟩:=hcond;obtain⟨res,hres1,hr1⟩:=Jal h3;obtain⟨own1,s1,k1,v1⟩:=h.freeze hf
 have hsites:∀s∈Jar F.args io,∀q∈fr,q.1≠s:=by
  intro s hs q hq e;have:=List.all_eq_true.1 (List.all_eq_true.1 hfrs s hs) q hq;rw[e] at this;simp at this
 have hA1:=hA.froz hf k1 v1 hsites;obtain⟨ids,regs,a1,a2,a3,a4,a5⟩:=JaT.open s1 F.args 0 hA1 (JeH _ hnd);have hcall:=hC.calls w own1 ids (fun k=>Jaa d k) regs _ x res a1 a4 hres1;intro Q;unfold Oper.wp;rw[hexec hC.fn,Oper.upon_enter];refine hcall.mono ?_;rintro e w' ⟨own2,us,rfl,hfr,hold,hret,hout⟩;have hwrt:∀b j,(∃i,JaF (regs i) b j)→Z.w.heap.size≤b∨Z.io b j:=fun b j ⟨i,hi⟩=>(a3 i b j hi).2.1
 have hk2:Keeps own1 own2 w w':=by
  refine⟨?_,?_⟩
  · intro b j v e1 e2
    have hlt:=cell?_lt e2
    have hno:¬∃i,JaF (regs i) b j:=by
     rintro⟨i,hi⟩;have:=(a3 i b j hi).1;rw[e1] at this;cases this
    exact⟨by rw[hold b j hlt hno];exact e1,by rw[hfr.cell b j hlt hno];exact e2⟩
  · intro rr es c e1 e2
    have hlt:=Ja6 e2
    have hno:∀j,¬∃i,JaF (regs i) rr j:=by
     rintro j ⟨i,hi⟩;obtain⟨_,_,v,hv⟩:=a3 i rr j hi;rw[JcC e2] at hv;cases hv
    exact⟨by rw[hold rr 0 hlt (hno 0)];exact e1,by rw[hfr.block rr hlt hno];exact e2⟩
 have hkept:∀s b j v,own1 b j=some s→w.cell? ⟨b,j,none⟩=some v→(∀k,¬JaF (regs k) b j)→own2 b j=some s∧w'.cell? ⟨b,j,none⟩=some v∧w'.frozen? ⟨b,j,none⟩=w.frozen? ⟨b,j,none⟩:=by
  intro s b j v e1 e2 e3;have hlt:=cell?_lt e2;have hno:¬∃i,JaF (regs i) b j:=fun ⟨i,hi⟩=>e3 i hi;exact⟨by rw[hold b j hlt hno];exact e1,by rw[hfr.cell b j hlt hno];exact e2,(hfr.live b j v hlt e2).2⟩
 have hshp:Jbw w w':=fun b k hfree=>hfr.shape b k (by obtain⟨_,_,e1,_⟩:=hfree;exact Jep e1) hfree;have hback:=a5 own2 w' hk2 (fun s _ b j v e1 e2 e3=>hkept s b j v e1 e2 e3) hshp _ hout
 have hframe:Frm Z.w.heap.size Z.io w w':={
  os:=hfr.os
  tape:=hfr.tape
  output:=hfr.output
  size:=hfr.size
  cell:=fun b j hb hio=>hfr.cell b j (Nat.lt_of_lt_of_le hb s1.base) (fun hx=>by
   rcases hwrt b j hx with h4 | h4
   · omega
   · exact hio h4)
  live:=fun b j v hb hv=>hfr.live b j v (Nat.lt_of_lt_of_le hb s1.base) hv
  shape:=fun b k hb=>hfr.shape b k (Nat.lt_of_lt_of_le hb s1.base)
  block:=fun b hb hio=>hfr.block b (Nat.lt_of_lt_of_le hb s1.base) (fun j hx=>by
   rcases hwrt b j hx with h4 | h4
   · omega
   · exact hio j h4)}
 have hent:=fun s=>Jip (Jav F.args io (dsR (F.res.map (·.1)) (ioTys F.args) res)) (Jaz σ fr) s;have hkeys:=Jbc F.args io (dsR (F.res.map (·.1)) (ioTys F.args) res)
 have s2:St N Z own2 β (Jaz (Jaz σ fr) (Jav F.args io (dsR (F.res.map (·.1)) (ioTys F.args) res))) a w':=by
  have hok:∀s,s∉(Jav F.args io (dsR (F.res.map (·.1)) (ioTys F.args) res)).map (·.1)→Jah s own1 own2 w w':=by
   intro s h6;refine⟨?_,?_⟩
   case refine_2=>
    intro rr es c e1 e2;have hlt:=Ja6 e2
    have hno:∀j,¬∃i,JaF (regs i) rr j:=by
     rintro j ⟨i,hi⟩;obtain⟨_,_,v,hv⟩:=a3 i rr j hi;rw[JcB c e2] at hv;cases hv
    exact⟨by rw[hold rr 0 hlt (hno 0)];exact e1,by rw[hfr.block rr hlt hno];exact e2⟩
   intro b j v e1 e2;refine hkept s b j v e1 e2 fun k hk=>h6 ?_;have h7:=(a3 k b j hk).1;rw[e1] at h7;cases h7;rw[hkeys];exact (a2 k (by obtain⟨_,c1,c2⟩:=hk;omega)).1
  refine s1.go hframe ?_ hk2 ?_ (Jkj _ _) ?_ ?_
  case refine_4=>
   intro s hv;rcases hent s with ⟨h6,h4⟩ | ⟨e',h4,h5⟩
   · exact⟨h4,hok s h6⟩
   · rw[h5,hA1.noVb _ s e' h4] at hv;cases hv
  · intro b j hb hio
    refine hold b j (Nat.lt_of_lt_of_le hb s1.base) (fun hx=>?_);rcases hwrt b j hx with h4 | h4
    · omega
    · exact hio h4
  · intro s
    rcases hent s with ⟨_,h4⟩ | ⟨e',h4,h5⟩
    · rw[h4];exact Evo.same _ rfl
    · rw[h5];exact (hback s e' h4).2
  · intro s
    rcases hent s with ⟨h6,h4⟩ | ⟨e',h4,h5⟩
    · rw[h4]
      exact (s1.mems s).keeps hk2 (hok s h6) hshp rfl
    · rw[h5];exact (hback s e' h4).1
 have hver2:∀k,0≤k→k<0+F.res.length→ver k=nextVer ((Jaz (Jaz σ fr) (Jav F.args io (dsR (F.res.map (·.1)) (ioTys F.args) res))).mem (Jaa d k)):=by
  intro k _ hk;rw[hver k (by omega),←JdQ fr hf.weak];rcases hent (Jaa d k) with ⟨_,h4⟩ | ⟨e',h4,h5⟩
  · rw[h4]
  · exfalso
    have hm:=List.mem_map_of_mem (f:=(·.1)) h4;rw[hkeys] at hm;have:=List.all_eq_true.1 (List.all_eq_true.1 hres _ hm) k (List.mem_range.2 (by omega));simp at this
 obtain⟨β3,t1,t2,_,_,t5⟩:=JjC (d:=d) s1.base F.res 0 s2 (g:=fun r=>dsL (F.res.map (·.1)) (ioTys F.args) r) (b:=res) rfl hver2 hret;refine⟨Jdt us,rfl,own2,β3,?_,?_⟩
 · rw[hr1]
   simp only[Jb6,JaD,Jcl];exact t1
 · rw[hr1]
   simp only[Jb6,JaD,Jcl]
   have top:∀(ps:List (Ty×Mode)) (x:Ds (ps.map (·.1))) (mem:Nat→Entry),JbM own2 w' w.heap.size (fun k=>Jaa d k) 0 ps us x→Jac own2 w' β3 mem (Jgf d ver 0 ps x) (.tuple us.toArray) →
    Jac own2 w' β3 mem (Jgg d ver ps x) (Jdt us):=by
    intro ps x mem h1 h2
    match ps,x,h1,h2 with
    | [],x,h1,h2=>have h1:us=[]:=h1;subst h1;exact h2
    | [p],x,h1,h2=>
     obtain⟨u,h1,_⟩:=h1;subst h1;obtain⟨u',us',e1,e2,_⟩:=h2;have:[u]=u'::us':=by simpa using e1
     cases this;exact e2
    | p::q::r,x,h1,h2=>
     have:Jdt us= .tuple us.toArray:=by
      obtain⟨u,us',h1,_,h3⟩:=h1;subst h1;cases us' with
      | nil=>cases r<;>obtain⟨_,h4⟩:=h3<;>simp at h4
      | cons v vs=>rfl
     rw[this];exact h2
   exact top _ _ _ hret t2
theorem Xs.ops (own:Own) (w:World) (β:Jai) (mem:Nat→Entry) (a:Act):∀(os:List Operand) (r:List (Operand⊕V)) (us:List Value),Xs own w β mem a r us→Xs own w β mem a (os.map .inl++r) (os.map a.eval++us)
 | [],_,_,h=>h
 | o::os,r,us,h=>⟨_,rfl,Xs.ops own w β mem a os r us h⟩
theorem Jl6 (hE:EnvOk P E) (h:St N Z own β σ a w) {f:Nat} {F:Fun} {args:Array Operand} {ats:Array TypeId} (hF:E.fn f=some F) (ho:o.op= .call {callee:=.value (.func f),args,argTypes:=ats})
 {r:V×S} {d:Nat} (hr:(Jfo d F (args.toList.map .inl)).run σ=some r):Did P N Z o a w r.2 r.1:=by
 have hX:=Xs.ops own w β σ.mem a args.toList [] [] rfl;rw[List.append_nil,List.append_nil] at hX;refine Jhk hE h hF hX (fun hfn=>?_) hr;rw[Jd5 ho hfn]
 congr 2
 apply Array.ext';simp
theorem Jm2 (hE:EnvOk P E) (h:St N Z own β σ a w) {t g:Nat} {x:V} {F:Fun} {args:Array Operand} {ats:Array TypeId} (hF:E.fn g=some F) (ho:o.op= .call {callee:=.value (.tmp t),args,argTypes:=ats})
 (hs:σ.slots t= .clo g (.tcons x .tnil)) {r:V×S} {d:Nat} (hr:(Jfo d F (args.toList.map .inl++[.inr x])).run σ=some r):Did P N Z o a w r.2 r.1:=by
 have hsl:=h.slots t;rw[hs] at hsl;obtain⟨us,h1,u,us',h2,h3,h4⟩:=hsl;have e:us=u::us':=by simpa using h2
 have h4:Value.tuple us'.toArray= .tuple #[]:=h4;have e':us'=[]:=by simpa using h4
 subst e';subst e;have hX:=Xs.ops own w β σ.mem a args.toList [.inr x] [u] ⟨u,[],rfl,h3,rfl⟩;refine Jhk hE h hF hX (fun hfn=>?_) hr;rw[Jiq ho h1 hfn]
 congr 2
 apply Array.ext';simp
end
end Go.Re
namespace Go.Re
set_option linter.unusedVariables false
set_option linter.unusedSimpArgs false
open Go.RowKit (Below)
def Jbd {n:Nat} {V:Type}:List (List (BitVec n)×V)→List (BitVec n)→Option Nat
 | [],_=>none
 | p::r,k=>bif decide (k=p.1) then some 0 else (Jbd r k).map (·+1)
theorem JfX {n:Nat} {V:Type}:∀{xs:List (List (BitVec n)×V)} {k:List (BitVec n)} {i:Nat},Jbd xs k=some i→∃v,xs[i]?=some (k,v)
 | [],_,_,h=>by cases h
 | p::r,k,i,h=>by
  unfold Jbd at h;by_cases e:k=p.1
  · rw[decide_eq_true e,cond_true] at h
    cases h;exact⟨p.2,by rw[List.getElem?_cons_zero,e]⟩
  · rw[decide_eq_false e,cond_false] at h
    obtain⟨j,h1,rfl⟩:=Option.map_eq_some_iff.1 h;obtain⟨v,h2⟩:=JfX h1;exact⟨v,by rw[List.getElem?_cons_succ];exact h2⟩
theorem JeI {n:Nat} {V:Type}:∀{xs:List (List (BitVec n)×V)} {k:List (BitVec n)} {v:V} {i:Nat},Jbd xs k=some i→mpPut xs k v=xs.set i (k,v)
 | [],_,_,_,h=>by cases h
 | p::r,k,v,i,h=>by
  unfold Jbd at h;unfold mpPut;by_cases e:k=p.1
  · rw[decide_eq_true e,cond_true] at h
    cases h;rw[decide_eq_true e,cond_true];rfl
  · rw[decide_eq_false e,cond_false] at h
    obtain⟨j,h1,rfl⟩:=Option.map_eq_some_iff.1 h;rw[decide_eq_false e,cond_false,JeI h1];rfl
theorem JeJ {n:Nat} {V:Type}:∀{xs:List (List (BitVec n)×V)} {k:List (BitVec n)} {v:V},Jbd xs k=none→mpPut xs k v=xs++[(k,v)]
 | [],_,_,h=>rfl
 | p::r,k,v,h=>by
  unfold Jbd at h;unfold mpPut;by_cases e:k=p.1
  · rw[decide_eq_true e,cond_true] at h;cases h
  · rw[decide_eq_false e,cond_false] at h
    have h1:Jbd r k=none:=by
     cases hh:Jbd r k with
     | none=>rfl
     | some j=>rw[hh] at h;cases h
    rw[decide_eq_false e,cond_false,JeJ h1];rfl
theorem Je9 {n:Nat} {V:Type}:∀(xs:List (List (BitVec n)×V)) (k:List (BitVec n)),mpGet xs k=(Jbd xs k).bind fun i=>xs[i]?.map (·.2)
 | [],_=>rfl
 | p::r,k=>by
  unfold Jbd mpGet;by_cases e:k=p.1
  · rw[decide_eq_true e,cond_true,cond_true];rfl
  · rw[decide_eq_false e,cond_false,cond_false,Je9 r k]
    cases Jbd r k<;>rfl
section
variable {P:Program} {E:Env} {N:Nat} {Z:Base} {own:Own} {β:Jai} {σ:S} {a:Act} {w:World} {o:Oper}
theorem JfY (hE:EnvOk P E) {t n:Nat} {x:List (BitVec 8)} {u:Value} (ht:E.ty t=some (.arr n (.int .u8))) (hu:Jab own w (.arr n (.int .u8)) u x):
 ∃te i,P.underlying t=some (.array n te)∧P.underlying te=some (.int .u8)∧P.info? te=some i∧x.length=n∧∃cs:List Value,u= .agg cs.toArray∧cs.length=n ∧
  (∀j (h:j<x.length),cs[j]?=some (.int .u8 (toI .u8 x[j])))∧∀j,j<n→∃v,(part te cs.toArray (j*P.cellsOf te)).run P w= .ok (.int .u8 v) w:=by
 obtain⟨cs,rfl,hx1,hx2,hx3⟩:=(Jab.agg rfl).1 hu;obtain⟨te,q1,q2⟩:=(hE.ty t _ ht).desc;have hT:=hE.ty te _ q2;obtain⟨i,g1,_⟩:=hT.info
 have hcell:P.cellsOf te=1:=by
  have h1:=hT.cells (P:=P) w;rw[run_sizeOf w g1] at h1;have:P.cellsOf te=Ty.size (.int .u8):=by injection h1
  exact this
 have hs1:Ty.size (.int .u8)=1:=rfl;refine⟨te,i,q1,hT.desc,g1,hx1,cs,rfl,by rw[hx2,hs1,Nat.mul_one],fun j hj=>?_,fun j hj=>?_⟩
 · have a1:=hx3 j hj
   rw[hs1,Nat.mul_one] at a1;have:(cs.drop j).take 1=[.int .u8 (toI .u8 x[j])]:=a1.1;have h0:((cs.drop j).take 1)[0]?=some (.int .u8 (toI .u8 x[j])):=by rw[this];rfl
   rw[List.getElem?_take,if_pos (by omega),List.getElem?_drop] at h0;exact h0
 · have a1:=hx3 j (by omega)
   have e1:=hT.partRun (w:=w) (own:=own) (cs:=cs) (off:=j*1) a1 (by rw[hx2,hs1];omega);have v1:=Jab.int.1 (Jab.mk (τ:=.int .u8) rfl a1);simp only[hs1] at e1 v1;rw[v1.1] at e1;exact⟨_,by rw[hcell];exact e1⟩
theorem Jl7 {te:Nat} (h:P.underlying te=some (.int .u8)) (em:Bool) (m:Nat) (v:Int):(Instr.checkKey em (m+1) te (.int .u8 v)).run P w= .ok () w:=by
 simp[Instr.checkKey,run_underlying h]
theorem Jl8 (m:Nat) (i:Int):Instr.sameBits (m+1) (.int .u8 i) (.int .u8 i)=true:=by
 simp[Instr.sameBits]
theorem Jd6 (hE:EnvOk P E) {t n:Nat} {x:List (BitVec 8)} {u:Value} (ht:E.ty t=some (.arr n (.int .u8))) (hu:Jab own w (.arr n (.int .u8)) u x) (em:Bool):
 (Instr.checkKey em 10000 t u).run P w= .ok () w:=by
 obtain⟨te,i,q1,q2,q3,hx,cs,rfl,hl,hc,hp⟩:=JfY hE ht hu;rw[show (10000:Nat)=9999+1 from rfl,Instr.checkKey];simp only[Sem.run_bind,run_underlying q1,Result.andThen_ok];simp only[Std.Legacy.Range.forIn_eq_forIn_range',Std.Legacy.Range.size,Nat.sub_zero,Nat.add_one_sub_one,Nat.div_one]
 have each:∀j∈List.range' 0 n,j<n:=fun j hj=>by
  have:=List.mem_range'_1.1 hj;omega
 generalize List.range' 0 n=is at each
 induction is with
 | nil=>simp
 | cons j is ih=>
  obtain⟨v,p1⟩:=hp j (each j (by simp));have p2:(Instr.checkKey em 9999 te (.int .u8 v)).run P w= .ok () w:=Jl7 q2 em 9998 v;simp only[List.forIn_cons,Sem.run_bind,run_sizeOf w q3,Result.andThen_ok,p1,p2,Sem.run_pure];exact ih (fun y hy=>each y (by simp[hy]))
theorem Jl9 (hE:EnvOk P E) {t n:Nat} {x:List (BitVec 8)} {u v:Value} (ht:E.ty t=some (.arr n (.int .u8))) (hu:Jab own w (.arr n (.int .u8)) u x) (hv:Jab own w (.arr n (.int .u8)) v x):
 u=v∧Instr.sameBits 10000 u v=true:=by
 obtain⟨_,_,_,_,_,hx,cs,rfl,hl,hc,hz1⟩:=JfY hE ht hu;obtain⟨_,_,_,_,_,hy,ds,rfl,hm,hd,hz2⟩:=JfY hE ht hv
 have:cs=ds:=by
  apply List.ext_getElem?;intro j;by_cases hj:j<x.length
  · rw[hc j hj,hd j hj]
  · rw[List.getElem?_eq_none (by omega),List.getElem?_eq_none (by omega)]
 subst this;refine⟨rfl,?_⟩;rw[show (10000:Nat)=9999+1 from rfl,Instr.sameBits]
 have hall:∀c∈cs,∃i,c= .int .u8 i:=by
  intro c hcm;obtain⟨j,hj,rfl⟩:=List.getElem_of_mem hcm;have:=hc j (by omega);rw[List.getElem?_eq_getElem hj] at this;injection this with this
  exact⟨_,this⟩
 simp only[beq_self_eq_true,Bool.true_and];clear hc hd hl hm hu hv hz1 hz2
 induction cs with
 | nil=>rfl
 | cons c cs ih=>
  obtain⟨i,rfl⟩:=hall c (by simp);simp only[List.zip_cons_cons,List.all_cons,Bool.and_eq_true];exact⟨Jl8 9998 i,ih fun c hcm=>hall c (by simp[hcm])⟩
theorem JfF (hE:EnvOk P E) {t n:Nat} {V:Ty} {k:List (BitVec 8)} {u:Value} (ht:E.ty t=some (.arr n (.int .u8))) (hu:Jab own w (.arr n (.int .u8)) u k):
 ∀(es:List MapEntry) (xs:List (List (BitVec 8)×V.D)) (i:Nat),es.length=xs.length→(∀j (h:j<xs.length),∃e,es[j]?=some e∧Jab own w (.arr n (.int .u8)) e.key xs[j].1) →
  (Instr.findAsking t u es i).run P w= .ok ((Jbd xs k).bind fun j=>es[j]?.map fun e=>(i+j,e.val)) w
 | [],[],i,_,_=>by simp[Instr.findAsking,Jbd]
 | [],_::_,_,h,_=>by cases h
 | _::_,[],_,h,_=>by cases h
 | e::es,x::xs,i,hl,hr=>by
  obtain⟨e',h1,h2⟩:=hr 0 (by simp);cases h1;have heq:=Je7 (own:=own) (w:=w) (d:=9998) hE ht hu h2;have heq':(Op.equal t u e.key).run P w= .ok (decide (k=x.1)) w:=heq
  have ih:=JfF hE (V:=V) ht hu es xs (i+1) (by simpa using hl) fun j hj=>by
   obtain⟨e',g1,g2⟩:=hr (j+1) (by simpa using hj);exact⟨e',by simpa using g1,by simpa using g2⟩
  unfold Instr.findAsking Jbd;simp only[Sem.run_bind,heq',Result.andThen_ok];by_cases hk:k=x.1
  · simp[decide_eq_true hk]
  · rw[decide_eq_false hk]
    simp only[Bool.false_eq_true,if_false,ih,cond_false]
    congr 1
    cases Jbd xs k with
    | none=>rfl
    | some j=>
     simp only[Option.map_some,Option.bind_some,List.getElem?_cons_succ];rw[show i+1+j=i+(j+1) by omega]
theorem Jir (hE:EnvOk P E) {t n:Nat} {V:Ty} {k:List (BitVec 8)} {u:Value} (ht:E.ty t=some (.arr n (.int .u8))) (hu:Jab own w (.arr n (.int .u8)) u k) {es:Array MapEntry} {xs:List (List (BitVec 8)×V.D)}
 (hm:JgQ own w (.arr n (.int .u8)) V es xs):(Instr.findKey t u es.toList).run P w= .ok ((Jbd xs k).bind fun j=>es[j]?.map fun e=>(j,e.val)) w:=by
 obtain⟨te,q1,_⟩:=(hE.ty t _ ht).desc
 rw[run_findKey_eq w (by rw[q1]),JfF hE (V:=V) ht hu es.toList xs 0 (by simpa using hm.1) fun j hj=>by
  obtain⟨e,h1,h2,_⟩:=hm.2.2 j hj;exact⟨e,by simpa using h1,h2⟩]
 congr 1
 cases Jbd xs k with
 | none=>rfl
 | some j=>simp
theorem Jkt (hE:EnvOk P E) (h:St N Z own β σ a w) {t n:Nat} {V:Ty} {vm vk:Re.V} {um uk:Value} {ok:Bool} (ht:E.mpt t=some (.arr n (.int .u8),V)) (hm:Jac own w β σ.mem vm um) (hk:Jac own w β σ.mem vk uk)
 (he:execOp a.eval o=(do pure (.value (←Instr.lookup t um uk ok)))) {r:Re.V×S} (hr:(Jh4 n V vm vk ok).run σ=some r):Did P N Z o a w r.2 r.1:=by
 obtain⟨tk,tv,q1,q2,q3,_⟩:=hE.mpt t _ _ ht;have hTV:=hE.ty tv V q3;unfold Jh4 at hr;split at hr
 case h_2=>cases hr
 rename_i s ver τk k;simp only[M.run] at hr;split at hr
 case h_2=>cases hr
 rename_i ver' e' xs hen;split at hr
 case isFalse=>cases hr
 rename_i hver;subst hver;split at hr
 case h_2=>cases hr
 rename_i xs' k' hxs hkk;obtain⟨e1,hxs⟩:=cast?_some hxs;obtain⟨e2,hkk⟩:=cast?_some hkk;cases e1;subst e2;have hxs:xs=xs':=hxs;have hkk:k=k':=hkk;subst hxs;subst hkk;have hmm:=h.mems s;rw[hen] at hmm;obtain⟨rr,es,c,m1,m2,m3,m4,m5⟩:=hmm;have hum:um= .map (some rr):=(hm.2 _ _ _ hen).trans m1;have hf:=Jir hE (V:=V) q2 hk m5;rw[Jaq hr];cases hi:Jbd xs k with
 | none=>
  rw[hi] at hf;have hg:mpGet xs k=none:=by rw[Je9,hi];rfl
  have hz:Jab own w V (mkV V (zeroC V)) V.zero:=Jab.mk hTV.isVal (Jat hTV.good)
  have hl:(Instr.lookup t um uk ok).run P w= .ok (if ok then .tuple #[mkV V (zeroC V),.bool false] else mkV V (zeroC V)) w:=by
   unfold Instr.lookup;simp only[hum,Sem.run_bind,run_underlying q1,MapKept.run_getObj_map m4,Sem.run_pure,Result.andThen_ok,Jd6 hE q2 hk,hf,Option.bind_none,hTV.zeroRun w]
  refine Jae (exec_v he hl) h ?_;rw[hg];cases ok with
  | true=>exact⟨_,[_],rfl,hz,_,[],rfl,Jab.bool.2 rfl,rfl⟩
  | false=>exact hz
 | some j=>
  rw[hi] at hf;obtain⟨v,hv⟩:=JfX hi;have hj:j<xs.length:=(List.getElem?_eq_some_iff.1 hv).1;have hvj:xs[j]=(k,v):=(List.getElem?_eq_some_iff.1 hv).2;obtain⟨e,g1,g2,g3⟩:=m5.2.2 j hj;rw[hvj] at g3;have hg:mpGet xs k=some v:=by rw[Je9,hi];simp[hv]
  have hl:(Instr.lookup t um uk ok).run P w= .ok (if ok then .tuple #[e.val,.bool true] else e.val) w:=by
   unfold Instr.lookup;simp only[hum,Sem.run_bind,run_underlying q1,MapKept.run_getObj_map m4,Sem.run_pure,Result.andThen_ok,Jd6 hE q2 hk,hf,Option.bind_some,g1,Option.map_some]
  refine Jae (exec_v he hl) h ?_;rw[hg];cases ok with
  | true=>exact⟨_,[_],rfl,g3,_,[],rfl,Jab.bool.2 rfl,rfl⟩
  | false=>exact g3
theorem Jk6 (hE:EnvOk P E) (h:St N Z own β σ a w) {t ty:Nat} {K V:Ty} {vm:Re.V} {um:Value} (ht:E.mpt t=some (K,V)) (hm:Jac own w β σ.mem vm um)
 (he:execOp a.eval o=(do pure (.value (←Builtin.len_ #[t] ty #[um])))) {r:Re.V×S} (hr:(Jka vm).run σ=some r):Did P N Z o a w r.2 r.1:=by
 obtain⟨tk,tv,q1,q2,q3,_⟩:=hE.mpt t _ _ ht;unfold Jka at hr;split at hr
 case h_2=>cases hr
 rename_i s ver;simp only[M.run] at hr;split at hr
 case h_2=>cases hr
 rename_i ver' e' xs hen;split at hr
 case isFalse=>cases hr
 rename_i hver;subst hver;have hmm:=h.mems s;rw[hen] at hmm;have hmm:Jbh _ _ _ _ _ _ _:=hmm
 have key:∃rr es c,um= .map (some rr)∧w.heap[rr]?=some (.map es c)∧es.size=xs.length∧xs.length≤lim:=by
  have hum:=hm.2 _ _ _ hen;cases e' with
  | pair A B=>
   obtain⟨rr,es,c,m1,m2,m3,m4,m5⟩:=hmm;exact⟨rr,es,c,hum.trans m1,m4,m5.1,m5.2.1⟩
  | _=>exact hmm.elim
 obtain⟨rr,es,c,m1,m4,m5,m6⟩:=key;have m6:xs.length≤2147483648:=m6;rw[Jaq hr];refine Jae (exec_v he (u:=.int .i64 (xs.length:Int)) (w':=w) ?_) h (Jab.int.2 ⟨rfl,?_⟩)
 · rw[m1]
   simp[Builtin.len_,run_underlying q1,MapKept.run_getObj_map m4,goInt,m5]
 · show (-9223372036854775808:Int)≤(xs.length:Int)∧(xs.length:Int)<9223372036854775808
   omega
theorem Jgp (hE:EnvOk P E) (h:St N Z own β σ a w) {d t:Nat} {K V:Ty} {rs:Option Value} (ht:E.mpt t=some (K,V)) (hrs:rs=none∨∃k n,rs=some (.int k n))
 (he:execOp a.eval o=(do pure (.value (←Instr.makeMap t rs)))) {r:Re.V×S} (hr:(Jgh d K V).run σ=some r):Did P N Z o a w r.2 r.1:=by
 obtain⟨tk,tv,q1,q2,q3,_⟩:=hE.mpt t _ _ ht;unfold Jgh at hr;simp only[M.run] at hr;obtain⟨_,_,h9⟩:=Option.map_eq_some_iff.1 hr;subst h9
 let w':World:={w with heap:=w.heap.push (.map #[] 0)}
 have hB:=h.base
 have hblk:∀b,b<w.heap.size→w'.heap[b]?=w.heap[b]?:=fun b hb=>by
  show (w.heap.push _)[b]?=_;rw[Array.getElem?_push];simp;omega
 have hrun:(Instr.makeMap t rs).run P w= .ok (.map (some w.heap.size)) w':=by
  rcases hrs with rfl | ⟨k,n,rfl⟩
  · simp[Instr.makeMap];rfl
  · simp[Instr.makeMap,run_underlying q1,asInt];rfl
 have hk:Keeps own (Jam own w.heap.size (Jaa d 0)) w w':=by
  refine⟨?_,?_⟩
  · intro b j v e1 e2
    have hlt:=cell?_lt e2;refine⟨?_,by rw[cell?_of_heap (hblk b hlt)];exact e2⟩;unfold Jam;rw[if_neg (by omega)];exact e1
  · intro b es c e1 e2
    have hlt:=Ja6 e2;refine⟨?_,by rw[hblk b hlt];exact e2⟩;unfold Jam;rw[if_neg (by omega)];exact e1
 have hks:∀s',Jah s' own (Jam own w.heap.size (Jaa d 0)) w w':=by
  intro s';refine⟨?_,?_⟩
  · intro b j v e1 e2
    have hlt:=cell?_lt e2;refine⟨?_,by rw[cell?_of_heap (hblk b hlt)];exact e2,frozen?_of_heap (hblk b hlt)⟩;unfold Jam;rw[if_neg (by omega)];exact e1
  · intro b es c e1 e2
    have hlt:=Ja6 e2;refine⟨?_,by rw[hblk b hlt];exact e2⟩;unfold Jam;rw[if_neg (by omega)];exact e1
 have hst:=h.newSite (s:=Jaa d 0) (e':=.own (nextVer (σ.mem (Jaa d 0))) (.pair K V) [] .mp) (c:=.map (some w.heap.size)) (w':=w') (own':=Jam own w.heap.size (Jaa d 0))
  ⟨rfl,rfl,rfl,by show w.heap.size≤(w.heap.push _).size;simp,fun b j hb _=>cell?_of_heap (hblk b (by omega)),fun b j v hb hv=>⟨⟨v,by rw[cell?_of_heap (hblk b (by omega))];exact hv⟩,frozen?_of_heap (hblk b (by omega))⟩,
   fun b k hb ⟨x,fz,e1,e2⟩=>⟨x,fz,by rw[JaY (hblk b (by omega))];exact e1,e2⟩,fun b hb _=>hblk b (by omega)⟩
  (fun b j hlt _=>by unfold Jam;rw[if_neg (by omega)]) hk (fun s' _=>hks s') (fun b _ ⟨x,fz,e1,e2⟩=>⟨x,fz,by rw[JaY (hblk b (Jep e1))];exact e1,e2⟩) (fun β'=>Evo.newOwn _ _ _ _)
  ⟨w.heap.size,#[],0,by rw[Jad,if_pos rfl],hB,by simp[Jam],by show (w.heap.push _)[w.heap.size]?=_;simp,rfl,by simp,fun i hi=>by simp at hi⟩
 exact Jae (exec_v he hrun) hst (Ja0 _ _ _ _ _ _ _ _ _ _)
theorem Jk7 (hE:EnvOk P E) (h:St N Z own β σ a w) {t n:Nat} {V:Ty} {vm vk vx:Re.V} {um uk ux:Value} (ht:E.mpt t=some (.arr n (.int .u8),V)) (hm:Jac own w β σ.mem vm um) (hk:Jac own w β σ.mem vk uk)
 (hx:Jac own w β σ.mem vx ux) (he:execOp a.eval o=(do Instr.mapUpdate t um uk ux;pure .skip)) {r:Re.V×S} (hr:(Jj9 n V vm vk vx).run σ=some r):Did P N Z o a w r.2 r.1:=by
 obtain⟨tk,tv,q1,q2,q3,_⟩:=hE.mpt t _ _ ht;unfold Jj9 at hr;split at hr
 case h_2=>cases hr
 rename_i s ver τk k τx x;simp only[M.run] at hr;split at hr
 case h_2=>cases hr
 rename_i ver' e' xs hen;split at hr
 case isFalse=>cases hr
 rename_i hver;subst hver;split at hr
 case h_2=>cases hr
 rename_i xs' k' x' hxs hkk hxx;obtain⟨e1,hxs⟩:=cast?_some hxs;obtain⟨e2,hkk⟩:=cast?_some hkk;obtain⟨e3,hxx⟩:=cast?_some hxx;cases e1;subst e2;subst e3;have hxs:xs=xs':=hxs;have hkk:k=k':=hkk;have hxx:x=x':=hxx;subst hxs;subst hkk;subst hxx;obtain⟨_,hc,h9⟩:=Option.map_eq_some_iff.1 hr;subst h9;have hlen:xs.length+1≤lim:=of_decide_eq_true (Jap hc);have hmm:=h.mems s;rw[hen] at hmm;obtain⟨rr,es,c,m1,m2,m3,m4,m5⟩:=hmm;have hum:um= .map (some rr):=(hm.2 _ _ _ hen).trans m1;have hlt:=Ja6 m4;have hf:=Jir hE (V:=τx) q2 hk m5
 have fin:∀(es':Array MapEntry) (c':Nat),(Instr.mapUpdate t um uk ux).run P w= .ok () {w with heap:=w.heap.setIfInBounds rr (.map es' c')} →
  JgQ own w (.arr n (.int .u8)) τx es' (mpPut xs k x)→Did P N Z o a w (σ.set s (.own ver (.pair (.arr n (.int .u8)) τx) (mpPut xs k x) .mp)) .dead:=by
  intro es' c' hrun hmc
  let w':World:={w with heap:=w.heap.setIfInBounds rr (.map es' c')}
  have hother:∀b,b≠rr→w'.heap[b]?=w.heap[b]?:=fun b hb=>by
   show (w.heap.setIfInBounds rr _)[b]?=_;rw[Array.getElem?_setIfInBounds_ne (Ne.symm hb)]
  have hself:w'.heap[rr]?=some (.map es' c'):=by
   show (w.heap.setIfInBounds rr _)[rr]?=_;rw[Array.getElem?_setIfInBounds_self_of_lt hlt]
  have hcell:∀b j,w'.cell? ⟨b,j,none⟩=w.cell? ⟨b,j,none⟩:=fun b j=>by
   by_cases hb:b=rr
   · subst hb;rw[JcC hself,JcC m4]
   · exact cell?_of_heap (hother b hb)
  have hfroz:∀b j v,w.cell? ⟨b,j,none⟩=some v→w'.frozen? ⟨b,j,none⟩=w.frozen? ⟨b,j,none⟩:=fun b j v hv=>by
   by_cases hb:b=rr
   · subst hb;rw[JcC m4] at hv;cases hv
   · exact frozen?_of_heap (hother b hb)
  have hshp:∀b kk,Jc6 w b kk→Jc6 w' b kk:=by
   rintro b kk ⟨y,fz,e1,e2⟩;by_cases hb:b=rr
   · subst hb
     unfold shp at e1;rw[m4] at e1;cases e1
   · exact⟨y,fz,by rw[JaY (hother b hb)];exact e1,e2⟩
  have hk':Keeps own own w w':=⟨fun b j v e1 e2=>⟨e1,by rw[hcell];exact e2⟩,fun b es0 c0 e1 e2=>⟨e1,by rw[hother b (fun e=>by rw[e,m3] at e1;cases e1)];exact e2⟩⟩
  have hks:∀s',s'≠s→Jah s' own own w w':=fun s' hs'=>⟨fun b j v e1 e2=>⟨e1,by rw[hcell];exact e2,hfroz b j v e2⟩,fun b es0 c0 e1 e2=>⟨e1,by
   rw[hother b (fun e=>by rw[e,m3] at e1;cases e1;exact hs' rfl)];exact e2⟩⟩
  have hle:xs.length≤(mpPut xs k x).length:=by
   cases hi:Jbd xs k with
   | none=>rw[JeJ hi];simp
   | some j=>rw[JeI hi];simp
  have hst:St N Z own β (σ.set s (.own ver (.pair (.arr n (.int .u8)) τx) (mpPut xs k x) .mp)) a w':=by
   refine h.go ⟨rfl,rfl,rfl,by show w.heap.size≤(w.heap.setIfInBounds rr _).size;simp,fun b j _ _=>hcell b j,fun b j v _ hv=>⟨⟨v,by rw[hcell];exact hv⟩,hfroz b j v hv⟩,fun b kk _=>hshp b kk,
    fun b hb _=>hother b (by omega)⟩ (fun _ _ _ _=>rfl) hk' ?_ rfl ?_ (JaO rfl hks)
   · intro s'
     show Evo β β s' (σ.mem s') (upd σ.mem s _ s');rw[Jad];split
     · rename_i e;subst e;rw[hen];exact Evo.setMp rfl hle
     · exact Evo.same _ rfl
   · intro s'
     show Jaj Z own w' β s' (upd σ.mem s _ s');rw[Jad];split
     · rename_i e;subst e
       exact⟨rr,es',c',m1,m2,m3,hself,hmc.keeps hk'⟩
     · rename_i e;exact (h.mems s').keeps hk' (hks s' e) hshp rfl
  refine Jcj ?_ hst;rw[he];simp only[Sem.run_bind,hrun,Result.andThen_ok,Sem.run_pure];rfl
 show Did P N Z o a w (σ.set s _) .dead;cases hi:Jbd xs k with
 | none=>
  rw[hi] at hf;refine fin (es.push {key:=uk,val:=ux,born:=c}) (c+1) ?_ ?_
  · unfold Instr.mapUpdate
    simp only[hum,Sem.run_bind,run_underlying q1,MapKept.run_getObj_map m4,Sem.run_pure,Result.andThen_ok,Jd6 hE q2 hk,hf,Option.bind_none,MapKept.run_setObj_map _ m4]
  · rw[JeJ hi]
    refine⟨by simp[m5.1],by simpa using hlen,fun i hil=>?_⟩;by_cases hil2:i<xs.length
    · obtain⟨e,g1,g2,g3⟩:=m5.2.2 i hil2
      refine⟨e,?_,?_,?_⟩
      · rw[Array.getElem?_push,if_neg (by have:=m5.1;omega)];exact g1
      · rw[List.getElem_append_left hil2];exact g2
      · rw[List.getElem_append_left hil2];exact g3
    · have hie:i=xs.length:=by simp at hil;omega
      subst hie;refine⟨{key:=uk,val:=ux,born:=c},?_,?_,?_⟩
      · rw[←m5.1];simp
      · simp only[List.getElem_append_right (Nat.le_refl _),Nat.sub_self,List.getElem_cons_zero];exact hk
      · simp only[List.getElem_append_right (Nat.le_refl _),Nat.sub_self,List.getElem_cons_zero];exact hx
 | some j=>
  rw[hi] at hf;obtain⟨v,hv⟩:=JfX hi;have hj:j<xs.length:=(List.getElem?_eq_some_iff.1 hv).1;have hvj:xs[j]=(k,v):=(List.getElem?_eq_some_iff.1 hv).2;obtain⟨e,g1,g2,g3⟩:=m5.2.2 j hj;rw[hvj] at g2;obtain⟨s1,s2⟩:=Jl9 hE q2 g2 hk;refine fin (es.modify j fun e=>{e with key:=uk,val:=ux}) c ?_ ?_
  · unfold Instr.mapUpdate
    simp only[hum,Sem.run_bind,run_underlying q1,MapKept.run_getObj_map m4,Sem.run_pure,Result.andThen_ok,Jd6 hE q2 hk,hf,Option.bind_some,g1,Option.map_some,Option.getD_some,Instr.keyThatStays,s2,if_true,MapKept.run_setObj_map _ m4]
  · rw[JeI hi]
    refine⟨by simp[m5.1],by simp;omega,fun i hil=>?_⟩;rw[List.length_set] at hil;obtain⟨e0,f1,f2,f3⟩:=m5.2.2 i hil;by_cases hij:j=i
    · subst hij
      refine⟨{e with key:=uk,val:=ux},?_,?_,?_⟩
      · rw[Array.getElem?_modify,if_pos rfl,g1];rfl
      · rw[List.getElem_set_self];exact hk
      · rw[List.getElem_set_self];exact hx
    · refine⟨e0,?_,?_,?_⟩
      · rw[Array.getElem?_modify,if_neg hij];exact f1
      · rw[List.getElem_set_ne hij];exact f2
      · rw[List.getElem_set_ne hij];exact f3
theorem Jd7 {own:Own} {w:World} {e:Ty} (hv:e.isVal=true) (hg:e.good=true) (k:Nat):JaB own w e (Builtin.zeroCells (mkV e (zeroC e)).cells k).toList (List.replicate k e.zero):=by
 have hz:Jag own w e (zeroC e) e.zero:=Jat hg;have hl:=hz.length
 have hc:(mkV e (zeroC e)).cells=(zeroC e).toArray:=by
  have:=Ja1 hv hz;exact Array.ext' (by simpa using this)
 have hlen:=JbV hv hg k;refine⟨by rw[List.length_replicate,hlen];exact Nat.le_refl _,fun i hi=>?_⟩;have hi':i<k:=by simpa using hi
 have:((Builtin.zeroCells (mkV e (zeroC e)).cells k).toList.drop (i*e.size)).take e.size=zeroC e:=by
  apply List.ext_getElem?;intro j;rw[List.getElem?_take];have hik:i*e.size+e.size≤k*e.size:=by rw[←Nat.succ_mul];exact Nat.mul_le_mul_right _ hi'
  split
  · rename_i hj
    rw[List.getElem?_drop,hc];simp only[Builtin.zeroCells,Array.toList_map,Array.toList_range,List.getElem?_map,List.size_toArray,hl];rw[List.getElem?_range (by omega)];have hm:(i*e.size+j)%e.size=j:=by rw[Nat.add_comm,Nat.add_mul_mod_self_right];exact Nat.mod_eq_of_lt hj
    simp only[Option.map_some,hm];rw[List.getElem?_eq_getElem (by omega)]
    congr 1
    rw[getElem!_pos _ _ (by simpa using (by omega:j<(zeroC e).length))];simp
  · rw[List.getElem?_eq_none (by omega)]
 rw[this];simp only[List.getElem_replicate];exact hz
theorem Jk8 (hE:EnvOk P E) (h:St N Z own β σ a w) {t ty:Nat} {v:Re.V} {u:Value} (hu:Jac own w β σ.mem v u)
 (he:execOp a.eval o=(do pure (.value (←Builtin.clear_ #[t] ty #[u])))) {r:Re.V×S} (hr:(Jh3 E t v).run σ=some r):Did P N Z o a w r.2 r.1:=by
 unfold Jh3 at hr;split at hr
 case h_2=>cases hr
 rename_i s ver lo;simp only[M.run] at hr;split at hr
 case h_2=>cases hr
 rename_i ver' e xs hm;split at hr
 case isFalse=>cases hr
 rename_i hc;obtain⟨rfl,ht⟩:=hc;obtain⟨_,_,h9⟩:=Option.map_eq_some_iff.1 hr;subst h9;obtain⟨q1,ad,cap,q2,q3⟩:=hu.2 e xs .full hm rfl;obtain⟨te,hd,hte⟩:=(hE.ty t _ ht).desc;have hT:=hE.ty te e hte;subst q3;have hmm:=h.mems s;rw[hm] at hmm;obtain⟨ad',cap',f1,f2,f3,f4,f5⟩:=hmm;rw[q2] at f1;cases f1;have hk:min (List.replicate (xs.length-lo) e.zero).length (xs.length-lo)=xs.length-lo:=by simp
 have hzl:=JbV hT.isVal hT.good (xs.length-lo);show Did P N Z o a w (σ.set s _) .dead;refine JjA (yc:=(Builtin.zeroCells (mkV e (zeroC e)).cells (xs.length-lo)).toList) (u:=.tuple #[]) hE h ht hm q1 q2 (by rw[hzl];simp) (Jd7 hT.isVal hT.good _) ?_ (fun _ _=>trivial) hk ?_
 · intro c hcm
   have hzc:(mkV e (zeroC e)).cells=(zeroC e).toArray:=by
    have:=Ja1 (own:=own) (w:=w) hT.isVal (Jat hT.good);exact Array.ext' (by simpa using this)
   have hel:=(Jd7 (own:=own) (w:=w) hT.isVal hT.good (xs.length-lo));obtain⟨i,hi,hmem⟩:=Je6 hzl hcm;exact Jag.one (hel.2 i (by simpa using hi)) c hmem
 · intro A w' hA hst
   rw[←hzl,List.take_length] at hst;rw[←hA] at he;refine exec_v he ?_;cases A with
   | none=>
    obtain⟨rfl,_⟩:=hst;simp[Builtin.clear_,run_underlying hd]
   | some b=>
    cases hn:xs.length-lo with
    | zero=>
     rw[hn] at hst;have:(Builtin.zeroCells (mkV e (zeroC e)).cells 0).toList=[]:=by simp[Builtin.zeroCells]
     rw[this] at hst;have hst:w=w':=by simpa [storeCells] using hst
     subst hst;simp[Builtin.clear_,run_underlying hd,hn]
    | succ n=>
     rw[hn] at hst;simp only[Builtin.clear_,List.getElem?_toArray,List.getElem?_cons_zero,Sem.run_bind,run_underlying hd,Result.andThen_ok,Sem.run_pure,hT.zeroRun w,hst]
end
end Go.Re
namespace Go.Re
set_option linter.unusedVariables false
set_option linter.unusedSimpArgs false
open Go.RowKit (Below)
def JaN (own:Own) (r:Nat×Nat×Nat) (d:Nat):Own:=fun b j=>if b=r.1∧r.2.1≤j∧j<r.2.2 then some d else own b j
section
variable {P:Program} {E:Env} {N:Nat} {Z:Base} {own:Own} {β:Jai} {σ:S} {a:Act} {w w':World} {o:Oper} {r:Nat×Nat×Nat} {d q s b lo hi off:Nat} {l:List (Nat×Nat)} {ds:List Value}
theorem Jcb {j:Nat} (h:¬(b=r.1∧r.2.1≤j∧j<r.2.2)):JaN own r d b j=own b j:=if_neg h
theorem Jku {j:Nat} (h1:r.2.1≤j) (h2:j<r.2.2):JaN own r d r.1 j=some d:=if_pos ⟨rfl,h1,h2⟩
theorem JeK (hr:∀j,r.2.1≤j→j<r.2.2→own r.1 j=some q):Keeps own (JaN own r d) w w:=by
 suffices hk0:∀b o,own b o=none→JaN own r d b o=none from ⟨fun b' o' v h1 h2=>⟨hk0 _ _ h1,h2⟩,fun r es c h1 h2=>⟨hk0 _ _ h1,h2⟩⟩
 intro b o h1;rw[Jcb]
 · exact h1
 · rintro⟨rfl,h3,h4⟩
   rw[hr o h3 h4] at h1;cases h1
theorem Je0 (hr:∀j,r.2.1≤j→j<r.2.2→own r.1 j=some q) {s':Nat} (hs:s'≠q):Jah s' own (JaN own r d) w w:=by
 have key:∀b o,own b o=some s'→JaN own r d b o=some s':=by
  intro b o h1;rw[Jcb]
  · exact h1
  · rintro⟨rfl,h3,h4⟩
    rw[hr o h3 h4] at h1;cases h1;exact hs rfl
 exact⟨fun b o v h1 h2=>⟨key _ _ h1,h2,rfl⟩,fun r es c h1 h2=>⟨key _ _ h1,h2⟩⟩
theorem JaJ.give (h:JaJ Z own w s b lo hi) (ha:JcQ (b,lo,hi) r):JaJ Z (JaN own r d) w s b lo hi:=by
 intro j h1 h2;obtain⟨h3,h4⟩:=h j h1 h2;refine⟨?_,h4⟩;rw[Jcb]
 · exact h3
 · rintro⟨e,h5,h6⟩
   exact ha j e h1 h2 h5 h6
theorem JaJ.giveSame (h:JaJ Z own w s b lo hi):JaJ Z (JaN own r s) w s b lo hi:=by
 intro j h1 h2;obtain⟨h3,h4⟩:=h j h1 h2;refine⟨?_,h4⟩;unfold JaN;split
 · rfl
 · exact h3
theorem JaJ.got (h:JaJ Z own w s r.1 r.2.1 r.2.2):JaJ Z (JaN own r d) w d r.1 r.2.1 r.2.2:=
 fun j h1 h2=>⟨Jku h1 h2,(h j h1 h2).2⟩
theorem JaJ.wrote {b':Nat} (h:JaJ Z own w s b lo hi) (hw:Wrote b' off ds w w'):JaJ Z own w' s b lo hi:=by
 intro j h1 h2;obtain⟨h3,h4,⟨v,h5⟩,h6⟩:=h j h1 h2;refine⟨h3,h4,?_,?_⟩
 · by_cases hb:b=b'
   · subst hb
     rw[hw.cell];split
     · rename_i hc;exact⟨_,List.getElem?_eq_getElem (by omega)⟩
     · exact⟨v,h5⟩
   · exact⟨v,by rw[cell?_of_heap (hw.block b hb)];exact h5⟩
 · by_cases hb:b=b'
   · subst hb;rw[hw.frozen];exact h6
   · rw[frozen?_of_heap (hw.block b hb)];exact h6
theorem Jcn {n:Nat} {q:Nat×Nat}:q∈JdN off n l↔q∈l∧(q.1<off∨off+n≤q.1):=by
 unfold JdN;rw[List.mem_filter]
 have h1:Nat.ble off q.1=decide (off≤q.1):=by
  rw[Bool.eq_iff_iff,decide_eq_true_eq];exact iff_of_eq Nat.ble_eq
 have h2:Nat.ble (q.1+1) (off+n)=decide (q.1+1≤off+n):=by
  rw[Bool.eq_iff_iff,decide_eq_true_eq];exact iff_of_eq Nat.ble_eq
 rw[h1,h2];simp only[Bool.not_eq_true',Bool.and_eq_false_iff,decide_eq_false_iff_not]
 constructor
 · rintro⟨h,h' | h'⟩
   · exact⟨h,by omega⟩
   · exact⟨h,by omega⟩
 · rintro⟨h,h'⟩
   exact⟨h,by omega⟩
theorem Jhl {sz:Nat} (h:Jkb off sz l=true):∃q∈l,q.1=off∧q.2=sz:=by
 unfold Jkb at h;obtain⟨q,hq,h⟩:=List.any_eq_true.1 h;simp only[Bool.and_eq_true] at h;exact⟨q,hq,Nat.eq_of_beq_eq_true h.1,Nat.eq_of_beq_eq_true h.2⟩
theorem one?_some {α:Type} {xs:List α} {x:α} (h:one? xs=some x):xs=[x]:=by
 unfold one? at h;split at h
 · cases h;rfl
 · cases h
theorem JdB.wrote (h:JdB Z own w s b lo hi l) (hw:Wrote b (lo+off) ds w w'):JdB Z own w' s b lo hi (JdN off ds.length l):=by
 obtain⟨reg,h⟩:=h;refine⟨reg,fun q hq=>?_⟩;obtain⟨hq,ho⟩:=Jcn.1 hq;obtain⟨h0,⟨a,n,c,h1,h2⟩,h3,h4,h5⟩:=h q hq;refine⟨h0,⟨a,n,c,?_,h2⟩,h3.wrote hw,h4,fun q' hq'=>h5 q' (Jcn.1 hq').1⟩;rw[hw.cell,if_neg (by omega)];exact h1
theorem St.toGb (h:St N Z own β σ a w) {ver:Nat} {τ:Ty} {xs:List τ.D} (hm:σ.mem s= .own ver τ xs .full)
 (hg:∀b o n c,β s= .slice (some ⟨b,o,none⟩) n c→JdB Z own w s b o (o+c*τ.size) l∧c=1):St N Z own β (σ.set s (.own ver τ xs (.gb l))) a w:=by
 have hE:=h.mems s;rw[hm] at hE;obtain⟨ad,cap,h1,h2,h3,h4,h5⟩:=hE;refine h.go (Frm.refl _ _ _) (fun _ _ _ _=>rfl) (Keeps.refl _ _) ?_ rfl ?_ (JaO rfl fun _ _=>Jah.refl _ _ _)
 · intro s'
   show Evo β β s' (σ.mem s') (upd σ.mem s _ s');rw[Jad];split
   · rename_i e;subst e;rw[hm];exact Evo.setOwn rfl rfl
   · exact Evo.same _ rfl
 · intro s'
   show Jaj Z own w β s' (upd σ.mem s _ s');rw[Jad];split
   · rename_i e;subst e
     exact⟨ad,cap,h1,h2,h3,h4,h5.imp (fun h=>⟨h.1,fun h=>by cases h⟩) fun ⟨b,o,e1,e2,e3⟩=>⟨b,o,e1,e2,e3,hg b o _ cap (by rw[h1,e1])⟩⟩
   · exact h.mems s'
theorem Jma (h:St N Z own β σ a w) {d:Nat} {τ:Ty} (hv:τ.isVal=true) (hgd:τ.good=true) {t:Nat}
 (hrun:∀w,(execOp a.eval o).run P w= .ok (.value (.pointer (some ⟨w.heap.size,0,none⟩))) {w with heap:=w.heap.push (.cells (mkV τ (zeroC τ)).cells t (0,0))})
 {r:V×S} (hr:(Jkg d τ l).run σ=some r):Did P N Z o a w r.2 r.1:=by
 unfold Jkg at hr;cases hc:l.all fun q=>Je5 (zeroC τ)[q.1]? with
 | false=>rw[hc] at hr;cases hr
 | true=>
 rw[hc] at hr;simp only[cond_true,M.run] at hr;obtain⟨_,h1,h2⟩:=Option.map_eq_some_iff.1 hr;subst h2;have hu:Jab own w τ (mkV τ (zeroC τ)) τ.zero:=Jab.mk hv (Jat hgd);have hrep:=hu.cells;have hl:=hrep.length;have hcs:(mkV τ (zeroC τ)).cells.toList=zeroC τ:=Ja1 hv (Jat (own:=own) (w:=w) hgd)
 have hel:JaB own w τ (mkV τ (zeroC τ)).cells.toList [τ.zero]:=by
  refine⟨by rw[hl,List.length_singleton,Nat.one_mul];exact Nat.le_refl _,fun i hi=>?_⟩;obtain rfl:i=0:=by simpa using hi
  rw[Nat.zero_mul,List.drop_zero,←hl,List.take_length];exact hrep
 have ha:=Jcu (mkV τ (zeroC τ)) t w;have s2:=h.newRow ha (Jaa d 0) hel 1 (by simp) (by omega) (by simp[big]) (by rw[hl,Nat.one_mul])
 have s3:=s2.toGb (s:=Jaa d 0) (l:=l) (ver:=nextVer (σ.mem (Jaa d 0))) (τ:=τ) (xs:=[τ.zero]) (by show upd σ.mem _ _ _=_;rw[Jad,if_pos rfl]) (by
  intro b o n c hb;rw[Jad,if_pos rfl] at hb;cases hb;refine⟨⟨fun _=>(0,0,0),fun q hq=>?_⟩,rfl⟩;have hq1:=List.all_eq_true.1 hc q hq
  have hq2:(zeroC τ)[q.1]?=some (.slice none 0 0):=by
   revert hq1
   generalize (zeroC τ)[q.1]?=z
   intro hz;unfold Je5 at hz;split at hz
   · rfl
   · cases hz
  have hq3:q.1<(zeroC τ).length:=(List.getElem?_eq_some_iff.1 hq2).1;rw[hcs] at hl;refine⟨by omega,⟨none,0,0,?_,.inl ⟨rfl,rfl⟩⟩,fun j c1 c2=>?_,fun j _ _ c2=>?_,fun _ _ _ j _ _ c2=>?_⟩
  · rw[Nat.zero_add,ha.cell,hcs];exact hq2
  · exact absurd c2 (Nat.not_lt_zero _)
  · exact absurd c2 (Nat.not_lt_zero _)
  · exact absurd c2 (Nat.not_lt_zero _))
 rw[Jjz] at s3;refine Jae (hrun w) s3 ?_;refine⟨by show _<nextVer (upd σ.mem _ _ _);rw[Jad,if_pos rfl];simp[nextVer],fun τ' xs m e=>?_⟩;have e:upd σ.mem (Jaa d 0) (Entry.own (nextVer (σ.mem (Jaa d 0))) τ [τ.zero] (.gb l)) (Jaa d 0)=_:=e;rw[Jad,if_pos rfl] at e;cases e;exact⟨by simp,w.heap.size,0,1,1,by rw[Jad,if_pos rfl];rfl,by rw[Jao,Nat.zero_mul]⟩
theorem Jm3 (hE:EnvOk P E) (h:St N Z own β σ a w) {t d:Nat} {τ:Ty} {v:V} {u:Value} {r:V×S} (ht:E.ty t=some τ) (hu:Jac own w β σ.mem v u)
 (he:execOp a.eval o=(do pure (.value (←Instr.loadAt t u)))) (hr:(JlL d τ v).run σ=some r):Did P N Z o a w r.2 r.1:=by
 have hT:=hE.ty t τ ht;unfold JlL at hr;split at hr
 · rename_i e
   split at hr
   · rename_i s ver i p
     simp only[M.run] at hr;split at hr
     · rename_i ver' τe xs l hm
       split at hr
       · rename_i x hx
         split at hr
         · rename_i hc
           obtain⟨rfl,rfl,hds,hg⟩:=hc;obtain⟨y,h1,h2⟩:=Jal hr;have hxs:=one?_some hx;subst hxs;obtain⟨hi,b,off,nn,cc,h3,rfl⟩:=hu.2 τe [x] _ hm;have hmm:=h.mems s;rw[hm] at hmm;obtain⟨ad,cap,h4,h5,h6,h7,h8⟩:=(Jaj.rowV h3 hmm).2;rw[h3] at h4;cases h4;rcases h8 with ⟨h8,_⟩ | ⟨b',off',h8,h9,⟨h10,h11⟩,h12,hc1⟩
           · rw[h8] at h5;simp at h5
           cases h8;obtain⟨es,g1,g2,g3⟩:=h9 0 (by simp);have g3:Jag own w τe es x:=g3;obtain⟨k1,k2⟩:=Jbv τe x es p (.sl e) y g3 h1
           have hld:=hT.load (w:=w) (b:=b) (off:=off+0*τe.size+offP τe p) k2 (fun j v hj=>by
            rw[List.getElem?_take] at hj;split at hj
            · rw[List.getElem?_drop] at hj
              have:=(g2 _ _ hj).2
              rwa [←Nat.add_assoc] at this
            · cases hj)
           obtain⟨A,C,k3,k4,k5,k6,k7⟩:=k2;rw[k3] at hld
           have k8:es[offP τe p]?=some (.slice A y.length C):=by
            have h0:((es.drop (offP τe p)).take 1)[0]?=some (.slice A y.length C):=by
             rw[show (es.drop (offP τe p)).take 1=_ from k3];rfl
            rw[List.getElem?_take,if_pos (by omega),List.getElem?_drop] at h0;exact h0
           have k9:=(g2 _ _ k8).2;rw[Nat.zero_mul,Nat.add_zero] at k9;obtain⟨reg,hreg⟩:=h12;obtain⟨q,hq,hq1,hq2⟩:=Jhl hg;obtain⟨r0,⟨A',n',C',r1,r2⟩,r3,r4,r5⟩:=hreg q hq;rw[hq1,k9] at r1;cases r1;have hin:∀j,(reg q.1).2.1≤j→j<(reg q.1).2.2→own (reg q.1).1 j=some s:=fun j c1 c2=>(r3 j c1 c2).1;have hk:Keeps own (JaN own (reg q.1) (Jaa d 0)) w w:=JeK hin;have hks:∀s',s'≠s→Jah s' own (JaN own (reg q.1) (Jaa d 0)) w w:=fun s' hs=>Je0 hin hs;have r4':JcQ (b,off,off+cc*τe.size) (reg q.1):=fun j e c1 c2 c3 c4=>r4 j e.symm c3 c4 c1 c2;rw[h2]
           have hmem:∀s',(upd (upd σ.mem s (Entry.own ver τe [x] (.gb (JdN (offP τe p) 1 l)))) (Jaa d 0) (.own (nextVer (σ.mem (Jaa d 0))) e y .tail)) s' =
            if s'=Jaa d 0 then Entry.own (nextVer (σ.mem (Jaa d 0))) e y .tail else if s'=s then Entry.own ver τe [x] (.gb (JdN (offP τe p) 1 l)) else σ.mem s':=fun s'=>by rw[Jad,Jad]
           have hβ:∀s',upd β (Jaa d 0) (.slice A y.length C) s'=if s'=Jaa d 0 then .slice A y.length C else β s':=fun s'=>Jad _ _ _ _
           refine Jae (own':=JaN own (reg q.1) (Jaa d 0)) (β':=upd β (Jaa d 0) (.slice A y.length C)) (u:=.slice A y.length C) (w':=w) (exec_v he ?_) ?_ ?_
           · simp only[Instr.loadAt,Instr.sureAddr,Sem.run_bind,Sem.run_pure,Result.andThen_ok]
             exact hld
           · refine h.go (Frm.refl _ _ _) ?_ hk ?_ rfl ?_ (Jjs rfl rfl fun s' c1 _=>hks s' c1)
             · intro b' o' hlt hio
               rw[Jcb];rintro⟨rfl,c1,c2⟩;rcases (r3 _ c1 c2).2.1 with c | c
               · omega
               · exact hio c
             · intro s'
               show Evo β _ s' (σ.mem s') (upd (upd σ.mem s _) (Jaa d 0) _ s');rw[hmem];split
               · rename_i e;subst e;exact Evo.newOwn _ _ _ _
               · rename_i e
                 split
                 · rename_i e';subst e';rw[hm];exact Evo.setOwn (by rw[hβ,if_neg e]) rfl
                 · exact Evo.same _ (by rw[hβ,if_neg e])
             · intro s'
               show Jaj Z _ w _ s' (upd (upd σ.mem s _) (Jaa d 0) _ s');rw[hmem];split
               · rename_i e';subst e'
                 refine⟨A,C,by rw[hβ,if_pos rfl],k4,k5,k6,?_⟩;rcases r2 with ⟨r2,_⟩ | ⟨b1,o1,r2,r2'⟩
                 · exact .inl ⟨r2,fun h=>by cases h⟩
                 refine k7.imp (fun h=>⟨h,fun h=>by cases h⟩) fun ⟨bb,oo,p1,p2⟩=>?_;rw[r2] at p1;cases p1;refine⟨b1,o1,r2,fun i hi=>?_,?_⟩
                 · obtain⟨fs,f1,f2,f3⟩:=p2 i hi
                   exact⟨fs,f1,fun j v hj=>⟨(hk _ _ _ (f2 j v hj).1 (f2 j v hj).2).1,(f2 j v hj).2⟩,f3.keeps hk⟩
                 · have:=JaJ.got (d:=Jaa d 0) r3
                   rw[r2',hq2] at this;rw[r2',hq2];exact this
               · rename_i ne
                 split
                 · rename_i e';subst e'
                   refine⟨_,cc,by rw[hβ,if_neg ne];exact h3,h5,h6,h7,.inr ⟨b,off,rfl,fun i hi=>?_,⟨h10,h11.give r4'⟩,⟨reg,fun q' hq'=>?_⟩,hc1⟩⟩
                   · obtain rfl:i=0:=by simpa using hi
                     refine⟨es,g1,fun j v hj=>⟨?_,(g2 j v hj).2⟩,g3.keeps hk⟩;rw[Jcb]
                     · exact (g2 j v hj).1
                     · rintro⟨e1,e2,e3⟩
                       have hj':j<es.length:=(List.getElem?_eq_some_iff.1 hj).1;have hcc:1*τe.size≤cc*τe.size:=Nat.mul_le_mul_right _ h5;exact r4' _ e1 (by show off≤off+0*τe.size+j;omega) (by show off+0*τe.size+j<off+cc*τe.size;omega) e2 e3
                   · obtain⟨hq',ho'⟩:=Jcn.1 hq'
                     obtain⟨m0,m1,m2,m3,m4⟩:=hreg q' hq';refine⟨m0,m1,m2.give (m4 q hq (by omega)),m3,fun q2 hq2'=>m4 q2 (Jcn.1 hq2').1⟩
                 · rename_i ne'
                   exact (h.mems s').keeps hk (hks s' ne') (fun _ _ e=>e) (by rw[hβ,if_neg ne])
           · exact Ja0 _ _ _ _ _ _ _ _ _ _
         · cases hr
       · cases hr
     · cases hr
   · cases hr
 · cases hr
theorem JfZ {t:Nat} {τ τe:Ty} (hT:TyOk P E.ty t τ) {x x':τe.D} {y:τ.D} {p:List Stp} {u':Value} {cc:Nat} (h9:JaX own w (some s) τe b off [x])
 (h11:JaJ Z own w s b off (off+cc*τe.size)) (hcc:1≤cc) (hz:Jcd τe x p τ y=some x') (hV:Jab own w τ u' y):
 ∃w',(storeVar t ⟨b,off+0*τe.size+offP τe p,none⟩ u').run P w= .ok () w'∧Wrote b (off+offP τe p) u'.cells.toList w w'∧u'.cells.toList.length=τ.size∧offP τe p+τ.size≤τe.size ∧
  JaX own w' (some s) τe b off [x']∧Keeps own own w w'∧(∀s',s'≠s→Jah s' own own w w')∧Frm Z.w.heap.size Z.io w w':=by
 have hds:=hV.cells;have hdl:=hds.length;have h1c:1*τe.size≤cc*τe.size:=Nat.mul_le_mul_right _ hcc;rw[Nat.one_mul] at h1c;obtain⟨es,q1,q2,q3⟩:=h9 0 (by simp);obtain⟨g1,g2,g3⟩:=Jc5 τe x es p τ y _ x' q3 hds hz;have hin:∀j,j<τ.size→∃v,es[offP τe p+j]?=some v:=fun j hj=>⟨_,List.getElem?_eq_getElem (by omega)⟩;rw[Nat.zero_mul,Nat.add_zero] at q2 ⊢
 obtain⟨w',h15,h16⟩:=hT.store (w:=w) (b:=b) (off:=off+offP τe p) hV (fun j hj=>by
  obtain⟨v,hv⟩:=hin j hj;have e3:=(q2 _ v hv).2;have e4:=(h11 (off+offP τe p+j) (by omega) (by omega)).2.2.2;rw[←Nat.add_assoc] at e3;exact⟨⟨v,e3⟩,e4⟩)
 have hown:∀j,j<u'.cells.toList.length→own b (off+offP τe p+j)=some s:=fun j hj=>(h11 _ (by omega) (by omega)).1;have hwr:∀j,j<u'.cells.toList.length→Z.wr b (off+offP τe p+j):=fun j hj=>(h11 _ (by omega) (by omega)).2.1;refine⟨w',h15,h16,hdl,g2,?_,h16.keeps hown,fun s' hs=>h16.ownKeeps hown hs,h16.frame hwr⟩;intro i hi;obtain rfl:i=0:=by simpa using hi
 rw[Nat.zero_mul,Nat.add_zero];refine⟨Jax es (offP τe p) u'.cells.toList,by rw[JaS (by omega)];exact q1,?_,g3.keeps (h16.keeps hown)⟩;intro j v hj
 have hjl:j<es.length:=by
  have:=(List.getElem?_eq_some_iff.1 hj).1
  rwa [JaS (by omega)] at this
 obtain⟨e1,e2⟩:=q2 j es[j] (List.getElem?_eq_getElem hjl);refine⟨e1,?_⟩;rw[h16.cell];rw[getElem?_splice (by omega)] at hj;by_cases hc:offP τe p≤j∧j<offP τe p+u'.cells.toList.length
 · rw[if_pos hc] at hj
   rw[if_pos (by omega),show off+j-(off+offP τe p)=j-offP τe p by omega];exact hj
 · rw[if_neg hc] at hj
   rw[if_neg (by omega),e2,←hj,List.getElem?_eq_getElem hjl]
theorem JjD (hE:EnvOk P E) (h:St N Z own β σ a w) {t:Nat} {τ:Ty} {v v':V} {u u':Value} {r:V×S} (ht:E.ty t=some τ) (hu:Jac own w β σ.mem v u) (hu':Jac own w β σ.mem v' u')
 (he:execOp a.eval o=(do Instr.storeAt t u u';pure .skip)) (hr:(Jkh τ v v').run σ=some r):Did P N Z o a w r.2 r.1:=by
 have hT:=hE.ty t τ ht;unfold Jkh at hr;obtain⟨y,fr,hf,hA,_,h2⟩:=JbK h hu' hr hT.isVal;obtain⟨own1,s1,k1,v1⟩:=h.freeze hf;have hV:=v1 _ _ _ hA;split at h2
 · rename_i s ver i p
   simp only[M.run] at h2;split at h2
   · rename_i ver' τe xs l hm
     split at h2
     · rename_i x hx
       split at h2
       · rename_i hc
         obtain⟨rfl,rfl,hfr⟩:=hc;obtain⟨x',h3,h4⟩:=Jal h2;have hxs:=one?_some hx;subst hxs;obtain⟨hi,b,off,nn,cc,h5,rfl⟩:=hu.2 τe [x] _ hm
         have hnot:∀q∈fr,q.1≠s:=by
          intro q hq e;have:=List.all_eq_true.1 hfr q hq;rw[e] at this;simp at this
         have hm1:(Jaz σ fr).mem s= .own ver τe [x] (.gb l):=by rw[Ja9 fr hnot];exact hm
         have hmm:=s1.mems s;rw[hm1] at hmm;obtain⟨ad,cap,h6,h7,h8,h9,h10⟩:=(Jaj.rowV h5 hmm).2;rw[h5] at h6;cases h6;rcases h10 with ⟨h11,_⟩ | ⟨b',off',h11,h12,⟨h13,h14⟩,hG,hc1⟩
         · rw[h11] at h7;simp at h7
         cases h11;obtain⟨w',e1,e2,e3,e4,e5,e6,e7,e8⟩:=JfZ (P:=P) hT h12 h14 h7 h3 hV;rw[h4];simp only[Jbj];refine Jcj (β':=β) (own':=own1) (w':=w') ?_ ?_
         · rw[he];exact JeE (by simp only[Instr.storeAt,Instr.sureAddr,Sem.run_bind,Sem.run_pure,Result.andThen_ok];exact e1)
         · refine s1.go e8 (fun _ _ _ _=>rfl) e6 ?_ rfl ?_ (JaO rfl fun s' c=>e7 s' c)
           · intro s'
             show Evo β β s' _ (upd (Jaz σ fr).mem s _ s');rw[Jad];split
             · rename_i e;subst e;rw[hm1];exact Evo.setOwn rfl rfl
             · exact Evo.same _ rfl
           · intro s'
             show Jaj Z own1 w' β s' (upd (Jaz σ fr).mem s _ s');rw[Jad];split
             · rename_i e;subst e
               exact⟨_,cc,h5,h7,h8,h9,.inr ⟨b,off,rfl,e5,⟨e2.shps _ _ h13,h14.wrote e2⟩,by rw[←e3];exact hG.wrote e2,hc1⟩⟩
             · rename_i e
               exact (s1.mems s').keeps e6 (e7 s' e) e2.shps rfl
       · cases h2
     · cases h2
   · cases h2
 · cases h2
theorem Jm4 (hE:EnvOk P E) (h:St N Z own β σ a w) {t:Nat} {τ:Ty} {s ver i s2 ver2:Nat} {p:List Stp} {u u':Value} {r:V×S} (ht:E.ty t=some τ) (hu:Jac own w β σ.mem (.elp s ver i p) u)
 (hu':Jac own w β σ.mem (.ref s2 ver2) u') (he:execOp a.eval o=(do Instr.storeAt t u u';pure .skip)) (hr:(JlM τ s ver i p s2 ver2).run σ=some r):Did P N Z o a w r.2 r.1:=by
 have hT:=hE.ty t τ ht;unfold JlM at hr;simp only[M.run] at hr;split at hr
 · rename_i v1 τe xs l v2 e ys hm hm2
   split at hr
   · rename_i hc
     obtain⟨rfl,rfl,rfl,hne⟩:=hc;split at hr
     · rename_i x y hx hy
       obtain⟨rfl,hy⟩:=cast?_some hy;have hy:ys=y:=hy;subst hy;obtain⟨x',h3,h4⟩:=Jal hr;have hxs:=one?_some hx;subst hxs;obtain⟨hi,b,off,nn,cc,h5,rfl⟩:=hu.2 τe [x] _ hm;have hmm:=h.mems s;rw[hm] at hmm;obtain⟨ad,cap,h6,h7,h8,h9,h10⟩:=(Jaj.rowV h5 hmm).2;rw[h5] at h6;cases h6;rcases h10 with ⟨h11,_⟩ | ⟨b',off',h11,h12,⟨h13,h14⟩,hG,hc1⟩
       · rw[h11] at h7;simp at h7
       cases h11;have hu2:=hu'.2 e ys .tail hm2;have hm2':=h.mems s2;rw[hm2] at hm2';obtain⟨A,C,f1,f2,f3,f4,f5⟩:=hm2'
       have hV:Jab own w (.sl e) u' ys:=by
        rw[hu2,f1];exact JaX.frozen f2 f3 f4 (f5.imp (·.1) fun ⟨b,o,e6,e7,_⟩=>⟨b,o,e6,e7⟩)
       obtain⟨w',e1,e2,e3,e4,e5,e6,e7,e8⟩:=JfZ (P:=P) hT h12 h14 h7 h3 hV;have hcell:u'.cells.toList=[.slice A ys.length C]:=by rw[hu2,f1];rfl
       obtain⟨R,hR1,hR2⟩:∃R:Nat×Nat×Nat,JaJ Z own w s2 R.1 R.2.1 R.2.2∧((C=0∧R=(0,0,0))∨∃b' o',A=some ⟨b',o',none⟩∧R=(b',o'+ys.length*e.size,o'+C*e.size)):=by
        rcases f5 with ⟨f5,_⟩ | ⟨b',o',f5,f6,f7⟩
        · exact⟨(0,0,0),fun j _ c2=>absurd c2 (Nat.not_lt_zero _),.inl ⟨f5,rfl⟩⟩
        · exact⟨(b',o'+ys.length*e.size,o'+C*e.size),f7,.inr ⟨b',o',f5,rfl⟩⟩
       have hin:∀j,R.2.1≤j→j<R.2.2→own R.1 j=some s2:=fun j c1 c2=>(hR1 j c1 c2).1;have hk:Keeps own (JaN own R s) w w':=e6.trans (JeK hin)
       have hks:∀s',s'≠s→s'≠s2→Jah s' own (JaN own R s) w w':=fun s' c1 c2=>by
        have k1:=e7 s' c1;have k2:Jah s' own (JaN own R s) w' w':=Je0 hin c2;exact⟨fun b o v q1 q2=>let ⟨q3,q4,q5⟩:=k1.1 b o v q1 q2;let ⟨q6,q7,q8⟩:=k2.1 b o v q3 q4;⟨q6,q7,q8.trans q5⟩,fun r es c q1 q2=>let ⟨q3,q4⟩:=k1.2 r es c q1 q2;k2.2 r es c q3 q4⟩
       have hst:∀b j,own b j=some s→JaN own R s b j=some s:=fun b j c1=>by
        unfold JaN;split
        · rfl
        · exact c1
       rw[h4]
       have hmem:∀s',(upd (upd σ.mem s2 (Entry.own ver2 e ys .view)) s (Entry.own ver τe [x'] (.gb ((offP τe p,e.size)::JdN (offP τe p) 1 l)))) s' =
        if s'=s then Entry.own ver τe [x'] (.gb ((offP τe p,e.size)::JdN (offP τe p) 1 l)) else if s'=s2 then Entry.own ver2 e ys .view else σ.mem s':=fun s'=>by rw[Jad,Jad]
       refine Jcj (β':=β) (own':=JaN own R s) (w':=w') ?_ ?_
       · rw[he];exact JeE (by simp only[Instr.storeAt,Instr.sureAddr,Sem.run_bind,Sem.run_pure,Result.andThen_ok];exact e1)
       · refine h.go e8 ?_ hk ?_ rfl ?_ (Jjs rfl rfl fun s' c1 c2=>hks s' c2 c1)
         · intro b' o' hlt hio
           rw[Jcb];rintro⟨rfl,c1,c2⟩;rcases (hR1 _ c1 c2).2.1 with c | c
           · omega
           · exact hio c
         · intro s'
           show Evo β β s' (σ.mem s') (upd (upd σ.mem s2 _) s _ s');rw[hmem];split
           · rename_i c;subst c;rw[hm];exact Evo.setOwn rfl rfl
           · split
             · rename_i c;subst c;rw[hm2];exact Evo.setOwn rfl rfl
             · exact Evo.same _ rfl
         · intro s'
           show Jaj Z _ w' β s' (upd (upd σ.mem s2 _) s _ s');rw[hmem];split
           · rename_i c;subst c
             refine⟨_,cc,h5,h7,h8,h9,.inr ⟨b,off,rfl,fun i hi=>?_,⟨e2.shps _ _ h13,(h14.wrote e2).giveSame⟩,?_,hc1⟩⟩
             · obtain⟨es,q1,q2,q3⟩:=e5 i hi
               exact⟨es,q1,fun j v hj=>⟨hst _ _ (q2 j v hj).1,(q2 j v hj).2⟩,q3.keeps (JeK hin)⟩
             · have hG':=hG.wrote e2
               rw[e3] at hG';obtain⟨reg,hreg⟩:=hG';have hcs:1*τe.size≤cc*τe.size:=Nat.mul_le_mul_right _ h7;have hsz:(Ty.sl e).size=1:=rfl
               have ap:∀b1 lo1 hi1,JaJ Z own w' s' b1 lo1 hi1→JcQ R (b1,lo1,hi1):=fun b1 lo1 hi1 hta j c0 c1 c2 c3 c4=>by
                have d1:=hin j c1 c2;have d2:=(hta j c3 c4).1;have c0:R.1=b1:=c0;rw[c0] at d1;rw[d1] at d2;cases d2;exact hne rfl
               have apb:JcQ R (b,off,off+cc*τe.size):=ap _ _ _ (h14.wrote e2);have sym:∀{r r':Nat×Nat×Nat},JcQ r r'→JcQ r' r:=fun h j c0 c1 c2 c3 c4=>h j c0.symm c3 c4 c1 c2;refine⟨fun k=>if k=offP τe p then R else reg k,fun q hq=>?_⟩
               rcases List.mem_cons.1 hq with hq | hq
               · subst hq
                 refine⟨by show off+offP τe p<_;omega,⟨A,ys.length,C,?_,?_⟩,?_,?_,?_⟩
                 · show w'.cell? ⟨b,off+offP τe p,none⟩=_
                   have:=e2.inside 0 (.slice A ys.length C) (by rw[hcell];rfl)
                   rwa [Nat.add_zero] at this
                 · simp only[if_pos]
                   exact hR2
                 · simp only[if_pos]
                   exact JaJ.got (hR1.wrote e2)
                 · simp only[if_pos];exact apb
                 · intro q' hq' hne'
                   rcases List.mem_cons.1 hq' with hq' | hq'
                   · exact absurd (by rw[hq']) hne'
                   · simp only[if_pos,if_neg hne']
                     exact ap _ _ _ (hreg q' hq').2.2.1
               · obtain⟨_,ho⟩:=Jcn.1 hq
                 have hqn:q.1≠offP τe p:=by omega
                 obtain⟨m0,m1,m2,m3,m4⟩:=hreg q hq;refine⟨m0,?_,?_,?_,?_⟩
                 · simp only[if_neg hqn];exact m1
                 · simp only[if_neg hqn];exact m2.giveSame
                 · simp only[if_neg hqn];exact m3
                 · intro q' hq' hne'
                   rcases List.mem_cons.1 hq' with hq' | hq'
                   · subst hq'
                     simp only[if_pos,if_neg hqn];exact sym (ap _ _ _ m2)
                   · have hqn':q'.1≠offP τe p:=by
                      have:=(Jcn.1 hq').2;omega
                     simp only[if_neg hqn,if_neg hqn'];exact m4 q' hq' hne'
           · rename_i ne
             split
             · rename_i c;subst c
               refine⟨A,C,f1,f2,f3,f4,f5.imp (fun h=>⟨h.1,fun h=>by cases h⟩) fun ⟨b',o',q1,q2,q3⟩=>⟨b',o',q1,?_,trivial⟩⟩;exact q2.keeps hk (fun b o v c1 c2=>hk b o v c1 c2)
             · rename_i ne'
               exact (h.mems s').keeps hk (hks s' ne ne') e2.shps rfl
     · cases hr
   · cases hr
 · cases hr
theorem Jm5 (hE:EnvOk P E) (h:St N Z own β σ a w) {t:Nat} {τ τ':Ty} {xx:τ'.D} {z:List (Nat×Nat)} {s ver i:Nat} {p:List Stp} {u u':Value} {r:V×S} (ht:E.ty t=some τ) (hu:Jac own w β σ.mem (.elp s ver i p) u)
 (hu':Jac own w β σ.mem (.zval τ' xx z) u') (he:execOp a.eval o=(do Instr.storeAt t u u';pure .skip)) (hr:(JlN τ s ver i p τ' xx z).run σ=some r):Did P N Z o a w r.2 r.1:=by
 have hT:=hE.ty t τ ht;unfold JlN at hr;simp only[M.run] at hr;split at hr
 · rename_i ver' τe xs l hm
   split at hr
   · rename_i x y hx hy
     obtain⟨eq,hy⟩:=cast?_some hy;subst eq;have hy:xx=y:=hy;subst hy;split at hr
     · rename_i hc
       obtain⟨rfl,rfl⟩:=hc;obtain⟨x',h3,h4⟩:=Jal hr;have hxs:=one?_some hx;subst hxs;obtain⟨hi,b,off,nn,cc,h5,rfl⟩:=hu.2 τe [x] _ hm;have hmm:=h.mems s;rw[hm] at hmm;obtain⟨ad,cap,h6,h7,h8,h9,h10⟩:=(Jaj.rowV h5 hmm).2;rw[h5] at h6;cases h6;rcases h10 with ⟨h11,_⟩ | ⟨b',off',h11,h12,⟨h13,h14⟩,hG,hc1⟩
       · rw[h11] at h7;simp at h7
       cases h11;obtain⟨hV,hzz⟩:=hu';obtain⟨w',e1,e2,e3,e4,e5,e6,e7,e8⟩:=JfZ (P:=P) hT h12 h14 h7 h3 hV;rw[h4];refine Jcj (β':=β) (own':=own) (w':=w') ?_ ?_
       · rw[he];exact JeE (by simp only[Instr.storeAt,Instr.sureAddr,Sem.run_bind,Sem.run_pure,Result.andThen_ok];exact e1)
       · refine h.go e8 (fun _ _ _ _=>rfl) e6 ?_ rfl ?_ (JaO rfl fun s' c=>e7 s' c)
         · intro s'
           show Evo β β s' _ (upd σ.mem s _ s');rw[Jad];split
           · rename_i e;subst e;rw[hm];exact Evo.setOwn rfl rfl
           · exact Evo.same _ rfl
         · intro s'
           show Jaj Z own w' β s' (upd σ.mem s _ s');rw[Jad];split
           · rename_i e;subst e
             refine⟨_,cc,h5,h7,h8,h9,.inr ⟨b,off,rfl,e5,⟨e2.shps _ _ h13,h14.wrote e2⟩,?_,hc1⟩⟩;have hG':=hG.wrote e2;rw[e3] at hG';obtain⟨reg,hreg⟩:=hG';have hcs:1*τe.size≤cc*τe.size:=Nat.mul_le_mul_right _ h7;have none0:∀r:Nat×Nat×Nat,JcQ (0,0,0) r:=fun r j _ _ c2=>absurd c2 (Nat.not_lt_zero _);have sym:∀{r r':Nat×Nat×Nat},JcQ r r'→JcQ r' r:=fun h j c0 c1 c2 c3 c4=>h j c0.symm c3 c4 c1 c2;refine⟨fun k=>if offP τe p≤k∧k<offP τe p+τ'.size then (0,0,0) else reg k,fun q hq=>?_⟩
             have inz:∀q∈z,q.1<τ'.size:=fun q hq=>by
              have:=(List.getElem?_eq_some_iff.1 (hzz q hq)).1;omega
             rcases List.mem_append.1 hq with hq | hq
             · obtain⟨q0,hq0,rfl⟩:=List.mem_map.1 hq
               have hlt:=inz q0 hq0;have hif:offP τe p≤offP τe p+q0.1∧offP τe p+q0.1<offP τe p+τ'.size:=⟨by omega,by omega⟩;refine⟨by show off+(offP τe p+q0.1)<_;omega,⟨none,0,0,?_,.inl ⟨rfl,?_⟩⟩,?_,?_,?_⟩
               · show w'.cell? ⟨b,off+(offP τe p+q0.1),none⟩=_
                 rw[←Nat.add_assoc];exact e2.inside _ _ (hzz q0 hq0)
               · simp only[if_pos hif]
               · simp only[if_pos hif]
                 exact fun j _ c2=>absurd c2 (Nat.not_lt_zero _)
               · simp only[if_pos hif];exact none0 _
               · intro q' hq' hne'
                 simp only[if_pos hif];exact none0 _
             · obtain⟨_,ho⟩:=Jcn.1 hq
               have hif:¬(offP τe p≤q.1∧q.1<offP τe p+τ'.size):=by omega
               obtain⟨m0,m1,m2,m3,m4⟩:=hreg q hq;refine⟨m0,?_,?_,?_,?_⟩
               · simp only[if_neg hif];exact m1
               · simp only[if_neg hif];exact m2
               · simp only[if_neg hif];exact m3
               · intro q' hq' hne'
                 simp only[if_neg hif];rcases List.mem_append.1 hq' with hq' | hq'
                 · obtain⟨q0,hq0,rfl⟩:=List.mem_map.1 hq'
                   have hlt:=inz q0 hq0;have hif':offP τe p≤offP τe p+q0.1∧offP τe p+q0.1<offP τe p+τ'.size:=⟨by omega,by omega⟩;simp only[if_pos hif'];exact sym (none0 _)
                 · have hif':¬(offP τe p≤q'.1∧q'.1<offP τe p+τ'.size):=by
                    have:=(Jcn.1 hq').2;omega
                   simp only[if_neg hif'];exact m4 q' hq' hne'
           · rename_i e
             exact (h.mems s').keeps e6 (e7 s' e) e2.shps rfl
     · cases hr
   · cases hr
 · cases hr
theorem Jkv (hE:EnvOk P E) (h:St N Z own β σ a w) {t:Nat} {τ:Ty} {v v':V} {u u':Value} {r:V×S} (ht:E.ty t=some τ) (hu:Jac own w β σ.mem v u) (hu':Jac own w β σ.mem v' u')
 (he:execOp a.eval o=(do Instr.storeAt t u u';pure .skip)) (hr:(JgP E τ v v').run σ=some r):Did P N Z o a w r.2 r.1:=by
 unfold JgP at hr;split at hr
 · rename_i s ver i p s2 ver2
   cases hg:E.gst s2 with
   | true=>rw[hg] at hr;exact Jm4 hE h ht hu hu' he hr
   | false=>rw[hg] at hr;exact JjD hE h ht hu hu' he hr
 · exact Jm5 hE h ht hu hu' he hr
 · exact JjD hE h ht hu hu' he hr
end
end Go.Re
namespace Go.Re
set_option linter.unusedVariables false
set_option linter.unusedSimpArgs false
open Go.RowKit (Below)
theorem Jag.enc {own:Own} {w:World}:∀{τ:Ty} {cs:List Value} {x:τ.D},τ.plain=true→Jag own w τ cs x→cs=Ja4 τ x∧Re.okD τ x
 | .bool,_,_,_,h=>⟨h,trivial⟩
 | .unit,_,_,_,h=>⟨h,trivial⟩
 | .int _,_,_,_,h=>h
 | .pair a b,_,x,hp,⟨c,d,e,h1,h2⟩=>by
  have hp:(a.plain&&b.plain)=true:=hp;simp only[Bool.and_eq_true] at hp;obtain⟨g1,g2⟩:=Jag.enc (τ:=a) hp.1 h1;obtain⟨g3,g4⟩:=Jag.enc (τ:=b) hp.2 h2;exact⟨by rw[e,g1,g3];rfl,g2,g4⟩
 | .st b,_,_,hp,h=>Jag.enc (τ:=b) hp h
 | .str,_,_,hp,_=>by cases hp
 | .sl _,_,_,hp,_=>by cases hp
 | .arr _ _,_,_,hp,_=>by cases hp
 | .mp _ _,_,_,hp,_=>by cases hp
theorem Jag.ofEnc {own:Own} {w:World}:∀{τ:Ty} {x:τ.D},τ.plain=true→Re.okD τ x→Jag own w τ (Ja4 τ x) x
 | .bool,_,_,_=>rfl
 | .unit,_,_,_=>rfl
 | .int _,_,_,h=>⟨rfl,h⟩
 | .pair a b,x,hp,h=>by
  have hp:(a.plain&&b.plain)=true:=hp;simp only[Bool.and_eq_true] at hp;exact⟨_,_,rfl,Jag.ofEnc (τ:=a) hp.1 h.1,Jag.ofEnc (τ:=b) hp.2 h.2⟩
 | .st b,_,hp,h=>Jag.ofEnc (τ:=b) hp h
 | .str,_,hp,_=>by cases hp
 | .sl _,_,hp,_=>by cases hp
 | .arr _ _,_,hp,_=>by cases hp
 | .mp _ _,_,hp,_=>by cases hp
theorem Jab.enc {own:Own} {w:World} {τ:Ty} {u:Value} {x:τ.D} (hp:τ.plain=true) (h:Jab own w τ u x):u=JaW τ x∧Re.okD τ x:=by
 obtain⟨_,cs,rfl,h2⟩:=h;obtain⟨h3,h4⟩:=h2.enc hp;exact⟨by rw[h3];rfl,h4⟩
theorem Jab.ofEnc {own:Own} {w:World} {τ:Ty} {x:τ.D} (hp:τ.plain=true) (hv:τ.isVal=true) (h:Re.okD τ x):Jab own w τ (JaW τ x) x:=⟨hv,_,rfl,Jag.ofEnc hp h⟩
theorem JeL:∀{b:Ty},b.ints=true→b.plain=true
 | .unit,_=>rfl
 | .pair (.int k) r,h=>by
  have h:r.ints=true:=h;show (true&&r.plain)=true;rw[JeL h];rfl
 | .pair .bool _,h=>by cases h
 | .pair .str _,h=>by cases h
 | .pair .unit _,h=>by cases h
 | .pair (.pair _ _) _,h=>by cases h
 | .pair (.st _) _,h=>by cases h
 | .pair (.sl _) _,h=>by cases h
 | .pair (.arr _ _) _,h=>by cases h
 | .pair (.mp _ _) _,h=>by cases h
 | .bool,h=>by cases h
 | .str,h=>by cases h
 | .int _,h=>by cases h
 | .st _,h=>by cases h
 | .sl _,h=>by cases h
 | .arr _ _,h=>by cases h
 | .mp _ _,h=>by cases h
theorem Jis:∀{b:Ty},b.ints=true→b.dep≤1
 | .unit,_=>Nat.le_refl _
 | .pair (.int k) r,h=>by
  have h:r.ints=true:=h;have:=Jis h;show max 1 r.dep≤1;omega
 | .pair .bool _,h=>by cases h
 | .pair .str _,h=>by cases h
 | .pair .unit _,h=>by cases h
 | .pair (.pair _ _) _,h=>by cases h
 | .pair (.st _) _,h=>by cases h
 | .pair (.sl _) _,h=>by cases h
 | .pair (.arr _ _) _,h=>by cases h
 | .pair (.mp _ _) _,h=>by cases h
 | .bool,h=>by cases h
 | .str,h=>by cases h
 | .int _,h=>by cases h
 | .st _,h=>by cases h
 | .sl _,h=>by cases h
 | .arr _ _,h=>by cases h
 | .mp _ _,h=>by cases h
theorem JbW {K:Ty} (h:Jbb K=true):∃b,K= .st b∧b.ints=true:=by
 unfold Jbb at h;split at h
 · exact⟨_,rfl,h⟩
 · cases h
theorem Jeg {K:Ty} (h:Jbb K=true):K.plain=true∧K.isVal=true:=by
 obtain⟨b,rfl,hb⟩:=JbW h;exact⟨JeL (b:=b) hb,rfl⟩
theorem JfG {V:Ty} (h:Jgc V=true):V.plain=true∧V.isVal=true:=by
 unfold Jgc at h;split at h
 · exact⟨rfl,rfl⟩
 · cases h
theorem Jm6:∀{k:IntKind} {x y:IntT k},toI k x=toI k y→x=y
 | .u8,x,y,h=>BitVec.eq_of_toNat_eq (Int.ofNat.inj h)
 | .u16,x,y,h=>BitVec.eq_of_toNat_eq (Int.ofNat.inj h)
 | .u32,x,y,h=>BitVec.eq_of_toNat_eq (Int.ofNat.inj h)
 | .u64,x,y,h=>BitVec.eq_of_toNat_eq (Int.ofNat.inj h)
 | .i8,_,_,h=>h
 | .i16,_,_,h=>h
 | .i32,_,_,h=>h
 | .i64,_,_,h=>h
theorem Jmb:∀{b:Ty} {x y:b.D},b.ints=true→(Ja4 b x).length=(Ja4 b y).length
 | .unit,_,_,_=>rfl
 | .pair (.int k) r,x,y,h=>by
  have h:r.ints=true:=h;show (Ja4 r x.2).length+1=(Ja4 r y.2).length+1;rw[Jmb (b:=r) h]
 | .pair .bool _,_,_,h=>by cases h
 | .pair .str _,_,_,h=>by cases h
 | .pair .unit _,_,_,h=>by cases h
 | .pair (.pair _ _) _,_,_,h=>by cases h
 | .pair (.st _) _,_,_,h=>by cases h
 | .pair (.sl _) _,_,_,h=>by cases h
 | .pair (.arr _ _) _,_,_,h=>by cases h
 | .pair (.mp _ _) _,_,_,h=>by cases h
 | .bool,_,_,h=>by cases h
 | .str,_,_,h=>by cases h
 | .int _,_,_,h=>by cases h
 | .st _,_,_,h=>by cases h
 | .sl _,_,_,h=>by cases h
 | .arr _ _,_,_,h=>by cases h
 | .mp _ _,_,_,h=>by cases h
theorem Jf0:∀{b:Ty} {x y:b.D},b.ints=true→Ja4 b x=Ja4 b y→x=y
 | .unit,_,_,_,_=>rfl
 | .pair (.int k) r,x,y,h,e=>by
  have h:r.ints=true:=h;have e:Value.int k (toI k x.1)::Ja4 r x.2=Value.int k (toI k y.1)::Ja4 r y.2:=e;injection e with e1 e2
  injection e1 with _ e1
  exact Prod.ext (Jm6 e1) (Jf0 (b:=r) h e2)
 | .pair .bool _,_,_,h,_=>by cases h
 | .pair .str _,_,_,h,_=>by cases h
 | .pair .unit _,_,_,h,_=>by cases h
 | .pair (.pair _ _) _,_,_,h,_=>by cases h
 | .pair (.st _) _,_,_,h,_=>by cases h
 | .pair (.sl _) _,_,_,h,_=>by cases h
 | .pair (.arr _ _) _,_,_,h,_=>by cases h
 | .pair (.mp _ _) _,_,_,h,_=>by cases h
 | .bool,_,_,h,_=>by cases h
 | .str,_,_,h,_=>by cases h
 | .int _,_,_,h,_=>by cases h
 | .st _,_,_,h,_=>by cases h
 | .sl _,_,_,h,_=>by cases h
 | .arr _ _,_,_,h,_=>by cases h
 | .mp _ _,_,_,h,_=>by cases h
theorem JjE {K:Ty} {x y:K.D} (h:Jbb K=true) (e:JaW K x=JaW K y):x=y:=by
 obtain⟨b,rfl,hb⟩:=JbW h;have e:Value.agg (Ja4 b x).toArray=Value.agg (Ja4 b y).toArray:=e;injection e with e
 exact Jf0 (b:=b) hb (by simpa using e)
theorem Jhm:∀(m:Nat) {b:Ty} {x:b.D},b.ints=true→((Ja4 b x).zip (Ja4 b x)).all (fun p=>Instr.sameBits (m+1) p.1 p.2)=true
 | _,.unit,_,_=>rfl
 | m,.pair (.int k) r,x,h=>by
  have h:r.ints=true:=h;show (List.all ((Value.int k (toI k x.1),Value.int k (toI k x.1))::(Ja4 r x.2).zip (Ja4 r x.2)) _)=true;rw[List.all_cons,Jhm m (b:=r) h,Bool.and_true];simp[Instr.sameBits]
 | _,.pair .bool _,_,h=>by cases h
 | _,.pair .str _,_,h=>by cases h
 | _,.pair .unit _,_,h=>by cases h
 | _,.pair (.pair _ _) _,_,h=>by cases h
 | _,.pair (.st _) _,_,h=>by cases h
 | _,.pair (.sl _) _,_,h=>by cases h
 | _,.pair (.arr _ _) _,_,h=>by cases h
 | _,.pair (.mp _ _) _,_,h=>by cases h
 | _,.bool,_,h=>by cases h
 | _,.str,_,h=>by cases h
 | _,.int _,_,h=>by cases h
 | _,.st _,_,h=>by cases h
 | _,.sl _,_,h=>by cases h
 | _,.arr _ _,_,h=>by cases h
 | _,.mp _ _,_,h=>by cases h
theorem Jmc {K:Ty} {x:K.D} (h:Jbb K=true):Instr.sameBits 10000 (JaW K x) (JaW K x)=true:=by
 obtain⟨b,rfl,hb⟩:=JbW h;show Instr.sameBits (9999+1) (.agg (Ja4 b x).toArray) (.agg (Ja4 b x).toArray)=true;rw[Instr.sameBits];simp only[beq_self_eq_true,Bool.true_and];exact Jhm 9998 (b:=b) (x:=x) hb
end Go.Re
namespace Go.Re
set_option linter.unusedVariables false
set_option linter.unusedSimpArgs false
open Go.RowKit (Below)
section
variable {P:Program} {E:Env} {N:Nat} {Z:Base} {own:Own} {β:Jai} {σ:S} {a:Act} {w:World} {o:Oper}
theorem Jk9 {te:Nat} {kd:IntKind} (h:P.underlying te=some (.int kd)) (em:Bool) (m:Nat) (v:Int):(Instr.checkKey em (m+1) te (.int kd v)).run P w= .ok () w:=by
 simp[Instr.checkKey,run_underlying h]
theorem Jit (hE:EnvOk P E) {t:Nat} {K:Ty} {k:K.D} (ht:E.ty t=some K) (hK:Jbb K=true) (hk:Re.okD K k) (em:Bool):(Instr.checkKey em 10000 t (JaW K k)).run P w= .ok () w:=by
 obtain⟨b,rfl,hb⟩:=JbW hK;obtain⟨fs,h1,h2⟩:=(hE.ty t _ ht).desc;have hr:Jag (fun _ _=>none) w b (Ja4 b k) k:=Jag.ofEnc (JeL hb) hk;show (Instr.checkKey em (9999+1) t (.agg (Ja4 b k).toArray)).run P w=_;rw[Instr.checkKey];simp only[Sem.run_bind,run_underlying h1,Result.andThen_ok];rw[←Array.forIn_toList]
 have key:∀(fs:List Field) (c:Ty) (off:Nat) (x:c.D) (cs:List Value),c.ints=true→JbG E.ty off fs c→Jag (fun _ _=>none) w c ((cs.drop off).take c.size) x→off+c.size≤cs.length →
  (forIn fs PUnit.unit (fun f r=>(do
   if f.name≠ "_" then do
    Instr.checkKey em 9999 f.type (←part f.type cs.toArray f.offset)
    pure (ForInStep.yield PUnit.unit)
    else pure (ForInStep.yield PUnit.unit):Sem (ForInStep PUnit)))).run P w= .ok PUnit.unit w:=by
  intro fs
  induction fs with
  | nil=>intro c off x cs _ _ _ _;simp
  | cons f fs ih=>
   intro c off x cs hc hf hx hl;cases c with
   | pair p q=>
    cases p with
    | int kd=>
     obtain⟨e1,e2,e3,e4⟩:=hf;obtain⟨c1,c2,e5,e6,e7⟩:=hx;have hT:=hE.ty f.type _ e2;have hc:q.ints=true:=hc;have hs:(Ty.pair (.int kd) q).size=1+q.size:=rfl;have hl1:=e6.length;have hl2:=e7.length;have h1s:(Ty.int kd).size=1:=rfl
     have hd1:(cs.drop off).take 1=c1:=by
      have:((cs.drop off).take (1+q.size)).take 1=c1:=by
       rw[←hs,e5,List.take_left' (by omega)]
      rw[List.take_take] at this
      rwa [show min 1 (1+q.size)=1 by omega] at this
     have hd2:(cs.drop (off+1)).take q.size=c2:=by
      have:((cs.drop off).take (1+q.size)).drop 1=c2:=by
       rw[←hs,e5,List.drop_left' (by omega)]
      rw[List.drop_take,List.drop_drop] at this
      rwa [show 1+q.size-1=q.size by omega] at this
     have hp:=hT.partRun (P:=P) (w:=w) (own:=fun _ _=>none) (cs:=cs) (off:=off) (y:=x.1) (by rw[h1s,hd1];exact e6) (by rw[h1s];omega);have hck:∀v,(Instr.checkKey em 9999 f.type (.int kd v)).run P w= .ok () w:=fun v=>Jk9 hT.desc em 9998 v
     have hval:mkV (.int kd) ((cs.drop off).take (Ty.int kd).size)= .int kd (toI kd x.1):=by
      rw[h1s,hd1];have:=e6.1;rw[this];rfl
     rw[hval] at hp;have ih':=ih q (off+1) x.2 cs hc (by rw[←h1s];exact e4) (by rw[hd2];exact e7) (by omega);rw[List.forIn_cons];by_cases hn:f.name≠ "_"
     · simp only[if_pos hn,Sem.run_bind,e1,hp,Result.andThen_ok,hck,Sem.run_pure]
       exact ih'
     · simp only[if_neg hn,Sem.run_bind,Sem.run_pure,Result.andThen_ok]
       exact ih'
    | _=>cases hc
   | unit=>exact hf.elim
   | _=>cases hc
 have hl:=hr.length;have:=key fs.toList b 0 k (Ja4 b k) hb h2 (by rw[List.drop_zero,←hl,List.take_length];exact hr) (by rw[hl];omega);refine (congrArg (fun z=>Result.andThen z _) this).trans ?_;simp
theorem Jmd:∀{b:Ty} {f:b.D→b.D→Bool} {x y:b.D},b.ints=true→eqD b=some f→(f x y=true↔x=y):=by
 intro b
 induction b with
 | unit=>intro f x y _ h;cases h;exact⟨fun _=>rfl,fun _=>rfl⟩
 | pair p q _ ihq=>
  intro f x y hb h;cases p with
  | int kd=>
   have hb:q.ints=true:=hb
   have hp:∃g:(Ty.int kd).D→(Ty.int kd).D→Bool,eqD (.int kd)=some g∧∀x y,g x y=true↔x=y:=by
    cases kd with
    | u8=>exact⟨_,rfl,fun x y=>decide_eq_true_iff⟩
    | u16=>exact⟨_,rfl,fun x y=>decide_eq_true_iff⟩
    | u32=>exact⟨_,rfl,fun x y=>decide_eq_true_iff⟩
    | u64=>exact⟨_,rfl,fun x y=>decide_eq_true_iff⟩
    | i64=>exact⟨_,rfl,fun x y=>decide_eq_true_iff⟩
    | i8=>simp[eqD] at h
    | i16=>simp[eqD] at h
    | i32=>simp[eqD] at h
   obtain⟨g,hg,hg2⟩:=hp;simp only[eqD,hg] at h;cases hq:eqD q with
   | none=>rw[hq] at h;simp at h
   | some f2=>
    rw[hq] at h;simp only[Option.some.injEq] at h;subst h;rw[Bool.and_eq_true,hg2,ihq hb hq];exact⟨fun h=>Prod.ext h.1 h.2,fun h=>by rw[h];exact⟨rfl,rfl⟩⟩
  | _=>cases hb
 | _=>intro f x y hb _;cases hb
theorem JdK {K:Ty} {f:K.D→K.D→Bool} {x y:K.D} (hK:Jbb K=true) (h:eqD K=some f):f x y=true↔x=y:=by
 obtain⟨b,rfl,hb⟩:=JbW hK;exact Jmd (b:=b) hb h
theorem JgZ (hE:EnvOk P E) {t:Nat} {K:Ty} {k:K.D} {f:K.D→K.D→Bool} (hf:eqD K=some f) (ht:E.ty t=some K) (he:E.eq t=true) (hK:Jbb K=true) (hk:Re.okD K k):∀(es:List MapEntry) (i:Nat),(∀e∈es,∃p:K.D,e.key=JaW K p∧Re.okD K p) →
 ((∀e∈es,e.key≠JaW K k)∧(Instr.findAsking t (JaW K k) es i).run P w= .ok none w) ∨
 ∃j e,es[j]?=some e∧e.key=JaW K k∧(Instr.findAsking t (JaW K k) es i).run P w= .ok (some (i+j,e.val)) w
 | [],i,_=>.inl ⟨fun e h=>(by cases h),by simp[Instr.findAsking]⟩
 | e::es,i,h=>by
  obtain⟨p,h1,h2⟩:=h e (by simp);have ih:=JgZ hE hf ht he hK hk es (i+1) fun e he=>h e (by simp[he]);have hpl:=Jeg hK;have hk1:Jab (fun _ _=>none) w K (JaW K k) k:=Jab.ofEnc hpl.1 hpl.2 hk;have hk2:Jab (fun _ _=>none) w K e.key p:=by rw[h1];exact Jab.ofEnc hpl.1 hpl.2 h2
  have heq:(Op.equal t (JaW K k) e.key).run P w= .ok (f k p) w:=by
   obtain⟨b,rfl,hb⟩:=JbW hK;exact (JkZ hE (.st b)).1 t 10000 f k p _ _ ht hf he (by have:=Jis hb;simp only[Ty.dep];omega) hk1 hk2
  unfold Instr.findAsking;simp only[Sem.run_bind,heq,Result.andThen_ok];cases hfk:f k p with
  | true=>
   right
   have:=(JdK hK hf).1 hfk;subst this;exact⟨0,e,rfl,h1,by simp⟩
  | false=>
   have hne:k≠p:=fun e=>by rw[(JdK hK hf).2 e] at hfk;cases hfk
   simp only[Bool.false_eq_true,if_false];rcases ih with ⟨g1,g2⟩ | ⟨j,e',g1,g2,g3⟩
   · left
     refine⟨fun e' he'=>?_,g2⟩;rcases List.mem_cons.1 he' with rfl | he'
     · rw[h1];exact fun e=>hne (JjE hK e).symm
     · exact g1 e' he'
   · right
     refine⟨j+1,e',by simpa using g1,g2,?_⟩;rw[g3,show i+1+j=i+(j+1) by omega]
end
end Go.Re
namespace Go.Re
set_option linter.unusedVariables false
set_option linter.unusedSimpArgs false
open Go.RowKit (Below)
structure ObjSet (r:Nat) (ob:Obj) (w w':World):Prop where
 os:w'.os=w.os
 tape:w'.tape=w.tape
 output:w'.output=w.output
 size:w'.heap.size=w.heap.size
 was:∃ob0,Jez ob0=true∧w.heap[r]?=some ob0
 obj:Jez ob=true
 self:w'.heap[r]?=some ob
 other:∀b,b≠r→w'.heap[b]?=w.heap[b]?
section
variable {own:Own} {w w':World} {r s:Nat} {ob:Obj}
theorem ObjSet.cell (h:ObjSet r ob w w') (b j:Nat):w'.cell? ⟨b,j,none⟩=w.cell? ⟨b,j,none⟩:=by
 by_cases hb:b=r
 · subst hb
   obtain⟨ob0,h1,h2⟩:=h.was;rw[JcB h.obj h.self,JcB h1 h2]
 · exact cell?_of_heap (h.other b hb)
theorem ObjSet.froz (h:ObjSet r ob w w') {b j:Nat} {v:Value} (hv:w.cell? ⟨b,j,none⟩=some v):w'.frozen? ⟨b,j,none⟩=w.frozen? ⟨b,j,none⟩:=by
 by_cases hb:b=r
 · subst hb
   obtain⟨ob0,h1,h2⟩:=h.was;rw[JcB h1 h2] at hv;cases hv
 · exact frozen?_of_heap (h.other b hb)
theorem ObjSet.shps (h:ObjSet r ob w w'):Jbw w w':=by
 rintro b kk ⟨y,fz,e1,e2⟩;by_cases hb:b=r
 · subst hb
   obtain⟨ob0,h1,h2⟩:=h.was
   have e0:shp w b=none:=by
    unfold shp;rw[h2];cases ob0<;>first | rfl | cases h1
   rw[e0] at e1;cases e1
 · exact⟨y,fz,by rw[JaY (h.other b hb)];exact e1,e2⟩
theorem ObjSet.keeps (h:ObjSet r ob w w') (ho:own r 0=some s):Keeps own own w w':=
 ⟨fun b j v e1 e2=>⟨e1,by rw[h.cell];exact e2⟩,fun b es c e1 e2=>⟨e1,by rw[h.other b (fun e=>by rw[e,ho] at e1;cases e1)];exact e2⟩⟩
theorem ObjSet.ownKeeps (h:ObjSet r ob w w') (ho:own r 0=some s) {s':Nat} (hs:s'≠s):Jah s' own own w w':=
 ⟨fun b j v e1 e2=>⟨e1,by rw[h.cell];exact e2,h.froz e2⟩,fun b ob' hob e1 e2=>⟨e1,by rw[h.other b (fun e=>by rw[e,ho] at e1;cases e1;exact hs rfl)];exact e2⟩⟩
theorem ObjSet.frame (h:ObjSet r ob w w') {n:Nat} {io:Nat→Nat→Prop} (hn:n≤r):Frm n io w w' where
 os:=h.os
 tape:=h.tape
 output:=h.output
 size:=by rw[h.size];exact Nat.le_refl _
 cell b o _ _:=h.cell b o
 live b o v _ hv:=⟨⟨v,by rw[h.cell];exact hv⟩,h.froz hv⟩
 shape b k _ hf:=h.shps b k hf
 block b hb _:=h.other b (by omega)
structure ObjNew (ob:Obj) (w w':World):Prop where
 os:w'.os=w.os
 tape:w'.tape=w.tape
 output:w'.output=w.output
 size:w'.heap.size=w.heap.size+1
 obj:Jez ob=true
 self:w'.heap[w.heap.size]?=some ob
 old:∀b,b<w.heap.size→w'.heap[b]?=w.heap[b]?
theorem Jeh (w:World) (ob:Obj) (ho:Jez ob=true):ObjNew ob w {w with heap:=w.heap.push ob} where
 os:=rfl
 tape:=rfl
 output:=rfl
 size:=by simp
 obj:=ho
 self:=by simp
 old b hb:=by simp[Array.getElem?_push];omega
theorem ObjNew.keeps (h:ObjNew ob w w') (own:Own) (s:Nat):Keeps own (Jam own w.heap.size s) w w':=by
 refine⟨?_,?_⟩
 · intro b j v e1 e2
   have hlt:=cell?_lt e2;refine⟨?_,by rw[cell?_of_heap (h.old b hlt)];exact e2⟩;unfold Jam;rw[if_neg (by omega)];exact e1
 · intro b es c e1 e2
   have hlt:=Ja6 e2;refine⟨?_,by rw[h.old b hlt];exact e2⟩;unfold Jam;rw[if_neg (by omega)];exact e1
theorem ObjNew.ownKeeps (h:ObjNew ob w w') (own:Own) (s s':Nat):Jah s' own (Jam own w.heap.size s) w w':=by
 refine⟨?_,?_⟩
 · intro b j v e1 e2
   have hlt:=cell?_lt e2;refine⟨?_,by rw[cell?_of_heap (h.old b hlt)];exact e2,frozen?_of_heap (h.old b hlt)⟩;unfold Jam;rw[if_neg (by omega)];exact e1
 · intro b ob' hob e1 e2
   have hlt:=Ja6 e2;refine⟨?_,by rw[h.old b hlt];exact e2⟩;unfold Jam;rw[if_neg (by omega)];exact e1
theorem ObjNew.shps (h:ObjNew ob w w'):Jbw w w':=fun b _ ⟨x,fz,e1,e2⟩=>⟨x,fz,by rw[JaY (h.old b (Jep e1))];exact e1,e2⟩
theorem ObjNew.frame (h:ObjNew ob w w') {n:Nat} {io:Nat→Nat→Prop} (hn:n≤w.heap.size):Frm n io w w' where
 os:=h.os
 tape:=h.tape
 output:=h.output
 size:=by rw[h.size];omega
 cell b o hb _:=cell?_of_heap (h.old b (by omega))
 live b o v hb hv:=⟨⟨v,by rw[cell?_of_heap (h.old b (by omega))];exact hv⟩,frozen?_of_heap (h.old b (by omega))⟩
 shape b k hb:=fun ⟨x,fz,e1,e2⟩=>⟨x,fz,by rw[JaY (h.old b (by omega))];exact e1,e2⟩
 block b hb _:=h.old b (by omega)
end
section
variable {P:Program} {E:Env} {N:Nat} {Z:Base} {own:Own} {β:Jai} {σ:S} {a:Act} {w:World} {o:Oper}
theorem St.newObj (h:St N Z own β σ a w) {w':World} {ob:Obj} (hn:ObjNew ob w w') (s:Nat) (e':Entry) (c:Value) (hev:∀β',Evo β β' s (σ.mem s) e')
 (he:Jaj Z (Jam own w.heap.size s) w' (upd β s c) s e') (hv:Ja5 e'=false:=by rfl):St N Z (Jam own w.heap.size s) (upd β s c) (σ.set s e') a w':=
 h.newSite (hn.frame h.base) (fun b o hlt _=>by unfold Jam;have:=h.base;rw[if_neg (by omega)]) (hn.keeps own s) (fun s' _=>hn.ownKeeps own s s') hn.shps hev he hv
theorem St.setObj (h:St N Z own β σ a w) {w':World} {ob:Obj} {r s:Nat} (hn:ObjSet r ob w w') (hr:Z.w.heap.size≤r) (ho:own r 0=some s) (e':Entry) (hev:Evo β β s (σ.mem s) e') (he:Jaj Z own w' β s e') (hv:Ja5 e'=false:=by rfl):
 St N Z own β (σ.set s e') a w':=by
 refine h.go (hn.frame hr) (fun _ _ _ _=>rfl) (hn.keeps ho) ?_ rfl ?_ (JaO hv fun _ e=>hn.ownKeeps ho e)
 · intro s'
   show Evo β β s' (σ.mem s') (upd σ.mem s e' s');rw[Jad];split
   · rename_i e;subst e;exact hev
   · exact Evo.same _ rfl
 · intro s'
   show Jaj Z own w' β s' (upd σ.mem s e' s');rw[Jad];split
   · rename_i e;subst e;exact he
   · rename_i e;exact (h.mems s').keeps (hn.keeps ho) (hn.ownKeeps ho e) hn.shps rfl
theorem Jgq (hE:EnvOk P E) (h:St N Z own β σ a w) {d t:Nat} {K V:Ty} {rs:Option Value} (ht:E.mpt t=some (K,V)) (hrs:rs=none∨∃k n,rs=some (.int k n))
 (he:execOp a.eval o=(do pure (.value (←Instr.makeMap t rs)))) {r:Re.V×S} (hr:(Jgi d K V).run σ=some r):Did P N Z o a w r.2 r.1:=by
 obtain⟨tk,tv,q1,q2,q3,_⟩:=hE.mpt t _ _ ht;unfold Jgi at hr;split at hr
 · rename_i hkv
   simp only[M.run] at hr;obtain⟨_,_,h9⟩:=Option.map_eq_some_iff.1 hr;subst h9;have hn:=Jeh w (.map #[] 0) rfl
   have hrun:(Instr.makeMap t rs).run P w= .ok (.map (some w.heap.size)) {w with heap:=w.heap.push (.map #[] 0)}:=by
    rcases hrs with rfl | ⟨k,n,rfl⟩
    · simp[Instr.makeMap]
    · simp[Instr.makeMap,run_underlying q1,asInt];rfl
   have hst:=h.newObj hn (Jaa d 0) (.own (nextVer (σ.mem (Jaa d 0))) (.pair K V) [] .bg) (.map (some w.heap.size)) (fun β'=>Evo.newOwn _ _ _ _)
    ⟨w.heap.size,#[],0,by rw[Jad,if_pos rfl],h.base,by simp[Jam],hn.self,
     ⟨⟨(Jeg hkv.1).1,(JfG hkv.2).1,(Jeg hkv.1).2,(JfG hkv.2).2⟩,by simp,by simp,by simp,by simp,by simp,by simp⟩⟩
   exact Jae (exec_v he hrun) hst (Ja0 _ _ _ _ _ _ _ _ _ _)
 · cases hr
theorem Jhn (hE:EnvOk P E) (h:St N Z own β σ a w) {t:Nat} {K V:Ty} {vm vk vx:Re.V} {um uk ux:Value} (ht:E.mpt t=some (K,V)) (hm:Jac own w β σ.mem vm um) (hk:Jac own w β σ.mem vk uk)
 (hx:Jac own w β σ.mem vx ux) (he:execOp a.eval o=(do Instr.mapUpdate t um uk ux;pure .skip)) {r:Re.V×S} (hr:(Jdh K V vm vk vx).run σ=some r):Did P N Z o a w r.2 r.1:=by
 obtain⟨tk,tv,q1,q2,q3,q4⟩:=hE.mpt t _ _ ht;unfold Jdh at hr;split at hr
 case h_2=>cases hr
 rename_i s ver τk k τx x;simp only[M.run] at hr;split at hr
 case h_2=>cases hr
 rename_i ver' e' xs hen;split at hr
 case isFalse=>cases hr
 rename_i hver;obtain⟨hver,hK,heqd⟩:=hver;subst hver;split at hr
 case h_2=>cases hr
 rename_i xs' k' x' hxs hkk hxx;obtain⟨e1,hxs⟩:=cast?_some hxs;obtain⟨e2,hkk⟩:=cast?_some hkk;obtain⟨e3,hxx⟩:=cast?_some hxx;cases e1;subst e2;subst e3;have hxs:xs=xs':=hxs;have hkk:k=k':=hkk;have hxx:x=x':=hxx;subst hxs;subst hkk;subst hxx;obtain⟨_,hc,h9⟩:=Option.map_eq_some_iff.1 hr;subst h9;obtain⟨f,hf⟩:=Option.isSome_iff_exists.1 heqd;have hmm:=h.mems s;rw[hen] at hmm;obtain⟨rr,es,c,m1,m2,m3,m4,m5⟩:=hmm;have hum:um= .map (some rr):=(hm.2 _ _ _ hen).trans m1;have hkv:Jab own w τk uk k:=hk;have hxv:Jab own w τx ux x:=hx;obtain⟨k1,k2⟩:=hkv.enc m5.plain.1;obtain⟨x1,x2⟩:=hxv.enc m5.plain.2.1
 have hwide:(match P.underlying tk with | some (.array _ _) | some (.struct _)=>true | _=>false)=true:=by
  obtain⟨b,rfl,hb⟩:=JbW hK;obtain⟨fs,g1,_⟩:=(hE.ty tk _ q2).desc;rw[g1]
 have hfind:=run_findKey_eq (P:=P) w hwide uk es.toList
 have hrange:∀e∈es.toList,∃p:τk.D,e.key=JaW τk p∧Re.okD τk p:=fun e he=>by
  obtain⟨p,p1,p2,_⟩:=m5.mem e he;exact⟨p.1,p2,(m5.ok p p1).1⟩
 have fin:∀(es':Array MapEntry) (c':Nat),(Instr.mapUpdate t um uk ux).run P w= .ok () {w with heap:=w.heap.setIfInBounds rr (.map es' c')} →
  BagR τk τx es' c' (xs++[(k,x)])→Did P N Z o a w (σ.set s (.own ver (.pair τk τx) (xs++[(k,x)]) .bg)) .dead:=by
  intro es' c' hrun hb
  have hset:ObjSet rr (.map es' c') w {w with heap:=w.heap.setIfInBounds rr (.map es' c')}:=
   ⟨rfl,rfl,rfl,by simp,⟨_,rfl,m4⟩,rfl,by
    show (w.heap.setIfInBounds rr _)[rr]?=_;rw[Array.getElem?_setIfInBounds_self_of_lt (Ja6 m4)],fun b hb=>by
    show (w.heap.setIfInBounds rr _)[b]?=_;rw[Array.getElem?_setIfInBounds_ne (Ne.symm hb)]⟩
  refine Jcj (by rw[he];exact JeE hrun) (h.setObj hset m2 m3 _ (by rw[hen];exact⟨Nat.le_refl _,fun _ _ _ he _=>by (cases he),fun _ _ _ _ he _=>by
   cases he;exact⟨rfl,_,_,rfl,by simp,rfl,fun h=>by cases h⟩,fun _ _ _ he _=>by (cases he)⟩) ?_)
  exact⟨rr,es',c',m1,m2,m3,hset.self,hb⟩
 have hmem:∀{q:τk.D×τx.D},q∈xs→q∈xs++[(k,x)]:=fun h=>List.mem_append_left _ h;have hlast:(k,x)∈xs++[(k,x)]:=by simp
 have hok:∀p∈xs++[(k,x)],Re.okD τk p.1∧Re.okD τx p.2:=fun p hp=>by
  rcases List.mem_append.1 hp with hp | hp
  · exact m5.ok p hp
  · rw[List.mem_singleton] at hp;subst hp;exact⟨k2,x2⟩
 have hchk:=Jit (w:=w) hE q2 hK k2 false;rw[←k1] at hchk;rcases JgZ (w:=w) hE hf q2 (q4 hK) hK k2 es.toList 0 hrange with ⟨g1,g2⟩ | ⟨j,e,g1,g2,g3⟩
 · rw[←k1] at g2
   rw[g2] at hfind;refine fin (es.push {key:=uk,val:=ux,born:=c}) (c+1) ?_ ⟨m5.plain,?_,?_,?_,?_,?_,hok⟩
   · unfold Instr.mapUpdate
     simp only[hum,Sem.run_bind,run_underlying q1,MapKept.run_getObj_map m4,Result.andThen_ok,hchk,hfind];exact MapKept.run_setObj_map _ m4
   · intro e he
     rw[Array.toList_push] at he;rcases List.mem_append.1 he with he | he
     · have:=m5.old e he;omega
     · rw[List.mem_singleton] at he;subst he;exact Nat.lt_succ_self c
   · rw[Array.toList_push,List.map_append,List.nodup_append]
     refine⟨m5.born,by simp,fun b hb b' hb' e=>?_⟩;obtain⟨e1,he1,rfl⟩:=List.mem_map.1 hb;have:b'=c:=by simpa using hb'
     have:=m5.old e1 he1;omega
   · rw[Array.toList_push,List.map_append,List.nodup_append]
     refine⟨m5.keys,by simp,fun b hb b' hb' e=>?_⟩;obtain⟨e1,he1,rfl⟩:=List.mem_map.1 hb;have:b'=uk:=by simpa using hb'
     exact g1 e1 he1 (by rw[e,this,k1])
   · intro e he
     rw[Array.toList_push] at he;rcases List.mem_append.1 he with he | he
     · obtain⟨p,p1,p2⟩:=m5.mem e he;exact⟨p,hmem p1,p2⟩
     · rw[List.mem_singleton] at he;subst he;exact⟨(k,x),hlast,k1,x1⟩
   · intro p hp
     rw[Array.toList_push];rcases List.mem_append.1 hp with hp | hp
     · obtain⟨e,e1,e2⟩:=m5.dom p hp;exact⟨e,List.mem_append_left _ e1,e2⟩
     · rw[List.mem_singleton] at hp;subst hp;exact⟨_,List.mem_append_right _ (List.mem_singleton.2 rfl),k1⟩
 · rw[←k1] at g3 g2
   rw[g3,Nat.zero_add] at hfind
   have hj:j<es.size:=by
    have:=(List.getElem?_eq_some_iff.1 g1).1;simpa using this
   have hje:es[j]=e:=by
    have:=(List.getElem?_eq_some_iff.1 g1).2;simpa using this
   have hmod:∀i (hi:i<es.size),(es.modify j fun e=>{e with key:=uk,val:=ux})[i]?=some (if j=i then {es[i] with key:=uk,val:=ux} else es[i]):=by
    intro i hi;rw[Array.getElem?_modify];split<;>simp[hi]
   have hmsz:(es.modify j fun e=>{e with key:=uk,val:=ux}).size=es.size:=by simp
   have hmem':∀e'∈(es.modify j fun e=>{e with key:=uk,val:=ux}).toList,∃i,∃hi:i<es.size,e'=if j=i then {es[i] with key:=uk,val:=ux} else es[i]:=by
    intro e' he';obtain⟨i,hi,hx⟩:=List.getElem_of_mem he';have hi':i<es.size:=by simpa using hi
    have:=hmod i hi';rw[Array.getElem?_eq_getElem (by simpa using hi)] at this;injection this with this
    exact⟨i,hi',by rw[←hx,Array.getElem_toList];exact this⟩
   have hkeys:(es.modify j fun e=>{e with key:=uk,val:=ux}).toList.map (·.key)=es.toList.map (·.key):=by
    apply List.ext_getElem?;intro i;rw[List.getElem?_map,List.getElem?_map];by_cases hi:i<es.size
    · rw[←Array.getElem?_toList] at *
      have:=hmod i hi;rw[←Array.getElem?_toList] at this;rw[this,List.getElem?_eq_getElem (by simpa using hi)];simp only[Option.map_some,Array.getElem_toList];split
      · rename_i hji;subst hji;rw[hje,g2]
      · rfl
    · rw[List.getElem?_eq_none (by simpa using hi),List.getElem?_eq_none (by simpa using hi)]
   have hborn:(es.modify j fun e=>{e with key:=uk,val:=ux}).toList.map (·.born)=es.toList.map (·.born):=by
    apply List.ext_getElem?;intro i;rw[List.getElem?_map,List.getElem?_map];by_cases hi:i<es.size
    · have:=hmod i hi
      rw[←Array.getElem?_toList] at this;rw[this,List.getElem?_eq_getElem (by simpa using hi)];simp only[Option.map_some,Array.getElem_toList];split<;>rfl
    · rw[List.getElem?_eq_none (by simpa using hi),List.getElem?_eq_none (by simpa using hi)]
   refine fin (es.modify j fun e=>{e with key:=uk,val:=ux}) c ?_ ⟨m5.plain,?_,by rw[hborn];exact m5.born,by rw[hkeys];exact m5.keys,?_,?_,hok⟩
   · unfold Instr.mapUpdate
     have hstay:(Instr.keyThatStays (((es[j]?).map (·.key)).getD uk) uk).run P w= .ok uk w:=by
      rw[Array.getElem?_eq_getElem hj,hje];unfold Instr.keyThatStays;simp only[Option.map_some,Option.getD_some,g2];rw[k1,Jmc hK];simp
     simp only[hum,Sem.run_bind,run_underlying q1,MapKept.run_getObj_map m4,Result.andThen_ok,hchk,hfind,hstay];exact MapKept.run_setObj_map _ m4
   · intro e' he'
     obtain⟨i,hi,rfl⟩:=hmem' e' he';have:=m5.old es[i] (by simp);split<;>exact this
   · intro e' he'
     obtain⟨i,hi,rfl⟩:=hmem' e' he';split
     · exact⟨(k,x),hlast,k1,x1⟩
     · obtain⟨p,p1,p2⟩:=m5.mem es[i] (by simp);exact⟨p,hmem p1,p2⟩
   · intro p hp
     have:∃key∈es.toList.map (·.key),key=JaW τk p.1:=by
      rcases List.mem_append.1 hp with hp | hp
      · obtain⟨e1,e2,e3⟩:=m5.dom p hp;exact⟨_,List.mem_map.2 ⟨e1,e2,rfl⟩,e3⟩
      · rw[List.mem_singleton] at hp;subst hp
        exact⟨e.key,List.mem_map.2 ⟨e,by rw[←hje];simp,rfl⟩,by rw[g2,k1]⟩
     obtain⟨key,h1,h2⟩:=this;rw[←hkeys] at h1;obtain⟨e1,e2,e3⟩:=List.mem_map.1 h1;exact⟨e1,e2,by rw[e3,h2]⟩
theorem Jla {V:Type} {g:V→V→Bool} {z:V} (hg:∀a b,g a b=true→a=b):∀{l:List V} {v u:V},bgOne g z l=some v→u∈l→u=v
 | [],_,_,_,h=>by simp at h
 | x::r,v,u,h,hu=>by
  have h:(bif r.all (fun u=>g u x) then some x else none)=some v:=h;cases hr:r.all fun u=>g u x with
  | false=>rw[hr] at h;cases h
  | true=>
   rw[hr] at h;cases h;rcases List.mem_cons.1 hu with hu | hu
   · exact hu
   · exact hg _ _ (List.all_eq_true.1 hr u hu)
theorem Jlb {V:Ty} {g:V.D→V.D→Bool} (hV:Jgc V=true) (hg:eqD V=some g):∀a b,g a b=true→a=b:=by
 intro a b h;cases V with
 | int k=>cases k<;>first | (cases hg;simpa using h) | cases hg
 | _=>cases hV
theorem Jkw (hE:EnvOk P E) (h:St N Z own β σ a w) {t:Nat} {K V:Ty} {vm vk:Re.V} {um uk:Value} (ht:E.mpt t=some (K,V)) (hm:Jac own w β σ.mem vm um) (hk:Jac own w β σ.mem vk uk)
 (he:execOp a.eval o=(do pure (.value (←Instr.lookup t um uk false)))) {r:Re.V×S} (hr:(Jh5 K V vm vk).run σ=some r):Did P N Z o a w r.2 r.1:=by
 obtain⟨tk,tv,q1,q2,q3,q4⟩:=hE.mpt t _ _ ht;have hTV:=hE.ty tv V q3;unfold Jh5 at hr;split at hr
 case h_2=>cases hr
 rename_i s ver τk k;simp only[M.run] at hr;split at hr
 case h_2=>cases hr
 rename_i ver' e' xs hen;split at hr
 case isFalse=>cases hr
 rename_i hver;obtain⟨hver,hK,hVt⟩:=hver;subst hver;split at hr
 case h_2=>cases hr
 rename_i xs' k' f g hxs hkk hf hg;obtain⟨e1,hxs⟩:=cast?_some hxs;obtain⟨e2,hkk⟩:=cast?_some hkk;cases e1;subst e2;have hxs:xs=xs':=hxs;have hkk:k=k':=hkk;subst hxs;subst hkk;obtain⟨v,hv,h9⟩:=Option.map_eq_some_iff.1 hr;subst h9;have hmm:=h.mems s;rw[hen] at hmm;obtain⟨rr,es,c,m1,m2,m3,m4,m5⟩:=hmm;have hum:um= .map (some rr):=(hm.2 _ _ _ hen).trans m1;have hkv:Jab own w τk uk k:=hk;obtain⟨k1,k2⟩:=hkv.enc m5.plain.1
 have hwide:(match P.underlying tk with | some (.array _ _) | some (.struct _)=>true | _=>false)=true:=by
  obtain⟨b,rfl,hb⟩:=JbW hK;obtain⟨fs,g1,_⟩:=(hE.ty tk _ q2).desc;rw[g1]
 have hfind:=run_findKey_eq (P:=P) w hwide uk es.toList
 have hrange:∀e∈es.toList,∃p:τk.D,e.key=JaW τk p∧Re.okD τk p:=fun e he=>by
  obtain⟨p,p1,p2,_⟩:=m5.mem e he;exact⟨p.1,p2,(m5.ok p p1).1⟩
 have hchk:=Jit (w:=w) hE q2 hK k2 es.isEmpty;rw[←k1] at hchk
 have hin:∀p∈xs,p.1=k→p.2∈bgGet f xs k:=fun p hp e=>by
  unfold bgGet;exact List.mem_map.2 ⟨p,List.mem_filter.2 ⟨hp,by rw[e];exact (JdK hK hf).2 rfl⟩,rfl⟩
 have hinj:∀{x y:τk.D},JaW τk x=JaW τk y→x=y:=by
  intro x y hxy;obtain⟨b,rfl,hb⟩:=JbW hK
  have:Ja4 b x=Ja4 b y:=by
   have h1:(JaW (.st b) x).cells=(JaW (.st b) y).cells:=by rw[hxy]
   simpa [JaW,mkV,Ja4,Value.cells,Ty.isAgg] using h1
  exact Jf0 (b:=b) (x:=x) (y:=y) hb this
 rcases JgZ (w:=w) hE hf q2 (q4 hK) hK k2 es.toList 0 hrange with ⟨g1,g2⟩ | ⟨j,e,g1,g2,g3⟩
 · rw[←k1] at g2
   rw[g2] at hfind
   have hnil:bgGet f xs k=[]:=by
    unfold bgGet;rw[List.map_eq_nil_iff,List.filter_eq_nil_iff];intro p hp hfp;obtain⟨e,e1,e2⟩:=m5.dom p hp;exact g1 e e1 (by rw[e2,(JdK hK hf).1 hfp])
   rw[hnil] at hv;cases hv;have hz:Jab own w V (mkV V (zeroC V)) V.zero:=Jab.mk hTV.isVal (Jat hTV.good)
   have hl:(Instr.lookup t um uk false).run P w= .ok (mkV V (zeroC V)) w:=by
    unfold Instr.lookup;simp only[hum,Sem.run_bind,run_underlying q1,MapKept.run_getObj_map m4,Sem.run_pure,Result.andThen_ok,hchk,hfind,hTV.zeroRun w,Bool.false_eq_true,if_false]
   exact Jae (exec_v he hl) h hz
 · rw[←k1] at g3 g2
   rw[g3,Nat.zero_add] at hfind;have hee:e∈es.toList:=List.mem_of_getElem? g1;obtain⟨p,p1,p2,p3⟩:=m5.mem e hee;have hpk:p.1=k:=hinj (by rw[←p2,g2,k1]);have hpv:=Jla (Jlb hVt hg) hv (hin p p1 hpk)
   have hl:(Instr.lookup t um uk false).run P w= .ok e.val w:=by
    unfold Instr.lookup;simp only[hum,Sem.run_bind,run_underlying q1,MapKept.run_getObj_map m4,Sem.run_pure,Result.andThen_ok,hchk,hfind,Bool.false_eq_true,if_false]
   refine Jae (exec_v he hl) h ?_;show Jab own w V e.val v;rw[←hpv,p3];exact Jab.ofEnc m5.plain.2.1 m5.plain.2.2.2 (m5.ok p p1).2
end
end Go.Re
