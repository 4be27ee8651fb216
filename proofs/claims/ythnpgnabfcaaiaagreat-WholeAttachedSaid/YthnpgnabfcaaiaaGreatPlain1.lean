/- Plain laws. -/
import Derived.Test.YthnpgnabfcaaiaaGreatXF
import Derived.Test.YthnpgnabfcaaiaaGreatXG
import Derived.Test.YthnpgnabfcaaiaaGreatLib4
namespace Go.Proofs.YthnpgnabfcaaiaaGreat
open Go Go.Re
set_option linter.unusedVariables false
set_option linter.unusedSimpArgs false
def Ok {α:Type} (G:α→Prop) (o:Option α):Prop:=∀y,o=some y→G y
theorem ok_some {α:Type} {G:α→Prop} {y:α} (h:G y):Ok G (some y):=fun _ e=>by cases e;exact h
theorem ok_none {α:Type} {G:α→Prop}:Ok G none:=fun _ e=>by cases e
theorem ok_bind {α β:Type} {G:β→Prop} {o:Option α} {k:α→Option β} (h:∀a,o=some a→Ok G (k a)):Ok G (o.bind k):=fun y e=>by
 obtain⟨a,h1,h2⟩:=Option.bind_eq_some_iff.1 e;exact h a h1 y h2
theorem ok_cond {α:Type} {G:α→Prop} {c:Bool} {a b:Option α} (h1:Ok G a) (h2:Ok G b):Ok G (bif c then a else b):=by cases c<;>assumption
theorem ok_jn {A R:Type} {G:R→Prop} {X:Option (A⊕R)} {k:A→Option R} (GA:A→Prop) (h1:Ok (Sum.elim GA G) X) (h2:∀a,GA a→Ok G (k a)):Ok G (jn X k):=fun y e=>by
 unfold jn at e;split at e
 · exact h2 _ (h1 _ rfl) y e
 · cases e;exact h1 _ rfl
 · cases e
theorem ok_use {α:Type} {G:α→Prop} {o:Option α} (h:Ok G o) {y:α} (e:o=some y):G y:=h y e
theorem clone_len {α:Type} {x y:List α} (h:cloneM x=some y):y=x:=by
 unfold cloneM at h;cases hc:decide (x.length≤lim) with
 | true=>rw[hc] at h;cases h;rfl
 | false=>rw[hc] at h;cases h
abbrev Ln (L:Nat) (l:List D102):Prop:=l.length=L
theorem attend0_len (L:Nat):∀n j,j.1.length=L→Ok (Sum.elim (Ln L) (Ln L)) (unit_Attend_L0 n j)
 | 0,_,_=>ok_none
 | n+1,j,h=>by
  unfold unit_Attend_L0;refine ok_cond (ok_jn (fun a=>a.1.length=L) ?_ fun a ha=>attend0_len L n _ ha) (ok_some h);refine ok_bind fun r4 _=>ok_cond (ok_some h) (ok_bind fun r5 h5=>ok_bind fun _ _=>ok_bind fun r6 _=>ok_some ?_);have h5:=clone_len h5;subst h5;show (List.set _ _ _).length=L;rw[List.length_set];exact h
theorem attend_len (x:List D102×Int×D41):Ok (Ln x.1.length) (unit_Attend x):=by
 unfold unit_Attend;refine ok_cond ?_ (ok_jn (Ln x.1.length) (attend0_len _ _ _ rfl) fun a ha=>ok_some ha);refine ok_bind fun r1 _=>ok_cond (ok_some rfl) (ok_bind fun r2 h2=>ok_bind fun _ _=>ok_bind fun r3 _=>ok_some ?_);have h2:=clone_len h2;subst h2;exact List.length_set ..
theorem eject_len (x:List D102×Int):Ok (Ln x.1.length) (unit_Eject x):=by
 unfold unit_Eject;refine ok_bind fun r1 _=>ok_cond (ok_some rfl) (ok_bind fun r2 h2=>ok_bind fun _ _=>ok_bind fun x4 _=>ok_bind fun r5 _=>ok_bind fun x7 h7=>ok_some ?_);have h2:=clone_len h2;subst h2;obtain⟨z6,_,h7⟩:=Option.bind_eq_some_iff.1 h7;cases h7;exact List.length_set ..
theorem switch_len (x:List D102×Int×Bool):Ok (Ln x.1.length) (unit_Switch x):=by
 unfold unit_Switch;refine ok_bind fun r1 _=>ok_cond (ok_some rfl) (ok_bind fun r2 h2=>ok_bind fun _ _=>ok_bind fun x4 _=>ok_bind fun r5 _=>ok_bind fun x7 h7=>ok_some ?_);have h2:=clone_len h2;subst h2;obtain⟨z6,_,h7⟩:=Option.bind_eq_some_iff.1 h7;cases h7;exact List.length_set ..
theorem keep_len (x:List D102×Int×D41):Ok (Ln x.1.length) (unit_Keep x):=by
 unfold unit_Keep;refine ok_bind fun r1 _=>ok_cond (ok_some rfl) (ok_bind fun r2 h2=>ok_bind fun _ _=>ok_bind fun x4 h4=>ok_some ?_);have h2:=clone_len h2;subst h2;obtain⟨z6,_,h4⟩:=Option.bind_eq_some_iff.1 h4;cases h4;exact List.length_set ..
theorem take_len (x:List D102×Int×D43×List (BitVec 8)):Ok (fun y=>Ln x.1.length y.1) (unit_Take x):=by
 unfold unit_Take;refine ok_jn (fun a=>a.2.2.length=x.1.length) ?_ fun a ha=>ok_some ha;refine ok_bind fun r1 _=>ok_cond (ok_some rfl) (ok_bind fun r2 h2=>ok_bind fun _ _=>ok_bind fun x4 _=>ok_bind fun r5 _=>ok_some ?_);have h2:=clone_len h2;subst h2;exact List.length_set ..
theorem finish_len (x:List D102×Int×D43):Ok (fun y=>Ln x.1.length y.1) (unit_Finish x):=by
 unfold unit_Finish;refine ok_bind fun _ _=>ok_jn (fun a=>a.2.2.length=x.1.length) ?_ fun a ha=>ok_some ha;refine ok_bind fun r1 _=>ok_cond (ok_some rfl) (ok_bind fun r2 h2=>ok_bind fun _ _=>ok_bind fun x4 _=>ok_bind fun r5 _=>ok_some ?_);have h2:=clone_len h2;subst h2;exact List.length_set ..
theorem command_len (x:List D102×Int×List (BitVec 8)):Ok (fun y=>Ln x.1.length y.1) (unit_Command x):=by
 unfold unit_Command;refine ok_bind fun _ _=>ok_cond (ok_bind fun _ _=>ok_bind fun _ _=>ok_cond (ok_bind fun _ _=>ok_some rfl) ok_none) (ok_jn (fun a=>a.1.length=x.1.length) ?_ fun a ha=>ok_some ha);refine ok_bind fun r1 _=>ok_cond (ok_some rfl) (ok_bind fun r2 h2=>ok_bind fun _ _=>ok_bind fun r5 _=>ok_some ?_);have h2:=clone_len h2;subst h2;exact List.length_set ..
end Go.Proofs.YthnpgnabfcaaiaaGreat
namespace Go.Proofs.YthnpgnabfcaaiaaGreat
open Go Go.Re
set_option linter.unusedVariables false
set_option linter.unusedSimpArgs false
theorem ok_set {α:Type} {l:List α} {i k:Nat} {f:α→α}:Ok (fun y:List α=>y.length=l.length) ((l[i]?).bind fun z=>some (l.set k (f z))):=
 ok_bind fun _ _=>ok_some (List.length_set ..)
theorem ok_both {α:Type} {G:α→Prop} {o:Option α} (h:Ok G o):Ok G ((fun r:Option α=>both r r) o):=by
 show Ok G (both o o);rw[both_self];exact h
theorem uTake0_len (L:Nat):∀n j,j.2.1.1.2.1.length=L→Ok (Sum.elim (fun a=>a.2.1.2.1.length=L) (fun _=>False)) (uas_Take_L0 n j)
 | 0,_,_=>ok_none
 | n+1,j,h=>by
  have ih:=uTake0_len L n;unfold uas_Take_L0;refine ok_bind fun b _=>ok_cond ?_ (ok_some h);refine ok_bind fun _ _=>ok_bind fun _ _=>ok_cond (ih _ h) ?_;refine ok_bind fun _ _=>ok_jn (fun a=>a.2.2.2.2.2.1.length=L) ?_ fun a ha=>?_
  · refine ok_both (ok_bind fun _ _=>ok_bind fun _ _=>ok_cond (ok_bind fun _ _=>ok_bind fun _ _=>ok_cond (ok_bind fun _ _=>ok_some h) ok_none) ?_)
    refine ok_jn (fun a=>a.2.2.2.2.1.length=L) ?_ fun a ha=>ok_some ha;refine ok_bind fun _ _=>ok_cond (ok_some h) (ok_bind fun r hr=>?_);have hr:=clone_len hr;subst hr;refine ok_jn (fun a=>a.2.2.2.2.2.1.length=L) ?_ fun a ha=>ok_some ha;refine ok_bind fun _ _=>ok_bind fun _ _=>ok_bind fun _ _=>ok_cond ?_ (ok_bind fun _ _=>ok_cond ?_ ?_)
    · exact ok_bind fun _ _=>ok_bind fun _ _=>ok_bind fun y hy=>ok_bind fun z hz=>ok_bind fun _ _=>ok_some (((ok_use ok_set hz).trans (ok_use ok_set hy)).trans h)
    · refine ok_bind fun y hy=>?_
      have hy:=(ok_use ok_set hy).trans h;exact ok_bind fun _ _=>ok_bind fun _ _=>ok_cond (ok_bind fun _ _=>ok_some hy) (ok_bind fun _ _=>ok_bind fun _ _=>ok_some ((List.length_set ..).trans hy))
    · exact ok_bind fun _ _=>ok_bind fun _ _=>ok_cond (ok_bind fun _ _=>ok_some h) (ok_bind fun _ _=>ok_bind fun _ _=>ok_some ((List.length_set ..).trans h))
  · refine ok_cond (ok_jn (fun a=>a.2.1.1.2.1.length=L) (ok_bind fun _ _=>ok_cond (ok_some ha) (ok_some ha)) fun a ha=>?_) (ok_bind fun _ _=>ok_bind fun _ _=>ok_cond ?_ ?_)
    · exact ok_bind fun _ _=>ok_bind fun _ _=>ok_bind fun _ _=>ok_bind fun _ _=>ok_bind fun _ _=>ok_cond (ih _ ha) (ok_bind fun _ _=>ok_bind fun _ _=>ok_bind fun _ _=>ok_bind fun _ _=>ih _ ha)
    · exact ok_bind fun _ _=>ok_bind fun _ _=>ok_bind fun _ _=>ok_bind fun _ _=>ih _ ha
    · exact ok_cond (ok_bind fun _ _=>ih _ ha) (ok_bind fun _ _=>ih _ ha)
theorem uSent0_len (L:Nat):∀n j,j.2.1.1.2.1.length=L→Ok (Sum.elim (fun a=>a.2.1.2.1.length=L) (fun _=>False)) (uas_Sent_L0 n j)
 | 0,_,_=>ok_none
 | n+1,j,h=>by
  unfold uas_Sent_L0;exact ok_bind fun b _=>ok_cond (ok_bind fun _ _=>ok_bind fun _ _=>ok_cond (uSent0_len L n _ h) ok_none) (ok_some h)
theorem uComes0_len (L:Nat):∀n j,j.2.1.1.2.1.length=L→Ok (Sum.elim (fun a=>a.2.1.2.1.length=L) (fun _=>False)) (uas_Comes_L0 n j)
 | 0,_,_=>ok_none
 | n+1,j,h=>by
  unfold uas_Comes_L0;exact ok_bind fun b _=>ok_cond (ok_bind fun _ _=>ok_bind fun _ _=>ok_cond (uComes0_len L n _ h) ok_none) (ok_some h)
theorem ok_fst {A B:Type} {P:A→Prop} {G:B→Prop} {o:Option (A⊕B)} (h:Ok (Sum.elim P (fun _=>False)) o):Ok (Sum.elim P G) o:=fun y e=>by
 have:=h y e;cases y with
 | inl a=>exact this
 | inr b=>exact this.elim
theorem uTake_len (x:D49×(List D102)×D22×(List (BitVec 8))):Ok (fun y=>y.2.length=x.2.1.length) (uas_Take x):=by
 unfold uas_Take;refine ok_bind fun _ _=>ok_bind fun _ _=>ok_jn (fun a=>a.2.1.2.1.length=x.2.1.length) ?_ fun a ha=>ok_jn (fun a=>a.2.1.2.1.length=x.2.1.length) (ok_fst (uTake0_len _ _ _ ha)) fun a ha=>ok_some ha;refine ok_bind fun _ _=>ok_cond ok_none (ok_bind fun _ _=>ok_cond ?_ (ok_bind fun _ _=>ok_bind fun _ _=>ok_bind fun _ _=>ok_some rfl));refine ok_bind fun _ _=>ok_cond (ok_bind fun _ _=>ok_bind fun _ _=>ok_some rfl) (ok_bind fun _ _=>ok_cond ok_none (ok_cond (ok_bind fun _ _=>ok_bind fun _ _=>ok_some rfl) (ok_bind fun _ _=>ok_some rfl)))
theorem uSent_len (x:D49×(List D102)×D22×Int):Ok (fun y=>y.2.length=x.2.1.length) (uas_Sent x):=by
 unfold uas_Sent;refine ok_bind fun _ _=>ok_cond (ok_some rfl) (ok_bind fun _ _=>ok_bind fun _ _=>ok_bind fun _ _=>ok_bind fun _ _=>ok_bind fun _ _=>ok_bind fun _ _=>ok_bind fun _ _=>ok_bind fun _ _=>ok_bind fun _ _=>?_);refine ok_jn (fun a=>a.2.1.2.1.length=x.2.1.length) (ok_bind fun _ _=>ok_cond ?_ (ok_some rfl)) fun a ha=>ok_some ha;refine ok_jn (fun a=>a.2.1.2.1.length=x.2.1.length) ?_ fun a ha=>ok_jn (fun a=>a.2.1.2.1.length=x.2.1.length) (ok_fst (uSent0_len _ _ _ ha)) fun a ha=>ok_some ha;refine ok_jn (fun a=>a.2.1.1.2.1.length=x.2.1.length) (ok_bind fun _ _=>ok_cond (ok_some rfl) (ok_some rfl)) fun a ha=>?_;exact ok_bind fun _ _=>ok_bind fun _ _=>ok_bind fun _ _=>ok_bind fun _ _=>ok_bind fun _ _=>ok_cond (ok_some ha) (ok_bind fun _ _=>ok_bind fun _ _=>ok_bind fun _ _=>ok_bind fun _ _=>ok_some ha)
theorem uComes_len (x:D49×(List D102)×D22×D61):Ok (fun y=>y.2.length=x.2.1.length) (uas_Comes x):=by
 unfold uas_Comes;refine ok_bind fun _ _=>ok_cond (ok_some rfl) (ok_bind fun _ _=>ok_bind fun _ _=>ok_bind fun _ _=>ok_bind fun _ _=>ok_bind fun _ _=>ok_bind fun r8 h8=>ok_bind fun _ _=>?_);have h8:r8.1.length=x.2.1.length:=ok_use (take_len _) h8;refine ok_jn (fun a=>a.2.1.2.1.length=x.2.1.length) (ok_bind fun _ _=>ok_bind fun _ _=>ok_cond (ok_bind fun _ _=>ok_bind fun _ _=>ok_bind fun r19 h19=>?_) (ok_some h8)) fun a ha=>ok_some ha;have h19:r19.1.length=x.2.1.length:=(ok_use (finish_len _) h19).trans h8;refine ok_jn (fun a=>a.2.1.2.1.length=x.2.1.length) ?_ fun a ha=>ok_jn (fun a=>a.2.1.2.1.length=x.2.1.length) (ok_fst (uComes0_len _ _ _ ha)) fun a ha=>ok_some ha;refine ok_jn (fun a=>a.2.1.1.2.1.length=x.2.1.length) (ok_bind fun _ _=>ok_cond (ok_some h19) (ok_some h19)) fun a ha=>?_
 exact ok_bind fun _ _=>ok_bind fun _ _=>ok_bind fun _ _=>ok_bind fun _ _=>ok_bind fun _ _=>ok_cond (ok_some ha) (ok_bind fun _ _=>ok_bind fun _ _=>ok_bind fun _ _=>ok_bind fun _ _=>ok_some ha)
end Go.Proofs.YthnpgnabfcaaiaaGreat
namespace Go.Proofs.YthnpgnabfcaaiaaGreat
open Go Go.Re
set_option linter.unusedVariables false
set_option linter.unusedSimpArgs false
abbrev Ll (L:Nat) (x:D277):Prop:=x.2.1.length=L
theorem lend_len (L:Nat) (x:D277) (h:Ll L x):Ok (Ll L) (bulk_line_end x):=by
 unfold bulk_line_end;refine ok_jn (Ll L) (ok_cond ?_ (ok_some h)) fun a ha=>ok_bind fun r6 h6=>ok_some ((ok_use (keep_len _) h6).trans ha);refine ok_bind fun r1 h1=>?_;have h1:r1.1.length=L:=(ok_use (finish_len _) h1).trans h;refine ok_jn (Ll L) ?_ fun a ha=>ok_some ha;exact ok_bind fun _ _=>ok_cond (ok_some h1) (ok_some h1)
theorem lend_use {L:Nat} {x r:D277} (h:bulk_line_end x=some r) (hx:Ll L x):Ll L r:=lend_len L x hx r h
theorem wrapper_len (L:Nat) (x:D277×List (BitVec 8)) (h:Ll L x.1):Ok (Ll L) (bulk_line_wrapper x):=by
 unfold bulk_line_wrapper;refine ok_bind fun r1 _=>ok_cond (ok_some h) (ok_bind fun r2 h2=>ok_bind fun _ _=>ok_bind fun r4 _=>?_);have h2:r2.1.length=L:=(ok_use (command_len _) h2).trans h;refine ok_jn (fun a=>Ll L a.1) (ok_cond (ok_some h2) (ok_bind fun _ _=>ok_cond (ok_some h2) (ok_some h2))) fun a ha=>?_;refine ok_jn (fun a=>Ll L a.1) (ok_cond (ok_some ha) (ok_some ha)) fun a ha=>?_;refine ok_cond (ok_bind fun _ _=>ok_bind fun _ _=>ok_some ha) (ok_cond (ok_bind fun r9 h9=>ok_some (lend_use h9 ha)) (ok_some ha))
theorem goes_len (L:Nat) (x:D277) (h:Ll L x):Ok (Ll L) (bulk_line_goes x):=by
 unfold bulk_line_goes;refine ok_bind fun _ _=>ok_bind fun _ _=>ok_bind fun _ _=>ok_bind fun r3 h3=>?_;have h3:Ll L r3:=by unfold bulk_line_moved at h3;cases h3;exact h
 refine ok_cond (ok_some h3) (ok_bind fun _ _=>ok_cond (ok_bind fun r h=>ok_some (lend_use h h3)) (ok_bind fun _ _=>ok_cond (ok_bind fun r h=>ok_some (lend_use h h3)) (ok_some h3)))
theorem bTake_len (x:D45×List D102×List (BitVec 8)×Bool):Ok (fun y=>y.2.length=x.2.1.length) (bulk_Take x):=by
 unfold bulk_Take;refine ok_bind fun _ _=>ok_cond (ok_some rfl) (ok_jn (fun a=>Ll x.2.1.length a.2.2) ?_ fun a ha=>ok_some ha);exact ok_cond (ok_bind fun r h=>ok_some (ok_use (wrapper_len x.2.1.length _ rfl) h)) (ok_cond ok_none (ok_some rfl))
theorem bSent_len (x:D45×List D102×Bool):Ok (fun y=>y.2.length=x.2.1.length) (bulk_Sent x):=by
 unfold bulk_Sent;refine ok_bind fun _ _=>ok_cond (ok_some rfl) (ok_jn (fun a=>Ll x.2.1.length a.2.2) ?_ fun a ha=>ok_some ha);exact ok_cond (ok_some rfl) (ok_cond (ok_bind fun r h=>ok_some (ok_use (goes_len x.2.1.length _ rfl) h)) (ok_some rfl))
abbrev Pre (B:Type):Type:=D51×D57×(D111×(List D114×Unit))×B
def Kp (c:D22) (L:Nat) (g:D51) (e:List D114):Prop:=g.1=c∧g.2.1.length=L∧e.length=4
abbrev Kb (c:D22) (L:Nat) {B:Type} (a:Pre B):Prop:=Kp c L a.2.2.1.1.1 a.2.2.1.2.1
abbrev Ka (c:D22) (L:Nat) (a:D51×D57×(D111×(List D114×Unit))):Prop:=Kp c L a.2.2.1.1 a.2.2.2.1
abbrev Kg (c:D22) (L:Nat) (g:D51):Prop:=Kp c L g g.2.2.2.2.1
theorem step0_ok (c:D22) (L:Nat) {G:_→Prop}:∀n j,Kp c L j.2.2.1.1.1 j.2.2.1.2.1→Ok (Sum.elim (Kb c L) G) (gadget_Step_L0 n j)
 | 0,_,_=>ok_none
 | n+1,j,h=>by
  unfold gadget_Step_L0;refine ok_cond (ok_bind fun _ _=>ok_bind fun _ _=>ok_bind fun _ _=>ok_bind fun _ _=>ok_bind fun _ _=>step0_ok c L n _ ⟨h.1,h.2.1,?_⟩) (ok_some h);show (List.set _ _ _).length=4;rw[List.length_set];exact h.2.2
theorem set4 {l:List D114} (h:l.length=4) (i:Nat) (e:D114):(l.set i e).length=4:=by rw[List.length_set];exact h
theorem stepK_ok (x:D51×D61) (hr:x.1.2.2.2.2.1.length=4):Ok (fun y=>Kg x.1.1 x.1.2.1.length y.1) (gadget_StepK x true):=by
 obtain⟨c,hc⟩:∃c,c=x.1.1:=⟨_,rfl⟩;obtain⟨L,hL⟩:∃L,L=x.1.2.1.length:=⟨_,rfl⟩;rw[←hc,←hL];unfold gadget_StepK gadget_StepKX;refine ok_bind fun b3 _=>ok_cond (ok_some ⟨hc.symm,hL.symm,hr⟩) (ok_bind fun r4 h4=>?_);have h4:=clone_len h4;subst h4;have hK:Kp c L x.1 x.1.2.2.2.2.1:=⟨hc.symm,hL.symm,hr⟩;refine ok_jn (Ka c L) ?_ fun a ha=>ok_some ha;refine ok_cond (ok_bind fun _ _=>ok_bind fun _ _=>ok_bind fun r h=>ok_some ⟨hc.symm,(ok_use (attend_len _) h).trans hL.symm,rfl⟩) ?_;refine ok_cond (ok_bind fun _ _=>ok_none) (ok_cond ok_none ?_);refine ok_cond (ok_bind fun r h=>ok_some ⟨hc.symm,(ok_use (eject_len _) h).trans hL.symm,hr⟩) ?_;refine ok_cond (ok_bind fun r h=>ok_some ⟨hc.symm,(ok_use (switch_len _) h).trans hL.symm,hr⟩) ?_;refine ok_jn (Kb c L) ?_ fun a ha=>ok_some ha
 refine ok_cond (ok_some hK) (ok_cond (ok_cond (ok_bind fun r9 _=>ok_cond (ok_some hK) (ok_bind fun _ _=>ok_bind fun r11 _=>ok_bind fun r12 _=>ok_jn (Kb c L) ?_ fun a ha=>ok_some ha))
  (ok_cond (ok_bind fun _ _=>ok_some hK) (ok_jn (Kb c L) (ok_bind fun _ _=>ok_cond (ok_bind fun _ _=>ok_some hK) (ok_some hK)) fun a ha=>ok_some ha))) ?_)
 · refine ok_cond (ok_bind fun _ _=>ok_cond (ok_bind fun _ _=>ok_bind fun _ _=>ok_bind fun _ _=>ok_bind fun _ _=>ok_some ⟨hc.symm,hL.symm,set4 hr _ _⟩) (ok_some hK)) ?_
   refine ok_cond (ok_bind fun _ _=>ok_bind fun _ _=>ok_bind fun _ _=>ok_bind fun _ _=>ok_some ⟨hc.symm,hL.symm,set4 hr _ _⟩) ?_;refine ok_cond (ok_bind fun _ _=>ok_some ⟨hc.symm,hL.symm,rfl⟩) (ok_cond (ok_jn (Kb c L) (step0_ok c L _ _ hK) fun a ha=>ok_some ha) (ok_some hK))
 · refine ok_bind fun _ _=>ok_cond (ok_some hK) (ok_jn (Kb c L) (ok_bind fun _ _=>ok_cond (ok_some hK) (ok_some hK)) fun a ha=>?_)
   refine ok_cond (ok_cond ?_ ?_) (ok_cond ?_ (ok_cond ?_ (ok_cond ?_ ?_)))
   · refine ok_bind fun _ _=>ok_bind fun _ _=>ok_bind fun _ _=>ok_bind fun r37 _=>ok_bind fun _ _=>ok_jn (Kb c L) ?_ fun a ha=>ok_some ha
     refine ok_cond (ok_bind fun r38 h38=>?_) (ok_some ⟨ha.1,ha.2.1,set4 ha.2.2 _ _⟩);have h38:r38.2.length=L:=(ok_use (bTake_len _) h38).trans ha.2.1;refine ok_jn (Kb c L) ?_ fun a ha=>?_
     · exact ok_cond (ok_bind fun _ _=>ok_bind fun _ _=>ok_bind fun _ _=>ok_bind fun _ _=>ok_some ⟨ha.1,h38,set4 (set4 ha.2.2 _ _) _ _⟩) (ok_some ⟨ha.1,h38,set4 ha.2.2 _ _⟩)
     · exact ok_cond (ok_bind fun _ _=>ok_bind fun _ _=>ok_bind fun _ _=>ok_bind fun _ _=>ok_some ⟨ha.1,ha.2.1,set4 ha.2.2 _ _⟩) (ok_some ha)
   · refine ok_bind fun _ _=>ok_bind fun _ _=>ok_bind fun _ _=>ok_bind fun r37 _=>ok_bind fun _ _=>ok_jn (Kb c L) ?_ fun a ha=>ok_some ha
     refine ok_cond (ok_bind fun r38 h38=>?_) (ok_some ⟨ha.1,ha.2.1,set4 ha.2.2 _ _⟩);have h38:r38.2.length=L:=(ok_use (bSent_len _) h38).trans ha.2.1;refine ok_jn (Kb c L) ?_ fun a ha=>?_
     · exact ok_cond (ok_bind fun _ _=>ok_bind fun _ _=>ok_bind fun _ _=>ok_bind fun _ _=>ok_some ⟨ha.1,h38,set4 (set4 ha.2.2 _ _) _ _⟩) (ok_some ⟨ha.1,h38,set4 ha.2.2 _ _⟩)
     · exact ok_cond (ok_bind fun _ _=>ok_bind fun _ _=>ok_bind fun _ _=>ok_bind fun _ _=>ok_some ⟨ha.1,ha.2.1,set4 ha.2.2 _ _⟩) (ok_some ha)
   · refine ok_bind fun _ _=>ok_bind fun _ _=>ok_bind fun _ _=>ok_bind fun r _=>ok_bind fun _ _=>ok_jn (Kb c L) ?_ fun a ha=>ok_some ha
     exact ok_cond (ok_bind fun q hq=>ok_some ⟨ha.1,(ok_use (uSent_len _) hq).trans ha.2.1,set4 ha.2.2 _ _⟩) (ok_some ⟨ha.1,ha.2.1,set4 ha.2.2 _ _⟩)
   · refine ok_bind fun _ _=>ok_bind fun _ _=>ok_bind fun _ _=>ok_bind fun r _=>ok_bind fun _ _=>ok_jn (Kb c L) ?_ fun a ha=>ok_some ha
     exact ok_cond (ok_bind fun q hq=>ok_some ⟨ha.1,ha.2.1,set4 ha.2.2 _ _⟩) (ok_some ⟨ha.1,ha.2.1,set4 ha.2.2 _ _⟩)
   · refine ok_bind fun _ _=>ok_bind fun _ _=>ok_bind fun _ _=>ok_bind fun r _=>ok_bind fun _ _=>ok_jn (Kb c L) ?_ fun a ha=>ok_some ha
     exact ok_cond (ok_bind fun q hq=>ok_some ⟨ha.1,(ok_use (uComes_len _) hq).trans ha.2.1,set4 ha.2.2 _ _⟩) (ok_some ⟨ha.1,ha.2.1,set4 ha.2.2 _ _⟩)
   · refine ok_bind fun _ _=>ok_bind fun _ _=>ok_bind fun _ _=>ok_bind fun r _=>ok_bind fun _ _=>ok_jn (Kb c L) ?_ fun a ha=>ok_some ha
     exact ok_cond (ok_bind fun q hq=>ok_some ⟨ha.1,(ok_use (uTake_len _) hq).trans ha.2.1,set4 ha.2.2 _ _⟩) (ok_some ⟨ha.1,ha.2.1,set4 ha.2.2 _ _⟩)
end Go.Proofs.YthnpgnabfcaaiaaGreat
namespace Go.Proofs.YthnpgnabfcaaiaaGreat
open Go Go.Re
set_option linter.unusedVariables false
set_option linter.unusedSimpArgs false
def Sm {α:Type} (G:α→Prop) (o o':Option α):Prop:=o=o'∧Ok G o'
theorem sm_some {α:Type} {G:α→Prop} {y:α} (h:G y):Sm G (some y) (some y):=⟨rfl,ok_some h⟩
theorem sm_bind {α β:Type} {GA:α→Prop} {G:β→Prop} {o o':Option α} {k k':α→Option β} (h:Sm GA o o') (hk:∀a,GA a→Sm G (k a) (k' a)):Sm G (o.bind k) (o'.bind k'):=by
 obtain⟨rfl,h⟩:=h;cases o with
 | none=>exact⟨rfl,ok_none⟩
 | some a=>exact hk a (h a rfl)
theorem sm_bindr {α β:Type} {G:β→Prop} {o:Option α} {k k':α→Option β} (hk:∀a,o=some a→Sm G (k a) (k' a)):Sm G (o.bind k) (o.bind k'):=by
 cases o with
 | none=>exact⟨rfl,ok_none⟩
 | some a=>exact hk a rfl
theorem sm_cond {α:Type} {G:α→Prop} {c:Bool} {a b a' b':Option α} (h1:Sm G a a') (h2:Sm G b b'):Sm G (bif c then a else b) (bif c then a' else b'):=by cases c<;>assumption
theorem sm_jn {A R:Type} {G:R→Prop} {X X':Option (A⊕R)} {k k':A→Option R} (GA:A→Prop) (h1:Sm (Sum.elim GA G) X X') (h2:∀a,GA a→Sm G (k a) (k' a)):Sm G (jn X k) (jn X' k'):=by
 obtain⟨rfl,h⟩:=h1;cases X with
 | none=>exact⟨rfl,ok_none⟩
 | some s=>
  cases s with
  | inl a=>exact h2 a (h _ rfl)
  | inr r=>exact⟨rfl,ok_some (h _ rfl)⟩
def Good (c:D22) (L:Nat):Prop:=∀g,Kg c L g→gadget_Right g=some true
section
variable {c:D22} {L:Nat}
theorem step_sm (H:Good c L) (x:D51×D61) (h:Kg c L x.1):Sm (fun y=>Kg c L y.1) (gadget_Step x) (gadget_StepT x):=by
 refine⟨?_,?_⟩
 · unfold gadget_Step
   rw[H _ h];rfl
 · have:=stepK_ok x h.2.2
   rw[h.1,h.2.1] at this;exact this
theorem all0_sm (H:Good c L):∀n j,Kg c L j.2.1→Sm (Sum.elim (fun a=>Kg c L a.1) (fun a=>Kg c L a.1)) (reticuletop_all_L0 n j) (reticuletop_all_L0T n j)
 | 0,_,_=>⟨rfl,ok_none⟩
 | n+1,j,h=>by
  unfold reticuletop_all_L0 reticuletop_all_L0T;refine sm_cond (sm_bindr fun x1 _=>sm_bind (step_sm H _ h) fun r2 h2=>sm_bindr fun b _=>all0_sm H n _ h2) (sm_some h)
theorem all_sm (H:Good c L) (x:D51×List D61) (h:Kg c L x.1):Sm (fun y=>Kg c L y.1) (reticuletop_all x) (reticuletop_allT x):=by
 unfold reticuletop_all reticuletop_allT;exact sm_jn (fun a=>Kg c L a.1) (all0_sm H _ _ h) fun a ha=>sm_some ha
abbrev Kx (c:D22) (L:Nat) (x:D76):Prop:=Kg c L x.1
theorem clear_sm (H:Good c L) (x:D76×Int) (h:Kx c L x.1):Sm (fun y=>Kx c L y.1) (reticuletop_line_clear x) (reticuletop_line_clearT x):=by
 unfold reticuletop_line_clear reticuletop_line_clearT;exact sm_bindr fun _ _=>sm_bind (all_sm H _ h) fun r hr=>sm_some hr
theorem lost_k {x:D76} (h:Kx c L x) {r:D76×Bool} (e:reticuletop_line_lost x=some r):Kx c L r.1:=by
 unfold reticuletop_line_lost at e;obtain⟨b,_,e⟩:=Option.bind_eq_some_iff.1 e;cases e;exact h
theorem send_sm (H:Good c L) (x:D76×D61) (h:Kx c L x.1):Sm (fun y=>Kx c L y.1) (reticuletop_line_send x) (reticuletop_line_sendT x):=by
 unfold reticuletop_line_send reticuletop_line_sendT;refine sm_bindr fun r1 h1=>sm_bind (step_sm H _ (lost_k h h1)) fun r2 h2=>sm_jn (fun a=>Kx c L a.1) ?_ fun a ha=>sm_some ha;exact sm_bindr fun _ _=>sm_cond (sm_bind (step_sm H _ h2) fun r4 h4=>sm_some h4) (sm_some h2)
theorem ask_sm (H:Good c L) (x:D76×Int×Int) (h:Kx c L x.1):Sm (fun y=>Kx c L y.1) (reticuletop_line_ask x) (reticuletop_line_askT x):=by
 unfold reticuletop_line_ask reticuletop_line_askT;refine sm_bindr fun _ _=>sm_bindr fun r2 h2=>sm_jn (fun a=>Kx c L a.1) ?_ fun a ha=>sm_bind (step_sm H _ ha) fun r hr=>sm_some hr;exact sm_cond (sm_bind (step_sm H _ (lost_k h h2)) fun r hr=>sm_some hr) (sm_some (lost_k h h2))
theorem command0_sm (H:Good c L):∀n j,Kx c L j.2.1→Sm (Sum.elim (fun a=>Kx c L a.1) (fun a=>Kx c L a.1)) (reticuletop_line_command_L0 n j) (reticuletop_line_command_L0T n j)
 | 0,_,_=>⟨rfl,ok_none⟩
 | n+1,j,h=>by
  unfold reticuletop_line_command_L0 reticuletop_line_command_L0T;refine sm_cond (sm_jn (fun a=>Kx c L a.2.1) ?_ fun a ha=>command0_sm H n _ ha) (sm_some h);refine sm_bindr fun b9 _=>sm_cond (sm_bindr fun r10 _=>sm_bindr fun r11 _=>sm_bind (send_sm H _ h) fun r12 h12=>sm_bindr fun _ _=>sm_cond (sm_some h12) (sm_some h12)) ?_;refine sm_bind (ask_sm H _ h) fun r13 h13=>sm_cond (sm_cond (sm_bindr fun _ _=>sm_some h13) (sm_bindr fun _ _=>sm_some h13)) ?_;exact sm_cond (sm_bind (clear_sm H _ h13) fun r15 h15=>sm_cond (sm_some h15) (sm_some h15)) (sm_some h13)
theorem command_sm (H:Good c L) (x:D76×D36×List (BitVec 8)) (h:Kx c L x.1):Sm (fun y=>Kx c L y.1) (reticuletop_line_command x) (reticuletop_line_commandT x):=by
 unfold reticuletop_line_command reticuletop_line_commandT;refine sm_bindr fun r1 _=>sm_jn (fun a=>Kx c L a.2.1) ?_ fun a ha=>?_
 · exact sm_bindr fun _ _=>sm_bindr fun _ _=>sm_cond (sm_bind (clear_sm H _ h) fun r hr=>sm_some hr) (sm_some h)
 · refine sm_cond (sm_some ha) (sm_bindr fun r7 _=>sm_bind (send_sm H _ ha) fun r8 h8=>sm_cond (sm_some h8) ?_)
   exact sm_jn (fun a=>Kx c L a.1) (command0_sm H _ _ h8) fun a ha=>sm_some ha
theorem attached0_sm (H:Good c L):∀n j,Kx c L j.2.1→Sm (Sum.elim (fun a=>Kx c L a.1) (fun a=>Kx c L a.1)) (reticuletop_line_attached_L0 n j) (reticuletop_line_attached_L0T n j)
 | 0,_,_=>⟨rfl,ok_none⟩
 | n+1,j,h=>by
  unfold reticuletop_line_attached_L0 reticuletop_line_attached_L0T;refine sm_bindr fun b4 _=>sm_cond (sm_jn (fun a=>Kx c L a.2.1) ?_ fun a ha=>attached0_sm H n _ ha) (sm_some h);refine sm_bind (ask_sm H _ h) fun r5 h5=>sm_bindr fun b6 _=>sm_bindr fun b8 _=>sm_cond (sm_bindr fun _ _=>sm_some h5) (sm_cond (sm_some h5) (sm_cond ?_ ?_))
  · exact sm_bindr fun _ _=>sm_bindr fun _ _=>sm_bindr fun _ _=>sm_bind (send_sm H _ h5) fun r hr=>sm_some hr
  · exact sm_bind (ask_sm H _ h5) fun r hr=>sm_cond (sm_some hr) (sm_bindr fun _ _=>sm_some hr)
theorem attached_sm (H:Good c L) (x:D76×D86×List (BitVec 8)) (h:Kx c L x.1):Sm (fun y=>Kx c L y.1) (reticuletop_line_attached x) (reticuletop_line_attachedT x):=by
 unfold reticuletop_line_attached reticuletop_line_attachedT;exact sm_bindr fun _ _=>sm_bindr fun _ _=>sm_bind (send_sm H _ h) fun r hr=>sm_jn (fun a=>Kx c L a.1) (attached0_sm H _ _ hr) fun a ha=>sm_some ha
end
end Go.Proofs.YthnpgnabfcaaiaaGreat
namespace Go.Proofs.YthnpgnabfcaaiaaGreat
open Go Go.Re
set_option linter.unusedVariables false
set_option linter.unusedSimpArgs false
set_option maxRecDepth 100000
def Pall (P:Nat→Prop):Nat→Prop
 | 0=>True
 | n+1=>Pall P n∧P (n+1)
theorem pall_use {P:Nat→Prop}:∀{n:Nat},Pall P n→∀{b:Nat},1≤b→b≤n→P b
 | 0,_,_,h1,h2=>by omega
 | n+1,h,b,h1,h2=>by
  by_cases e:b=n+1
  · subst e;exact h.2
  · exact pall_use h.1 h1 (by omega)
theorem pall_succ {P:Nat→Prop} {n:Nat} (h:Pall P n) (h1:P (n+1)):Pall P (n+1):=⟨h,h1⟩
def zblk:List (BitVec 8):=List.replicate 64 0#8
def Md (b:Nat):D97:=(List.replicate b zblk,[],())
def fr (m:D97):D102:=((m,true,false,false,()),true,[(6,41,0,())],e41,())
def fr2 (m:D97):D102:=((m,true,false,false,()),true,[(6,41,0,()),(6,41,2,())],e41,())
def rdy (m:D97):D102:=((m,true,false,false,()),true,[],e41,())
def gg (c:D22) (u:List D102):D51:=(c,u,e27,e32,List.replicate 4 e114,e45,e49,())
def st (c:D22) (u:List D102) (t1 t2:Int) (l:List Bool) (n:Int):D76:=
 ((c,u,(5,0,false,1,0,()),e32,[(false,t1,false,0,nb,()),(false,t2,false,0,nb,()),e114,e114],e45,e49,()),l,n,())
def enu:List D61:=(host_Enumerate (5,0)).getD []
theorem enu_ok:host_Enumerate (5,0)=some enu:=by kernel_rfl
theorem alive27_ok:reticuletop_alive27 ()=some true:=by kernel_rfl
theorem bmake:Pall (fun b=>block_Make ((b:Int),0#8)=some (List.replicate b zblk,0)) 64:=by repeat (first | exact trivial | refine pall_succ ?_ (by show _=_;kernel_rfl))
theorem um_step {b:Nat} (h1:1≤b) (h64:b≤64) (n:Nat) (acc:List D102) (L i:Nat) (hi:i<L) (hL:L≤4) (ha:acc.length=i):
 unit_Make_L0 (n+1) ((b:Int),acc,(L:Int),(i:Int))=unit_Make_L0 n ((b:Int),acc++[fr (Md b)],(L:Int),((i+1:Nat):Int)):=by
 have hb:block_Make ((b:Int),0#8)=some (List.replicate b zblk,0):=pall_use bmake h1 h64;have hlt:((i:Int)<(L:Int)):=by omega
 have hw:w64 ((i:Int)+1)=((i+1:Nat):Int):=by rw[w64_in (by omega) (by omega)];omega
 conv=>lhs;unfold unit_Make_L0
 have hc:chk (decide (acc.length+([fr (Md b)]:List D102).length≤lim))=some ():=by
  unfold chk;rw[decide_eq_true (by rw[ha];simp[lim];omega)];rfl
 show (bif decide ((i:Int)<(L:Int)) then _ else _)=_;rw[decide_eq_true hlt,cond_true];show (block_Make ((b:Int),0#8)).bind _=_;rw[hb,Option.bind_some];show (chk (decide (acc.length+([fr (Md b)]:List D102).length≤lim))).bind _=_;rw[hc,Option.bind_some];show unit_Make_L0 n ((b:Int),acc++[fr (Md b)],(L:Int),w64 ((i:Int)+1))=_;rw[hw]
theorem um_loop {b:Nat} (h1:1≤b) (h64:b≤64) (L:Nat) (hL:L≤4):∀(k n i:Nat) (acc:List D102),i+k=L→acc.length=i→k<n →
 unit_Make_L0 n ((b:Int),acc,(L:Int),(i:Int))=some (Sum.inl (acc++List.replicate k (fr (Md b))))
 | 0,n+1,i,acc,hi,ha,_=>by
  unfold unit_Make_L0;show (bif decide ((i:Int)<(L:Int)) then _ else _)=_;rw[decide_eq_false (by omega),cond_false,List.replicate_zero,List.append_nil]
 | k+1,n+1,i,acc,hi,ha,hn=>by
  rw[um_step h1 h64 n acc L i (by omega) hL ha,um_loop h1 h64 L hL k n (i+1) _ (by omega) (by simp[ha]) (by omega),List.append_assoc];rfl
theorem within_eq (x:Int×Int):gadget_within x=some (decide (1≤x.1)&&decide (x.1≤x.2)):=by
 unfold gadget_within;cases decide (1≤x.1)<;>rfl
theorem may_eq (c:D22):gadget_may c=some ((decide (1≤c.1)&&decide (c.1≤4))&&((decide (1≤c.2.1)&&decide (c.2.1≤64))&&(decide (1≤c.2.2.1)&&decide (c.2.2.1≤8)))):=by
 unfold gadget_may;simp only[within_eq,Option.bind_some];cases (decide (1≤c.1)&&decide (c.1≤4))<;>cases (decide (1≤c.2.1)&&decide (c.2.1≤64))<;>rfl
structure Mc (c:D22) (L b:Nat):Prop where
 el:c.1=(L:Int)
 eb:c.2.1=(b:Int)
 l1:1≤L
 l4:L≤4
 b1:1≤b
 b64:b≤64
 may:gadget_may c=some true
theorem may_cases (c:D22):gadget_may c=some false∨∃L b,Mc c L b:=by
 rw[may_eq];cases h:(decide (1≤c.1)&&decide (c.1≤4))&&((decide (1≤c.2.1)&&decide (c.2.1≤64))&&(decide (1≤c.2.2.1)&&decide (c.2.2.1≤8))) with
 | false=>exact .inl rfl
 | true=>
  have hm:gadget_may c=some true:=by rw[may_eq,h]
  simp only[Bool.and_eq_true,decide_eq_true_eq] at h;obtain⟨⟨h1,h2⟩,⟨h3,h4⟩,_⟩:=h;exact .inr ⟨c.1.toNat,c.2.1.toNat,by omega,by omega,by omega,by omega,by omega,by omega,hm⟩
theorem make_ok {c:D22} {L b:Nat} (h:Mc c L b):gadget_Make c=some (gg c (List.replicate L (fr (Md b))),0):=by
 have hu:unit_Make (c.1,c.2.1)=some (List.replicate L (fr (Md b)),0):=by
  rw[h.el,h.eb];have:=h.l1;have:=h.l4;have:=h.b1;have:=h.b64;unfold unit_Make;show ((bif decide ((L:Int)<1) then some true else some (decide (4<(L:Int))):Option Bool).bind fun b1=>((bif b1 then some true else some (decide ((b:Int)<1)):Option Bool)).bind fun b2=>bif b2 then some (n102,1) else _)=_;rw[decide_eq_false (show ¬(L:Int)<1 by omega),cond_false,Option.bind_some,decide_eq_false (show ¬4<(L:Int) by omega),cond_false,Option.bind_some,decide_eq_false (show ¬(b:Int)<1 by omega),cond_false];show jn (unit_Make_L0 Big ((b:Int),[],(L:Int),((0:Nat):Int))) _=_;rw[um_loop h.b1 h.b64 L h.l4 L Big 0 [] (by omega) rfl (by unfold Big;omega)];rfl
 unfold gadget_Make;rw[h.may,Option.bind_some];show (unit_Make (c.1,c.2.1)).bind _=_;rw[hu];rfl
theorem good_of {c:D22} {L b:Nat} (h:Mc c L b):Good c L:=fun g hg=>by
 obtain⟨e1,e2,e3⟩:=hg;unfold gadget_Right;rw[e1,h.may,Option.bind_some,e2,e3,h.el];simp
theorem kg_gg {c:D22} {L:Nat} {u:List D102} (h:u.length=L):Kg c L (gg c u):=⟨rfl,h,rfl⟩
theorem kx_st {c:D22} {L:Nat} {u:List D102} (h:u.length=L) {t1 t2 n:Int} {l:List Bool}:Kx c L (st c u t1 t2 l n):=⟨rfl,h,rfl⟩
theorem played0 {c:D22} {L b:Nat} (h:Mc c L b):reticuletop_played (c,n61,0)=some (gg c (List.replicate L (fr (Md b))),true):=by
 unfold reticuletop_played;rw[make_ok h];rfl
theorem played_no {c:D22} (h:gadget_may c=some false):reticuletop_played (c,n61,0)=some (e51,false):=by
 unfold reticuletop_played gadget_Make;rw[h];rfl
end Go.Proofs.YthnpgnabfcaaiaaGreat
namespace Go.Proofs.YthnpgnabfcaaiaaGreat
open Go Go.Re
set_option linter.unusedVariables false
set_option linter.unusedSimpArgs false
set_option maxRecDepth 100000
abbrev Blk:Type:=List (BitVec 8)
structure Mok (m:D97) (b:Nat):Prop where
 len:m.1.length=b
 le:b≤64
 few:m.2.1.length≤64
 at_:∀d∈m.2.1,0≤d.1∧d.1<(b:Int)
def fl (D:List D195) (B:List Blk):List Blk:=D.foldl (fun B d=>B.set d.1.toNat d.2.1) B
theorem fl_len:∀(D:List D195) (B:List Blk),(fl D B).length=B.length
 | [],_=>rfl
 | d::D,B=>by
  show (fl D (B.set d.1.toNat d.2.1)).length=_;rw[fl_len D,List.length_set]
theorem there_eq (m:D97) (i:Int):cache_there (m,i)=some (decide (0≤i)&&decide (i<(m.1.length:Int))):=by
 unfold cache_there;show ((bif decide (0≤i) then _ else _:Option Bool).bind _)=_;cases decide (0≤i)<;>rfl
theorem idx_loop {m:D97} {b:Nat} (h:Mok m b):∀k n i,i+k=m.2.1.length→k<n →
 slices_IndexFunc_api_Dirty_c312_L0 n (m.2.1,m,(m.2.1.length:Int),(i:Int))=some (.inl ())
 | 0,n+1,i,hi,_=>by
  unfold slices_IndexFunc_api_Dirty_c312_L0;show (bif decide ((i:Int)<(m.2.1.length:Int)) then _ else _)=_;rw[decide_eq_false (by omega),cond_false]
 | k+1,n+1,i,hi,hn=>by
  have hf:=h.few;unfold slices_IndexFunc_api_Dirty_c312_L0;show (bif decide ((i:Int)<(m.2.1.length:Int)) then _ else _)=_;rw[decide_eq_true (by omega),cond_true];show (ix m.2.1 (i:Int)).bind _=_;have hi':i<m.2.1.length:=by omega
  rw[ix_at m.2.1 i hi',Option.bind_some];obtain⟨h1,h2⟩:=h.at_ _ (List.getElem_mem hi');unfold cache_Right_1;rw[there_eq,decide_eq_true h1,decide_eq_true (by rw[h.len];exact h2)];show slices_IndexFunc_api_Dirty_c312_L0 n (m.2.1,m,(m.2.1.length:Int),w64 ((i:Int)+1))=_;rw[w64_succ i (by omega),idx_loop h k n (i+1) (by omega) (by omega)]
theorem right_ok {m:D97} {b:Nat} (h:Mok m b):cache_Right m=some true:=by
 have:=h.len;have:=h.le;have:=h.few;unfold cache_Right;rw[decide_eq_true (by omega),cond_true,Option.bind_some,decide_eq_true (by omega),cond_true];unfold slices_ContainsFunc_api_Dirty_c312 slices_IndexFunc_api_Dirty_c312;show (((((jn (slices_IndexFunc_api_Dirty_c312_L0 Big (m.2.1,m,(m.2.1.length:Int),((0:Nat):Int))) _).bind _).bind _):Option Bool).bind _)=_;rw[idx_loop h m.2.1.length Big 0 (by omega) (big_lt (by omega))];rfl
theorem clone_ok {α:Type} {x:List α} (h:x.length≤2147483648):cloneM x=some x:=by
 unfold cloneM;rw[decide_eq_true (le_lim h)];rfl
abbrev z97:D97×(List (List (BitVec 8))×(List D195×Unit)):=(e97,[],n195,())
theorem all_loop (D:List D195) (b:Nat) (hD:D.length≤64) (h:∀d∈D,0≤d.1∧d.1<(b:Int)):∀k n i (B:List Blk),i+k=D.length→k<n→B.length=b →
 cache_All_L0 n (z97,((),()),(),z97,(e97,B,n195,()),D,(D.length:Int),(i:Int))=some (.inl (z97,z97,e97,fl (D.drop i) B,n195,()))
 | 0,n+1,i,B,hi,_,hB=>by
  unfold cache_All_L0;show (bif decide ((i:Int)<(D.length:Int)) then _ else _)=_;rw[decide_eq_false (by omega),cond_false,List.drop_of_length_le (by omega)];rfl
 | k+1,n+1,i,B,hi,hn,hB=>by
  have hi':i<D.length:=by omega
  obtain⟨h1,h2⟩:=h _ (List.getElem_mem hi');unfold cache_All_L0;show (bif decide ((i:Int)<(D.length:Int)) then _ else _)=_;rw[decide_eq_true (by omega),cond_true];show jn ((ix D (i:Int)).bind _) _=_;rw[ix_at D i hi',Option.bind_some];show jn ((chk (inLen D[i].1 B.length)).bind _) _=_;rw[chk_true (inLen_ok h1 (by rw[hB];exact h2)),Option.bind_some,jn_inl];show cache_All_L0 n (z97,((),()),(),z97,(e97,B.set D[i].1.toNat D[i].2.1,n195,()),D,(D.length:Int),w64 ((i:Int)+1))=_;rw[w64_succ i (by omega),all_loop D b hD h k n (i+1) _ (by omega) (by omega) (by rw[List.length_set];exact hB),List.drop_eq_getElem_cons hi'];rfl
theorem all_ok {m:D97} {b:Nat} (h:Mok m b):cache_All m=some (fl m.2.1 m.1):=by
 have:=h.len;have:=h.le;have:=h.few;unfold cache_All;rw[right_ok h,Option.bind_some];show (cloneM m.1).bind _=_;rw[clone_ok (by omega),Option.bind_some];show jn (cache_All_L0 Big (z97,((),()),(),z97,(e97,m.1,n195,()),m.2.1,(m.2.1.length:Int),((0:Nat):Int))) _=_;rw[all_loop m.2.1 b h.few h.at_ m.2.1.length Big 0 m.1 (by omega) (big_lt (by omega)) h.len];rfl
theorem write_loop (at_:Int) (x:Blk) (m:D97) (hf:m.2.1.length<64):∀k n i (B:List Blk) (A:List D195),i+k=m.2.1.length→k<n→A=m.2.1.take i →
 cache_Write_L0 n (x,e97,z97,((false,at_,m,()),()),(),z97,(e97,B,A,()),m.2.1,(m.2.1.length:Int),(i:Int))=some (.inl (x,e97,z97,z97,e97,B,m.2.1,()))
 | 0,n+1,i,B,A,hi,_,hA=>by
  unfold cache_Write_L0;show (bif decide ((i:Int)<(m.2.1.length:Int)) then _ else _)=_;rw[decide_eq_false (by omega),cond_false,hA,List.take_of_length_le (by omega)]
 | k+1,n+1,i,B,A,hi,hn,hA=>by
  have hi':i<m.2.1.length:=by omega
  unfold cache_Write_L0;show (bif decide ((i:Int)<(m.2.1.length:Int)) then _ else _)=_;rw[decide_eq_true (by omega),cond_true];show jn ((ix m.2.1 (i:Int)).bind _) _=_;rw[ix_at m.2.1 i hi',Option.bind_some];show jn ((some false:Option Bool).bind _) _=_;rw[Option.bind_some];show jn ((((some (decide ((m.2.1.length:Int)=64)):Option Bool).bind fun b6=>some b6).bind _)) _=_;rw[decide_eq_false (by omega)];show jn ((chk (decide (A.length+1≤lim))).bind _) _=_;have hl:A.length=i:=by rw[hA,List.length_take];omega
  rw[chk_dec (le_lim (by omega)),Option.bind_some,jn_inl];show cache_Write_L0 n (x,e97,z97,((false,at_,m,()),()),(),z97,(e97,B,A++[m.2.1[i]],()),m.2.1,(m.2.1.length:Int),w64 ((i:Int)+1))=_;rw[w64_succ i (by omega),write_loop at_ x m hf k n (i+1) _ _ (by omega) (by omega) (by rw[hA,List.take_add_one,List.getElem?_eq_getElem hi'];rfl)]
theorem write_ok {m:D97} {b:Nat} (h:Mok m b) (hf:m.2.1.length<64) (at_:Int) (x:Blk) (h1:0≤at_) (h2:at_<(b:Int)):cache_Write (m,at_,x,false)=some ((m.1,m.2.1++[(at_,x,())],()),0):=by
 have:=h.len;have:=h.le;unfold cache_Write;rw[right_ok h,Option.bind_some];show (cache_there (m,at_)).bind _=_;rw[there_eq,decide_eq_true h1,decide_eq_true (by rw[h.len];exact h2)];show (cloneM m.1).bind _=_;rw[clone_ok (by omega),Option.bind_some];show jn (cache_Write_L0 Big (x,e97,z97,((false,at_,m,()),()),(),z97,(e97,m.1,[],()),m.2.1,(m.2.1.length:Int),((0:Nat):Int))) _=_;rw[write_loop at_ x m hf m.2.1.length Big 0 m.1 [] (by omega) (big_lt (by omega)) rfl,jn_inl];show jn ((chk (decide (m.2.1.length+1≤lim))).bind _) _=_;rw[chk_dec (le_lim (by omega))];rfl
theorem within_ok (c:Nat) (a:BitVec 64) (n:Nat) (hc:c≤64) (h:a.toNat+n≤c):block_Within ((c:Int),a,(n:Int))=some true:=by
 unfold block_Within;show (((bif decide ((0:Int)≤(n:Int)) then some (decide ((n:Int)≤(c:Int))) else some false:Option Bool).bind _))=_;rw[decide_eq_true (by omega),cond_true,Option.bind_some,decide_eq_true (by omega),cond_true];show (some (decide (a≤BitVec.ofInt 64 (w64 ((c:Int)-(n:Int))))):Option Bool).bind _=_;have:w64 ((c:Int)-(n:Int))=((c-n:Nat):Int):=by rw[w64_in (by omega) (by omega)];omega
 rw[this,BitVec.ofInt_natCast,decide_eq_true (by rw[BitVec.le_def,BitVec.toNat_ofNat,Nat.mod_eq_of_lt (by omega)];omega)];rfl
theorem read_loop (P:List Blk) (hP:P.length≤64) (h:∀x∈P,x.length=64):∀k n i acc,i+k=P.length→k<n→acc=(P.take i).flatten →
 block_Read_L0 n (acc,0,P,(P.length:Int),(i:Int))=some (.inl (P.flatten,0))
 | 0,n+1,i,acc,hi,_,ha=>by
  unfold block_Read_L0;show (bif decide ((i:Int)<(P.length:Int)) then _ else _)=_;rw[decide_eq_false (by omega),cond_false,ha,List.take_of_length_le (by omega)]
 | k+1,n+1,i,acc,hi,hn,ha=>by
  have hi':i<P.length:=by omega
  unfold block_Read_L0;show (bif decide ((i:Int)<(P.length:Int)) then _ else _)=_;rw[decide_eq_true (by omega),cond_true];show (ix P (i:Int)).bind _=_;rw[ix_at P i hi',Option.bind_some]
  have hacc:acc.length=64*i:=by
   rw[ha,List.length_flatten]
   have:(P.take i).map List.length=List.replicate i 64:=by
    apply List.ext_getElem?;intro j;by_cases hj:j<i
    · rw[List.getElem?_map,List.getElem?_take,if_pos hj,List.getElem?_eq_getElem (show j<P.length by omega),List.getElem?_replicate,if_pos hj]
      simp[h _ (List.getElem_mem (show j<P.length by omega))]
    · simp[hj];omega
   rw[this];simp[Nat.mul_comm]
  show (chk (decide (acc.length+P[i].length≤lim))).bind _=_;rw[chk_dec (le_lim (by rw[h _ (List.getElem_mem hi')];omega)),Option.bind_some];show block_Read_L0 n (acc++P[i],0,P,(P.length:Int),w64 ((i:Int)+1))=_;rw[w64_succ i (by omega),read_loop P hP h k n (i+1) _ (by omega) (by omega) (by rw[ha,List.take_add_one,List.getElem?_eq_getElem hi',List.flatten_append];simp)]
theorem read_ok (X:List Blk) (hX:X.length≤64) (h:∀x∈X,x.length=64) (a:BitVec 64) (n:Nat) (hn:a.toNat+n≤X.length):
 block_Read (X,a,(n:Int))=some (((X.drop a.toNat).take n).flatten,0):=by
 unfold block_Read block_some;show ((bif decide (64<(X.length:Int)) then _ else _:Option _).bind _)=_;rw[decide_eq_false (by omega),cond_false];show (((block_Within ((X.length:Int),a,(n:Int))).bind _).bind _)=_;rw[within_ok _ _ _ hX hn,Option.bind_some];show (((chk (decide (0≤((a.toNat:Int):Int))&&decide (((a.toNat:Int):Int)≤(X.length:Int)))).bind _).bind _)=_;rw[decide_eq_true (by omega),decide_eq_true (by omega)];show (((chk (decide (0≤(n:Int))&&decide ((n:Int)≤((X.drop a.toNat).length:Int)))).bind _).bind _)=_;rw[decide_eq_true (by omega),decide_eq_true (by rw[List.length_drop];omega)];show jn (block_Read_L0 Big (nb,0,(X.drop a.toNat).take n,(((X.drop a.toNat).take n).length:Int),((0:Nat):Int))) _=_
 rw[read_loop _ (by rw[List.length_take,List.length_drop];omega) (fun x hx=>h x (List.mem_of_mem_drop (List.mem_of_mem_take hx))) _ Big 0 nb (Nat.zero_add _) (big_lt (by rw[List.length_take,List.length_drop];omega)) rfl];rfl
end Go.Proofs.YthnpgnabfcaaiaaGreat
namespace Go.Proofs.YthnpgnabfcaaiaaGreat
open Go Go.Re
set_option linter.unusedVariables false
set_option linter.unusedSimpArgs false
set_option maxRecDepth 100000
def cfg (L:Nat) (b d:Int) (s t:Bool):D22:=((L:Int),b,d,s,t,())
def us (L:Nat) (m:D97) (v:D102):List D102:=(List.replicate L (fr2 m)).set 0 v
def by_ (n:Nat) (f:Nat→BitVec 8):List (BitVec 8):=(List.range n).map f
theorem by_len (n:Nat) (f:Nat→BitVec 8):(by_ n f).length=n:=by unfold by_;simp
theorem by_take {l:List (BitVec 8)} {n:Nat} (h:n≤l.length):l.take n=by_ n (fun i=>l.getD i 0#8):=by
 apply List.ext_getElem?;intro i;unfold by_;by_cases hi:i<n
 · simp[List.getElem?_take,hi,List.getD_eq_getElem?_getD,List.getElem?_eq_getElem (show i<l.length by omega)]
 · simp[List.getElem?_take,hi]
theorem by_ix (n:Nat) (f:Nat→BitVec 8) (i:Nat):(by_ n f)[i]?=if i<n then some (f i) else none:=by
 unfold by_;by_cases h:i<n
 · simp[h]
 · simp[h]
def blk (g:Nat→BitVec 8) (j:Nat):Blk:=by_ 64 fun x=>g (64*j+x)
theorem blk_len (g:Nat→BitVec 8) (j:Nat):(blk g j).length=64:=by_len ..
def mI (b k:Nat) (g:Nat→BitVec 8) (i:Nat):D97:=(List.replicate b zblk,(List.range i).map fun j=>(((k+j:Nat):Int),blk g j,()),())
theorem mI_ok {b k i:Nat} {g:Nat→BitVec 8} (h:k+i≤b) (hb:b≤64):Mok (mI b k g i) b:=by
 refine⟨by simp[mI],hb,by simp[mI];omega,?_⟩;intro d hd;simp only[mI,List.mem_map,List.mem_range] at hd;obtain⟨j,hj,rfl⟩:=hd
 constructor
 · show (0:Int)≤((k+j:Nat):Int);omega
 · show ((k+j:Nat):Int)<(b:Int);omega
theorem mI_succ (b k:Nat) (g:Nat→BitVec 8) (i:Nat):mI b k g (i+1)=((mI b k g i).1,(mI b k g i).2.1++[(((k+i:Nat):Int),blk g i,())],()):=by
 simp[mI,List.range_succ]
abbrev slt (m:D97):D99:=(m,true,false,false,())
theorem check_ok {m:D97} {b:Nat} (h:Mok m b) (a n:Nat) (w:Bool) (hn:a+n≤b):slot_Check (slt m,BitVec.ofNat 64 a,(n:Int),w)=some e41:=by
 have hb:=h.le;unfold slot_Check;show (some e41:Option D41).bind _=_;rw[Option.bind_some];show (bif w then some false else some false:Option Bool).bind _=_;have:(bif w then some false else some false:Option Bool)=some false:=by cases w<;>rfl
 rw[this,Option.bind_some];show (cache_All m).bind _=_;rw[all_ok h,Option.bind_some];show (block_Within (((fl m.2.1 m.1).length:Int),BitVec.ofNat 64 a,(n:Int))).bind _=_;rw[fl_len,h.len,within_ok b _ n hb (by rw[BitVec.toNat_ofNat,Nat.mod_eq_of_lt (by omega)];exact hn)];rfl
theorem put_ok {m:D97} {b:Nat} (h:Mok m b) (hf:m.2.1.length<64) (a:Nat) (x:Blk) (ha:a<b):slot_Put (slt m,(a:Int),x,false)=some (slt (m.1,m.2.1++[((a:Int),x,())],()),e41):=by
 unfold slot_Put;show (slot_Check (slt m,BitVec.ofInt 64 (a:Int),((1:Nat):Int),true)).bind _=_;rw[BitVec.ofInt_natCast,check_ok h a 1 true (by omega),Option.bind_some];show (cache_Write (m,(a:Int),x,false)).bind _=_;rw[write_ok h hf (a:Int) x (by omega) (by omega)];rfl
theorem read_slot {m:D97} {b:Nat} (h:Mok m b) (hx:∀x∈fl m.2.1 m.1,x.length=64) (a n:Nat) (hn:a+n≤b):
 slot_Read (slt m,BitVec.ofNat 64 a,(n:Int))=some ((((fl m.2.1 m.1).drop a).take n).flatten,e41):=by
 have hb:=h.le;have ea:(BitVec.ofNat 64 a).toNat=a:=by rw[BitVec.toNat_ofNat,Nat.mod_eq_of_lt (by omega)]
 unfold slot_Read;show (slot_Check (slt m,BitVec.ofNat 64 a,(n:Int),false)).bind _=_;rw[check_ok h a n false hn,Option.bind_some];show (cache_All m).bind _=_;rw[all_ok h,Option.bind_some];show (block_Read (fl m.2.1 m.1,BitVec.ofNat 64 a,(n:Int))).bind _=_;rw[read_ok _ (by rw[fl_len,h.len];exact hb) hx _ _ (by rw[fl_len,h.len,ea];exact hn),ea];rfl
theorem fl_get (g:Nat→BitVec 8) (k:Nat):∀(i:Nat) (B:List Blk) (p:Nat),k+i≤B.length →
 (fl ((List.range i).map fun j=>(((k+j:Nat):Int),blk g j,())) B)[p]?=if k≤p∧p<k+i then some (blk g (p-k)) else B[p]?
 | 0,B,p,h=>by
  rw[if_neg (by omega)];rfl
 | i+1,B,p,h=>by
  have e:fl ((List.range (i+1)).map fun j=>(((k+j:Nat):Int),blk g j,())) B=(fl ((List.range i).map fun j=>(((k+j:Nat):Int),blk g j,())) B).set (k+i) (blk g i):=by
   rw[List.range_succ,List.map_append];unfold fl;rw[List.foldl_append];show List.set _ (((k+i:Nat):Int)).toNat _=_;rw[Int.toNat_natCast]
  rw[e,List.getElem?_set,fl_len];by_cases hp:k+i=p
  · rw[if_pos hp,if_pos (by omega),if_pos (by omega)]
    subst hp;simp
  · rw[if_neg hp,fl_get g k i B p (by omega)]
    by_cases hq:k≤p∧p<k+i
    · rw[if_pos hq,if_pos (by omega)]
    · rw[if_neg hq,if_neg (by omega)]
theorem blks_flat (g:Nat→BitVec 8):∀n,((List.range n).map (blk g)).flatten=by_ (64*n) g
 | 0=>rfl
 | n+1=>by
  rw[List.range_succ,List.map_append,List.flatten_append,blks_flat g n];apply List.ext_getElem?;intro i;rw[List.getElem?_append,by_len,by_ix,by_ix];by_cases h:i<64*n
  · rw[if_pos h,if_pos h,if_pos (by omega)]
  · rw[if_neg h]
    show ((blk g n)++[])[i-64*n]?=_;rw[List.append_nil];unfold blk;rw[by_ix];by_cases h2:i<64*(n+1)
    · rw[if_pos (by omega),if_pos h2,show 64*n+(i-64*n)=i by omega]
    · rw[if_neg (by omega),if_neg h2]
theorem mI_read {b k n:Nat} {g:Nat→BitVec 8} (h:k+n≤b) (hb:b≤64):slot_Read (slt (mI b k g n),BitVec.ofNat 64 k,(n:Int))=some (by_ (64*n) g,e41):=by
 have hl:(fl (mI b k g n).2.1 (mI b k g n).1).length=b:=by rw[fl_len];simp[mI]
 have hg:∀p,(fl (mI b k g n).2.1 (mI b k g n).1)[p]?=if k≤p∧p<k+n then some (blk g (p-k)) else (List.replicate b zblk)[p]?:=fun p=>fl_get g k n _ p (by simp[mI];exact h)
 rw[read_slot (mI_ok h hb) (by
  intro x hx;obtain⟨p,hp,rfl⟩:=List.mem_iff_getElem.1 hx;have:=hg p;rw[List.getElem?_eq_getElem hp] at this;by_cases hq:k≤p∧p<k+n
  · rw[if_pos hq] at this;rw[Option.some.inj this];exact blk_len ..
  · rw[if_neg hq,List.getElem?_replicate,if_pos (by omega)] at this
    rw[Option.some.inj this];rfl) k n h]
 have:((fl (mI b k g n).2.1 (mI b k g n).1).drop k).take n=(List.range n).map (blk g):=by
  apply List.ext_getElem?;intro i;rw[List.getElem?_take];by_cases hi:i<n
  · rw[if_pos hi,List.getElem?_drop,hg,if_pos (by omega)];simp[hi]
  · rw[if_neg hi];simp[hi]
 rw[this,blks_flat]
def jb (n:Nat) (a:BitVec 64) (i:Nat):D43:=((42,a,(n:Int),0,0,()),64*(n:Int),64*(i:Int),nb,e41,())
theorem place_ok (u:D102) (op n p q l t:Int) (r:List (BitVec 8)) (s:D41) (k i:Nat) (hk:k<1000) (hi:i<1000):
 job_worker_place ((u,((op,BitVec.ofNat 64 k,n,p,q,()),l,t,r,s,()),()),64*(i:Int))=some (BitVec.ofNat 64 (k+i)):=by
 unfold job_worker_place
 have e1:w64 ((64*(i:Int)).tdiv 64)=((i:Nat):Int):=by
  have:(64*(i:Int)).tdiv 64=(i:Int):=by rw[Int.mul_tdiv_cancel_left _ (by omega)]
  rw[this,w64_in (by omega) (by omega)]
 have e2:BitVec.ofNat 64 k+BitVec.ofInt 64 ((i:Nat):Int)=BitVec.ofNat 64 (k+i):=by
  rw[BitVec.ofInt_natCast];apply BitVec.eq_of_toNat_eq;simp
 show (bif decide (BitVec.ofNat 64 k+BitVec.ofInt 64 (w64 ((64*(i:Int)).tdiv 64))<BitVec.ofNat 64 k) then _ else some (BitVec.ofNat 64 k+BitVec.ofInt 64 (w64 ((64*(i:Int)).tdiv 64))))=_;rw[e1,e2,decide_eq_false (by rw[BitVec.lt_def,BitVec.toNat_ofNat,BitVec.toNat_ofNat,Nat.mod_eq_of_lt (by omega),Nat.mod_eq_of_lt (by omega)];omega)];rfl
theorem class42:cdb_Class 42=some 2:=by kernel_rfl
theorem block_ok {m:D97} {b:Nat} (h:Mok m b) (hf:m.2.1.length<64) (p:Nat) (x:Blk) (hp:p<b) (hx:x.length=64) (n l t:Int) (a:BitVec 64) (r:List (BitVec 8)):
 job_worker_block (((rdy m),((42,a,n,0,0,()),l,t,r,e41,()),()),BitVec.ofNat 64 p,x)=some (rdy (m.1,m.2.1++[((p:Int),x,())],()),((42,a,n,0,0,()),l,t,r,e41,()),()):=by
 have hb:=h.le;unfold job_worker_block;show (some true:Option Bool).bind _=_;rw[Option.bind_some,Bool.not_true,cond_false];show (cdb_Class 42).bind _=_;rw[class42,Option.bind_some,decide_eq_false (by decide),cond_false];show (chk (decide (64≤x.length))).bind _=_;rw[chk_dec (by omega),Option.bind_some];show (slot_Put (slt m,w64 ((bif decide ((4294967296#64)<BitVec.ofNat 64 p) then (4294967296#64) else BitVec.ofNat 64 p).toNat:Int),x.take 64,false)).bind _=_;rw[decide_eq_false (by rw[BitVec.lt_def];show ¬(4294967296<(BitVec.ofNat 64 p).toNat);rw[BitVec.toNat_ofNat,Nat.mod_eq_of_lt (by omega)];omega),cond_false,BitVec.toNat_ofNat,Nat.mod_eq_of_lt (by omega),w64_in (by omega) (by omega),List.take_of_length_le (by omega),put_ok h hf p x hp];rfl
def wcd (op:BitVec 8) (k n:Nat):List (BitVec 8):=[op,0#8,0#8,0#8,0#8,BitVec.ofInt 8 (k:Int),0#8,0#8,BitVec.ofInt 8 (n:Int),0#8]
abbrev ParIs (op:BitVec 8) (o:Int) (n k:Nat):Prop:=cdb_Parse (wcd op (k-1) n)=some ((o,BitVec.ofNat 64 (k-1),(n:Int),0,0,()),e41)
theorem parw1:Pall (fun k=>ParIs 42#8 42 1 k) 64:=by repeat (first | exact trivial | refine pall_succ ?_ (by show _=_;kernel_rfl))
theorem parw2:Pall (fun k=>ParIs 42#8 42 2 k) 64:=by repeat (first | exact trivial | refine pall_succ ?_ (by show _=_;kernel_rfl))
theorem parw3:Pall (fun k=>ParIs 42#8 42 3 k) 64:=by repeat (first | exact trivial | refine pall_succ ?_ (by show _=_;kernel_rfl))
theorem parw4:Pall (fun k=>ParIs 42#8 42 4 k) 64:=by repeat (first | exact trivial | refine pall_succ ?_ (by show _=_;kernel_rfl))
theorem parw5:Pall (fun k=>ParIs 42#8 42 5 k) 64:=by repeat (first | exact trivial | refine pall_succ ?_ (by show _=_;kernel_rfl))
theorem parw6:Pall (fun k=>ParIs 42#8 42 6 k) 64:=by repeat (first | exact trivial | refine pall_succ ?_ (by show _=_;kernel_rfl))
theorem parw7:Pall (fun k=>ParIs 42#8 42 7 k) 64:=by repeat (first | exact trivial | refine pall_succ ?_ (by show _=_;kernel_rfl))
theorem parw8:Pall (fun k=>ParIs 42#8 42 8 k) 64:=by repeat (first | exact trivial | refine pall_succ ?_ (by show _=_;kernel_rfl))
theorem par_w {n k:Nat} (h1:1≤n) (h8:n≤8) (hk:k<64):cdb_Parse (wcd 42#8 k n)=some ((42,BitVec.ofNat 64 k,(n:Int),0,0,()),e41):=by
 have:n=1∨n=2∨n=3∨n=4∨n=5∨n=6∨n=7∨n=8:=by omega
 rcases this with rfl | rfl | rfl | rfl | rfl | rfl | rfl | rfl
 · exact pall_use (P:=fun k=>ParIs 42#8 42 1 k) parw1 (b:=k+1) (by omega) (by omega)
 · exact pall_use (P:=fun k=>ParIs 42#8 42 2 k) parw2 (b:=k+1) (by omega) (by omega)
 · exact pall_use (P:=fun k=>ParIs 42#8 42 3 k) parw3 (b:=k+1) (by omega) (by omega)
 · exact pall_use (P:=fun k=>ParIs 42#8 42 4 k) parw4 (b:=k+1) (by omega) (by omega)
 · exact pall_use (P:=fun k=>ParIs 42#8 42 5 k) parw5 (b:=k+1) (by omega) (by omega)
 · exact pall_use (P:=fun k=>ParIs 42#8 42 6 k) parw6 (b:=k+1) (by omega) (by omega)
 · exact pall_use (P:=fun k=>ParIs 42#8 42 7 k) parw7 (b:=k+1) (by omega) (by omega)
 · exact pall_use (P:=fun k=>ParIs 42#8 42 8 k) parw8 (b:=k+1) (by omega) (by omega)
theorem parr1:Pall (fun k=>ParIs 40#8 40 1 k) 64:=by repeat (first | exact trivial | refine pall_succ ?_ (by show _=_;kernel_rfl))
theorem parr2:Pall (fun k=>ParIs 40#8 40 2 k) 64:=by repeat (first | exact trivial | refine pall_succ ?_ (by show _=_;kernel_rfl))
theorem parr3:Pall (fun k=>ParIs 40#8 40 3 k) 64:=by repeat (first | exact trivial | refine pall_succ ?_ (by show _=_;kernel_rfl))
theorem parr4:Pall (fun k=>ParIs 40#8 40 4 k) 64:=by repeat (first | exact trivial | refine pall_succ ?_ (by show _=_;kernel_rfl))
theorem parr5:Pall (fun k=>ParIs 40#8 40 5 k) 64:=by repeat (first | exact trivial | refine pall_succ ?_ (by show _=_;kernel_rfl))
theorem parr6:Pall (fun k=>ParIs 40#8 40 6 k) 64:=by repeat (first | exact trivial | refine pall_succ ?_ (by show _=_;kernel_rfl))
theorem parr7:Pall (fun k=>ParIs 40#8 40 7 k) 64:=by repeat (first | exact trivial | refine pall_succ ?_ (by show _=_;kernel_rfl))
theorem parr8:Pall (fun k=>ParIs 40#8 40 8 k) 64:=by repeat (first | exact trivial | refine pall_succ ?_ (by show _=_;kernel_rfl))
theorem par_r {n k:Nat} (h1:1≤n) (h8:n≤8) (hk:k<64):cdb_Parse (wcd 40#8 k n)=some ((40,BitVec.ofNat 64 k,(n:Int),0,0,()),e41):=by
 have:n=1∨n=2∨n=3∨n=4∨n=5∨n=6∨n=7∨n=8:=by omega
 rcases this with rfl | rfl | rfl | rfl | rfl | rfl | rfl | rfl
 · exact pall_use (P:=fun k=>ParIs 40#8 40 1 k) parr1 (b:=k+1) (by omega) (by omega)
 · exact pall_use (P:=fun k=>ParIs 40#8 40 2 k) parr2 (b:=k+1) (by omega) (by omega)
 · exact pall_use (P:=fun k=>ParIs 40#8 40 3 k) parr3 (b:=k+1) (by omega) (by omega)
 · exact pall_use (P:=fun k=>ParIs 40#8 40 4 k) parr4 (b:=k+1) (by omega) (by omega)
 · exact pall_use (P:=fun k=>ParIs 40#8 40 5 k) parr5 (b:=k+1) (by omega) (by omega)
 · exact pall_use (P:=fun k=>ParIs 40#8 40 6 k) parr6 (b:=k+1) (by omega) (by omega)
 · exact pall_use (P:=fun k=>ParIs 40#8 40 7 k) parr7 (b:=k+1) (by omega) (by omega)
 · exact pall_use (P:=fun k=>ParIs 40#8 40 8 k) parr8 (b:=k+1) (by omega) (by omega)
abbrev CwIs (L n:Nat):Prop:=∀(M m:D97) (k:Nat) (a:BitVec 64),cdb_Parse (wcd 42#8 k n)=some ((42,a,(n:Int),0,0,()),e41)→slot_Check (slt m,a,(n:Int),true)=some e41 →
 unit_Command (us L M (rdy m),0,wcd 42#8 k n)=some (us L M (rdy m),2,64*(n:Int),nb,jb n a 0,e41,())
abbrev CrIs (L n:Nat):Prop:=∀(M m:D97) (k:Nat) (a:BitVec 64) (g:Nat→BitVec 8),cdb_Parse (wcd 40#8 k n)=some ((40,a,(n:Int),0,0,()),e41)→slot_Check (slt m,a,(n:Int),false)=some e41→slot_Read (slt m,a,(n:Int))=some (by_ (64*n) g,e41) →
 unit_Command (us L M (rdy m),0,wcd 40#8 k n)=some (us L M (rdy m),1,64*(n:Int),by_ (64*n) g,e43,e41,())
abbrev FiIs (L n:Nat):Prop:=∀(M m:D97) (a:BitVec 64),unit_Finish (us L M (rdy m),0,jb n a n)=some (us L M (rdy m),e41)
abbrev KeIs (L:Nat):Prop:=∀(M m:D97),unit_Keep (us L M (rdy m),0,e41)=some (us L M (rdy m))
theorem l4 {L:Nat} (h:1≤L) (hL:L≤4):L=1∨L=2∨L=3∨L=4:=by omega
theorem n8 {n:Nat} (h:1≤n) (hn:n≤8):n=1∨n=2∨n=3∨n=4∨n=5∨n=6∨n=7∨n=8:=by omega
theorem cmd1 (L:Nat) (hl:1≤L) (hL:L≤4) (op:BitVec 8) (hop:op=42#8∨op=40#8) (M m:D97) (k n:Nat) (p c r t):unit_CommandV (p,c,r,t) (us L M (rdy m),0,wcd op k n)=unit_CommandV (fun _=>p (wcd op k n),c,r,t) (us L M (rdy m),0,wcd op k n):=by
 rcases l4 hl hL with rfl | rfl | rfl | rfl<;>rcases hop with rfl | rfl<;>kernel_rfl
theorem cmd2w (L:Nat) (hl:1≤L) (hL:L≤4) (M m:D97) (k n:Nat) (a:BitVec 64) (c r t):unit_CommandV (fun _=>some ((42,a,(n:Int),0,0,()),e41),c,r,t) (us L M (rdy m),0,wcd 42#8 k n)=unit_CommandV (fun _=>some ((42,a,(n:Int),0,0,()),e41),fun _=>c (slt m,a,(n:Int),true),r,t) (us L M (rdy m),0,wcd 42#8 k n):=by
 rcases l4 hl hL with rfl | rfl | rfl | rfl<;>kernel_rfl
theorem cmd2r (L:Nat) (hl:1≤L) (hL:L≤4) (M m:D97) (k n:Nat) (a:BitVec 64) (c r t):unit_CommandV (fun _=>some ((40,a,(n:Int),0,0,()),e41),c,r,t) (us L M (rdy m),0,wcd 40#8 k n)=unit_CommandV (fun _=>some ((40,a,(n:Int),0,0,()),e41),fun _=>c (slt m,a,(n:Int),false),r,t) (us L M (rdy m),0,wcd 40#8 k n):=by
 rcases l4 hl hL with rfl | rfl | rfl | rfl<;>kernel_rfl
theorem cmd3r (L:Nat) (hl:1≤L) (hL:L≤4) (M m:D97) (k n:Nat) (a:BitVec 64) (r t):unit_CommandV (fun _=>some ((40,a,(n:Int),0,0,()),e41),fun _=>some e41,r,t) (us L M (rdy m),0,wcd 40#8 k n)=unit_CommandV (fun _=>some ((40,a,(n:Int),0,0,()),e41),fun _=>some e41,fun _=>r (slt m,a,(n:Int)),t) (us L M (rdy m),0,wcd 40#8 k n):=by
 rcases l4 hl hL with rfl | rfl | rfl | rfl<;>kernel_rfl
theorem cw_run {L n:Nat} (hl:1≤L) (hL:L≤4) (hn:1≤n) (hn8:n≤8):CwIs L n:=by
 intro M m k a h1 h2;rw[←unit_CommandV_];show unit_CommandV (cdb_Parse,slot_Check,slot_Read,job_Take) _=_;rw[cmd1 L hl hL _ (.inl rfl),h1,cmd2w L hl hL,h2];clear h1 h2;rcases n8 hn hn8 with rfl | rfl | rfl | rfl | rfl | rfl | rfl | rfl<;>rcases l4 hl hL with rfl | rfl | rfl | rfl<;>kernel_rfl
theorem cr_run {L n:Nat} (hl:1≤L) (hL:L≤4) (hn:1≤n) (hn8:n≤8):CrIs L n:=by
 intro M m k a g h1 h2 h3;rw[←unit_CommandV_];show unit_CommandV (cdb_Parse,slot_Check,slot_Read,job_Take) _=_;rw[cmd1 L hl hL _ (.inr rfl),h1,cmd2r L hl hL,h2,cmd3r L hl hL,h3];clear h1 h2 h3;rcases n8 hn hn8 with rfl | rfl | rfl | rfl | rfl | rfl | rfl | rfl<;>rcases l4 hl hL with rfl | rfl | rfl | rfl<;>kernel_rfl
theorem fi_run {L n:Nat} (hl:1≤L) (hL:L≤4) (hn:1≤n) (hn8:n≤8):FiIs L n:=by
 intro M m a;rcases n8 hn hn8 with rfl | rfl | rfl | rfl | rfl | rfl | rfl | rfl<;>rcases l4 hl hL with rfl | rfl | rfl | rfl<;>kernel_rfl
theorem ke_run {L:Nat} (hl:1≤L) (hL:L≤4):KeIs L:=by
 intro M m;rcases l4 hl hL with rfl | rfl | rfl | rfl<;>kernel_rfl
theorem ni {P:Nat→Nat→Prop} (h1:Pall (P 1) 1) (h2:Pall (P 2) 2) (h3:Pall (P 3) 3) (h4:Pall (P 4) 4) (h5:Pall (P 5) 5) (h6:Pall (P 6) 6) (h7:Pall (P 7) 7) (h8:Pall (P 8) 8) {n i:Nat} (hi:1≤i) (hn:i≤n) (hm:n≤8):P n i:=by
 rcases n8 (by omega:1≤n) hm with rfl | rfl | rfl | rfl | rfl | rfl | rfl | rfl
 · exact pall_use h1 hi hn
 · exact pall_use h2 hi hn
 · exact pall_use h3 hi hn
 · exact pall_use h4 hi hn
 · exact pall_use h5 hi hn
 · exact pall_use h6 hi hn
 · exact pall_use h7 hi hn
 · exact pall_use h8 hi hn
theorem jright {n i:Nat} (hi:1≤i) (hn:i≤n) (hn8:n≤8):∀a:BitVec 64,job_Right (jb n a (i-1))=some true:=by
 refine ni (P:=fun n i=>∀(a:BitVec 64),job_Right (jb n a (i-1))=some true) ?_ ?_ ?_ ?_ ?_ ?_ ?_ ?_ hi hn hn8<;>repeat (first | exact trivial | refine pall_succ ?_ (by intro a;kernel_rfl))
theorem concat_ok (x:Nat→BitVec 8):slices_Concat_byte [nb,by_ 64 x]=some (by_ 64 x):=by kernel_rfl
theorem sel42:job_selects 42=some false:=by kernel_rfl
theorem jtake {m m':D97} {n i k:Nat} (hi:1≤i) (hn:i≤n) (hn8:n≤8) (x:Nat→BitVec 8) (hk:k<1000)
 (hb:∀r,job_worker_block ((rdy m,((42,BitVec.ofNat 64 k,(n:Int),0,0,()),64*(n:Int),64*(i:Int),r,e41,()),()),BitVec.ofNat 64 (k+(i-1)),by_ 64 x)=some (rdy m',((42,BitVec.ofNat 64 k,(n:Int),0,0,()),64*(n:Int),64*(i:Int),r,e41,()),())):
 job_Take (rdy m,jb n (BitVec.ofNat 64 k) (i-1),by_ 64 x)=some (rdy m',jb n (BitVec.ofNat 64 k) i):=by
 have e1:w64 (64*(n:Int)-64*((i-1:Nat):Int))=64*((n-(i-1):Nat):Int):=by rw[w64_in (by omega) (by omega)];omega
 have e2:(bif decide (64*((n-(i-1):Nat):Int)<((by_ 64 x).length:Int)) then 64*((n-(i-1):Nat):Int) else ((by_ 64 x).length:Int))=64:=by
  rw[by_len,decide_eq_false (by omega)];rfl
 have e3:w64 (64*((i-1:Nat):Int)+64)=64*(i:Int):=by rw[w64_in (by omega) (by omega)];omega
 have e4:w64 (64*((i-1:Nat):Int)-0)=64*((i-1:Nat):Int):=by rw[w64_in (by omega) (by omega)];omega
 unfold job_Take;rw[jright hi hn hn8,Option.bind_some,Bool.not_true,cond_false]
 show (chk (decide (0≤(bif decide ((w64 (64*(n:Int)-64*((i-1:Nat):Int)))<((by_ 64 x).length:Int)) then (w64 (64*(n:Int)-64*((i-1:Nat):Int))) else ((by_ 64 x).length:Int):Int))&&decide ((bif decide ((w64 (64*(n:Int)-64*((i-1:Nat):Int)))<((by_ 64 x).length:Int)) then (w64 (64*(n:Int)-64*((i-1:Nat):Int))) else ((by_ 64 x).length:Int):Int)≤((by_ 64 x).length:Int)))).bind (fun _=>
  (slices_Concat_byte ([nb,(by_ 64 x).take (bif decide ((w64 (64*(n:Int)-64*((i-1:Nat):Int)))<((by_ 64 x).length:Int)) then (w64 (64*(n:Int)-64*((i-1:Nat):Int))) else ((by_ 64 x).length:Int):Int).toNat]:List (List (BitVec 8)))).bind fun r2=>(job_selects 42).bind fun r3=>bif r3 then _ else
  jn (job_Take_L0 Big (e102,e43,w64 (64*((i-1:Nat):Int)-0),rdy m,((42,BitVec.ofNat 64 k,(n:Int),0,0,()),64*(n:Int),w64 (64*((i-1:Nat):Int)+(bif decide ((w64 (64*(n:Int)-64*((i-1:Nat):Int)))<((by_ 64 x).length:Int)) then (w64 (64*(n:Int)-64*((i-1:Nat):Int))) else ((by_ 64 x).length:Int))),r2,e41,()),())) fun q6=>some (q6.2.2.1,q6.2.2.2.1))=_
 rw[e1,e2,e3,e4];have e5:(by_ 64 x).take (64:Int).toNat=by_ 64 x:=List.take_of_length_le (by rw[by_len];decide);rw[e5,concat_ok,by_len,sel42];show jn (job_Take_L0 Big (e102,e43,64*((i-1:Nat):Int),rdy m,((42,BitVec.ofNat 64 k,(n:Int),0,0,()),64*(n:Int),64*(i:Int),by_ 64 x,e41,()),())) _=_;obtain⟨B,hB⟩:∃B,Big=B+2:=⟨Big-2,by unfold Big;omega⟩
 have e6:job_Take_L0 Big (e102,e43,64*((i-1:Nat):Int),rdy m,((42,BitVec.ofNat 64 k,(n:Int),0,0,()),64*(n:Int),64*(i:Int),by_ 64 x,e41,()),())=some (.inl (e102,e43,rdy m',((42,BitVec.ofNat 64 k,(n:Int),0,0,()),64*(n:Int),64*(i:Int),nb,e41,()),())):=by
  rw[hB];unfold job_Take_L0;show (bif decide ((64:Int)≤((by_ 64 x).length:Int)) then _ else _)=_;rw[by_len,decide_eq_true (by decide),cond_true];show (job_worker_place ((rdy m,((42,BitVec.ofNat 64 k,(n:Int),0,0,()),64*(n:Int),64*(i:Int),by_ 64 x,e41,()),()),64*((i-1:Nat):Int))).bind _=_;rw[place_ok _ _ _ _ _ _ _ _ _ k (i-1) hk (by omega),Option.bind_some];show (chk (decide (0≤(64:Int))&&decide ((64:Int)≤((by_ 64 x).length:Int)))).bind (fun _=>(job_worker_block ((rdy m,((42,BitVec.ofNat 64 k,(n:Int),0,0,()),64*(n:Int),64*(i:Int),by_ 64 x,e41,()),()),BitVec.ofNat 64 (k+(i-1)),(by_ 64 x).take (64:Int).toNat)).bind _)=_;rw[by_len,e5,hb];show job_Take_L0 (B+1) (e102,e43,w64 (64*((i-1:Nat):Int)+64),rdy m',((42,BitVec.ofNat 64 k,(n:Int),0,0,()),64*(n:Int),64*(i:Int),(by_ 64 x).drop (64:Int).toNat,e41,()),())=_
  have e7:(by_ 64 x).drop (64:Int).toNat=nb:=List.drop_of_length_le (by rw[by_len];decide);rw[e7];unfold job_Take_L0;rfl
 rw[e6];rfl
theorem tk1 (L:Nat) (hl:1≤L) (hL:L≤4) (M m:D97) (j:D43) (x:List (BitVec 8)) (p c r t):unit_TakeV (p,c,r,t) (us L M (rdy m),0,j,x)=unit_TakeV (p,c,r,fun _=>t (rdy m,j,x)) (us L M (rdy m),0,j,x):=by
 rcases l4 hl hL with rfl | rfl | rfl | rfl<;>kernel_rfl
theorem tk2 (L:Nat) (hl:1≤L) (hL:L≤4) (M m m':D97) (j j':D43) (x:List (BitVec 8)) (p c r):unit_TakeV (p,c,r,fun _=>some (rdy m',j')) (us L M (rdy m),0,j,x)=some (us L M (rdy m'),j'):=by
 rcases l4 hl hL with rfl | rfl | rfl | rfl<;>kernel_rfl
theorem take_run {L b k n i:Nat} {g:Nat→BitVec 8} {M:D97} (hl:1≤L) (hL:L≤4) (hi:1≤i) (hn:i≤n) (hn8:n≤8) (hk:k+n≤b) (hb:b≤64):
 unit_Take (us L M (rdy (mI b k g (i-1))),0,jb n (BitVec.ofNat 64 k) (i-1),blk g (i-1))=some (us L M (rdy (mI b k g i)),jb n (BitVec.ofNat 64 k) i):=by
 rw[←unit_TakeV_];show unit_TakeV (cdb_Parse,slot_Check,slot_Read,job_Take) _=_;rw[tk1 L hl hL];unfold blk;rw[jtake hi hn hn8 _ (by omega) (m':=mI b k g i),tk2 L hl hL];intro r;have:=block_ok (mI_ok (b:=b) (k:=k) (i:=i-1) (g:=g) (by omega) hb) (by simp[mI];omega) (k+(i-1)) (blk g (i-1)) (by omega) (blk_len ..) (n:Int) (64*(n:Int)) (64*(i:Int)) (BitVec.ofNat 64 k) r;rw[←mI_succ,show i-1+1=i by omega] at this;exact this
theorem write_run {L b k n:Nat} {g:Nat→BitVec 8} {M:D97} (hl:1≤L) (hL:L≤4) (hn:1≤n) (hn8:n≤8) (hk:k+n≤b) (hb:b≤64):
 unit_Command (us L M (rdy (mI b k g 0)),0,wcd 42#8 k n)=some (us L M (rdy (mI b k g 0)),2,64*(n:Int),nb,jb n (BitVec.ofNat 64 k) 0,e41,()):=
 cw_run hl hL hn hn8 M _ k _ (par_w hn hn8 (by omega)) (check_ok (mI_ok (by omega) hb) k n true hk)
theorem read_run {L b k n:Nat} {g:Nat→BitVec 8} {M:D97} (hl:1≤L) (hL:L≤4) (hn:1≤n) (hn8:n≤8) (hk:k+n≤b) (hb:b≤64):
 unit_Command (us L M (rdy (mI b k g n)),0,wcd 40#8 k n)=some (us L M (rdy (mI b k g n)),1,64*(n:Int),by_ (64*n) g,e43,e41,()):=
 cr_run hl hL hn hn8 M _ k _ g (par_r hn hn8 (by omega)) (check_ok (mI_ok hk hb) k n false hk) (mI_read hk hb)
end Go.Proofs.YthnpgnabfcaaiaaGreat
namespace Go.Proofs.YthnpgnabfcaaiaaGreat
open Go Go.Re
set_option linter.unusedVariables false
set_option linter.unusedSimpArgs false
set_option maxRecDepth 100000
set_option maxHeartbeats 4000000
def tbU (t:Bool):Int:=bif t then 1 else 0
def epU (t:Bool):D114:=(false,tbU t,false,0,nb,())
abbrev byU (n:Nat) (f:Nat→BitVec 8):List (BitVec 8):=by_ n f
def gu (c:D22) (u:List D102) (t1 t2 t3 t4:Bool) (x:D49):D51:=(c,u,(5,0,false,1,1,()),e32,[epU t1,epU t2,epU t3,epU t4],e45,x,())
def sn (s:Bool) (n:Int):Int:=bif s then n else 0
section
variable {c1 bi d:Int} {s t:Bool} {t1 t2 t3 t4:Bool} {u u':List D102} {x x':D49} {st:Int}
theorem us4 {y:Nat→BitVec 8} (hst:st=1∨st=2∨st=3) (h1:uas_Status (x,(c1,bi,d,s,t,()),sn s st)=some (byU 4 y,true)) (h2:uas_Told (x,(c1,bi,d,s,t,()),sn s st)=some x'):gadget_StepT ((gu (c1,bi,d,s,t,()) u t1 t2 t3 t4 x),4,5,3,st,0,true,0,0#64,nb,())=some ((gu (c1,bi,d,s,t,()) u t1 t2 (!t3) t4 x'),4,tbU t3,byU 4 y,()):=by
 rw[gadget_StepTA_];have e1:∀bn bs bt bo bw bc br bk,gadget_StepKA (bn,bs,bt,bo,bw,bc,br,bk) ((gu (c1,bi,d,s,t,()) u t1 t2 t3 t4 x),4,5,3,st,0,true,0,0#64,nb,()) true=gadget_StepKA (bn,bs,fun _=>bt (x,(c1,bi,d,s,t,()),sn s st),bo,bw,bc,br,bk) ((gu (c1,bi,d,s,t,()) u t1 t2 t3 t4 x),4,5,3,st,0,true,0,0#64,nb,()) true:=by intro bn bs bt bo bw bc br bk;clear h1 h2;rcases hst with rfl | rfl | rfl<;>cases s<;>cases t3<;>kernel_rfl
 have e2:∀bn bs bo bw bc br bk,gadget_StepKA (bn,bs,fun _=>some (byU 4 y,true),bo,bw,bc,br,bk) ((gu (c1,bi,d,s,t,()) u t1 t2 t3 t4 x),4,5,3,st,0,true,0,0#64,nb,()) true=gadget_StepKA (bn,bs,fun _=>some (byU 4 y,true),fun _=>bo (x,(c1,bi,d,s,t,()),sn s st),bw,bc,br,bk) ((gu (c1,bi,d,s,t,()) u t1 t2 t3 t4 x),4,5,3,st,0,true,0,0#64,nb,()) true:=by intro bn bs bo bw bc br bk;clear h1 h2 e1;rcases hst with rfl | rfl | rfl<;>cases s<;>cases t3<;>kernel_rfl
 refine (e1 uas_Next uas_Sent uas_Status uas_Told uas_Wants uas_Comes uas_Ready uas_Take).trans ?_;rw[h1];refine (e2 uas_Next uas_Sent uas_Told uas_Wants uas_Comes uas_Ready uas_Take).trans ?_;rw[h2];clear h1 h2 e1 e2;rcases hst with rfl | rfl | rfl<;>cases s<;>cases t3<;>kernel_rfl
theorem us16 {y:Nat→BitVec 8} (hst:st=1∨st=2∨st=3) (h1:uas_Status (x,(c1,bi,d,s,t,()),sn s st)=some (byU 16 y,true)) (h2:uas_Told (x,(c1,bi,d,s,t,()),sn s st)=some x'):gadget_StepT ((gu (c1,bi,d,s,t,()) u t1 t2 t3 t4 x),4,5,3,st,0,true,0,0#64,nb,())=some ((gu (c1,bi,d,s,t,()) u t1 t2 (!t3) t4 x'),4,tbU t3,byU 16 y,()):=by
 rw[gadget_StepTA_];have e1:∀bn bs bt bo bw bc br bk,gadget_StepKA (bn,bs,bt,bo,bw,bc,br,bk) ((gu (c1,bi,d,s,t,()) u t1 t2 t3 t4 x),4,5,3,st,0,true,0,0#64,nb,()) true=gadget_StepKA (bn,bs,fun _=>bt (x,(c1,bi,d,s,t,()),sn s st),bo,bw,bc,br,bk) ((gu (c1,bi,d,s,t,()) u t1 t2 t3 t4 x),4,5,3,st,0,true,0,0#64,nb,()) true:=by intro bn bs bt bo bw bc br bk;clear h1 h2;rcases hst with rfl | rfl | rfl<;>cases s<;>cases t3<;>kernel_rfl
 have e2:∀bn bs bo bw bc br bk,gadget_StepKA (bn,bs,fun _=>some (byU 16 y,true),bo,bw,bc,br,bk) ((gu (c1,bi,d,s,t,()) u t1 t2 t3 t4 x),4,5,3,st,0,true,0,0#64,nb,()) true=gadget_StepKA (bn,bs,fun _=>some (byU 16 y,true),fun _=>bo (x,(c1,bi,d,s,t,()),sn s st),bw,bc,br,bk) ((gu (c1,bi,d,s,t,()) u t1 t2 t3 t4 x),4,5,3,st,0,true,0,0#64,nb,()) true:=by intro bn bs bo bw bc br bk;clear h1 h2 e1;rcases hst with rfl | rfl | rfl<;>cases s<;>cases t3<;>kernel_rfl
 refine (e1 uas_Next uas_Sent uas_Status uas_Told uas_Wants uas_Comes uas_Ready uas_Take).trans ?_;rw[h1];refine (e2 uas_Next uas_Sent uas_Told uas_Wants uas_Comes uas_Ready uas_Take).trans ?_;rw[h2];clear h1 h2 e1 e2;rcases hst with rfl | rfl | rfl<;>cases s<;>cases t3<;>kernel_rfl
theorem us34 {y:Nat→BitVec 8} (hst:st=1∨st=2∨st=3) (h1:uas_Status (x,(c1,bi,d,s,t,()),sn s st)=some (byU 34 y,true)) (h2:uas_Told (x,(c1,bi,d,s,t,()),sn s st)=some x'):gadget_StepT ((gu (c1,bi,d,s,t,()) u t1 t2 t3 t4 x),4,5,3,st,0,true,0,0#64,nb,())=some ((gu (c1,bi,d,s,t,()) u t1 t2 (!t3) t4 x'),4,tbU t3,byU 34 y,()):=by
 rw[gadget_StepTA_];have e1:∀bn bs bt bo bw bc br bk,gadget_StepKA (bn,bs,bt,bo,bw,bc,br,bk) ((gu (c1,bi,d,s,t,()) u t1 t2 t3 t4 x),4,5,3,st,0,true,0,0#64,nb,()) true=gadget_StepKA (bn,bs,fun _=>bt (x,(c1,bi,d,s,t,()),sn s st),bo,bw,bc,br,bk) ((gu (c1,bi,d,s,t,()) u t1 t2 t3 t4 x),4,5,3,st,0,true,0,0#64,nb,()) true:=by intro bn bs bt bo bw bc br bk;clear h1 h2;rcases hst with rfl | rfl | rfl<;>cases s<;>cases t3<;>kernel_rfl
 have e2:∀bn bs bo bw bc br bk,gadget_StepKA (bn,bs,fun _=>some (byU 34 y,true),bo,bw,bc,br,bk) ((gu (c1,bi,d,s,t,()) u t1 t2 t3 t4 x),4,5,3,st,0,true,0,0#64,nb,()) true=gadget_StepKA (bn,bs,fun _=>some (byU 34 y,true),fun _=>bo (x,(c1,bi,d,s,t,()),sn s st),bw,bc,br,bk) ((gu (c1,bi,d,s,t,()) u t1 t2 t3 t4 x),4,5,3,st,0,true,0,0#64,nb,()) true:=by intro bn bs bo bw bc br bk;clear h1 h2 e1;rcases hst with rfl | rfl | rfl<;>cases s<;>cases t3<;>kernel_rfl
 refine (e1 uas_Next uas_Sent uas_Status uas_Told uas_Wants uas_Comes uas_Ready uas_Take).trans ?_;rw[h1];refine (e2 uas_Next uas_Sent uas_Told uas_Wants uas_Comes uas_Ready uas_Take).trans ?_;rw[h2];clear h1 h2 e1 e2;rcases hst with rfl | rfl | rfl<;>cases s<;>cases t3<;>kernel_rfl
theorem un (hst:st=1∨st=2∨st=3) (h1:uas_Status (x,(c1,bi,d,s,t,()),sn s st)=some (nb,false)):gadget_StepT ((gu (c1,bi,d,s,t,()) u t1 t2 t3 t4 x),4,5,3,st,0,true,0,0#64,nb,())=some ((gu (c1,bi,d,s,t,()) u t1 t2 t3 t4 x),2,0,nb,()):=by
 rw[gadget_StepTA_];have e1:∀bn bs bt bo bw bc br bk,gadget_StepKA (bn,bs,bt,bo,bw,bc,br,bk) ((gu (c1,bi,d,s,t,()) u t1 t2 t3 t4 x),4,5,3,st,0,true,0,0#64,nb,()) true=gadget_StepKA (bn,bs,fun _=>bt (x,(c1,bi,d,s,t,()),sn s st),bo,bw,bc,br,bk) ((gu (c1,bi,d,s,t,()) u t1 t2 t3 t4 x),4,5,3,st,0,true,0,0#64,nb,()) true:=by intro bn bs bt bo bw bc br bk;clear h1;rcases hst with rfl | rfl | rfl<;>cases s<;>cases t3<;>kernel_rfl
 refine (e1 uas_Next uas_Sent uas_Status uas_Told uas_Wants uas_Comes uas_Ready uas_Take).trans ?_;rw[h1];clear h1 e1;rcases hst with rfl | rfl | rfl<;>cases s<;>cases t3<;>kernel_rfl
theorem ui {y:Nat→BitVec 8} (hst:st=1∨st=2∨st=3) (h1:uas_Next (x,(c1,bi,d,s,t,()),sn s st)=some (byU 64 y,true)) (h2:uas_Sent (x,u,(c1,bi,d,s,t,()),sn s st)=some (x',u')):gadget_StepT ((gu (c1,bi,d,s,t,()) u t1 t2 t3 t4 x),4,5,1,st,0,true,0,0#64,nb,())=some ((gu (c1,bi,d,s,t,()) u' (!t1) t2 t3 t4 x'),4,tbU t1,byU 64 y,()):=by
 rw[gadget_StepTA_];have e1:∀bn bs bt bo bw bc br bk,gadget_StepKA (bn,bs,bt,bo,bw,bc,br,bk) ((gu (c1,bi,d,s,t,()) u t1 t2 t3 t4 x),4,5,1,st,0,true,0,0#64,nb,()) true=gadget_StepKA (fun _=>bn (x,(c1,bi,d,s,t,()),sn s st),bs,bt,bo,bw,bc,br,bk) ((gu (c1,bi,d,s,t,()) u t1 t2 t3 t4 x),4,5,1,st,0,true,0,0#64,nb,()) true:=by intro bn bs bt bo bw bc br bk;clear h1 h2;rcases hst with rfl | rfl | rfl<;>cases s<;>cases t1<;>kernel_rfl
 have e2:∀bs bt bo bw bc br bk,gadget_StepKA (fun _=>some (byU 64 y,true),bs,bt,bo,bw,bc,br,bk) ((gu (c1,bi,d,s,t,()) u t1 t2 t3 t4 x),4,5,1,st,0,true,0,0#64,nb,()) true=gadget_StepKA (fun _=>some (byU 64 y,true),fun _=>bs (x,u,(c1,bi,d,s,t,()),sn s st),bt,bo,bw,bc,br,bk) ((gu (c1,bi,d,s,t,()) u t1 t2 t3 t4 x),4,5,1,st,0,true,0,0#64,nb,()) true:=by intro bs bt bo bw bc br bk;clear h1 h2 e1;rcases hst with rfl | rfl | rfl<;>cases s<;>cases t1<;>kernel_rfl
 refine (e1 uas_Next uas_Sent uas_Status uas_Told uas_Wants uas_Comes uas_Ready uas_Take).trans ?_;rw[h1];refine (e2 uas_Sent uas_Status uas_Told uas_Wants uas_Comes uas_Ready uas_Take).trans ?_;rw[h2];clear h1 h2 e1 e2;rcases hst with rfl | rfl | rfl<;>cases s<;>cases t1<;>kernel_rfl
theorem uo {y:Nat→BitVec 8} (hst:st=1∨st=2∨st=3) (h1:uas_Wants (x,(c1,bi,d,s,t,()),sn s st)=some true) (h2:uas_Comes (x,u,(c1,bi,d,s,t,()),3,5,2,sn s st,tbU t2,false,0,0#64,byU 64 y,())=some (x',u')):gadget_StepT ((gu (c1,bi,d,s,t,()) u t1 t2 t3 t4 x),3,5,2,st,tbU t2,false,0,0#64,byU 64 y,())=some ((gu (c1,bi,d,s,t,()) u' t1 (!t2) t3 t4 x'),1,0,nb,()):=by
 rw[gadget_StepTA_];have e1:∀bn bs bt bo bw bc br bk,gadget_StepKA (bn,bs,bt,bo,bw,bc,br,bk) ((gu (c1,bi,d,s,t,()) u t1 t2 t3 t4 x),3,5,2,st,tbU t2,false,0,0#64,byU 64 y,()) true=gadget_StepKA (bn,bs,bt,bo,fun _=>bw (x,(c1,bi,d,s,t,()),sn s st),bc,br,bk) ((gu (c1,bi,d,s,t,()) u t1 t2 t3 t4 x),3,5,2,st,tbU t2,false,0,0#64,byU 64 y,()) true:=by intro bn bs bt bo bw bc br bk;clear h1 h2;rcases hst with rfl | rfl | rfl<;>cases s<;>cases t2<;>kernel_rfl
 have e2:∀bn bs bt bo bc br bk,gadget_StepKA (bn,bs,bt,bo,fun _=>some true,bc,br,bk) ((gu (c1,bi,d,s,t,()) u t1 t2 t3 t4 x),3,5,2,st,tbU t2,false,0,0#64,byU 64 y,()) true=gadget_StepKA (bn,bs,bt,bo,fun _=>some true,fun _=>bc (x,u,(c1,bi,d,s,t,()),3,5,2,sn s st,tbU t2,false,0,0#64,byU 64 y,()),br,bk) ((gu (c1,bi,d,s,t,()) u t1 t2 t3 t4 x),3,5,2,st,tbU t2,false,0,0#64,byU 64 y,()) true:=by intro bn bs bt bo bc br bk;clear h1 h2 e1;rcases hst with rfl | rfl | rfl<;>cases s<;>cases t2<;>kernel_rfl
 refine (e1 uas_Next uas_Sent uas_Status uas_Told uas_Wants uas_Comes uas_Ready uas_Take).trans ?_;rw[h1];refine (e2 uas_Next uas_Sent uas_Status uas_Told uas_Comes uas_Ready uas_Take).trans ?_;rw[h2];clear h1 h2 e1 e2;rcases hst with rfl | rfl | rfl<;>cases s<;>cases t2<;>kernel_rfl
theorem uc {y:Nat→BitVec 8} (hst:st=1∨st=2∨st=3) (h1:uas_Ready x=some true) (h2:uas_Take (x,u,(c1,bi,d,s,t,()),byU 32 y)=some (x',u')):gadget_StepT ((gu (c1,bi,d,s,t,()) u t1 t2 t3 t4 x),3,5,4,0,tbU t4,false,0,0#64,byU 32 y,())=some ((gu (c1,bi,d,s,t,()) u' t1 t2 t3 (!t4) x'),1,0,nb,()):=by
 rw[gadget_StepTA_];have e1:∀bn bs bt bo bw bc br bk,gadget_StepKA (bn,bs,bt,bo,bw,bc,br,bk) ((gu (c1,bi,d,s,t,()) u t1 t2 t3 t4 x),3,5,4,0,tbU t4,false,0,0#64,byU 32 y,()) true=gadget_StepKA (bn,bs,bt,bo,bw,bc,fun _=>br x,bk) ((gu (c1,bi,d,s,t,()) u t1 t2 t3 t4 x),3,5,4,0,tbU t4,false,0,0#64,byU 32 y,()) true:=by intro bn bs bt bo bw bc br bk;clear h1 h2;rcases hst with rfl | rfl | rfl<;>cases s<;>cases t4<;>kernel_rfl
 have e2:∀bn bs bt bo bw bc bk,gadget_StepKA (bn,bs,bt,bo,bw,bc,fun _=>some true,bk) ((gu (c1,bi,d,s,t,()) u t1 t2 t3 t4 x),3,5,4,0,tbU t4,false,0,0#64,byU 32 y,()) true=gadget_StepKA (bn,bs,bt,bo,bw,bc,fun _=>some true,fun _=>bk (x,u,(c1,bi,d,s,t,()),byU 32 y)) ((gu (c1,bi,d,s,t,()) u t1 t2 t3 t4 x),3,5,4,0,tbU t4,false,0,0#64,byU 32 y,()) true:=by intro bn bs bt bo bw bc bk;clear h1 h2 e1;rcases hst with rfl | rfl | rfl<;>cases s<;>cases t4<;>kernel_rfl
 refine (e1 uas_Next uas_Sent uas_Status uas_Told uas_Wants uas_Comes uas_Ready uas_Take).trans ?_;rw[h1];refine (e2 uas_Next uas_Sent uas_Status uas_Told uas_Wants uas_Comes uas_Take).trans ?_;rw[h2];clear h1 h2 e1 e2;rcases hst with rfl | rfl | rfl<;>cases s<;>cases t4<;>kernel_rfl
end
end Go.Proofs.YthnpgnabfcaaiaaGreat
namespace Go.Proofs.YthnpgnabfcaaiaaGreat
open Go Go.Re
set_option linter.unusedVariables false
set_option linter.unusedSimpArgs false
set_option maxRecDepth 100000
set_option maxHeartbeats 4000000
def fr3 (m:D97):D102:=((m,true,false,false,()),true,[(6,41,2,())],e41,())
def w16 (op:BitVec 8) (k n:Nat):List (BitVec 8):=wcd op k n++List.replicate 6 0#8
def iq (tag st:Int) (s:D41):D57:=(iu_Status (tag,st,s)).getD e57
def ir (tag dir:Int):D57:=(iu_Ready (tag,dir)).getD e57
def tk (tag:Int) (cdb:List (BitVec 8)):D86:=(tag,0,cdb,0,nb,e43,e41,())
def pcm (tag:Int) (cdb:List (BitVec 8)):List (BitVec 8):=(reticuleref22_PutCommand (tk tag cdb)).getD nb
def tO (n k:Nat) (a:BitVec 64) (st:Int) (i:Nat):D86:=(2,0,w16 42#8 k n,st,nb,jb n a i,e41,())
def tI (n k:Nat) (g:Nat→BitVec 8) (st:Int) (i:Nat):D86:=(3,0,w16 40#8 k n,st,by_ (64*(n-i)) (fun j=>g (64*i+j)),e43,e41,())
def qO (s:Bool) (n k:Nat) (a:BitVec 64):D49:=bif s then ([tO n k a 3 0],[],()) else ([tO n k a 1 0],[ir 2 2],())
def qI (s:Bool) (n k:Nat) (g:Nat→BitVec 8):D49:=bif s then ([tI n k g 2 0],[],()) else ([tI n k g 1 0],[ir 3 1],())
theorem d8 {d:Int} (h:1≤d) (hd:d≤8):d=1∨d=2∨d=3∨d=4∨d=5∨d=6∨d=7∨d=8:=by omega
abbrev Par16Is (op:BitVec 8) (o:Int) (n k:Nat):Prop:=cdb_Parse (w16 op (k-1) n)=some ((o,BitVec.ofNat 64 (k-1),(n:Int),0,0,()),e41)
theorem pbrw1:Pall (fun k=>Par16Is 42#8 42 1 k) 64:=by repeat (first | exact trivial | refine pall_succ ?_ (by show _=_;kernel_rfl))
theorem pbrw2:Pall (fun k=>Par16Is 42#8 42 2 k) 64:=by repeat (first | exact trivial | refine pall_succ ?_ (by show _=_;kernel_rfl))
theorem pbrw3:Pall (fun k=>Par16Is 42#8 42 3 k) 64:=by repeat (first | exact trivial | refine pall_succ ?_ (by show _=_;kernel_rfl))
theorem pbrw4:Pall (fun k=>Par16Is 42#8 42 4 k) 64:=by repeat (first | exact trivial | refine pall_succ ?_ (by show _=_;kernel_rfl))
theorem pbrw5:Pall (fun k=>Par16Is 42#8 42 5 k) 64:=by repeat (first | exact trivial | refine pall_succ ?_ (by show _=_;kernel_rfl))
theorem pbrw6:Pall (fun k=>Par16Is 42#8 42 6 k) 64:=by repeat (first | exact trivial | refine pall_succ ?_ (by show _=_;kernel_rfl))
theorem pbrw7:Pall (fun k=>Par16Is 42#8 42 7 k) 64:=by repeat (first | exact trivial | refine pall_succ ?_ (by show _=_;kernel_rfl))
theorem pbrw8:Pall (fun k=>Par16Is 42#8 42 8 k) 64:=by repeat (first | exact trivial | refine pall_succ ?_ (by show _=_;kernel_rfl))
theorem pbr_w {n k:Nat} (h1:1≤n) (h8:n≤8) (hk:k<64):cdb_Parse (w16 42#8 k n)=some ((42,BitVec.ofNat 64 k,(n:Int),0,0,()),e41):=by
 rcases n8 h1 h8 with rfl | rfl | rfl | rfl | rfl | rfl | rfl | rfl
 · exact pall_use (P:=fun k=>Par16Is 42#8 42 1 k) pbrw1 (b:=k+1) (by omega) (by omega)
 · exact pall_use (P:=fun k=>Par16Is 42#8 42 2 k) pbrw2 (b:=k+1) (by omega) (by omega)
 · exact pall_use (P:=fun k=>Par16Is 42#8 42 3 k) pbrw3 (b:=k+1) (by omega) (by omega)
 · exact pall_use (P:=fun k=>Par16Is 42#8 42 4 k) pbrw4 (b:=k+1) (by omega) (by omega)
 · exact pall_use (P:=fun k=>Par16Is 42#8 42 5 k) pbrw5 (b:=k+1) (by omega) (by omega)
 · exact pall_use (P:=fun k=>Par16Is 42#8 42 6 k) pbrw6 (b:=k+1) (by omega) (by omega)
 · exact pall_use (P:=fun k=>Par16Is 42#8 42 7 k) pbrw7 (b:=k+1) (by omega) (by omega)
 · exact pall_use (P:=fun k=>Par16Is 42#8 42 8 k) pbrw8 (b:=k+1) (by omega) (by omega)
theorem pbrr1:Pall (fun k=>Par16Is 40#8 40 1 k) 64:=by repeat (first | exact trivial | refine pall_succ ?_ (by show _=_;kernel_rfl))
theorem pbrr2:Pall (fun k=>Par16Is 40#8 40 2 k) 64:=by repeat (first | exact trivial | refine pall_succ ?_ (by show _=_;kernel_rfl))
theorem pbrr3:Pall (fun k=>Par16Is 40#8 40 3 k) 64:=by repeat (first | exact trivial | refine pall_succ ?_ (by show _=_;kernel_rfl))
theorem pbrr4:Pall (fun k=>Par16Is 40#8 40 4 k) 64:=by repeat (first | exact trivial | refine pall_succ ?_ (by show _=_;kernel_rfl))
theorem pbrr5:Pall (fun k=>Par16Is 40#8 40 5 k) 64:=by repeat (first | exact trivial | refine pall_succ ?_ (by show _=_;kernel_rfl))
theorem pbrr6:Pall (fun k=>Par16Is 40#8 40 6 k) 64:=by repeat (first | exact trivial | refine pall_succ ?_ (by show _=_;kernel_rfl))
theorem pbrr7:Pall (fun k=>Par16Is 40#8 40 7 k) 64:=by repeat (first | exact trivial | refine pall_succ ?_ (by show _=_;kernel_rfl))
theorem pbrr8:Pall (fun k=>Par16Is 40#8 40 8 k) 64:=by repeat (first | exact trivial | refine pall_succ ?_ (by show _=_;kernel_rfl))
theorem pbr_r {n k:Nat} (h1:1≤n) (h8:n≤8) (hk:k<64):cdb_Parse (w16 40#8 k n)=some ((40,BitVec.ofNat 64 k,(n:Int),0,0,()),e41):=by
 rcases n8 h1 h8 with rfl | rfl | rfl | rfl | rfl | rfl | rfl | rfl
 · exact pall_use (P:=fun k=>Par16Is 40#8 40 1 k) pbrr1 (b:=k+1) (by omega) (by omega)
 · exact pall_use (P:=fun k=>Par16Is 40#8 40 2 k) pbrr2 (b:=k+1) (by omega) (by omega)
 · exact pall_use (P:=fun k=>Par16Is 40#8 40 3 k) pbrr3 (b:=k+1) (by omega) (by omega)
 · exact pall_use (P:=fun k=>Par16Is 40#8 40 4 k) pbrr4 (b:=k+1) (by omega) (by omega)
 · exact pall_use (P:=fun k=>Par16Is 40#8 40 5 k) pbrr5 (b:=k+1) (by omega) (by omega)
 · exact pall_use (P:=fun k=>Par16Is 40#8 40 6 k) pbrr6 (b:=k+1) (by omega) (by omega)
 · exact pall_use (P:=fun k=>Par16Is 40#8 40 7 k) pbrr7 (b:=k+1) (by omega) (by omega)
 · exact pall_use (P:=fun k=>Par16Is 40#8 40 8 k) pbrr8 (b:=k+1) (by omega) (by omega)
theorem ta1 {L:Nat} (hl:1≤L) (hL:L≤4) (c1 bi:Int) {d:Int} (hd:1≤d) (hd8:d≤8) (s t:Bool) (m:D97):uas_Take (e49,List.replicate L (fr2 m),(c1,bi,d,s,t,()),pcm 1 (List.replicate 16 0#8))=some (([],[iq 1 2 (6,41,0,())],()),us L m (fr3 m)):=by
 obtain⟨B,hB⟩:∃B,Big=B+1+1:=⟨Big-2,by unfold Big;omega⟩;rw[←uas_TakeW_,hB,uas_TakeL_];clear hB;rcases l4 hl hL with rfl | rfl | rfl | rfl<;>rcases d8 hd hd8 with rfl | rfl | rfl | rfl | rfl | rfl | rfl | rfl<;>cases s<;>kernel_rfl
theorem ta2 {L:Nat} (hl:1≤L) (hL:L≤4) (c1 bi:Int) {d:Int} (hd:1≤d) (hd8:d≤8) (s t:Bool) (m:D97):uas_Take (e49,us L m (fr3 m),(c1,bi,d,s,t,()),pcm 1 (List.replicate 16 0#8))=some (([],[iq 1 2 (6,41,2,())],()),us L m (rdy m)):=by
 obtain⟨B,hB⟩:∃B,Big=B+1+1:=⟨Big-2,by unfold Big;omega⟩;rw[←uas_TakeW_,hB,uas_TakeL_];clear hB;rcases l4 hl hL with rfl | rfl | rfl | rfl<;>rcases d8 hd hd8 with rfl | rfl | rfl | rfl | rfl | rfl | rfl | rfl<;>cases s<;>kernel_rfl
theorem iw1 (m:D97) (L:Int) (a:BitVec 64) (n:Int) (p c r t):intent_BeginV (p,c,r,t) (rdy m,0,L,42,a,n,0,0,())=intent_BeginV (p,fun _=>c (slt m,a,n,true),r,t) (rdy m,0,L,42,a,n,0,0,()):=by kernel_rfl
theorem iw2 {n:Nat} (hn:1≤n) (hn8:n≤8) (m:D97) (L:Int) (a:BitVec 64) (p r t):intent_BeginV (p,fun _=>some e41,r,t) (rdy m,0,L,42,a,(n:Int),0,0,())=some (rdy m,2,64*(n:Int),nb,jb n a 0,e41,()):=by
 rcases n8 hn hn8 with rfl | rfl | rfl | rfl | rfl | rfl | rfl | rfl<;>kernel_rfl
theorem ir1 (m:D97) (L:Int) (a:BitVec 64) (n:Int) (p c r t):intent_BeginV (p,c,r,t) (rdy m,0,L,40,a,n,0,0,())=intent_BeginV (p,fun _=>c (slt m,a,n,false),r,t) (rdy m,0,L,40,a,n,0,0,()):=by kernel_rfl
theorem ir2 (m:D97) (L:Int) (a:BitVec 64) (n:Int) (p r t):intent_BeginV (p,fun _=>some e41,r,t) (rdy m,0,L,40,a,n,0,0,())=intent_BeginV (p,fun _=>some e41,fun _=>r (slt m,a,n),t) (rdy m,0,L,40,a,n,0,0,()):=by kernel_rfl
theorem ir3 {n:Nat} (hn:1≤n) (hn8:n≤8) (m:D97) (L:Int) (a:BitVec 64) (g:Nat→BitVec 8) (p t):intent_BeginV (p,fun _=>some e41,fun _=>some (by_ (64*n) g,e41),t) (rdy m,0,L,40,a,(n:Int),0,0,())=some (rdy m,1,64*(n:Int),by_ (64*n) g,e43,e41,()):=by
 rcases n8 hn hn8 with rfl | rfl | rfl | rfl | rfl | rfl | rfl | rfl<;>kernel_rfl
theorem begin_w {b k n:Nat} {g:Nat→BitVec 8} (hn:1≤n) (hn8:n≤8) (hk:k+n≤b) (hb:b≤64) (L:Int):intent_Begin (rdy (mI b k g 0),0,L,42,BitVec.ofNat 64 k,(n:Int),0,0,())=some (rdy (mI b k g 0),2,64*(n:Int),nb,jb n (BitVec.ofNat 64 k) 0,e41,()):=by
 rw[←intent_BeginV_];show intent_BeginV (cdb_Parse,slot_Check,slot_Read,job_Take) _=_;rw[iw1,check_ok (mI_ok (by omega) hb) k n true hk,iw2 hn hn8]
theorem begin_r {b k n:Nat} {g:Nat→BitVec 8} (hn:1≤n) (hn8:n≤8) (hk:k+n≤b) (hb:b≤64) (L:Int):intent_Begin (rdy (mI b k g n),0,L,40,BitVec.ofNat 64 k,(n:Int),0,0,())=some (rdy (mI b k g n),1,64*(n:Int),by_ (64*n) g,e43,e41,()):=by
 rw[←intent_BeginV_];show intent_BeginV (cdb_Parse,slot_Check,slot_Read,job_Take) _=_;rw[ir1,check_ok (mI_ok hk hb) k n false hk,ir2,mI_read hk hb,ir3 hn hn8]
theorem wt1 (c1 bi:Int) {d:Int} (hd:1≤d) (hd8:d≤8) (s t:Bool) (u:List D102) (k n:Nat) (lp):uas_TakeW lp (e49,u,(c1,bi,d,s,t,()),pcm 2 (w16 42#8 k n))=uas_TakeW (fun _=>lp (e49,((e49,u,(c1,bi,d,s,t,()),()),[tk 2 (w16 42#8 k n)],[],()),(),0)) (e49,u,(c1,bi,d,s,t,()),pcm 2 (w16 42#8 k n)):=by
 rcases d8 hd hd8 with rfl | rfl | rfl | rfl | rfl | rfl | rfl | rfl<;>kernel_rfl
theorem wt2 {L:Nat} (hl:1≤L) (hL:L≤4) (c1 bi d:Int) (s t:Bool) (M m:D97) (k n:Nat) (cp ib rec):uas_TakeL cp ib rec (e49,((e49,us L M (rdy m),(c1,bi,d,s,t,()),()),[tk 2 (w16 42#8 k n)],[],()),(),0)=uas_TakeL (fun _=>cp (w16 42#8 k n)) ib rec (e49,((e49,us L M (rdy m),(c1,bi,d,s,t,()),()),[tk 2 (w16 42#8 k n)],[],()),(),0):=by
 rcases l4 hl hL with rfl | rfl | rfl | rfl<;>cases s<;>kernel_rfl
theorem wt3 {L:Nat} (hl:1≤L) (hL:L≤4) (c1 bi d:Int) (s t:Bool) (M m:D97) (k n:Nat) (a:BitVec 64) (ib rec):uas_TakeL (fun _=>some ((42,a,(n:Int),0,0,()),e41)) ib rec (e49,((e49,us L M (rdy m),(c1,bi,d,s,t,()),()),[tk 2 (w16 42#8 k n)],[],()),(),0)=uas_TakeL (fun _=>some ((42,a,(n:Int),0,0,()),e41)) (fun _=>ib (rdy m,0,(L:Int),42,a,(n:Int),0,0,())) rec (e49,((e49,us L M (rdy m),(c1,bi,d,s,t,()),()),[tk 2 (w16 42#8 k n)],[],()),(),0):=by
 rcases l4 hl hL with rfl | rfl | rfl | rfl<;>cases s<;>kernel_rfl
theorem wt4 {L n:Nat} (hl:1≤L) (hL:L≤4) (hn:1≤n) (hn8:n≤8) (c1 bi d:Int) (s t:Bool) (M m:D97) (k:Nat) (a:BitVec 64) (rec):uas_TakeL (fun _=>some ((42,a,(n:Int),0,0,()),e41)) (fun _=>some (rdy m,2,64*(n:Int),nb,jb n a 0,e41,())) rec (e49,((e49,us L M (rdy m),(c1,bi,d,s,t,()),()),[tk 2 (w16 42#8 k n)],[],()),(),0)=rec (e49,((e49,us L M (rdy m),(c1,bi,d,s,t,()),()),(qO s n k a).1,(qO s n k a).2.1,()),(),0):=by
 rcases l4 hl hL with rfl | rfl | rfl | rfl<;>cases s<;>rcases n8 hn hn8 with rfl | rfl | rfl | rfl | rfl | rfl | rfl | rfl<;>kernel_rfl
theorem wt5 (c1 bi d:Int) (s t:Bool) (L:Nat) (M m:D97) (k n:Nat) (a:BitVec 64) (B:Nat):uas_Take_L0 (B+2) (e49,((e49,us L M (rdy m),(c1,bi,d,s,t,()),()),(qO s n k a).1,(qO s n k a).2.1,()),(),0)=some (.inl (e49,(e49,us L M (rdy m),(c1,bi,d,s,t,()),()),(qO s n k a).1,(qO s n k a).2.1,())):=by
 cases s<;>kernel_rfl
theorem wt6 (c1 bi:Int) {d:Int} (hd:1≤d) (hd8:d≤8) (s t:Bool) (u u':List D102) (k n:Nat) (x:D49):uas_TakeW (fun _=>some (.inl (e49,(e49,u',(c1,bi,d,s,t,()),()),x.1,x.2.1,()))) (e49,u,(c1,bi,d,s,t,()),pcm 2 (w16 42#8 k n))=some (x,u'):=by
 rcases d8 hd hd8 with rfl | rfl | rfl | rfl | rfl | rfl | rfl | rfl<;>kernel_rfl
theorem rt1 (c1 bi:Int) {d:Int} (hd:1≤d) (hd8:d≤8) (s t:Bool) (u:List D102) (k n:Nat) (lp):uas_TakeW lp (e49,u,(c1,bi,d,s,t,()),pcm 3 (w16 40#8 k n))=uas_TakeW (fun _=>lp (e49,((e49,u,(c1,bi,d,s,t,()),()),[tk 3 (w16 40#8 k n)],[],()),(),0)) (e49,u,(c1,bi,d,s,t,()),pcm 3 (w16 40#8 k n)):=by
 rcases d8 hd hd8 with rfl | rfl | rfl | rfl | rfl | rfl | rfl | rfl<;>kernel_rfl
theorem rt2 {L:Nat} (hl:1≤L) (hL:L≤4) (c1 bi d:Int) (s t:Bool) (M m:D97) (k n:Nat) (cp ib rec):uas_TakeL cp ib rec (e49,((e49,us L M (rdy m),(c1,bi,d,s,t,()),()),[tk 3 (w16 40#8 k n)],[],()),(),0)=uas_TakeL (fun _=>cp (w16 40#8 k n)) ib rec (e49,((e49,us L M (rdy m),(c1,bi,d,s,t,()),()),[tk 3 (w16 40#8 k n)],[],()),(),0):=by
 rcases l4 hl hL with rfl | rfl | rfl | rfl<;>cases s<;>kernel_rfl
theorem rt3 {L:Nat} (hl:1≤L) (hL:L≤4) (c1 bi d:Int) (s t:Bool) (M m:D97) (k n:Nat) (a:BitVec 64) (ib rec):uas_TakeL (fun _=>some ((40,a,(n:Int),0,0,()),e41)) ib rec (e49,((e49,us L M (rdy m),(c1,bi,d,s,t,()),()),[tk 3 (w16 40#8 k n)],[],()),(),0)=uas_TakeL (fun _=>some ((40,a,(n:Int),0,0,()),e41)) (fun _=>ib (rdy m,0,(L:Int),40,a,(n:Int),0,0,())) rec (e49,((e49,us L M (rdy m),(c1,bi,d,s,t,()),()),[tk 3 (w16 40#8 k n)],[],()),(),0):=by
 rcases l4 hl hL with rfl | rfl | rfl | rfl<;>cases s<;>kernel_rfl
theorem rt4 {L n:Nat} (hl:1≤L) (hL:L≤4) (hn:1≤n) (hn8:n≤8) (c1 bi d:Int) (s t:Bool) (M m:D97) (k:Nat) (a:BitVec 64) (g:Nat→BitVec 8) (rec):uas_TakeL (fun _=>some ((40,a,(n:Int),0,0,()),e41)) (fun _=>some (rdy m,1,64*(n:Int),by_ (64*n) g,e43,e41,())) rec (e49,((e49,us L M (rdy m),(c1,bi,d,s,t,()),()),[tk 3 (w16 40#8 k n)],[],()),(),0)=rec (e49,((e49,us L M (rdy m),(c1,bi,d,s,t,()),()),(qI s n k g).1,(qI s n k g).2.1,()),(),0):=by
 rcases l4 hl hL with rfl | rfl | rfl | rfl<;>cases s<;>rcases n8 hn hn8 with rfl | rfl | rfl | rfl | rfl | rfl | rfl | rfl<;>kernel_rfl
theorem rt5 (c1 bi d:Int) (s t:Bool) (L:Nat) (M m:D97) (k n:Nat) (g:Nat→BitVec 8) (B:Nat):uas_Take_L0 (B+2) (e49,((e49,us L M (rdy m),(c1,bi,d,s,t,()),()),(qI s n k g).1,(qI s n k g).2.1,()),(),0)=some (.inl (e49,(e49,us L M (rdy m),(c1,bi,d,s,t,()),()),(qI s n k g).1,(qI s n k g).2.1,())):=by
 cases s<;>kernel_rfl
theorem rt6 (c1 bi:Int) {d:Int} (hd:1≤d) (hd8:d≤8) (s t:Bool) (u u':List D102) (k n:Nat) (x:D49):uas_TakeW (fun _=>some (.inl (e49,(e49,u',(c1,bi,d,s,t,()),()),x.1,x.2.1,()))) (e49,u,(c1,bi,d,s,t,()),pcm 3 (w16 40#8 k n))=some (x,u'):=by
 rcases d8 hd hd8 with rfl | rfl | rfl | rfl | rfl | rfl | rfl | rfl<;>kernel_rfl
end Go.Proofs.YthnpgnabfcaaiaaGreat
namespace Go.Proofs.YthnpgnabfcaaiaaGreat
open Go Go.Re
set_option linter.unusedVariables false
set_option linter.unusedSimpArgs false
set_option maxRecDepth 100000
set_option maxHeartbeats 4000000
theorem big3:∃B,Big=B+2+1:=⟨Big-3,by unfold Big;omega⟩
theorem take_w {L b k n:Nat} {g:Nat→BitVec 8} {M:D97} (hl:1≤L) (hL:L≤4) (hn:1≤n) (hn8:n≤8) (hk:k+n≤b) (hb:b≤64) (c1 bi:Int) {d:Int} (hd:1≤d) (hd8:d≤8) (s t:Bool):
 uas_Take (e49,us L M (rdy (mI b k g 0)),(c1,bi,d,s,t,()),pcm 2 (w16 42#8 k n))=some (qO s n k (BitVec.ofNat 64 k),us L M (rdy (mI b k g 0))):=by
 rw[←uas_TakeW_];refine (wt1 c1 bi hd hd8 s t _ k n _).trans ?_;obtain⟨B,hB⟩:=big3;rw[hB,uas_TakeL_,wt2 hl hL,pbr_w hn hn8 (by omega),wt3 hl hL,begin_w hn hn8 hk hb,wt4 hl hL hn hn8,wt5];exact wt6 c1 bi hd hd8 s t _ _ k n _
theorem take_r {L b k n:Nat} {g:Nat→BitVec 8} {M:D97} (hl:1≤L) (hL:L≤4) (hn:1≤n) (hn8:n≤8) (hk:k+n≤b) (hb:b≤64) (c1 bi:Int) {d:Int} (hd:1≤d) (hd8:d≤8) (s t:Bool):
 uas_Take (e49,us L M (rdy (mI b k g n)),(c1,bi,d,s,t,()),pcm 3 (w16 40#8 k n))=some (qI s n k g,us L M (rdy (mI b k g n))):=by
 rw[←uas_TakeW_];refine (rt1 c1 bi hd hd8 s t _ k n _).trans ?_;obtain⟨B,hB⟩:=big3;rw[hB,uas_TakeL_,rt2 hl hL,pbr_r hn hn8 (by omega),rt3 hl hL,begin_r hn hn8 hk hb,rt4 hl hL hn hn8,rt5];exact rt6 c1 bi hd hd8 s t _ _ k n _
section
variable (c1 bi d:Int) (s t:Bool)
theorem wants (n k:Nat) (a:BitVec 64) (j:Nat):uas_Wants (([tO n k a 3 j],[],()),(c1,bi,d,s,t,()),sn s 2)=some true:=by cases s<;>kernel_rfl
theorem co1 (t2:Bool) (n k:Nat) (a:BitVec 64) (j:Nat) (u:List D102) (y:Nat→BitVec 8) (x:(List D102)×Int×D43×(List (BitVec 8))→Option ((List D102)×D43)) (f:(List D102)×Int×D43→Option ((List D102)×D41)):uas_ComesC (x,f) (([tO n k a 3 j],[],()),u,(c1,bi,d,s,t,()),(3,5,2,sn s 2,tbU t2,false,0,0#64,by_ 64 y,()))=uas_ComesC (fun _=>x (u,0,jb n a j,by_ 64 y),f) (([tO n k a 3 j],[],()),u,(c1,bi,d,s,t,()),(3,5,2,sn s 2,tbU t2,false,0,0#64,by_ 64 y,())):=by cases s<;>kernel_rfl
end
theorem co2 {n i:Nat} (hi:1≤i) (hn:i≤n) (hn8:n≤8):∀(c1 bi d:Int) (s t t2:Bool) (k:Nat) (a:BitVec 64) (u u1 u2:List D102) (y:Nat→BitVec 8) (f:(List D102)×Int×D43→Option ((List D102)×D41)),i=n∨uas_ComesC (fun _=>some (u1,jb n a i),f) (([tO n k a 3 (i-1)],[],()),u,(c1,bi,d,s,t,()),(3,5,2,sn s 2,tbU t2,false,0,0#64,by_ 64 y,()))=some (([tO n k a 3 i],[],()),u1):=by
 refine ni (P:=fun n i=>∀(c1 bi d:Int) (s t t2:Bool) (k:Nat) (a:BitVec 64) (u u1 u2:List D102) (y:Nat→BitVec 8) (f:(List D102)×Int×D43→Option ((List D102)×D41)),i=n∨uas_ComesC (fun _=>some (u1,jb n a i),f) (([tO n k a 3 (i-1)],[],()),u,(c1,bi,d,s,t,()),(3,5,2,sn s 2,tbU t2,false,0,0#64,by_ 64 y,()))=some (([tO n k a 3 i],[],()),u1)) ?_ ?_ ?_ ?_ ?_ ?_ ?_ ?_ hi hn hn8<;>repeat (first | exact trivial | refine pall_succ ?_ (by intro c1 bi d s t t2 k a u u1 u2 y f;first | exact .inl rfl | (right;cases s<;>kernel_rfl)))
theorem co3 {n:Nat} (hn:1≤n) (hn8:n≤8):∀(c1 bi d:Int) (s t t2:Bool) (k:Nat) (a:BitVec 64) (u u1 u2:List D102) (y:Nat→BitVec 8) (f:(List D102)×Int×D43→Option ((List D102)×D41)),uas_ComesC (fun _=>some (u1,jb n a n),f) (([tO n k a 3 (n-1)],[],()),u,(c1,bi,d,s,t,()),(3,5,2,sn s 2,tbU t2,false,0,0#64,by_ 64 y,()))=uas_ComesC (fun _=>some (u1,jb n a n),fun _=>f (u1,0,jb n a n)) (([tO n k a 3 (n-1)],[],()),u,(c1,bi,d,s,t,()),(3,5,2,sn s 2,tbU t2,false,0,0#64,by_ 64 y,())):=by
 intro c1 bi d s t t2 k a u u1 u2 y f;cases s<;>rcases n8 hn hn8 with rfl | rfl | rfl | rfl | rfl | rfl | rfl | rfl<;>kernel_rfl
theorem co4 {n:Nat} (hn:1≤n) (hn8:n≤8):∀(c1 bi d:Int) (s t t2:Bool) (k:Nat) (a:BitVec 64) (u u1 u2:List D102) (y:Nat→BitVec 8),uas_ComesC (fun _=>some (u1,jb n a n),fun _=>some (u2,e41)) (([tO n k a 3 (n-1)],[],()),u,(c1,bi,d,s,t,()),(3,5,2,sn s 2,tbU t2,false,0,0#64,by_ 64 y,()))=some (([],[iq 2 0 e41],()),u2):=by
 intro c1 bi d s t t2 k a u u1 u2 y;cases s<;>rcases n8 hn hn8 with rfl | rfl | rfl | rfl | rfl | rfl | rfl | rfl<;>kernel_rfl
section
variable {L b k n:Nat} {M:D97} {g:Nat→BitVec 8} (c1 bi d:Int) (s t:Bool)
theorem comes_d (hl:1≤L) (hL:L≤4) {i:Nat} (hi:i+1<n) (hn8:n≤8) (hk:k+n≤b) (hb:b≤64) (t2:Bool):
 uas_Comes (([tO n k (BitVec.ofNat 64 k) 3 i],[],()),us L M (rdy (mI b k g i)),(c1,bi,d,s,t,()),3,5,2,sn s 2,tbU t2,false,0,0#64,blk g i,())=some (([tO n k (BitVec.ofNat 64 k) 3 (i+1)],[],()),us L M (rdy (mI b k g (i+1)))):=by
 have e2:=take_run (M:=M) (g:=g) (b:=b) (k:=k) (n:=n) (i:=i+1) hl hL (by omega) (by omega) hn8 hk hb;have e3:=co2 (n:=n) (i:=i+1) (by omega) (by omega) hn8 c1 bi d s t t2 k (BitVec.ofNat 64 k) (us L M (rdy (mI b k g i))) (us L M (rdy (mI b k g (i+1)))) [] (fun x=>g (64*i+x)) unit_Finish;rw[Nat.add_sub_cancel] at e2 e3;rw[←uas_ComesC_];refine (co1 c1 bi d s t t2 n k (BitVec.ofNat 64 k) i _ (fun x=>g (64*i+x)) unit_Take unit_Finish).trans ?_;rw[show unit_Take (us L M (rdy (mI b k g i)),0,jb n (BitVec.ofNat 64 k) i,by_ 64 fun x=>g (64*i+x))=_ from e2];exact e3.resolve_left (by omega)
theorem comes_l (hl:1≤L) (hL:L≤4) (hn:1≤n) (hn8:n≤8) (hk:k+n≤b) (hb:b≤64) (t2:Bool):
 uas_Comes (([tO n k (BitVec.ofNat 64 k) 3 (n-1)],[],()),us L M (rdy (mI b k g (n-1))),(c1,bi,d,s,t,()),3,5,2,sn s 2,tbU t2,false,0,0#64,blk g (n-1),())=some (([],[iq 2 0 e41],()),us L M (rdy (mI b k g n))):=by
 have e2:=take_run (M:=M) (g:=g) (b:=b) (k:=k) (n:=n) (i:=n) hl hL (by omega) (by omega) hn8 hk hb;rw[←uas_ComesC_];refine (co1 c1 bi d s t t2 n k (BitVec.ofNat 64 k) (n-1) _ (fun x=>g (64*(n-1)+x)) unit_Take unit_Finish).trans ?_;rw[show unit_Take (us L M (rdy (mI b k g (n-1))),0,jb n (BitVec.ofNat 64 k) (n-1),by_ 64 fun x=>g (64*(n-1)+x))=_ from e2];refine (co3 hn hn8 c1 bi d s t t2 k (BitVec.ofNat 64 k) (us L M (rdy (mI b k g (n-1)))) (us L M (rdy (mI b k g n))) [] (fun x=>g (64*(n-1)+x)) unit_Finish).trans ?_;rw[fi_run hl hL hn hn8 M _ (BitVec.ofNat 64 k)];exact co4 hn hn8 c1 bi d s t t2 k (BitVec.ofNat 64 k) (us L M (rdy (mI b k g (n-1)))) (us L M (rdy (mI b k g n))) (us L M (rdy (mI b k g n))) (fun x=>g (64*(n-1)+x))
end
theorem nxt {n i:Nat} (hi:1≤i) (hn:i≤n) (hn8:n≤8):∀(c1 bi d:Int) (s t:Bool) (k:Nat) (g:Nat→BitVec 8) (u:List D102),uas_Next (([tI n k g 2 (i-1)],[],()),(c1,bi,d,s,t,()),sn s 3)=some (blk g (i-1),true):=by
 refine ni (P:=fun n i=>∀(c1 bi d:Int) (s t:Bool) (k:Nat) (g:Nat→BitVec 8) (u:List D102),uas_Next (([tI n k g 2 (i-1)],[],()),(c1,bi,d,s,t,()),sn s 3)=some (blk g (i-1),true)) ?_ ?_ ?_ ?_ ?_ ?_ ?_ ?_ hi hn hn8<;>repeat (first | exact trivial | refine pall_succ ?_ (by intro c1 bi d s t k g u;cases s<;>kernel_rfl))
theorem snt {n i:Nat} (hi:1≤i) (hn:i≤n) (hn8:n≤8):∀(c1 bi d:Int) (s t:Bool) (k:Nat) (g:Nat→BitVec 8) (u:List D102),i=n∨uas_Sent (([tI n k g 2 (i-1)],[],()),u,(c1,bi,d,s,t,()),sn s 3)=some (([tI n k g 2 i],[],()),u):=by
 refine ni (P:=fun n i=>∀(c1 bi d:Int) (s t:Bool) (k:Nat) (g:Nat→BitVec 8) (u:List D102),i=n∨uas_Sent (([tI n k g 2 (i-1)],[],()),u,(c1,bi,d,s,t,()),sn s 3)=some (([tI n k g 2 i],[],()),u)) ?_ ?_ ?_ ?_ ?_ ?_ ?_ ?_ hi hn hn8<;>repeat (first | exact trivial | refine pall_succ ?_ (by intro c1 bi d s t k g u;first | exact .inl rfl | (right;cases s<;>kernel_rfl)))
theorem sntl {n:Nat} (hn:1≤n) (hn8:n≤8):∀(c1 bi d:Int) (s t:Bool) (k:Nat) (g:Nat→BitVec 8) (u:List D102),uas_Sent (([tI n k g 2 (n-1)],[],()),u,(c1,bi,d,s,t,()),sn s 3)=some (([],[iq 3 0 e41],()),u):=by
 intro c1 bi d s t k g u;cases s<;>rcases n8 hn hn8 with rfl | rfl | rfl | rfl | rfl | rfl | rfl | rfl<;>kernel_rfl
section
variable (c1 bi d:Int) (s t:Bool)
theorem noneO (n k:Nat) (a:BitVec 64) (j:Nat):uas_Status (([tO n k a 3 j],[],()),(c1,bi,d,s,t,()),sn s 2)=some (nb,false):=by cases s<;>kernel_rfl
theorem noneI (n k:Nat) (g:Nat→BitVec 8) (j:Nat):uas_Status (([tI n k g 2 j],[],()),(c1,bi,d,s,t,()),sn s 3)=some (nb,false):=by cases s<;>kernel_rfl
theorem rdyO1 (n k:Nat) (a:BitVec 64):uas_Status (([tO n k a 1 0],[ir 2 2],()),(c1,bi,d,false,t,()),0)=some ((ir 2 2).2.2.1,true):=by kernel_rfl
theorem rdyO2 (n k:Nat) (a:BitVec 64):uas_Told (([tO n k a 1 0],[ir 2 2],()),(c1,bi,d,false,t,()),0)=some ([tO n k a 3 0],[],()):=by kernel_rfl
theorem rdyI1 (n k:Nat) (g:Nat→BitVec 8):uas_Status (([tI n k g 1 0],[ir 3 1],()),(c1,bi,d,false,t,()),0)=some ((ir 3 1).2.2.1,true):=by kernel_rfl
theorem rdyI2 (n k:Nat) (g:Nat→BitVec 8):uas_Told (([tI n k g 1 0],[ir 3 1],()),(c1,bi,d,false,t,()),0)=some ([tI n k g 2 0],[],()):=by kernel_rfl
theorem tella1:uas_Status (([],[iq 1 2 (6,41,0,())],()),(c1,bi,d,s,t,()),sn s 1)=some ((iq 1 2 (6,41,0,())).2.2.1,true):=by cases s<;>kernel_rfl
theorem tella2:uas_Told (([],[iq 1 2 (6,41,0,())],()),(c1,bi,d,s,t,()),sn s 1)=some e49:=by cases s<;>kernel_rfl
theorem tellb1:uas_Status (([],[iq 1 2 (6,41,2,())],()),(c1,bi,d,s,t,()),sn s 1)=some ((iq 1 2 (6,41,2,())).2.2.1,true):=by cases s<;>kernel_rfl
theorem tellb2:uas_Told (([],[iq 1 2 (6,41,2,())],()),(c1,bi,d,s,t,()),sn s 1)=some e49:=by cases s<;>kernel_rfl
theorem tello1:uas_Status (([],[iq 2 0 e41],()),(c1,bi,d,s,t,()),sn s 2)=some ((iq 2 0 e41).2.2.1,true):=by cases s<;>kernel_rfl
theorem tello2:uas_Told (([],[iq 2 0 e41],()),(c1,bi,d,s,t,()),sn s 2)=some e49:=by cases s<;>kernel_rfl
theorem telli1:uas_Status (([],[iq 3 0 e41],()),(c1,bi,d,s,t,()),sn s 3)=some ((iq 3 0 e41).2.2.1,true):=by cases s<;>kernel_rfl
theorem telli2:uas_Told (([],[iq 3 0 e41],()),(c1,bi,d,s,t,()),sn s 3)=some e49:=by cases s<;>kernel_rfl
theorem ready0:uas_Ready e49=some true:=by kernel_rfl
end
end Go.Proofs.YthnpgnabfcaaiaaGreat
namespace Go.Proofs.YthnpgnabfcaaiaaGreat
open Go Go.Re
set_option linter.unusedVariables false
set_option linter.unusedSimpArgs false
set_option maxRecDepth 100000
set_option maxHeartbeats 4000000
def tb (t:Bool):Int:=bif t then 1 else 0
def ep (h t:Bool):D114:=(h,tb t,false,0,nb,())
def af (h t ack:Bool) (d:List (BitVec 8)):D114:=bif ack then ep h (!t) else (h,tb t,true,0,d,())
def gs (c:D22) (u:List D102) (a b:D114) (k:D45):D51:=(c,u,(5,0,false,1,0,()),e32,[a,b,e114,e114],k,e49,())
def wW (n k:Nat):D36:=(7#32,BitVec.ofInt 32 (64*(n:Int)),false,0,wcd 42#8 k n,())
def wR (e n k:Nat):D36:=(8#32,BitVec.ofInt 32 (64*(n:Int)+(e:Int)),true,0,wcd 40#8 k n,())
def wB (w:D36):List (BitVec 8):=((reticuleref19_Bytes w).getD (nb,false)).1
def kO (n k:Nat) (a:BitVec 64) (i:Nat):D45:=(2,wW n k,nb,jb n a i,true,64*((n-i:Nat):Int),64*(i:Int),0,e41,false,false,())
def kI (e n k:Nat) (g:Nat→BitVec 8) (i:Nat):D45:=(1,wR e n k,by_ (64*(n-i)) (fun j=>g (64*i+j)),e43,false,64*((n-i:Nat):Int)+(e:Int),64*(i:Int),0,e41,false,false,())
def kS (w:D36) (left done:Int) (h:Bool):D45:=(3,w,nb,e43,false,left,done,0,e41,h,false,())
def sB (tag:BitVec 8) (res:BitVec 8):List (BitVec 8):=[85#8,83#8,66#8,83#8,tag,0#8,0#8,0#8,res,0#8,0#8,0#8,0#8]
abbrev oev (t:Bool) (x:List (BitVec 8)):D61:=(3,5,2,0,tb t,false,0,0#64,x,())
abbrev iev (ack:Bool):D61:=(4,5,1,0,0,ack,0,0#64,nb,())
abbrev ack1:D57:=(1,0,nb,())
section
variable {c1 bi d:Int} {s t:Bool} {tg:Bool} {u u':List D102} {a b:D114} {k:D45} {x:List (BitVec 8)} {a0:Int} {a1:D36} {a2:List (BitVec 8)} {a3:D43} {a4:Bool} {a5 a6 a7:Int} {a8:D41} {h:Bool}
theorem go31 {x0 x1 x2 x3 x4 x5 x6 x7 x8 x9 y0 y1 y2 y3 y4 y5 y6 y7 y8 y9 z0 z1 z2 z3 z4 z5 z6 z7 z8 z9 w0:BitVec 8} (h1:bulk_Ready k=some true) (h2:bulk_Take (k,u,[x0,x1,x2,x3,x4,x5,x6,x7,x8,x9,y0,y1,y2,y3,y4,y5,y6,y7,y8,y9,z0,z1,z2,z3,z4,z5,z6,z7,z8,z9,w0],t)=some ((a0,a1,a2,a3,a4,a5,a6,a7,a8,false,false,()),u')):gadget_StepT (gs (c1,bi,d,s,t,()) u a (ep false tg) k,oev tg ([x0,x1,x2,x3,x4,x5,x6,x7,x8,x9,y0,y1,y2,y3,y4,y5,y6,y7,y8,y9,z0,z1,z2,z3,z4,z5,z6,z7,z8,z9,w0]))=some (gs (c1,bi,d,s,t,()) u' a (ep false (!tg)) (a0,a1,a2,a3,a4,a5,a6,a7,a8,false,false,()),ack1):=by
 rw[gadget_StepTB_];have e1:∀br bn bt bs,gadget_StepKB (br,bn,bt,bs) (gs (c1,bi,d,s,t,()) u a (ep false tg) k,oev tg ([x0,x1,x2,x3,x4,x5,x6,x7,x8,x9,y0,y1,y2,y3,y4,y5,y6,y7,y8,y9,z0,z1,z2,z3,z4,z5,z6,z7,z8,z9,w0])) true=gadget_StepKB (fun _=>br k,bn,bt,bs) (gs (c1,bi,d,s,t,()) u a (ep false tg) k,oev tg ([x0,x1,x2,x3,x4,x5,x6,x7,x8,x9,y0,y1,y2,y3,y4,y5,y6,y7,y8,y9,z0,z1,z2,z3,z4,z5,z6,z7,z8,z9,w0])) true:=by intro br bn bt bs;cases s<;>kernel_rfl
 have e2:∀bn bt bs,gadget_StepKB (fun _=>some true,bn,bt,bs) (gs (c1,bi,d,s,t,()) u a (ep false tg) k,oev tg ([x0,x1,x2,x3,x4,x5,x6,x7,x8,x9,y0,y1,y2,y3,y4,y5,y6,y7,y8,y9,z0,z1,z2,z3,z4,z5,z6,z7,z8,z9,w0])) true=gadget_StepKB (fun _=>some true,bn,fun _=>bt (k,u,[x0,x1,x2,x3,x4,x5,x6,x7,x8,x9,y0,y1,y2,y3,y4,y5,y6,y7,y8,y9,z0,z1,z2,z3,z4,z5,z6,z7,z8,z9,w0],t),bs) (gs (c1,bi,d,s,t,()) u a (ep false tg) k,oev tg ([x0,x1,x2,x3,x4,x5,x6,x7,x8,x9,y0,y1,y2,y3,y4,y5,y6,y7,y8,y9,z0,z1,z2,z3,z4,z5,z6,z7,z8,z9,w0])) true:=by intro bn bt bs;cases s<;>cases tg<;>kernel_rfl
 refine (e1 bulk_Ready bulk_Next bulk_Take bulk_Sent).trans ?_;rw[h1];refine (e2 bulk_Next bulk_Take bulk_Sent).trans ?_;rw[h2];clear h1 h2 e1 e2;cases s<;>cases tg<;>kernel_rfl
theorem gi64 {y:Nat→BitVec 8} (ack:Bool) (h1:bulk_Next k=some (by_ 64 y,true)) (h2:bulk_Sent (k,u,t)=some ((a0,a1,a2,a3,a4,a5,a6,a7,a8,h,false,()),u')):gadget_StepT (gs (c1,bi,d,s,t,()) u (ep false tg) b k,iev ack)=some (gs (c1,bi,d,s,t,()) u' (af h tg ack (by_ 64 y)) b (a0,a1,a2,a3,a4,a5,a6,a7,a8,h,false,()),4,tb tg,by_ 64 y,()):=by
 rw[gadget_StepTB_];have e1:∀br bn bt bs,gadget_StepKB (br,bn,bt,bs) (gs (c1,bi,d,s,t,()) u (ep false tg) b k,iev ack) true=gadget_StepKB (br,fun _=>bn k,bt,bs) (gs (c1,bi,d,s,t,()) u (ep false tg) b k,iev ack) true:=by intro br bn bt bs;cases s<;>kernel_rfl
 have e2:∀br bt bs,gadget_StepKB (br,fun _=>some (by_ 64 y,true),bt,bs) (gs (c1,bi,d,s,t,()) u (ep false tg) b k,iev ack) true=gadget_StepKB (br,fun _=>some (by_ 64 y,true),bt,fun _=>bs (k,u,t)) (gs (c1,bi,d,s,t,()) u (ep false tg) b k,iev ack) true:=by intro br bt bs;cases s<;>cases tg<;>cases ack<;>kernel_rfl
 refine (e1 bulk_Ready bulk_Next bulk_Take bulk_Sent).trans ?_;rw[h1];refine (e2 bulk_Ready bulk_Take bulk_Sent).trans ?_;rw[h2];clear h1 h2 e1 e2;cases s<;>cases tg<;>cases ack<;>cases h<;>kernel_rfl
theorem gi13 {x0 x1 x2 x3 x4 x5 x6 x7 x8 x9 y0 y1 y2:BitVec 8} (ack:Bool) (h1:bulk_Next k=some ([x0,x1,x2,x3,x4,x5,x6,x7,x8,x9,y0,y1,y2],true)) (h2:bulk_Sent (k,u,t)=some ((a0,a1,a2,a3,a4,a5,a6,a7,a8,h,false,()),u')):gadget_StepT (gs (c1,bi,d,s,t,()) u (ep false tg) b k,iev ack)=some (gs (c1,bi,d,s,t,()) u' (af h tg ack ([x0,x1,x2,x3,x4,x5,x6,x7,x8,x9,y0,y1,y2])) b (a0,a1,a2,a3,a4,a5,a6,a7,a8,h,false,()),4,tb tg,[x0,x1,x2,x3,x4,x5,x6,x7,x8,x9,y0,y1,y2],()):=by
 rw[gadget_StepTB_];have e1:∀br bn bt bs,gadget_StepKB (br,bn,bt,bs) (gs (c1,bi,d,s,t,()) u (ep false tg) b k,iev ack) true=gadget_StepKB (br,fun _=>bn k,bt,bs) (gs (c1,bi,d,s,t,()) u (ep false tg) b k,iev ack) true:=by intro br bn bt bs;cases s<;>kernel_rfl
 have e2:∀br bt bs,gadget_StepKB (br,fun _=>some ([x0,x1,x2,x3,x4,x5,x6,x7,x8,x9,y0,y1,y2],true),bt,bs) (gs (c1,bi,d,s,t,()) u (ep false tg) b k,iev ack) true=gadget_StepKB (br,fun _=>some ([x0,x1,x2,x3,x4,x5,x6,x7,x8,x9,y0,y1,y2],true),bt,fun _=>bs (k,u,t)) (gs (c1,bi,d,s,t,()) u (ep false tg) b k,iev ack) true:=by intro br bt bs;cases s<;>cases tg<;>cases ack<;>kernel_rfl
 refine (e1 bulk_Ready bulk_Next bulk_Take bulk_Sent).trans ?_;rw[h1];refine (e2 bulk_Ready bulk_Take bulk_Sent).trans ?_;rw[h2];clear h1 h2 e1 e2;cases s<;>cases tg<;>cases ack<;>cases h<;>kernel_rfl
end
theorem xr0 {L n:Nat} (hl:1≤L) (hL:L≤4) (hn:1≤n) (hn8:n≤8) (M:D97) (v:D102) (u:List D102) (k:Nat) (t:Bool) (g:Nat→BitVec 8) (h:unit_Command (us L M v,0,wcd 40#8 k n)=some (u,1,64*(n:Int),by_ (64*n) g,e43,e41,())):bulk_Take (e45,us L M v,wB (wR 0 n k),t)=some (kI 0 n k g 0,u):=by
 have e1:∀c x f kp,bulk_TakeU (c,x,f,kp) (e45,us L M v,wB (wR 0 n k),t)=bulk_TakeU (fun _=>c (us L M v,0,wcd 40#8 k n),x,f,kp) (e45,us L M v,wB (wR 0 n k),t):=by
  intro c x f kp;clear h;rcases n8 hn hn8 with rfl | rfl | rfl | rfl | rfl | rfl | rfl | rfl<;>rcases l4 hl hL with rfl | rfl | rfl | rfl<;>kernel_rfl
 rw[←bulk_TakeU_];refine (e1 unit_Command unit_Take unit_Finish unit_Keep).trans ?_;rw[h];clear h e1;rcases n8 hn hn8 with rfl | rfl | rfl | rfl | rfl | rfl | rfl | rfl<;>rcases l4 hl hL with rfl | rfl | rfl | rfl<;>cases t<;>kernel_rfl
theorem re:bulk_Ready e45=some true:=by kernel_rfl
theorem ne:bulk_Next e45=some (nb,false):=by kernel_rfl
theorem nI0 {n i:Nat} (hi:1≤i) (hn:i≤n) (hn8:n≤8):∀(k:Nat) (g:Nat→BitVec 8),bulk_Next (kI 0 n k g (i-1))=some (blk g (i-1),true):=by
 refine ni (P:=fun n i=>∀(k:Nat) (g:Nat→BitVec 8),bulk_Next (kI 0 n k g (i-1))=some (blk g (i-1),true)) ?_ ?_ ?_ ?_ ?_ ?_ ?_ ?_ hi hn hn8<;>repeat (first | exact trivial | refine pall_succ ?_ (by intro k g;kernel_rfl))
theorem sI0 {n i:Nat} (hi:1≤i) (hn:i≤n) (hn8:n≤8):∀(k:Nat) (g:Nat→BitVec 8) (u:List D102) (t:Bool),i=n∨bulk_Sent (kI 0 n k g (i-1),u,t)=some (kI 0 n k g i,u):=by
 refine ni (P:=fun n i=>∀(k:Nat) (g:Nat→BitVec 8) (u:List D102) (t:Bool),i=n∨bulk_Sent (kI 0 n k g (i-1),u,t)=some (kI 0 n k g i,u)) ?_ ?_ ?_ ?_ ?_ ?_ ?_ ?_ hi hn hn8<;>repeat (first | exact trivial | refine pall_succ ?_ (by intro k g u t;first | exact .inl rfl | (right;kernel_rfl)))
theorem nsr0 {n:Nat} (hn:1≤n) (hn8:n≤8) (k:Nat) (h:Bool):bulk_Next (kS (wR 0 n k) 0 (64*(n:Int)) h)=some (sB 8#8 0#8,true):=by
 rcases n8 hn hn8 with rfl | rfl | rfl | rfl | rfl | rfl | rfl | rfl<;>kernel_rfl
theorem ssr0 {n:Nat} (hn:1≤n) (hn8:n≤8) (k:Nat) (h:Bool) (u:List D102) (t:Bool):bulk_Sent (kS (wR 0 n k) 0 (64*(n:Int)) h,u,t)=some (e45,u):=by
 rcases n8 hn hn8 with rfl | rfl | rfl | rfl | rfl | rfl | rfl | rfl<;>kernel_rfl
theorem xe0 {n:Nat} (hn:1≤n) (hn8:n≤8) (k:Nat) (g:Nat→BitVec 8) (u u1:List D102) (t:Bool) (h:unit_Keep (u,0,e41)=some u1):bulk_Sent (kI 0 n k g (n-1),u,t)=some (kS (wR 0 n k) 0 (64*(n:Int)) false,u1):=by
 have e1:∀c x f kp,bulk_SentU (c,x,f,kp) (kI 0 n k g (n-1),u,t)=bulk_SentU (c,x,f,fun _=>kp (u,0,e41)) (kI 0 n k g (n-1),u,t):=by
  intro c x f kp;clear h;rcases n8 hn hn8 with rfl | rfl | rfl | rfl | rfl | rfl | rfl | rfl<;>kernel_rfl
 rw[←bulk_SentU_];refine (e1 unit_Command unit_Take unit_Finish unit_Keep).trans ?_;rw[h];clear h e1;rcases n8 hn hn8 with rfl | rfl | rfl | rfl | rfl | rfl | rfl | rfl<;>kernel_rfl
theorem wBr0 {n:Nat} (hn:1≤n) (hn8:n≤8) (k:Nat):wB (wR 0 n k)=[85#8,83#8,66#8,67#8,8#8,0#8,0#8,0#8,BitVec.ofNat 8 (64*n+0),BitVec.ofNat 8 ((64*n+0)/256),0#8,0#8,128#8,0#8,10#8,40#8,0#8,0#8,0#8,0#8,BitVec.ofInt 8 (k:Int),0#8,0#8,BitVec.ofInt 8 (n:Int),0#8,0#8,0#8,0#8,0#8,0#8,0#8]:=by
 rcases n8 hn hn8 with rfl | rfl | rfl | rfl | rfl | rfl | rfl | rfl<;>kernel_rfl
end Go.Proofs.YthnpgnabfcaaiaaGreat
namespace Go.Proofs.YthnpgnabfcaaiaaGreat
open Go Go.Re
set_option linter.unusedVariables false
set_option linter.unusedSimpArgs false
set_option maxRecDepth 100000
theorem cut_ok {out b rest:List (BitVec 8)} (ho:out=b++rest) (hb:b.length=64) (hl:out.length≤10000):reticuleref16_Cut out=some b:=by
 have hlen:out.length=64+rest.length:=by rw[ho,List.length_append,hb]
 unfold reticuleref16_Cut;by_cases h:(64:Int)<(out.length:Int)
 · rw[decide_eq_true h,cond_true,decide_eq_true (by omega:(0:Int)≤64),decide_eq_true (by omega:(64:Int)≤(out.length:Int))]
   show some (out.take 64)=_;rw[ho,←hb,List.take_left]
 · rw[decide_eq_false h,cond_false,ho,List.eq_nil_of_length_eq_zero (by omega:rest.length=0),List.append_nil]
theorem packet_ok (c:D22) (u:List D102) (a b:D114) (k:D45) (l:List Bool) (N:Int) (x:List (BitVec 8)):
 reticuletop_line_packet ((gs c u a b k,l,N,()),2,0,x)=some (3,5,2,0,b.2.1,false,0,0#64,x,()):=rfl
theorem lost0 (g:D51) (N:Nat) (hN:N<1000000):reticuletop_line_lost (g,[],(N:Int),())=some ((g,[],((N+1:Nat):Int),()),false):=by
 unfold reticuletop_line_lost;show ((bif decide ((w64 ((N:Int)+1))≤((0:Nat):Int)) then (ix [] (w64 ((w64 ((N:Int)+1))-1))).bind (fun x1=>some x1) else some false:Option Bool).bind fun b2=>some ((g,[],w64 ((N:Int)+1),()),b2))=_;rw[w64_succ N (by omega),decide_eq_false (by omega)];rfl
theorem send0 {g g':D51} {e:D61} {r:D57} {N:Nat} (hN:N<1000000) (h1:gadget_StepT (g,e)=some (g',r)):reticuletop_line_sendT ((g,[],(N:Int),()),e)=some ((g',[],((N+1:Nat):Int),()),r):=by
 unfold reticuletop_line_sendT;show (reticuletop_line_lost (g,[],(N:Int),())).bind _=_;rw[lost0 g N hN,Option.bind_some];show (gadget_StepT (g,e)).bind _=_;rw[h1];rfl
theorem ask0 {g g':D51} {r:D57} {N:Nat} {p q:Int} (hN:N<1000000) (ha:g.2.2.1.1=5) (h1:gadget_StepT (g,4,5,p,q,0,true,0,0#64,nb,())=some (g',r)):reticuletop_line_askT ((g,[],(N:Int),()),p,q)=some ((g',[],((N+1:Nat):Int),()),r):=by
 unfold reticuletop_line_askT;show (host_Ask (g.2.2.1.1,p,q)).bind _=_;rw[ha];show (reticuletop_line_lost (g,[],(N:Int),())).bind _=_;rw[lost0 g N hN,Option.bind_some];show (gadget_StepT (g,4,5,p,q,0,true,0,0#64,nb,())).bind _=_;rw[h1];rfl
theorem packetU (c:D22) (u:List D102) (t1 t2 t3 t4:Bool) (x:D49) (l:List Bool) (N:Int) (q:Int) (b:List (BitVec 8)):reticuletop_line_packet ((gu c u t1 t2 t3 t4 x,l,N,()),2,q,b)=some (3,5,2,q,tbU t2,false,0,0#64,b,()):=rfl
theorem packetC (c:D22) (u:List D102) (t1 t2 t3 t4:Bool) (x:D49) (l:List Bool) (N:Int) (q:Int) (b:List (BitVec 8)):reticuletop_line_packet ((gu c u t1 t2 t3 t4 x,l,N,()),4,q,b)=some (3,5,4,q,tbU t4,false,0,0#64,b,()):=rfl
section
variable {m i:Nat} {out had:List (BitVec 8)} {x x' x2:D76} {tk_:D86} {y:D76} {r:D57}
theorem at_stat (hi:i<300) (hr:r.1=1) {t:Int} {d:List (BitVec 8)} {v:BitVec 8} (ha:reticuletop_line_askT (x,3,tk_.1)=some (x',4,t,d,())) (hd:16≤d.length) (h0:ix d 0=some 3#8) (h6:ix d 6=some v):
 reticuletop_line_attached_L0T (m+1) (out,x,tk_,y,r,had,(i:Int))=some (.inr (x',had,(v.toNat:Int),true)):=by
 unfold reticuletop_line_attached_L0T;show ((bif decide ((i:Int)<300) then some (decide (r.1=1)) else some false:Option Bool).bind _)=_;rw[decide_eq_true (by omega),cond_true,Option.bind_some,decide_eq_true hr,cond_true];show jn ((reticuletop_line_askT (x,3,tk_.1)).bind _) _=_;rw[ha,Option.bind_some];show jn ((some (decide (16≤(d.length:Int))):Option Bool).bind _) _=_;rw[Option.bind_some,decide_eq_true (by omega),cond_true];show jn (((ix d 0).bind _).bind _) _=_;rw[h0];show jn ((ix d 6).bind _) _=_;rw[h6];rfl
theorem at_ready (hi:i<300) (hr:r.1=1) {t:Int} {d:List (BitVec 8)} (ha:reticuletop_line_askT (x,3,tk_.1)=some (x',4,t,d,())) (hd:d.length<16):
 reticuletop_line_attached_L0T (m+1) (out,x,tk_,y,r,had,(i:Int))=reticuletop_line_attached_L0T m (out,x',tk_,y,r,had,((i+1:Nat):Int)):=by
 conv=>lhs;unfold reticuletop_line_attached_L0T
 show ((bif decide ((i:Int)<300) then some (decide (r.1=1)) else some false:Option Bool).bind _)=_;rw[decide_eq_true (by omega),cond_true,Option.bind_some,decide_eq_true hr,cond_true];show jn ((reticuletop_line_askT (x,3,tk_.1)).bind _) _=_;rw[ha,Option.bind_some];show jn ((some (decide (16≤(d.length:Int))):Option Bool).bind _) _=_;rw[Option.bind_some,decide_eq_false (by omega),cond_false,Option.bind_some,cond_false];show reticuletop_line_attached_L0T m (out,x',tk_,y,r,had,w64 ((i:Int)+1))=_;rw[w64_succ i (by omega)]
theorem at_out (hi:i<300) (hr:r.1=1) {t:Int} {d bl rest:List (BitVec 8)} {e:D61} {r':D57} (ha:reticuletop_line_askT (x,3,tk_.1)=some (x',2,t,d,())) (ho:out=bl++rest) (hb:bl.length=64) (hl:out.length≤10000)
 (hp:reticuletop_line_packet (x',2,tk_.1,bl)=some e) (hs:reticuletop_line_sendT (x',e)=some (x2,r')):
 reticuletop_line_attached_L0T (m+1) (out,x,tk_,y,r,had,(i:Int))=reticuletop_line_attached_L0T m (rest,x2,tk_,y,r',had,((i+1:Nat):Int)):=by
 have hlen:out.length=64+rest.length:=by rw[ho,List.length_append,hb]
 conv=>lhs;unfold reticuletop_line_attached_L0T
 show ((bif decide ((i:Int)<300) then some (decide (r.1=1)) else some false:Option Bool).bind _)=_;rw[decide_eq_true (by omega),cond_true,Option.bind_some,decide_eq_true hr,cond_true];show jn ((reticuletop_line_askT (x,3,tk_.1)).bind _) _=_;rw[ha,Option.bind_some];show jn (bif decide (0<(out.length:Int)) then _ else _) _=_;rw[decide_eq_true (by omega),cond_true];show jn ((reticuleref16_Cut out).bind _) _=_;rw[cut_ok ho hb hl,Option.bind_some];show jn ((chk (decide (0≤((bl.length:Int):Int))&&decide (((bl.length:Int):Int)≤(out.length:Int)))).bind _) _=_;rw[decide_eq_true (by omega),decide_eq_true (by omega)];show jn ((reticuletop_line_packet (x',2,tk_.1,bl)).bind _) _=_;rw[hp,Option.bind_some];show jn ((reticuletop_line_sendT (x',e)).bind _) _=_;rw[hs];show reticuletop_line_attached_L0T m (out.drop (bl.length:Int).toNat,x2,tk_,y,r',had,w64 ((i:Int)+1))=_
 rw[w64_succ i (by omega),Int.toNat_natCast,ho,List.drop_left]
theorem at_in (hi:i<300) (hr:r.1=1) {t t':Int} {d b:List (BitVec 8)} (ha:reticuletop_line_askT (x,3,tk_.1)=some (x',2,t,d,())) (ho:out=[])
 (hs:reticuletop_line_askT (x',1,tk_.1)=some (x2,4,t',b,())) (hl:had.length+b.length≤10000):
 reticuletop_line_attached_L0T (m+1) (out,x,tk_,y,r,had,(i:Int))=reticuletop_line_attached_L0T m (out,x2,tk_,y,r,had++b,((i+1:Nat):Int)):=by
 conv=>lhs;unfold reticuletop_line_attached_L0T
 show ((bif decide ((i:Int)<300) then some (decide (r.1=1)) else some false:Option Bool).bind _)=_;rw[decide_eq_true (by omega),cond_true,Option.bind_some,decide_eq_true hr,cond_true];show jn ((reticuletop_line_askT (x,3,tk_.1)).bind _) _=_;rw[ha,Option.bind_some];show jn (bif decide (0<(out.length:Int)) then _ else _) _=_;rw[decide_eq_false (by rw[ho];decide),cond_false];show jn ((reticuletop_line_askT (x',1,tk_.1)).bind _) _=_;rw[hs,Option.bind_some];show jn ((chk (decide (had.length+b.length≤lim))).bind _) _=_;rw[chk_dec (le_lim (by omega))];show reticuletop_line_attached_L0T m (out,x2,tk_,y,r,had++b,w64 ((i:Int)+1))=_;rw[w64_succ i (by omega)]
theorem at_cmd {pc:List (BitVec 8)} {e:D61} {R} (hP:reticuleref22_PutCommand tk_=some pc) (hp:reticuletop_line_packet (x,4,0,pc)=some e) (hs:reticuletop_line_sendT (x,e)=some (x',r))
 (hL:∀y,reticuletop_line_attached_L0T Big (out,x',tk_,y,r,nb,((0:Nat):Int))=some (.inr R)):reticuletop_line_attachedT (x,tk_,out)=some R:=by
 unfold reticuletop_line_attachedT;show (reticuleref22_PutCommand tk_).bind _=_;rw[hP,Option.bind_some];show (reticuletop_line_packet (x,4,0,pc)).bind _=_;rw[hp,Option.bind_some];show (reticuletop_line_sendT (x,e)).bind _=_;rw[hs,Option.bind_some];show jn (reticuletop_line_attached_L0T Big (out,x',tk_,_,r,nb,((0:Nat):Int))) _=_;rw[hL];rfl
end
section
variable {m i:Nat} {c:D22} {u:List D102} {a b:D114} {k:D45} {l:List Bool} {N:Int} {y:D76} {z:D69} {r:D57} {had out:List (BitVec 8)} {x':D76}
theorem lp_data (hi:i<300) (hk:k.1=1) {t:Int} {d:List (BitVec 8)} (hl:had.length+d.length≤10000)
 (ha:reticuletop_line_askT ((gs c u a b k,l,N,()),1,0)=some (x',4,t,d,())):
 reticuletop_line_command_L0T (m+1) (out,(gs c u a b k,l,N,()),y,z,r,had,(i:Int))=reticuletop_line_command_L0T m (out,x',y,z,(4,t,d,()),had++d,((i+1:Nat):Int)):=by
 conv=>lhs;unfold reticuletop_line_command_L0T
 show (bif decide ((i:Int)<300) then _ else _)=_;rw[decide_eq_true (by omega),cond_true];show jn ((bif decide (k.1=2) then some (decide (0<(out.length:Int))) else some false:Option Bool).bind _) _=_;rw[decide_eq_false (by rw[hk];decide),cond_false,Option.bind_some,cond_false];show jn ((reticuletop_line_askT ((gs c u a b k,l,N,()),1,0)).bind _) _=_;rw[ha,Option.bind_some];show jn (bif decide (k.1=3) then _ else _) _=_;rw[decide_eq_false (by rw[hk];decide),cond_false];show jn ((chk (decide (had.length+d.length≤lim))).bind _) _=_;rw[chk_dec (le_lim (by omega))];show reticuletop_line_command_L0T m (out,x',y,z,(4,t,d,()),had++d,w64 ((i:Int)+1))=_;rw[w64_succ i (by omega)]
theorem lp_stat (hi:i<300) (hk:k.1=3) {t:Int} {d:List (BitVec 8)} {s:D69}
 (ha:reticuletop_line_askT ((gs c u a b k,l,N,()),1,0)=some (x',4,t,d,())) (hr:reticuleref19_ReadStatus d=some (s,true)):
 reticuletop_line_command_L0T (m+1) (out,(gs c u a b k,l,N,()),y,z,r,had,(i:Int))=some (.inr (x',had,s,true)):=by
 conv=>lhs;unfold reticuletop_line_command_L0T
 show (bif decide ((i:Int)<300) then _ else _)=_;rw[decide_eq_true (by omega),cond_true];show jn ((bif decide (k.1=2) then some (decide (0<(out.length:Int))) else some false:Option Bool).bind _) _=_;rw[decide_eq_false (by rw[hk];decide),cond_false,Option.bind_some,cond_false];show jn ((reticuletop_line_askT ((gs c u a b k,l,N,()),1,0)).bind _) _=_;rw[ha,Option.bind_some];show jn (bif decide (k.1=3) then _ else _) _=_;rw[decide_eq_true hk,cond_true];show jn ((reticuleref19_ReadStatus d).bind _) _=_;rw[hr];rfl
theorem cmd_ok {cb:D36} {bs:List (BitVec 8)} {R} (hB:reticuleref19_Bytes cb=some (bs,true)) (hb:b.1=false)
 (hs:reticuletop_line_sendT ((gs c u a b k,l,N,()),3,5,2,0,b.2.1,false,0,0#64,bs,())=some (x',ack1))
 (hL:∀y z,reticuletop_line_command_L0T Big (out,x',y,z,ack1,nb,((0:Nat):Int))=some (.inr R)):
 reticuletop_line_commandT ((gs c u a b k,l,N,()),cb,out)=some R:=by
 unfold reticuletop_line_commandT;show (reticuleref19_Bytes cb).bind _=_;rw[hB,Option.bind_some];show jn ((some true:Option Bool).bind _) _=_;rw[Option.bind_some,cond_true];show jn ((some b.1:Option Bool).bind _) _=_;rw[hb,Option.bind_some,cond_false,jn_inl];show (bif !true then _ else _)=_;rw[Bool.not_true,cond_false];show (reticuletop_line_packet ((gs c u a b k,l,N,()),2,0,bs)).bind _=_;rw[packet_ok,Option.bind_some];show (reticuletop_line_sendT ((gs c u a b k,l,N,()),3,5,2,0,b.2.1,false,0,0#64,bs,())).bind _=_;rw[hs,Option.bind_some];show jn (reticuletop_line_command_L0T Big (out,x',_,_,ack1,nb,((0:Nat):Int))) _=_;rw[hL];rfl
end
end Go.Proofs.YthnpgnabfcaaiaaGreat
namespace Go.Proofs.YthnpgnabfcaaiaaGreat
open Go Go.Re
set_option linter.unusedVariables false
set_option linter.unusedSimpArgs false
set_option maxRecDepth 100000
theorem by_split (g:Nat→BitVec 8) (i j:Nat):by_ (64*(j+1)) (fun x=>g (64*i+x))=blk g i++by_ (64*j) (fun x=>g (64*(i+1)+x)):=by
 apply List.ext_getElem?;intro p;rw[List.getElem?_append,blk_len,by_ix,by_ix];unfold blk;rw[by_ix];by_cases h:p<64
 · rw[if_pos h,if_pos h,if_pos (by omega)]
 · rw[if_neg h]
   by_cases h2:p<64*(j+1)
   · rw[if_pos h2,if_pos (by omega),show 64*(i+1)+(p-64)=64*i+p by omega]
   · rw[if_neg h2,if_neg (by omega)]
theorem by_add (g:Nat→BitVec 8) (i:Nat):by_ (64*i) g++blk g i=by_ (64*(i+1)) g:=by
 rw[←blks_flat,←blks_flat,List.range_succ,List.map_append,List.flatten_append];simp
theorem by_eq {l:List (BitVec 8)} {n:Nat} (h:l.length=n):l=by_ n (fun i=>l.getD i 0#8):=by
 have:=by_take (l:=l) (n:=n) (by omega);rw[List.take_of_length_le (by omega)] at this;exact this
def tn:Nat→Bool→Bool
 | 0,t=>t
 | j+1,t=>tn j (!t)
theorem big_sub (m:Nat) (h:m≤1000):∃B,Big=B+m:=⟨Big-m,by unfold Big;omega⟩
section
variable {c1 bi d:Int} {s t:Bool} {t1 t2 t3 t4:Bool} {u u':List D102} {x x':D49} {st:Int}
theorem tellU {dat:List (BitVec 8)} (hd:dat.length=4∨dat.length=16∨dat.length=34) (hst:st=1∨st=2∨st=3) (h1:uas_Status (x,(c1,bi,d,s,t,()),sn s st)=some (dat,true)) (h2:uas_Told (x,(c1,bi,d,s,t,()),sn s st)=some x'):
 gadget_StepT (gu (c1,bi,d,s,t,()) u t1 t2 t3 t4 x,4,5,3,st,0,true,0,0#64,nb,())=some (gu (c1,bi,d,s,t,()) u t1 t2 (!t3) t4 x',4,tbU t3,dat,()):=by
 rcases hd with hd | hd | hd
 · rw[by_eq hd] at h1 ⊢;exact us4 hst h1 h2
 · rw[by_eq hd] at h1 ⊢;exact us16 hst h1 h2
 · rw[by_eq hd] at h1 ⊢;exact us34 hst h1 h2
theorem cmdU {dat:List (BitVec 8)} (hd:dat.length=32) (h1:uas_Ready x=some true) (h2:uas_Take (x,u,(c1,bi,d,s,t,()),dat)=some (x',u')):
 gadget_StepT (gu (c1,bi,d,s,t,()) u t1 t2 t3 t4 x,3,5,4,0,tbU t4,false,0,0#64,dat,())=some (gu (c1,bi,d,s,t,()) u' t1 t2 t3 (!t4) x',1,0,nb,()):=by
 rw[by_eq hd] at h2 ⊢;exact uc (st:=1) (.inl rfl) h1 h2
end
theorem pcm_ok (tag:Int) (op:BitVec 8) (k n:Nat) (h:tag=2∨tag=3):reticuleref22_PutCommand (tk tag (w16 op k n))=some (pcm tag (w16 op k n))∧(pcm tag (w16 op k n)).length=32:=by
 rcases h with rfl | rfl
 · exact⟨by kernel_rfl,by kernel_rfl⟩
 · exact⟨by kernel_rfl,by kernel_rfl⟩
theorem pcm_ok0:reticuleref22_PutCommand (tk 1 (List.replicate 16 0#8))=some (pcm 1 (List.replicate 16 0#8))∧(pcm 1 (List.replicate 16 0#8)).length=32:=⟨by kernel_rfl,by kernel_rfl⟩
theorem la:(iq 1 2 (6,41,0,())).2.2.1.length=34∧ix (iq 1 2 (6,41,0,())).2.2.1 0=some 3#8∧ix (iq 1 2 (6,41,0,())).2.2.1 6=some 2#8:=⟨by kernel_rfl,by kernel_rfl,by kernel_rfl⟩
theorem lb:(iq 1 2 (6,41,2,())).2.2.1.length=34∧ix (iq 1 2 (6,41,2,())).2.2.1 0=some 3#8∧ix (iq 1 2 (6,41,2,())).2.2.1 6=some 2#8:=⟨by kernel_rfl,by kernel_rfl,by kernel_rfl⟩
theorem lo:(iq 2 0 e41).2.2.1.length=16∧ix (iq 2 0 e41).2.2.1 0=some 3#8∧ix (iq 2 0 e41).2.2.1 6=some 0#8:=⟨by kernel_rfl,by kernel_rfl,by kernel_rfl⟩
theorem li:(iq 3 0 e41).2.2.1.length=16∧ix (iq 3 0 e41).2.2.1 0=some 3#8∧ix (iq 3 0 e41).2.2.1 6=some 0#8:=⟨by kernel_rfl,by kernel_rfl,by kernel_rfl⟩
theorem lr:(ir 2 2).2.2.1.length=4∧(ir 3 1).2.2.1.length=4:=⟨by kernel_rfl,by kernel_rfl⟩
section
variable {L b k n:Nat} {M:D97} {g:Nat→BitVec 8} (c1 bi d:Int) (s t:Bool)
theorem att1 (hl:1≤L) (hL:L≤4) (hd:1≤d) (hd8:d≤8) (m:D97) (t1 t2 t3 t4:Bool) (N:Nat) (hN:N<1000):
 reticuletop_line_attachedT ((gu (c1,bi,d,s,t,()) (List.replicate L (fr2 m)) t1 t2 t3 t4 e49,[],(N:Int),()),tk 1 (List.replicate 16 0#8),nb)=some ((gu (c1,bi,d,s,t,()) (us L m (fr3 m)) t1 t2 (!t3) (!t4) e49,[],((N+1+1:Nat):Int),()),nb,2,true):=by
 refine at_cmd pcm_ok0.1 (packetC _ _ _ _ _ _ _ _ _ _ _) (send0 (by omega) (cmdU pcm_ok0.2 ready0 (ta1 hl hL c1 bi hd hd8 s t m))) fun y=>?_;obtain⟨B,hB⟩:=big_sub 1 (by omega);rw[hB];exact at_stat (tk_:=tk 1 (List.replicate 16 0#8)) (by omega) rfl (ask0 (by omega) rfl (tellU (.inr (.inr la.1)) (.inl rfl) (tella1 c1 bi d s t) (tella2 c1 bi d s t))) (by rw[la.1];omega) la.2.1 la.2.2
theorem att2 (hl:1≤L) (hL:L≤4) (hd:1≤d) (hd8:d≤8) (m:D97) (t1 t2 t3 t4:Bool) (N:Nat) (hN:N<1000):
 reticuletop_line_attachedT ((gu (c1,bi,d,s,t,()) (us L m (fr3 m)) t1 t2 t3 t4 e49,[],(N:Int),()),tk 1 (List.replicate 16 0#8),nb)=some ((gu (c1,bi,d,s,t,()) (us L m (rdy m)) t1 t2 (!t3) (!t4) e49,[],((N+1+1:Nat):Int),()),nb,2,true):=by
 refine at_cmd pcm_ok0.1 (packetC _ _ _ _ _ _ _ _ _ _ _) (send0 (by omega) (cmdU pcm_ok0.2 ready0 (ta2 hl hL c1 bi hd hd8 s t m))) fun y=>?_;obtain⟨B,hB⟩:=big_sub 1 (by omega);rw[hB];exact at_stat (tk_:=tk 1 (List.replicate 16 0#8)) (by omega) rfl (ask0 (by omega) rfl (tellU (.inr (.inr lb.1)) (.inl rfl) (tellb1 c1 bi d s t) (tellb2 c1 bi d s t))) (by rw[lb.1];omega) lb.2.1 lb.2.2
theorem aw_chain (hl:1≤L) (hL:L≤4) (hn:1≤n) (hn8:n≤8) (hk:k+n≤b) (hb:b≤64) (t1 t3 t4:Bool) {m:Nat} {y:D76} {had cdb:List (BitVec 8)}:
 ∀j i,i+(j+1)=n→∀tg N cnt r,r.1=1→N+2*j<1000→cnt+j<200→reticuletop_line_attached_L0T (m+(j+1)) (by_ (64*(j+1)) (fun x=>g (64*i+x)),(gu (c1,bi,d,s,t,()) (us L M (rdy (mI b k g i))) t1 tg t3 t4 ([tO n k (BitVec.ofNat 64 k) 3 i],[],()),[],((N:Nat):Int),()),tk 2 cdb,y,r,had,((cnt:Nat):Int)) =
  reticuletop_line_attached_L0T m (nb,(gu (c1,bi,d,s,t,()) (us L M (rdy (mI b k g n))) t1 (tn (j+1) tg) t3 t4 ([],[iq 2 0 e41],()),[],((N+2*(j+1):Nat):Int),()),tk 2 cdb,y,(1,0,nb,()),had,((cnt+(j+1):Nat):Int))
 | 0,i,hi,tg,N,cnt,r,hr,hN,hc=>by
  obtain rfl:i=n-1:=by omega
  rw[by_split];exact at_out (tk_:=tk 2 cdb) (by omega) hr (ask0 (by omega) rfl (un (.inr (.inl rfl)) (noneO c1 bi d s t n k _ _))) rfl (blk_len ..) (by rw[List.length_append,blk_len,by_len];omega) (packetU _ _ _ _ _ _ _ _ _ _ _) (send0 (by omega) (uo (.inr (.inl rfl)) (wants c1 bi d s t n k _ _) (comes_l c1 bi d s t hl hL hn hn8 hk hb tg)))
 | j+1,i,hi,tg,N,cnt,r,hr,hN,hc=>by
  rw[by_split,show m+(j+1+1)=(m+(j+1))+1 by omega];refine (at_out (tk_:=tk 2 cdb) (by omega) hr (ask0 (by omega) rfl (un (.inr (.inl rfl)) (noneO c1 bi d s t n k _ _))) rfl (blk_len ..) (by rw[List.length_append,blk_len,by_len];omega) (packetU _ _ _ _ _ _ _ _ _ _ _) (send0 (by omega) (uo (.inr (.inl rfl)) (wants c1 bi d s t n k _ _) (comes_d c1 bi d s t hl hL (by omega) hn8 hk hb tg)))).trans ?_;rw[aw_chain hl hL hn hn8 hk hb t1 t3 t4 j (i+1) (by omega) (!tg) (N+1+1) (cnt+1) _ rfl (by omega) (by omega),show N+1+1+2*(j+1)=N+2*(j+1+1) by omega,show cnt+1+(j+1)=cnt+(j+1+1) by omega];rfl
theorem att_w (hl:1≤L) (hL:L≤4) (hn:1≤n) (hn8:n≤8) (hk:k+n≤b) (hb:b≤64) (hd:1≤d) (hd8:d≤8) (t1 t2 t3 t4:Bool) (N:Nat) (hN:N<100):∃t1' t2' t3' t4' N',N'<200 ∧
 reticuletop_line_attachedT ((gu (c1,bi,d,s,t,()) (us L M (rdy (mI b k g 0))) t1 t2 t3 t4 e49,[],(N:Int),()),tk 2 (w16 42#8 k n),by_ (64*n) g)=some ((gu (c1,bi,d,s,t,()) (us L M (rdy (mI b k g n))) t1' t2' t3' t4' e49,[],((N':Nat):Int),()),nb,0,true):=by
 obtain⟨j,rfl⟩:∃j,n=j+1:=⟨n-1,by omega⟩;have e0:by_ (64*(j+1)) g=by_ (64*(j+1)) (fun x=>g (64*0+x)):=by congr 1;funext x;rw[Nat.mul_zero,Nat.zero_add]
 have hP:=pcm_ok 2 42#8 k (j+1) (.inl rfl);have hT:=take_w (M:=M) (g:=g) hl hL hn hn8 hk hb c1 bi hd hd8 s t;cases s
 · refine⟨t1,tn (j+1) t2,!!t3,!t4,N+1+1+2*(j+1)+1,by omega,?_⟩
   refine at_cmd hP.1 (packetC _ _ _ _ _ _ _ _ _ _ _) (send0 (by omega) (cmdU hP.2 ready0 hT)) fun y=>?_;obtain⟨B,hB⟩:=big_sub (2+(j+1)) (by omega);rw[hB,e0,show B+(2+(j+1))=((B+1)+(j+1))+1 by omega];refine (at_ready (tk_:=tk 2 (w16 42#8 k (j+1))) (by omega) rfl (ask0 (by omega) rfl (tellU (.inl lr.1) (.inr (.inl rfl)) (rdyO1 c1 bi d t (j+1) k _) (rdyO2 c1 bi d t (j+1) k _))) (by rw[lr.1];omega)).trans ?_;rw[aw_chain c1 bi d false t hl hL hn hn8 hk hb t1 (!t3) (!t4) j 0 (by omega) t2 (N+1+1) (0+1) _ rfl (by omega) (by omega)];exact at_stat (tk_:=tk 2 (w16 42#8 k (j+1))) (by omega) rfl (ask0 (by omega) rfl (tellU (.inr (.inl lo.1)) (.inr (.inl rfl)) (tello1 c1 bi d false t) (tello2 c1 bi d false t))) (by rw[lo.1];omega) lo.2.1 lo.2.2
 · refine⟨t1,tn (j+1) t2,!t3,!t4,N+1+2*(j+1)+1,by omega,?_⟩
   refine at_cmd hP.1 (packetC _ _ _ _ _ _ _ _ _ _ _) (send0 (by omega) (cmdU hP.2 ready0 hT)) fun y=>?_;obtain⟨B,hB⟩:=big_sub (1+(j+1)) (by omega);rw[hB,e0,show B+(1+(j+1))=(B+1)+(j+1) by omega];refine (aw_chain c1 bi d true t hl hL hn hn8 hk hb t1 t3 (!t4) j 0 (by omega) t2 (N+1) 0 _ rfl (by omega) (by omega)).trans ?_;exact at_stat (tk_:=tk 2 (w16 42#8 k (j+1))) (by omega) rfl (ask0 (by omega) rfl (tellU (.inr (.inl lo.1)) (.inr (.inl rfl)) (tello1 c1 bi d true t) (tello2 c1 bi d true t))) (by rw[lo.1];omega) lo.2.1 lo.2.2
theorem ar_chain (hn8:n≤8) (u:List D102) (t2 t3 t4:Bool) {m:Nat} {y:D76} {cdb:List (BitVec 8)} {r:D57} (hr:r.1=1):
 ∀j i,i+j<n→∀tg N cnt,N+2*j<1000→cnt+j<200→reticuletop_line_attached_L0T (m+j) (nb,(gu (c1,bi,d,s,t,()) u tg t2 t3 t4 ([tI n k g 2 i],[],()),[],((N:Nat):Int),()),tk 3 cdb,y,r,by_ (64*i) g,((cnt:Nat):Int)) =
  reticuletop_line_attached_L0T m (nb,(gu (c1,bi,d,s,t,()) u (tn j tg) t2 t3 t4 ([tI n k g 2 (i+j)],[],()),[],((N+2*j:Nat):Int),()),tk 3 cdb,y,r,by_ (64*(i+j)) g,((cnt+j:Nat):Int))
 | 0,i,hi,tg,N,cnt,hN,hc=>rfl
 | j+1,i,hi,tg,N,cnt,hN,hc=>by
  have h1:=nxt (n:=n) (i:=i+1) (by omega) (by omega) hn8 c1 bi d s t k g u;have h2:=(snt (n:=n) (i:=i+1) (by omega) (by omega) hn8 c1 bi d s t k g u).resolve_left (by omega);rw[Nat.add_sub_cancel] at h1 h2;rw[show m+(j+1)=(m+j)+1 by omega];refine (at_in (tk_:=tk 3 cdb) (b:=blk g i) (by omega) hr (ask0 (by omega) rfl (un (.inr (.inr rfl)) (noneI c1 bi d s t n k g _))) rfl (ask0 (by omega) rfl (ui (.inr (.inr rfl)) h1 h2)) (by rw[by_len,blk_len];omega)).trans ?_;rw[by_add,ar_chain hn8 u t2 t3 t4 hr j (i+1) (by omega) (!tg) (N+1+1) (cnt+1) (by omega) (by omega),show i+1+j=i+(j+1) by omega,show N+1+1+2*j=N+2*(j+1) by omega,show cnt+1+j=cnt+(j+1) by omega];rfl
theorem att_r (hl:1≤L) (hL:L≤4) (hn:1≤n) (hn8:n≤8) (hk:k+n≤b) (hb:b≤64) (hd:1≤d) (hd8:d≤8) (t1 t2 t3 t4:Bool) (N:Nat) (hN:N<200):∃t1' t2' t3' t4' N',N'<300 ∧
 reticuletop_line_attachedT ((gu (c1,bi,d,s,t,()) (us L M (rdy (mI b k g n))) t1 t2 t3 t4 e49,[],(N:Int),()),tk 3 (w16 40#8 k n),nb)=some ((gu (c1,bi,d,s,t,()) (us L M (rdy (mI b k g n))) t1' t2' t3' t4' e49,[],((N':Nat):Int),()),by_ (64*n) g,0,true):=by
 obtain⟨j,rfl⟩:∃j,n=j+1:=⟨n-1,by omega⟩;have hP:=pcm_ok 3 40#8 k (j+1) (.inr rfl);have hT:=take_r (M:=M) (g:=g) hl hL hn hn8 hk hb c1 bi hd hd8 s t;have h1:=nxt (n:=j+1) (i:=j+1) (by omega) (by omega) hn8 c1 bi d s t k g (us L M (rdy (mI b k g (j+1))));have h2:=sntl (n:=j+1) (by omega) hn8 c1 bi d s t k g (us L M (rdy (mI b k g (j+1))));rw[Nat.add_sub_cancel] at h1 h2;cases s
 · refine⟨!tn j t1,t2,!!t3,!t4,N+1+1+2*j+1+1+1,by omega,?_⟩
   refine at_cmd hP.1 (packetC _ _ _ _ _ _ _ _ _ _ _) (send0 (by omega) (cmdU hP.2 ready0 hT)) fun y=>?_;obtain⟨B,hB⟩:=big_sub (3+j) (by omega);rw[hB,show B+(3+j)=((B+2)+j)+1 by omega];refine (at_ready (tk_:=tk 3 (w16 40#8 k (j+1))) (by omega) rfl (ask0 (by omega) rfl (tellU (.inl lr.2) (.inr (.inr rfl)) (rdyI1 c1 bi d t (j+1) k g) (rdyI2 c1 bi d t (j+1) k g))) (by rw[lr.2];omega)).trans ?_;refine (ar_chain c1 bi d false t hn8 _ t2 (!t3) (!t4) (r:=(1,0,nb,())) rfl j 0 (by omega) t1 (N+1+1) (0+1) (by omega) (by omega)).trans ?_;rw[Nat.zero_add];refine (at_in (tk_:=tk 3 (w16 40#8 k (j+1))) (b:=blk g j) (by omega) rfl (ask0 (by omega) rfl (un (.inr (.inr rfl)) (noneI c1 bi d false t (j+1) k g _))) rfl (ask0 (by omega) rfl (ui (.inr (.inr rfl)) h1 h2)) (by rw[by_len,blk_len];omega)).trans ?_;rw[by_add]
   exact at_stat (tk_:=tk 3 (w16 40#8 k (j+1))) (by omega) rfl (ask0 (by omega) rfl (tellU (.inr (.inl li.1)) (.inr (.inr rfl)) (telli1 c1 bi d false t) (telli2 c1 bi d false t))) (by rw[li.1];omega) li.2.1 li.2.2
 · refine⟨!tn j t1,t2,!t3,!t4,N+1+2*j+1+1+1,by omega,?_⟩
   refine at_cmd hP.1 (packetC _ _ _ _ _ _ _ _ _ _ _) (send0 (by omega) (cmdU hP.2 ready0 hT)) fun y=>?_;obtain⟨B,hB⟩:=big_sub (2+j) (by omega);rw[hB,show B+(2+j)=(B+2)+j by omega];refine (ar_chain c1 bi d true t hn8 _ t2 t3 (!t4) (r:=(1,0,nb,())) rfl j 0 (by omega) t1 (N+1) 0 (by omega) (by omega)).trans ?_;rw[Nat.zero_add];refine (at_in (tk_:=tk 3 (w16 40#8 k (j+1))) (b:=blk g j) (by omega) rfl (ask0 (by omega) rfl (un (.inr (.inr rfl)) (noneI c1 bi d true t (j+1) k g _))) rfl (ask0 (by omega) rfl (ui (.inr (.inr rfl)) h1 h2)) (by rw[by_len,blk_len];omega)).trans ?_;rw[by_add];exact at_stat (tk_:=tk 3 (w16 40#8 k (j+1))) (by omega) rfl (ask0 (by omega) rfl (tellU (.inr (.inl li.1)) (.inr (.inr rfl)) (telli1 c1 bi d true t) (telli2 c1 bi d true t))) (by rw[li.1];omega) li.2.1 li.2.2
end
end Go.Proofs.YthnpgnabfcaaiaaGreat
namespace Go.Proofs.YthnpgnabfcaaiaaGreat
open Go Go.Re
set_option linter.unusedVariables false
set_option linter.unusedSimpArgs false
set_option maxRecDepth 100000
section
variable {L b k n:Nat} {M:D97} {g:Nat→BitVec 8} (c1 bi d:Int) (s t:Bool)
theorem rd_chain (hn8:n≤8) (u:List D102) (bb:D114) {m:Nat} {y:D76} {z:D69}:
 ∀j i,i+j<n→∀tg N cnt r,N+j<1000→cnt+j<200→∃r',reticuletop_line_command_L0T (m+j) (nb,(gs (c1,bi,d,s,t,()) u (ep false tg) bb (kI 0 n k g i),[],((N:Nat):Int),()),y,z,r,by_ (64*i) g,((cnt:Nat):Int)) =
  reticuletop_line_command_L0T m (nb,(gs (c1,bi,d,s,t,()) u (ep false (tn j tg)) bb (kI 0 n k g (i+j)),[],((N+j:Nat):Int),()),y,z,r',by_ (64*(i+j)) g,((cnt+j:Nat):Int))
 | 0,i,hi,tg,N,cnt,r,hN,hc=>⟨r,rfl⟩
 | j+1,i,hi,tg,N,cnt,r,hN,hc=>by
  obtain⟨r',h⟩:=rd_chain hn8 u bb (m:=m) (y:=y) (z:=z) j (i+1) (by omega) (!tg) (N+1) (cnt+1) (4,tb tg,blk g i,()) (by omega) (by omega);refine⟨r',?_⟩
  have ha:reticuletop_line_askT ((gs (c1,bi,d,s,t,()) u (ep false tg) bb (kI 0 n k g i),[],((N:Nat):Int),()),1,0)=some ((gs (c1,bi,d,s,t,()) u (ep false (!tg)) bb (kI 0 n k g (i+1)),[],((N+1:Nat):Int),()),4,tb tg,blk g i,()):=
   ask0 (by omega) rfl (gi64 true (nI0 (i:=i+1) (by omega) (by omega) hn8 k g) ((sI0 (i:=i+1) (by omega) (by omega) hn8 k g u t).resolve_left (by omega)))
  rw[show m+(j+1)=(m+j)+1 by omega];refine (lp_data (by omega) (k:=kI 0 n k g i) rfl (by rw[by_len,blk_len];omega) ha).trans ?_;rw[by_add,h,show i+1+j=i+(j+1) by omega,show N+1+j=N+(j+1) by omega,show cnt+1+j=cnt+(j+1) by omega];rfl
theorem bytes_r0 (hn:1≤n) (hn8:n≤8):reticuleref19_Bytes (wR 0 n k)=some (wB (wR 0 n k),true):=by
 rcases n8 hn hn8 with rfl | rfl | rfl | rfl | rfl | rfl | rfl | rfl<;>kernel_rfl
theorem stat_r0:reticuleref19_ReadStatus (sB 8#8 0#8)=some ((8#32,0#32,0,()),true):=by kernel_rfl
theorem step_r0 (hl:1≤L) (hL:L≤4) (hn:1≤n) (hn8:n≤8) (hk:k+n≤b) (hb:b≤64) (tg:Bool) (a:D114):
 gadget_StepT (gs (c1,bi,d,s,t,()) (us L M (rdy (mI b k g n))) a (ep false tg) e45,oev tg (wB (wR 0 n k)))=some (gs (c1,bi,d,s,t,()) (us L M (rdy (mI b k g n))) a (ep false (!tg)) (kI 0 n k g 0),ack1):=by
 have h2:=xr0 hl hL hn hn8 M (rdy (mI b k g n)) _ k t g (read_run hl hL hn hn8 hk hb);rw[wBr0 hn hn8] at h2 ⊢;exact go31 re h2
theorem last0 (hl:1≤L) (hL:L≤4) (hn:1≤n) (hn8:n≤8) (tg ack:Bool) (bb:D114):
 gadget_StepT (gs (c1,bi,d,s,t,()) (us L M (rdy (mI b k g n))) (ep false tg) bb (kI 0 n k g (n-1)),iev ack)=some (gs (c1,bi,d,s,t,()) (us L M (rdy (mI b k g n))) (af false tg ack (blk g (n-1))) bb (kS (wR 0 n k) 0 (64*(n:Int)) false),4,tb tg,blk g (n-1),()):=
 gi64 ack (nI0 (i:=n) (by omega) (by omega) hn8 k g) (xe0 hn hn8 k g _ _ t (ke_run hl hL M _))
theorem read_0 (hl:1≤L) (hL:L≤4) (hn:1≤n) (hn8:n≤8) (hk:k+n≤b) (hb:b≤64) (t1 t2:Bool) (N:Nat) (hN:N<200):∃t1' t2' N',N'<300 ∧
 reticuletop_line_commandT ((gs (c1,bi,d,s,t,()) (us L M (rdy (mI b k g n))) (ep false t1) (ep false t2) e45,[],(N:Int),()),wR 0 n k,nb) =
  some ((gs (c1,bi,d,s,t,()) (us L M (rdy (mI b k g n))) (ep false t1') (ep false t2') e45,[],((N':Nat):Int),()),by_ (64*n) g,(8#32,0#32,0,()),true):=by
 obtain⟨j,rfl⟩:∃j,n=j+1:=⟨n-1,by omega⟩;obtain⟨B,hB⟩:=big_sub (2+j) (by omega);refine⟨!!tn j t1,!t2,N+1+j+1+1,by omega,?_⟩;refine cmd_ok (bytes_r0 hn hn8) rfl (send0 (by omega) (step_r0 c1 bi d s t hl hL hn hn8 hk hb t2 (ep false t1))) ?_;intro y z;obtain⟨r',h⟩:=rd_chain (k:=k) (g:=g) c1 bi d s t hn8 (us L M (rdy (mI b k g (j+1)))) (ep false (!t2)) (m:=B+2) (y:=y) (z:=z) j 0 (by omega) t1 (N+1) 0 ack1 (by omega) (by omega);rw[hB,show B+(2+j)=(B+2)+j by omega];refine h.trans ?_;rw[Nat.zero_add];refine (lp_data (by omega) (k:=kI 0 (j+1) k g j) rfl (by rw[by_len,blk_len];omega) (ask0 (by omega) rfl (last0 c1 bi d s t hl hL hn hn8 (tn j t1) true _))).trans ?_;rw[show j+1-1=j from rfl,by_add];exact lp_stat (by omega) (k:=kS (wR 0 (j+1) k) 0 (64*((j+1:Nat):Int)) false) rfl (ask0 (by omega) rfl (gi13 true (nsr0 hn hn8 k false) (ssr0 hn hn8 k false _ t))) stat_r0
end
theorem us_len (L:Nat) (m:D97) (v:D102):(us L m v).length=L:=by unfold us;simp
def enuA:List D61:=(host_Enumerate (5,1)).getD []
theorem enuA_ok:host_Enumerate (5,1)=some enuA:=by kernel_rfl
theorem enuA_run {L:Nat} (h1:1≤L) (hL:L≤4) (b d:Int) (s t:Bool) (m:D97):
 reticuletop_allT (gg (cfg L b d s t) (List.replicate L (fr m)),enuA)=some (gu (cfg L b d s t) (List.replicate L (fr2 m)) false false false false e49,true):=by
 rcases l4 h1 hL with rfl | rfl | rfl | rfl<;>(show _=_;kernel_rfl)
def setA:List D61:=(host_Transfer (5,1,11,0,0,0,())).getD []
theorem setA_ok:host_Transfer (5,1,11,0,0,0,())=some setA:=by kernel_rfl
theorem setA_run (c1 bi d:Int) (s t:Bool) (u:List D102) (t1 t2 t3 t4:Bool):reticuletop_allT (gu (c1,bi,d,s,t,()) u t1 t2 t3 t4 e49,setA)=some (gs (c1,bi,d,s,t,()) u (ep false false) (ep false false) e45,true):=by
 cases s<;>cases t1<;>cases t2<;>cases t3<;>cases t4<;>(show _=_;kernel_rfl)
theorem tdiv64 {n:Nat} (h:n<9000000000000000000):w64 ((n:Int).tdiv 64)=((n/64:Nat):Int):=by
 have:(n:Int).tdiv 64=((n/64:Nat):Int):=by rw[show (64:Int)=((64:Nat):Int) from rfl,←Int.ofNat_tdiv]
 rw[this,w64_in (by omega) (by omega)]
theorem wR0_eq (n k:Nat):wR 0 n k=(8#32,BitVec.ofInt 32 ((64*n:Nat):Int),true,0,wcd 40#8 k n,()):=by
 unfold wR;rw[show ((64*n:Nat):Int)=64*(n:Int)+((0:Nat):Int) by omega]
theorem kx_gs {c:D22} {L:Nat} {u:List D102} (h:u.length=L) {a b:D114} {k:D45} {l:List Bool} {N:Int}:Kx c L (gs c u a b k,l,N,()):=⟨rfl,h,rfl⟩
theorem kx_gu {c:D22} {L:Nat} {u:List D102} (h:u.length=L) {t1 t2 t3 t4:Bool} {x:D49} {l:List Bool} {N:Int}:Kx c L (gu c u t1 t2 t3 t4 x,l,N,()):=⟨rfl,h,rfl⟩
theorem ten_ok (op:BitVec 8) (k n:Nat):reticuletop_ten (op,(k:Int),(n:Int))=some (wcd op k n):=rfl
theorem loop0 {p:List (BitVec 8)} {q:D51} {r v:Int} {w:Bool} {x0 x1 x2:D76} {b1 b2:List (BitVec 8)} (h1:reticuletop_line_attached (x0,tk 1 (List.replicate 16 0#8),nb)=some (x1,b1,2,true)) (h2:reticuletop_line_attached (x1,tk 1 (List.replicate 16 0#8),nb)=some (x2,b2,2,true)):
 reticuletop_WholeAttached_L0 Big (p,q,r,v,w,x0,0)=some (.inl (p,q,r,v,w,x2)):=by
 obtain⟨B,hB⟩:=big_sub 3 (by omega);rw[hB]
 conv=>lhs;unfold reticuletop_WholeAttached_L0
 show (bif true then _ else _)=_;rw[cond_true];show (reticuletop_line_attached (x0,tk 1 (List.replicate 16 0#8),nb)).bind _=_;rw[h1,Option.bind_some];show ((some (!decide ((2:Int)=2)):Option Bool).bind _)=_;rw[Option.bind_some,decide_eq_true rfl,Bool.not_true,cond_false];show reticuletop_WholeAttached_L0 (B+2) (p,q,r,v,w,x1,w64 ((0:Int)+1))=_;rw[show w64 ((0:Int)+1)=1 from by rw[w64_in (by omega) (by omega)];rfl]
 conv=>lhs;unfold reticuletop_WholeAttached_L0
 show (bif true then _ else _)=_;rw[cond_true];show (reticuletop_line_attached (x1,tk 1 (List.replicate 16 0#8),nb)).bind _=_;rw[h2,Option.bind_some];show ((some (!decide ((2:Int)=2)):Option Bool).bind _)=_;rw[Option.bind_some,decide_eq_true rfl,Bool.not_true,cond_false];show reticuletop_WholeAttached_L0 (B+1) (p,q,r,v,w,x2,w64 ((1:Int)+1))=_;rw[show w64 ((1:Int)+1)=2 from by rw[w64_in (by omega) (by omega)];rfl]
 conv=>lhs;unfold reticuletop_WholeAttached_L0
 rfl
theorem loop1 (p:List (BitVec 8)) (q:D51) (n k:Nat) (w:Bool) (x:D76):reticuletop_WholeAttached_L1 Big (p,q,(n:Int),(k:Int),w,x,(2,0,List.replicate 16 0#8,0,nb,e43,e41,()),(3,0,List.replicate 16 0#8,0,nb,e43,e41,()),0) =
 some (.inl (p,q,(n:Int),(k:Int),w,x,tk 2 (w16 42#8 k n),tk 3 (w16 40#8 k n))):=by kernel_rfl
theorem may_depth {c:D22} (h:gadget_may c=some true):1≤c.2.2.1∧c.2.2.1≤8:=by
 rw[may_eq] at h;simp only[Option.some.injEq,Bool.and_eq_true,decide_eq_true_eq] at h;exact h.2.2
theorem WholeAttached_main (x:D22×BitVec 8×List (BitVec 8)) (hx:x.2.2.length<9000000000000000000):reticuletop_WholeAttached x=some true:=by
 obtain⟨⟨c1,bi,d,s,t,⟨⟩⟩,at_,data⟩:=x;unfold reticuletop_WholeAttached;rw[alive27_ok,Option.bind_some];show (reticuletop_played ((c1,bi,d,s,t,()),n61,0)).bind _=_;rcases may_cases (c1,bi,d,s,t,()) with h | ⟨L,b,h⟩
 · rw[played_no h];rfl
 have hc1:c1=(L:Int):=h.el;have hb:bi=(b:Int):=h.eb;subst hc1;subst hb;have H:=good_of h;have hl1:=h.l1;have hl4:=h.l4;have hb64:=h.b64;obtain⟨hd1,hd8⟩:=may_depth h.may;have hd1:1≤d:=hd1;have hd8:d≤8:=hd8;have hx:data.length<9000000000000000000:=hx;rw[played0 h,Option.bind_some];simp only[tdiv64 hx];obtain⟨n,hn⟩:∃n,n=data.length/64:=⟨_,rfl⟩;rw[←hn];show ((some (decide ((n:Int)<1)):Option Bool).bind _)=_;rw[Option.bind_some];by_cases h1:(n:Int)<1
 · rw[decide_eq_true h1];rfl
 rw[decide_eq_false h1,cond_false,Option.bind_some];by_cases h2:8<(n:Int)
 · rw[decide_eq_true h2];rfl
 rw[decide_eq_false h2,cond_false,Option.bind_some];show (bif decide ((b:Int)<(n:Int)) then _ else _)=_;by_cases h3:(b:Int)<(n:Int)
 · rw[decide_eq_true h3];rfl
 rw[decide_eq_false h3,cond_false];have n1:1≤n:=by omega
 have n8:n≤8:=by omega
 have e0:w64 ((b:Int)-(n:Int))=((b-n:Nat):Int):=by rw[w64_in (by omega) (by omega)];omega
 have e64:w64 ((64:Int)*(n:Int))=((64*n:Nat):Int):=by rw[w64_in (by omega) (by omega)];omega
 simp only[e0,e64,w64_succ (b-n) (by omega)];obtain⟨k,hk⟩:∃k,k=at_.toNat%(b-n+1):=⟨_,rfl⟩;have hkn:k+n≤b:=by have:=Nat.mod_lt at_.toNat (show b-n+1>0 by omega);omega
 have ek:(bif (((b-n+1:Nat):Int)==0) then none else some (((at_.toNat:Nat):Int).tmod ((b-n+1:Nat):Int)):Option Int)=some (k:Int):=by
  have:(((b-n+1:Nat):Int)==0)=false:=by rw[beq_eq_false_iff_ne];omega
  rw[this,cond_false,←Int.ofNat_tmod,hk]
 rw[ek,Option.bind_some]
 have e3:chk (decide (0≤((64*n:Nat):Int))&&decide (((64*n:Nat):Int)≤(data.length:Int)))=some ():=by
  rw[decide_eq_true (by omega),decide_eq_true (by omega)];rfl
 rw[e3,Option.bind_some,enuA_ok,Option.bind_some];show (reticuletop_all (gg (cfg L b d s t) (List.replicate L (fr (Md b))),enuA)).bind _=_;rw[(all_sm H _ (kg_gg (by simp))).1,enuA_run hl1 hl4,Option.bind_some,Int.toNat_natCast];obtain⟨g,hg⟩:∃g:Nat→BitVec 8,data.take (64*n)=by_ (64*n) g:=⟨_,by_take (by omega)⟩;rw[hg];have hlen:(List.replicate L (fr2 (Md b))).length=L:=by simp
 have a1:=att1 (L:Int) (b:Int) d s t hl1 hl4 hd1 hd8 (Md b) false false false false 0 (by omega);have a2:=att2 (L:Int) (b:Int) d s t hl1 hl4 hd1 hd8 (Md b) false false (!false) (!false) (0+1+1) (by omega);rw[←(attached_sm H _ (kx_gu hlen)).1] at a1;rw[←(attached_sm H _ (kx_gu (us_len _ _ _))).1] at a2;show jn (reticuletop_WholeAttached_L0 Big (by_ (64*n) g,gu (((L:Int),(b:Int),d,s,t,())) (List.replicate L (fr2 (Md b))) false false false false e49,(n:Int),(k:Int),true,(gu (((L:Int),(b:Int),d,s,t,())) (List.replicate L (fr2 (Md b))) false false false false e49,[],((0:Nat):Int),()),0)) _=_;rw[loop0 a1 a2,jn_inl]
 show jn (reticuletop_WholeAttached_L1 Big (by_ (64*n) g,gu (((L:Int),(b:Int),d,s,t,())) (List.replicate L (fr2 (Md b))) false false false false e49,(n:Int),(k:Int),true,(gu (((L:Int),(b:Int),d,s,t,())) (us L (Md b) (rdy (mI b k g 0))) false false false false e49,[],((0+1+1+1+1:Nat):Int),()),(2,0,List.replicate 16 0#8,0,nb,e43,e41,()),(3,0,List.replicate 16 0#8,0,nb,e43,e41,()),0)) _=_;rw[loop1,jn_inl];obtain⟨p1,p2,p3,p4,N1,hN1,hw⟩:=att_w (L:=L) (M:=Md b) (g:=g) (L:Int) (b:Int) d s t hl1 hl4 n1 n8 hkn hb64 hd1 hd8 false false false false (0+1+1+1+1) (by omega);show (reticuletop_line_attached ((gu (((L:Int),(b:Int),d,s,t,())) (us L (Md b) (rdy (mI b k g 0))) false false false false e49,[],((0+1+1+1+1:Nat):Int),()),tk 2 (w16 42#8 k n),by_ (64*n) g)).bind _=_;rw[(attached_sm H _ (kx_gu (us_len _ _ _))).1]
 rw[show reticuletop_line_attachedT ((gu (((L:Int),(b:Int),d,s,t,())) (us L (Md b) (rdy (mI b k g 0))) false false false false e49,[],((0+1+1+1+1:Nat):Int),()),tk 2 (w16 42#8 k n),by_ (64*n) g)=_ from hw,Option.bind_some];obtain⟨q1,q2,q3,q4,N2,hN2,hr⟩:=att_r (L:=L) (M:=Md b) (g:=g) (L:Int) (b:Int) d s t hl1 hl4 n1 n8 hkn hb64 hd1 hd8 p1 p2 p3 p4 N1 hN1;show (reticuletop_line_attached ((gu (((L:Int),(b:Int),d,s,t,())) (us L (Md b) (rdy (mI b k g n))) p1 p2 p3 p4 e49,[],((N1:Nat):Int),()),tk 3 (w16 40#8 k n),nb)).bind _=_;rw[(attached_sm H _ (kx_gu (us_len _ _ _))).1];rw[show reticuletop_line_attachedT ((gu (((L:Int),(b:Int),d,s,t,())) (us L (Md b) (rdy (mI b k g n))) p1 p2 p3 p4 e49,[],((N1:Nat):Int),()),tk 3 (w16 40#8 k n),nb)=_ from hr,Option.bind_some];have e9:chk (decide ((by_ (64*n) g).length≤lim))=some ():=chk_dec (le_lim (by rw[by_len];omega))
 simp only[Bool.not_true,cond_true,cond_false,Option.bind_some,decide_true,e9];rw[setA_ok,Option.bind_some];show (reticuletop_all (gu (((L:Int),(b:Int),d,s,t,())) (us L (Md b) (rdy (mI b k g n))) q1 q2 q3 q4 e49,setA)).bind _=_;rw[(all_sm H _ ⟨rfl,us_len _ _ _,rfl⟩).1];rw[show reticuletop_allT (gu (((L:Int),(b:Int),d,s,t,())) (us L (Md b) (rdy (mI b k g n))) q1 q2 q3 q4 e49,setA)=_ from setA_run _ _ _ _ _ _ _ _ _ _,Option.bind_some,ten_ok,Option.bind_some];simp only[e64];obtain⟨r1,r2,N3,hN3,hz⟩:=read_0 (L:=L) (M:=Md b) (g:=g) (L:Int) (b:Int) d s t hl1 hl4 n1 n8 hkn hb64 false false 0 (by omega);show (reticuletop_line_command ((gs (((L:Int),(b:Int),d,s,t,())) (us L (Md b) (rdy (mI b k g n))) (ep false false) (ep false false) e45,[],((0:Nat):Int),()),(8#32,BitVec.ofInt 32 ((64*n:Nat):Int),true,0,wcd 40#8 k n,()),nb)).bind _=_;rw[←wR0_eq,(command_sm H _ (kx_gs (us_len _ _ _))).1]
 rw[show reticuletop_line_commandT ((gs (((L:Int),(b:Int),d,s,t,())) (us L (Md b) (rdy (mI b k g n))) (ep false false) (ep false false) e45,[],((0:Nat):Int),()),wR 0 n k,nb)=_ from hz,Option.bind_some];simp only[cond_true,cond_false,Option.bind_some,decide_true,Bool.and_self,e9]
theorem WholeAttached_pure (x:D22×BitVec 8×List (BitVec 8)) {p q:Prop} (_:p) (_:q) (h:Ty.ok (.sl (.int .u8)) x.2.2):reticuletop_WholeAttached x=some true:=
 WholeAttached_main x (by have:=h.1;unfold big at this;omega)
end Go.Proofs.YthnpgnabfcaaiaaGreat
