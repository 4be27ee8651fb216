/- Reflection, part T: the arguments of a call. -/
import Derived.Test.YtgceolpeegfkkaaReS
namespace Go.Re
set_option linter.unusedVariables false
set_option linter.unusedSimpArgs false
open Go.RowKit (Below)

theorem getT_getP : ∀ (τ : Ty) (x : τ.D) (p : List Stp) (τ' : Ty), tyP τ p = some τ' → noIdx p = true → getP τ x p τ' = some (getT τ x p τ') := by
  have hc : ∀ (τ τ' : Ty) (x : τ.D), some τ = some τ' → cast? τ τ' x = some (if h : τ = τ' then h ▸ x else τ'.zero) := by
    intro τ τ' x h; cases h; simp [cast?]
  intro τ
  induction τ with
  | pair a b iha ihb =>
    intro x p τ' h hn
    match p, h, hn with
    | [], h, _ => exact hc _ _ x h
    | .fst :: p, h, hn => exact iha x.1 p τ' h hn
    | .snd :: p, h, hn => exact ihb x.2 p τ' h hn
  | st b ih =>
    intro x p τ' h hn
    match p, h, hn with
    | [], h, _ => exact hc _ _ x h
    | s :: p, h, hn => exact ih x (s :: p) τ' h hn
  | arr n e ih =>
    intro x p τ' h hn
    match p, h, hn with
    | [], h, _ => exact hc _ _ x h
  | _ =>
    intro x p τ' h hn
    match p, h, hn with
    | [], h, _ => exact hc _ _ x h

theorem setT_setP : ∀ (τ : Ty) (x : τ.D) (p : List Stp) (τ' : Ty) (y : τ'.D), tyP τ p = some τ' → noIdx p = true → setP τ x p τ' y = some (setT τ x p τ' y) := by
  have hc : ∀ (τ τ' : Ty) (x : τ.D) (y : τ'.D), some τ = some τ' → cast? τ' τ y = some (if h : τ' = τ then h ▸ y else x) := by
    intro τ τ' x y h; cases h; simp [cast?]
  intro τ
  induction τ with
  | pair a b iha ihb =>
    intro x p τ' y h hn
    match p, h, hn with
    | [], h, _ => exact hc _ _ x y h
    | .fst :: p, h, hn => simp only [setP, iha x.1 p τ' y h hn, Option.map_some, setT]
    | .snd :: p, h, hn => simp only [setP, ihb x.2 p τ' y h hn, Option.map_some, setT]
  | st b ih =>
    intro x p τ' y h hn
    match p, h, hn with
    | [], h, _ => exact hc _ _ x y h
    | s :: p, h, hn => exact ih x (s :: p) τ' y h hn
  | arr n e ih =>
    intro x p τ' y h hn
    match p, h, hn with
    | [], h, _ => exact hc _ _ x y h
  | _ =>
    intro x p τ' y h hn
    match p, h, hn with
    | [], h, _ => exact hc _ _ x y h

section
variable {P : Program} {E : Env} {N : Nat} {Z : Base} {own : Own} {β : Conc} {σ : S} {a : Act} {w : World} {o : Oper}

/-- What one argument is. -/
def ArgRep (own : Own) (w : World) (β : Conc) (mem : Nat → Entry) (fr : List (Nat × Entry)) : (p : Par) → Value → p.ty.D → Io [p] → Prop
  | .val τ, u, x, _ => RepA own w β mem fr τ u x
  | .nils _, u, _, _ => u = .slice none 0 0
  | .pv k, u, x, _ => ∀ β mem, RepS own w β mem (k.V x) u
  | .box τ, u, x, io =>
    (∃ s ver τb xb p b off, mem s = .box ver τb xb ∧ tyP τb p = some τ ∧ noIdx p = true ∧ τ.isVal = true ∧ β s = .pointer (some ⟨b, off, none⟩) ∧ u = .pointer (some ⟨b, off + offP τb p, none⟩) ∧
      x = getT τb xb p τ ∧ io = ((s, fun z => .box ver τb (setT τb xb p τ z)), ())) ∨
    (∃ s ver τe xs i p b off n c, mem s = .own ver τe xs .full ∧ i < xs.length ∧ tyP τe p = some τ ∧ noIdx p = true ∧ τ.isVal = true ∧ β s = .slice (some ⟨b, off, none⟩) n c ∧
      u = .pointer (some ⟨b, off + i * τe.size + offP τe p, none⟩) ∧ x = getT τe (xs.getD i τe.zero) p τ ∧ io = ((s, fun z => .own ver τe (xs.set i (setT τe (xs.getD i τe.zero) p τ z)) .full), ()))
  | .row e, u, x, io => ∃ s ver xs, mem s = .own ver e xs .full ∧ u = β s ∧ x = xs ∧ io = ((s, fun z => .own ver e z .full), ())
  | .take e, u, x, io => ∃ s ver xs, mem s = .own ver e xs .full ∧ u = β s ∧ x = xs ∧ io = ((s, .gone ver), ())

theorem argM_run (h : St N Z own β σ a w) {α : Type} {p : Par} {v : V} {u : Value} (hu : RepS own w β σ.mem v u) {k : p.ty.D → List (Nat × Entry) → Io [p] → M α} {r : α × S} (hr : (argM p v k).run σ = some r) :
    ∃ x fr io, Frz σ fr ∧ ArgRep own w β σ.mem fr p u x io ∧ (k x fr io).run σ = some r := by
  cases p with
  | val τ =>
    have hr' : (asD τ v fun x fr => k x fr ()).run σ = some r := hr
    obtain ⟨x, fr, h1, h2, _, h3⟩ := asD_run h hu hr'
    exact ⟨x, fr, (), h1, h2, h3⟩
  | nils e =>
    simp only [argM] at hr
    split at hr
    · exact ⟨(), [], (), by simp [Frz], hu, hr⟩
    · cases hr
  | pv q =>
    simp only [argM] at hr
    split at hr
    · rename_i x hx
      have := PK.read_some hx
      subst this
      exact ⟨x, [], (), by simp [Frz], fun _ _ => PK.indep hu, hr⟩
    · cases hr
  | box τ =>
    simp only [argM, boxD] at hr
    split at hr
    · rename_i s ver p
      simp only [M.run] at hr
      split at hr
      · rename_i ver' τb xb hm
        split at hr
        · rename_i eq
          obtain ⟨e1, e2, e3, e4⟩ := eq
          subst e1
          obtain ⟨b, off, h1, h2⟩ := hu.2 τb xb hm
          exact ⟨_, [], _, by simp [Frz], .inl ⟨s, ver, τb, xb, p, b, off, hm, e2, e3, e4, h1, h2, rfl, rfl⟩, hr⟩
        · cases hr
      · cases hr
    · rename_i s ver i p
      simp only [M.run] at hr
      split at hr
      · rename_i ver' τe xs hm
        split at hr
        · rename_i eq
          obtain ⟨e1, e2, e3, e4⟩ := eq
          subst e1
          obtain ⟨hi, b, off, n, c, h1, h2⟩ := hu.2 τe xs .full hm
          exact ⟨_, [], _, by simp [Frz], .inr ⟨s, ver, τe, xs, i, p, b, off, n, c, hm, hi, e2, e3, e4, h1, h2, rfl, rfl⟩, hr⟩
        · cases hr
      · cases hr
    · cases hr
  | row e =>
    simp only [argM, rowD] at hr
    split at hr
    · rename_i s ver
      simp only [M.run] at hr
      split at hr
      · rename_i ver' e' xs hm
        split at hr
        · rename_i eq; subst eq
          split at hr
          · rename_i xs' hx
            obtain ⟨eq, hx⟩ := cast?_some hx
            cases eq
            have hx : xs = xs' := hx
            subst hx
            exact ⟨_, [], _, by simp [Frz], ⟨s, ver, xs, hm, hu.2 e xs .full hm, rfl, rfl⟩, hr⟩
          · cases hr
        · cases hr
      · cases hr
    · cases hr
  | take e =>
    simp only [argM, takeD] at hr
    split at hr
    · rename_i s ver
      simp only [M.run] at hr
      split at hr
      · rename_i ver' e' xs hm
        split at hr
        · rename_i eq; subst eq
          split at hr
          · rename_i xs' hx
            obtain ⟨eq, hx⟩ := cast?_some hx
            cases eq
            have hx : xs = xs' := hx
            subst hx
            exact ⟨_, [], _, by simp [Frz], ⟨s, ver, xs, hm, hu.2 e xs .full hm, rfl, rfl⟩, hr⟩
          · cases hr
        · cases hr
      · cases hr
    · cases hr

/-- All of them. -/
def ArgReps (own : Own) (w : World) (β : Conc) (mem : Nat → Entry) (fr : List (Nat × Entry)) : (ps : List Par) → List Value → Ds (ps.map Par.ty) → Io ps → Prop
  | [], us, _, _ => us = []
  | [p], us, x, io => ∃ u, us = [u] ∧ ArgRep own w β mem fr p u x io
  | p :: q :: r, us, x, io => ∃ u us' io1 io2, us = u :: us' ∧ io = ioCons p (q :: r) io1 io2 ∧ ArgRep own w β mem fr p u x.1 io1 ∧ ArgReps own w β mem fr (q :: r) us' x.2 io2

theorem ArgRep.mono {fr fr' : List (Nat × Entry)} (hs : ∀ p ∈ fr, p ∈ fr') {mem : Nat → Entry} {p : Par} {u : Value} {x : p.ty.D} {io : Io [p]} (h : ArgRep own w β mem fr p u x io) : ArgRep own w β mem fr' p u x io := by
  cases p with
  | val τ => exact RepA.mono h hs
  | nils e => exact h
  | pv q => exact h
  | box τ => exact h
  | row e => exact h
  | take e => exact h

theorem ArgReps.mono {fr fr' : List (Nat × Entry)} (hs : ∀ p ∈ fr, p ∈ fr') {mem : Nat → Entry} : ∀ {ps : List Par} {us : List Value} {x : Ds (ps.map Par.ty)} {io : Io ps}, ArgReps own w β mem fr ps us x io → ArgReps own w β mem fr' ps us x io
  | [], _, _, _, h => h
  | [p], _, _, _, ⟨u, h1, h2⟩ => ⟨u, h1, h2.mono hs⟩
  | p :: q :: r, _, _, _, ⟨u, us', io1, io2, h1, h2, h3, h4⟩ => ⟨u, us', io1, io2, h1, h2, h3.mono hs, ArgReps.mono hs (ps := q :: r) h4⟩

/-- What operands and values are worth. -/
def Xs (own : Own) (w : World) (β : Conc) (mem : Nat → Entry) (a : Act) : List (Operand ⊕ V) → List Value → Prop
  | [], us => us = []
  | .inl o :: r, us => ∃ us', us = a.eval o :: us' ∧ Xs own w β mem a r us'
  | .inr v :: r, us => ∃ u us', us = u :: us' ∧ RepS own w β mem v u ∧ Xs own w β mem a r us'

theorem rdX_run (h : St N Z own β σ a w) {α : Type} {x : Operand ⊕ V} {k : V → M α} {r : α × S} {xs : List (Operand ⊕ V)} {us : List Value} (hx : Xs own w β σ.mem a (x :: xs) us) (hr : (rdX x k).run σ = some r) :
    ∃ v u us', us = u :: us' ∧ Xs own w β σ.mem a xs us' ∧ RepS own w β σ.mem v u ∧ (k v).run σ = some r := by
  cases x with
  | inl o =>
    obtain ⟨us', h1, h2⟩ := hx
    obtain ⟨v, h3, h4⟩ := rd_run h hr
    exact ⟨v, _, us', h1, h2, h3, h4⟩
  | inr v =>
    obtain ⟨u, us', h1, h2, h3⟩ := hx
    exact ⟨v, u, us', h1, h3, h2, hr⟩

theorem argsM_run (h : St N Z own β σ a w) {α : Type} : ∀ (ps : List Par) (os : List (Operand ⊕ V)) (us : List Value) {k : Ds (ps.map Par.ty) → List (Nat × Entry) → Io ps → M α} {r : α × S}, Xs own w β σ.mem a os us → (argsM ps os k).run σ = some r →
    ∃ x fr io, Frz σ fr ∧ ArgReps own w β σ.mem fr ps us x io ∧ (k x fr io).run σ = some r
  | [], [], us, k, r, hx, hr => ⟨(), [], (), by simp [Frz], hx, hr⟩
  | [p], [op], us, k, r, hx, hr => by
    obtain ⟨v, u, us', h0, h0', h1, h2⟩ := rdX_run h hx hr
    obtain ⟨x, fr, io, h3, h4, h5⟩ := argM_run h h1 h2
    have h0' : us' = [] := h0'
    exact ⟨x, fr, io, h3, ⟨_, by rw [h0, h0'], h4⟩, h5⟩
  | p :: q :: ps, op :: os, us, k, r, hx, hr => by
    obtain ⟨v, u, us', h0, h0', h1, h2⟩ := rdX_run h hx hr
    subst h0
    obtain ⟨x, fr, io, h3, h4, h5⟩ := argM_run h h1 h2
    obtain ⟨xs, fr', io', h6, h7, h8⟩ := argsM_run h (q :: ps) os us' h0' h5
    refine ⟨(x, xs), fr ++ fr', ioCons p (q :: ps) io io', h3.append h6, ⟨_, _, io, io', rfl, rfl, h4.mono (by simp +contextual), h7.mono (by simp +contextual)⟩, h8⟩
  | [], _ :: _, _, k, r, _, hr => by cases hr
  | _ :: _, [], _, k, r, _, hr => by
    unfold argsM at hr
    split at hr <;> first | cases hr | (rename_i h1 h2; cases h1; done) | (rename_i h1 h2; cases h2; done) | skip
    all_goals simp_all
  | [p], _ :: _ :: _, _, k, r, _, hr => by cases hr

theorem versM_run {α : Type} {d : Nat} : ∀ (n : Nat) {k : (Nat → Nat) → M α} {r : α × S}, (versM d n k).run σ = some r → ∃ f, (∀ i, i < n → f i = nextVer (σ.mem (site d i))) ∧ (k f).run σ = some r
  | 0, k, r, hr => ⟨_, fun i h => by omega, hr⟩
  | n + 1, k, r, hr => by
    obtain ⟨f, h1, h2⟩ := versM_run n (k := fun f => .mem (site d n) fun e => k fun i => bif Nat.beq i n then nextVer e else f i) hr
    simp only [M.run] at h2
    refine ⟨_, ?_, h2⟩
    intro i hi
    have e := upd_eq f n (nextVer (σ.mem (site d n))) i
    unfold upd at e
    rw [e]
    split
    · rename_i e; subst e; rfl
    · exact h1 i (by omega)

end
end Go.Re
