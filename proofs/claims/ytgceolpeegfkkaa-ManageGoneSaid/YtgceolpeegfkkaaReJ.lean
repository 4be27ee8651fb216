/- Reflection, part J: operations that only reckon and read. -/
import Derived.Test.YtgceolpeegfkkaaReI
namespace Go.Re
set_option linter.unusedVariables false
set_option linter.unusedSimpArgs false
open Go.RowKit (Below)

section
variable {P : Program} {E : Env} {N : Nat} {Z : Base} {own : Own} {β : Conc} {σ : S} {a : Act} {w : World} {o : Oper}

/-- A value of a kind of numbers. -/
theorem RepS.int {k : IntKind} {x : IntT k} {u : Value} (h : RepS own w β σ.mem (.val (.int k) x) u) : u = .int k (toI k x) ∧ okI k x := RepV.int.1 h

/-- What an operation that leaves world and memory alone comes to. -/
def Pure (P : Program) (own : Own) (w : World) (β : Conc) (σ : S) (s : Sem Value) (r : V × S) : Prop := ∃ u, s.run P w = .ok u w ∧ r.2 = σ ∧ RepS own w β σ.mem r.1 u

theorem Pure.did {s : Sem Value} {r : V × S} (h : St N Z own β σ a w) (he : execOp a.eval o = (do pure (.value (← s)))) (hp : Pure P own w β σ s r) : Did P N Z o a w r.2 r.1 := by
  obtain ⟨u, h1, h2, h3⟩ := hp
  rw [h2]
  exact did_value (exec_v he h1) h h3

theorem fin_pure {τ : Ty} {x : Option τ.D} {r : V × S} (hr : (M.fin τ.D x (fun z => V.val τ z) []).run σ = some r) {s : Sem Value}
    (h : ∀ z, x = some z → ∃ u, s.run P w = .ok u w ∧ RepV own w τ u z) : Pure P own w β σ s r := by
  obtain ⟨y, h1, h2⟩ := fin_run hr
  obtain ⟨u, h3, h4⟩ := h y h1
  rw [h2]; exact ⟨u, h3, rfl, h4⟩

theorem bind_guard (op : BinOp) (t : Nat) (ox oy : Operand) (k : IntKind) (n : Int) (v : Value) : (do eqGuard op t ox oy (.int k n) v; binOp op t (.int k n) v : Sem Value) = binOp op t (.int k n) v := by
  rw [eqGuard_at_int]; rfl

theorem nil_eql {t te : Nat} (hd : P.underlying t = some (.slice te)) (ad : Option Addr) (n m : Nat) : (Op.equal t (.slice ad n m) (.slice none 0 0)).run P w = .ok ad.isNone w := by
  show (Op.equalIn (9999 + 1) t (.slice ad n m) (.slice none 0 0)).run P w = _
  unfold Op.equalIn
  simp only [Sem.run_bind, run_underlying hd, Result.andThen_ok]
  cases ad <;> rfl

theorem nil_some {α : Type} {ad : Option Addr} {cap : Nat} {x : List α} {q : Nat → Nat → Prop} (h2 : x.length ≤ cap) (h5 : cap = 0 ∨ ∃ b o, ad = some ⟨b, o, none⟩ ∧ q b o) (h : List.isEmpty x = false) : ad.isNone = false := by
  rcases h5 with h5 | ⟨b, o, h5, _⟩
  · have : x = [] := List.eq_nil_of_length_eq_zero (by omega)
    subst this; cases h
  · rw [h5]; rfl

theorem bin_pure (hE : EnvOk P E) {t : Nat} {op : BinOp} {vx vy : V} {ox oy : Operand} {u v : Value} {r : V × S} (hu : RepS own w β σ.mem vx u) (hv : RepS own w β σ.mem vy v)
    (hr : (binM E t op vx vy).run σ = some r) : Pure P own w β σ (do eqGuard op t ox oy u v; binOp op t u v) r := by
  unfold binM at hr
  split at hr
  · obtain ⟨rfl, h1⟩ := RepS.int hu
    obtain ⟨rfl, h2⟩ := RepS.int hv
    refine fin_pure (τ := .int _) hr fun z hz => ⟨_, ?_, RepV.int.2 ⟨rfl, ?_⟩⟩
    · rw [bind_guard]; exact (shift_ok h1 hz t).1
    · exact (shift_ok (P := P) (w := w) h1 hz t).2
  · obtain ⟨rfl, h1⟩ := RepS.int hu
    obtain ⟨rfl, h2⟩ := RepS.int hv
    refine fin_pure (τ := .int _) hr fun z hz => ⟨_, ?_, RepV.int.2 ⟨rfl, ?_⟩⟩
    · rw [bind_guard]; exact (shift_ok h1 hz t).1
    · exact (shift_ok (P := P) (w := w) h1 hz t).2
  · rename_i op' k x τ' y _ _
    obtain ⟨rfl, h1⟩ := RepS.int hu
    split at hr
    · rename_i y' hy'
      obtain ⟨e, hy'⟩ := cast?_some hy'
      subst e; subst hy'
      obtain ⟨rfl, h2⟩ := RepS.int hv
      rw [bind_guard]
      split at hr
      case h_7 => exact fin_pure (τ := .int _) hr fun z hz => ⟨_, (arith_ok h1 h2 hz t).1, RepV.int.2 ⟨rfl, (arith_ok (P := P) (w := w) h1 h2 hz t).2⟩⟩
      all_goals exact fin_pure (τ := .bool) hr fun z hz => ⟨_, cmp_ok hz t, RepV.bool.2 rfl⟩
    · cases hr
  · rename_i e x
    split at hr
    · rename_i e' ht
      obtain ⟨te, hd, _⟩ := (hE.ty t _ ht).desc
      have hv : v = .slice none 0 0 := hv
      obtain ⟨ad, cap, e1, h2, _, _, h5⟩ := RepV.sl.1 hu; cases e1
      subst hv
      rw [ret_run hr]
      refine ⟨.bool ad.isNone, ?_, rfl, ad.isNone, rfl, fun hemp => nil_some h2 h5 hemp⟩
      rw [eqGuard_at_slice]
      simp only [pure_bind, binOp, Sem.run_bind, nil_eql hd, Result.andThen_ok]; rfl
    · cases hr
  · rename_i e x
    split at hr
    · rename_i e' ht
      obtain ⟨te, hd, _⟩ := (hE.ty t _ ht).desc
      have hv : v = .slice none 0 0 := hv
      obtain ⟨ad, cap, e1, h2, _, _, h5⟩ := RepV.sl.1 hu; cases e1
      subst hv
      rw [ret_run hr]
      refine ⟨.bool (!ad.isNone), ?_, rfl, !ad.isNone, rfl, fun hemp => by rw [nil_some h2 h5 hemp]; rfl⟩
      rw [eqGuard_at_slice]
      simp only [pure_bind, binOp, Sem.run_bind, nil_eql hd, Result.andThen_ok]; rfl
    · cases hr
  · obtain ⟨s, rfl, h1, h1'⟩ := RepV.str.1 hu
    obtain ⟨s', rfl, h2, h2'⟩ := RepV.str.1 hv
    obtain ⟨y, h3, h4⟩ := fin_run hr
    have h5 := of_decide_eq_true (chk_some h3)
    subst h1; subst h2
    have hsz : ∀ s : ByteArray, (s.data.toList.map UInt8.toBitVec).length = s.size := fun s => by simp
    simp only [hsz, lim] at h5
    have h6 : ¬ (((s.size + s'.size : Nat) : Int) > 9223372036854775807) := by omega
    refine ⟨.string (s ++ s'), ?_, by rw [h4]; rfl, ?_⟩
    · rw [eqGuard_at_string]
      simp only [binOp, Op.stringOp, IntKind.max_i64]
      rw [if_neg h6]; rfl
    · rw [h4]
      refine RepV.str.2 ⟨_, rfl, ?_, ?_⟩
      · simp [ByteArray.data_append]
      · simp only [List.length_append, hsz, big]; omega
  · rename_i τ x τ' y _
    split at hr
    · rename_i hc
      split at hr
      · rename_i y' f hy' hf
        obtain ⟨e, hy'⟩ := cast?_some hy'
        subst e; subst hy'
        have h := eql_run hE hc.1 hf hc.2 hu hv ox oy
        rw [ret_run hr]
        exact ⟨_, h.1, rfl, RepV.bool.2 rfl⟩
      · cases hr
    · cases hr
  · rename_i τ x τ' y _
    split at hr
    · rename_i hc
      split at hr
      · rename_i y' f hy' hf
        obtain ⟨e, hy'⟩ := cast?_some hy'
        subst e; subst hy'
        have h := eql_run hE hc.1 hf hc.2 hu hv ox oy
        rw [ret_run hr]
        exact ⟨_, h.2, rfl, RepV.bool.2 rfl⟩
      · cases hr
    · cases hr
  · cases hr

theorem un_pure {op : UnOp} {v : V} {u : Value} {r : V × S} (hu : RepS own w β σ.mem v u) (hr : (unM op v).run σ = some r) : Pure P own w β σ (Op.unary op u) r := by
  unfold unM at hr
  split at hr
  · rw [RepV.bool.1 hu, ret_run hr]
    exact ⟨_, rfl, rfl, RepV.bool.2 rfl⟩
  · obtain ⟨rfl, h1⟩ := RepS.int hu
    exact fin_pure (τ := .int _) hr fun z hz => ⟨_, (unI_ok h1 hz).1, RepV.int.2 ⟨rfl, (unI_ok (P := P) (w := w) h1 hz).2⟩⟩
  · cases hr

/-- A row's cells, read. -/
theorem RepQ.loads {e : Ty} {u : Value} {x : List e.D} (h : RepQ own w e u x) : ∃ a cap, u = .slice a x.length cap ∧ x.length ≤ cap ∧ cap < 9223372036854775808 ∧ x.length ≤ big ∧
    ((cap = 0 ∧ x = []) ∨ ∃ b o cs, a = some ⟨b, o, none⟩ ∧ cs.length = x.length * e.size ∧ ElemsC own w e cs x ∧ ∀ j v, cs[j]? = some v → w.cell? ⟨b, o + j, none⟩ = some v) := by
  obtain ⟨a, cap, q, h1, h2, h3, h4, h5⟩ := h
  refine ⟨a, cap, h1, h2, h3, h4, ?_⟩
  rcases h5 with h6 | ⟨b, o, h5, h6⟩
  · left; exact ⟨h6, List.eq_nil_of_length_eq_zero (by omega)⟩
  · right
    clear h1 h2 h3 h4
    refine ⟨b, o, ?_⟩
    -- the cells, element by element
    have key : ∀ n, n ≤ x.length → ∃ cs : List Value, cs.length = n * e.size ∧ (∀ i (h : i < n) (h' : i < x.length), RepC own w e ((cs.drop (i * e.size)).take e.size) x[i]) ∧
        ∀ j v, cs[j]? = some v → w.cell? ⟨b, o + j, none⟩ = some v := by
      intro n
      induction n with
      | zero => exact fun _ => ⟨[], by simp, fun i h => by omega, fun j v h => by simp at h⟩
      | succ n ih =>
        intro hn
        obtain ⟨cs, k1, k2, k3⟩ := ih (by omega)
        obtain ⟨es, g1, g2, g3⟩ := h6 n hn
        refine ⟨cs ++ es, by rw [List.length_append, k1, g1, Nat.succ_mul], ?_, ?_⟩
        · intro i hi hi'
          rcases Nat.lt_or_ge i n with h | h
          · have hb : i * e.size + e.size ≤ n * e.size := by rw [← Nat.succ_mul]; exact Nat.mul_le_mul_right _ h
            rw [List.drop_append_of_le_length (by omega), List.take_append_of_le_length (by simp; omega)]
            exact k2 i h hi'
          · have : i = n := by omega
            subst this
            rw [List.drop_append, List.drop_eq_nil_of_le (by omega), List.nil_append, k1, Nat.sub_self, List.drop_zero, ← g1, List.take_length]
            exact g3
        · intro j v hj
          rcases Nat.lt_or_ge j cs.length with h | h
          · rw [List.getElem?_append_left h] at hj; exact k3 j v hj
          · rw [List.getElem?_append_right h] at hj
            have := (g2 _ _ hj).2
            rwa [show o + n * e.size + (j - cs.length) = o + j by omega] at this
    obtain ⟨cs, k1, k2, k3⟩ := key x.length (Nat.le_refl _)
    exact ⟨cs, h5, k1, ⟨by omega, fun i hi => k2 i hi hi⟩, k3⟩

/-- Bytes of a row. -/
theorem bytes_of_elems {cs : List Value} {x : List (BitVec 8)} (hl : cs.length = x.length * Ty.size (.int .u8)) (h : ElemsC own w (.int .u8) cs x) : cs = x.map fun b => .int .u8 (b.toNat : Int) := by
  have hl : cs.length = x.length := by simpa [Ty.size] using hl
  apply List.ext_getElem
  · simp [hl]
  · intro i h1 h2
    have hi : i < x.length := by omega
    have h3 : RepC own w (.int .u8) ((cs.drop (i * 1)).take 1) x[i] := h.2 i hi
    have h4 := h3.1
    rw [Nat.mul_one, List.drop_eq_getElem_cons h1] at h4
    simp only [List.take_succ_cons, List.take_zero, List.cons.injEq, and_true] at h4
    rw [h4]; simp [toI]

theorem toStr_foldl (f : Value → ByteArray → Sem (ForInStep ByteArray)) (hf : ∀ (b : BitVec 8) (s : ByteArray), f (.int .u8 (b.toNat : Int)) s = pure (.yield (s.push (UInt8.ofNat (Int.toNat (b.toNat : Int)))))) (x : List (BitVec 8)) :
    ∀ (s : ByteArray), (forIn (m := Sem) (x.map fun b => Value.int .u8 (b.toNat : Int)) s f).run P w = .ok ⟨s.data ++ (x.map UInt8.ofBitVec).toArray⟩ w := by
  induction x with
  | nil => intro s; simp
  | cons b x ih =>
    intro s
    simp only [List.map_cons, List.forIn_cons, Sem.run_bind, hf, Sem.run_pure, Result.andThen_ok, ih]
    congr 1
    have : (UInt8.ofNat (Int.toNat (b.toNat : Int))) = UInt8.ofBitVec b := by
      apply UInt8.toBitVec_inj.1
      apply BitVec.eq_of_toNat_eq
      simp
    rw [this]
    simp [ByteArray.push]

theorem ofBV_toBV (x : List (BitVec 8)) : (x.map UInt8.ofBitVec).map UInt8.toBitVec = x := by
  rw [List.map_map]
  conv => rhs; rw [← List.map_id x]
  rfl

theorem run_loadCells_zero (ad : Addr) (w : World) : (loadCells ad 0).run P w = .ok #[] w := by
  simp [loadCells, loadCellsFrom]

theorem bytes_str {u : Value} {x : List (BitVec 8)} (h : RepQ own w (.int .u8) u x) : ∃ s, (Conv.bytesToString u).run P w = .ok (.string s) w ∧ s.data.toList.map UInt8.toBitVec = x := by
  obtain ⟨a, cap, rfl, _, _, _, h5⟩ := h.loads
  rcases h5 with ⟨rfl, rfl⟩ | ⟨b, o, cs, rfl, h6, h7, h8⟩
  · refine ⟨.empty, ?_, rfl⟩
    cases a with
    | none => rfl
    | some ad => simp only [List.length_nil, Conv.bytesToString, Sem.run_bind, run_loadCells_zero, Result.andThen_ok]; rfl
  · have h9 := bytes_of_elems h6 h7
    have hl : cs.length = x.length := by simpa [Ty.size] using h6
    have hrun := run_loadCells_list' (P := P) cs x.length hl h8
    refine ⟨⟨(x.map UInt8.ofBitVec).toArray⟩, ?_, by simpa using ofBV_toBV x⟩
    simp only [Conv.bytesToString, Sem.run_bind, hrun, Result.andThen_ok, h9]
    rw [← Array.forIn_toList]
    rw [toStr_foldl _ (fun b s => rfl) x ByteArray.empty]
    simp

end
end Go.Re
