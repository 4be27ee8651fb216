/- Reflection, part P: bytes of a text; append; copy. -/
import Derived.Test.YtgceolpeegfkkaaReO
namespace Go.Re
set_option linter.unusedVariables false
set_option linter.unusedSimpArgs false
open Go.RowKit (Below)

section
variable {P : Program} {E : Env} {N : Nat} {Z : Base} {own : Own} {β : Conc} {σ : S} {a : Act} {w : World} {o : Oper}

/-- A new entry at a site, whatever has become of the others. -/
theorem St.newSite' (h : St N Z own β σ a w) {s : Nat} {e' : Entry} {c : Value} {w' : World} {own' : Own} (hb : Frm Z.w.heap.size Z.io w w')
    (ho : ∀ b o, b < Z.w.heap.size → ¬ Z.io b o → own' b o = own b o) (k : Keeps own own' w w') (hks : ∀ s', s' ≠ s → RepE Z own' w' β s' (σ.mem s'))
    (hev : ∀ β', Evo β β' s (σ.mem s) e') (he : RepE Z own' w' (upd β s c) s e') : St N Z own' (upd β s c) (σ.set s e') a w' := by
  refine h.go hb ho k ?_ rfl ?_
  · intro s'
    show Evo β (upd β s c) s' (σ.mem s') (upd σ.mem s e' s')
    rw [upd_eq σ.mem]
    split
    · rename_i e; subst e; exact hev _
    · rename_i e; exact Evo.same _ (by rw [upd_eq, if_neg e])
  · intro s'
    show RepE Z own' w' (upd β s c) s' (upd σ.mem s e' s')
    rw [upd_eq σ.mem]
    split
    · rename_i e; subst e; exact he
    · rename_i e; exact (hks s' e).keeps (Keeps.refl _ _) (OwnKeeps.refl _ _ _) (fun _ _ h => h) (by rw [upd_eq, if_neg e])

/-- The bytes of a text, as cells, and some room. -/
def strArr (s : ByteArray) (n : Nat) : Array Value := s.data.map (fun (b : UInt8) => Value.int .u8 (b.toNat : Int)) ++ Array.replicate n (Value.int .u8 0)

theorem strCells (s : ByteArray) (n : Nat) : ElemsC own w (.int .u8) (strArr s n).toList (s.data.toList.map UInt8.toBitVec) := by
  refine ⟨by simp [Ty.size, strArr], ?_⟩
  intro i hi
  have hi' : i < s.data.size := by simpa using hi
  have : (((strArr s n).toList.drop (i * Ty.size (.int .u8))).take (Ty.size (.int .u8))) = [.int .u8 ((s.data[i]).toNat : Int)] := by
    simp only [Ty.size, Nat.mul_one]
    have hlt : i < (strArr s n).toList.length := by
      have e : (strArr s n).toList.length = s.data.size + n := by simp [strArr]
      omega
    have hget : (strArr s n).toList[i] = Value.int .u8 ((s.data[i]).toNat : Int) := by
      apply Option.some.inj
      rw [← List.getElem?_eq_getElem hlt]
      have hi2 : i < s.size := hi'
      simp [strArr, List.getElem?_append, hi2, Array.getElem?_eq_getElem hi']
    rw [List.drop_eq_getElem_cons hlt, List.take_succ_cons, List.take_zero, hget]
  rw [this]
  exact ⟨by simp [toI], trivial⟩

theorem appendCap_cut (n o e t : Nat) (hn : n < 9223372036854775808) : n ≤ (Question.appendCap n o e).cut t ∧ (Question.appendCap n o e).cut t < 9223372036854775808 := by
  simp only [Question.cut]
  have : t % (2 ^ 63 - n) < 2 ^ 63 - n := Nat.mod_lt _ (by omega)
  omega

theorem mark_new (w : World) (c : List Value) (t : TypeId) (d : Nat) : ∃ w', ((markStringish ⟨w.heap.size, 0, none⟩).run P { w with heap := w.heap.push (.cells c.toArray t (0, 0)), drawn := d }) = .ok () w' ∧ Alloc1 w w' c := by
  refine ⟨{ w with heap := w.heap.push (.cells c.toArray t (c.length, c.length + 1)), drawn := d }, ?_, alloc1_push_fz w c t d _ rfl⟩
  have hsh : ({ w with heap := w.heap.push (.cells c.toArray t (0, 0)), drawn := d } : World).shape? w.heap.size = some (t, c.length) := by
    simp [World.shape?, Array.getElem?_push]
  simp only [markStringish, Sem.run_bind, run_shape, hsh, Result.andThen_ok, run_freeze]
  congr 1
  unfold World.freeze
  simp only [Nat.one_ne_zero, if_false]
  congr 1
  apply Array.ext
  · simp
  · intro i h1 h2
    simp only [Array.size_modify, Array.size_push] at h1
    rw [Array.getElem_modify]
    by_cases hi : w.heap.size = i
    · subst hi; simp
    · rw [if_neg hi, Array.getElem_push_lt (by omega), Array.getElem_push_lt (by omega)]

theorem toBytes_did (hE : EnvOk P E) (h : St N Z own β σ a w) {d src dst : Nat} {s : ByteArray} (h1 : E.ty src = some .str) (h2 : E.ty dst = some (.sl (.int .u8))) (hl : s.size ≤ lim)
    (he : execOp a.eval o = (do pure (.value (← convert src dst (.string s))))) :
    Did P N Z o a w (σ.set (site d 0) (.own (nextVer (σ.mem (site d 0))) (.int .u8) (s.data.toList.map UInt8.toBitVec) .full)) (.ref (site d 0) (nextVer (σ.mem (site d 0)))) := by
  have e1 : P.underlying src = some .string := (hE.ty src _ h1).desc
  obtain ⟨te, e2, e3⟩ := (hE.ty dst _ h2).desc
  have e4 : P.underlying te = some (.int .u8) := (hE.ty te _ e3).desc
  have hl' : s.size ≤ 2147483648 := hl
  obtain ⟨c1, c2⟩ := appendCap_cut s.size 0 te (w.tape w.drawn (.appendCap s.size 0 te)) (by omega)
  generalize hcap : (Question.appendCap s.size 0 te).cut (w.tape w.drawn (.appendCap s.size 0 te)) = cap at c1 c2
  have hxl : (s.data.toList.map UInt8.toBitVec).length = s.size := by simp
  obtain ⟨w', g1, g2⟩ := mark_new (P := P) w (strArr s (cap - s.size)).toList te (w.drawn + 1)
  have hlen : (strArr s (cap - s.size)).toList.length = cap * Ty.size (.int .u8) := by
    simp [Ty.size, strArr]; have : s.data.size = s.size := rfl; omega
  refine own_did (o := o) (P := P) h (w' := w') g2 (strCells s (cap - s.size)) cap (by rw [hxl]; exact c1) c2 (by rw [hxl]; simp only [big]; omega) hlen ?_
  rw [hxl]
  refine exec_v he ?_
  simp only [convert, Sem.run_bind, run_underlying e1, run_underlying e2, Result.andThen_ok, run_underlying e4, Conv.stringToBytes, run_choose, Question.forced, Bool.false_eq_true, if_false, hcap, newRow, run_newObj, Sem.run_pure]
  rw [Array.toArray_toList] at g1
  unfold strArr at g1
  rw [g1]
  rfl

/-- The mark on bytes of a text leaves them as they are. -/
theorem mark_did (hE : EnvOk P E) (h : St N Z own β σ a w) {src s ver : Nat} {xs : List (BitVec 8)} {u : Value} (h1 : E.ty src = some (.sl (.int .u8))) (hm : σ.mem s = .own ver (.int .u8) xs .full) (hx : 0 < xs.length)
    (hu : RepS own w β σ.mem (.ref s ver) u) (he : execOp a.eval o = (do pure (.value (← convert src src u)))) : Did P N Z o a w σ (.ref s ver) := by
  obtain ⟨te, e2, e3⟩ := (hE.ty src _ h1).desc
  have e4 : P.underlying te = some (.int .u8) := (hE.ty te _ e3).desc
  have hus := hu.2 (.int .u8) xs .full hm
  have hmm := h.mems s
  rw [hm] at hmm
  obtain ⟨ad, cap, f1, f2, f3, f4, f5⟩ := hmm
  rcases f5 with ⟨f6, _⟩ | ⟨b, off, rfl, f6, f7, f8⟩
  · omega
  obtain ⟨n, fz, g1, g2, g3⟩ := f7
  -- the block
  have hblk : ∃ c t, w.heap[b]? = some (.cells c t fz) ∧ c.size = n := by
    unfold shp at g1
    split at g1
    · rename_i c t fz' hb
      cases g1
      exact ⟨c, t, hb, rfl⟩
    · cases g1
  obtain ⟨c, t, hb, hc⟩ := hblk
  have hlt : b < w.heap.size := shp_lt g1
  let w' : World := w.freeze ⟨b, n, none⟩ 1
  have hw' : w' = { w with heap := w.heap.modify b fun
      | .cells c elem (lo, hi) => .cells c elem (if lo == hi then (n, n + 1) else (min lo n, max hi (n + 1)))
      | o => o } := by
    show World.freeze _ _ _ = _
    unfold World.freeze
    rw [if_neg (by decide)]
    congr 2
  have hheap : ∀ k, k ≠ b → w'.heap[k]? = w.heap[k]? := by
    intro k hk; rw [hw']; simp [Array.getElem?_modify, Ne.symm hk]
  have hbl : w'.heap[b]? = some (.cells c t (n, n + 1)) := by
    rw [hw']
    simp only [Array.getElem?_modify, if_true, hb, Option.map_some]
    rcases g3 with rfl | rfl
    · simp
    · simp
  have hcell : ∀ b' j, w'.cell? ⟨b', j, none⟩ = w.cell? ⟨b', j, none⟩ := by
    intro b' j
    by_cases e : b' = b
    · subst e; simp [World.cell?, hbl, hb]
    · exact cell?_of_heap (hheap b' e)
  have hfroz : ∀ b' j v, w.cell? ⟨b', j, none⟩ = some v → w'.frozen? ⟨b', j, none⟩ = w.frozen? ⟨b', j, none⟩ := by
    intro b' j v hv
    by_cases e : b' = b
    · subst e
      have hj : j < n := by
        simp [World.cell?, hb] at hv
        have := (Array.getElem?_eq_some_iff.1 hv).1
        omega
      simp only [World.frozen?, hbl, hb]
      rcases g3 with rfl | rfl
      · simp; omega
      · simp
    · exact frozen?_of_heap (hheap b' e)
  have hshp : ∀ b' k, Free w b' k → Free w' b' k := by
    rintro b' k ⟨x, fz', q1, q2, q3⟩
    by_cases e : b' = b
    · subst e
      rw [g1] at q1; cases q1
      exact ⟨n, (n, n + 1), by simp [shp, hbl, hc], q2, .inr rfl⟩
    · exact ⟨x, fz', by rw [shp_of_heap (hheap b' e)]; exact q1, q2, q3⟩
  have hwr : Z.wr b off := (f8 off (by omega) (by simp [Ty.size]; omega)).2.1
  have hframe : Frm Z.w.heap.size Z.io w w' := {
    os := by rw [hw']
    tape := by rw [hw']
    output := by rw [hw']
    size := by rw [hw']; simp
    cell := fun b' o' _ _ => hcell b' o'
    live := fun b' o' v _ hv => ⟨⟨v, by rw [hcell]; exact hv⟩, hfroz b' o' v hv⟩
    shape := fun b' k _ => hshp b' k
    block := fun b' hb' hio => by
      by_cases e : b' = b
      · subst e
        rcases hwr with h3 | h3
        · omega
        · exact absurd h3 (hio off)
      · exact hheap b' e }
  have hst : St N Z own β σ a w' := h.go hframe (fun _ _ _ _ => rfl) (fun b o v q1 q2 => ⟨q1, by rw [hcell]; exact q2⟩) (fun s => Evo.same _ rfl) rfl
    (fun s => (h.mems s).keeps (fun b o v q1 q2 => ⟨q1, by rw [hcell]; exact q2⟩) ⟨fun b o v q1 q2 => ⟨q1, by rw [hcell]; exact q2, hfroz _ _ _ q2⟩,
      fun r es c q1 q2 => ⟨q1, by rw [hheap r (fun e => by rw [e, hb] at q2; cases q2)]; exact q2⟩⟩ hshp rfl)
  refine did_value (exec_v he (u := u) (w' := w') ?_) hst (hu.go (fun b o v q1 q2 => ⟨q1, by rw [hcell]; exact q2⟩) (fun s => Evo.same _ rfl))
  rw [hus, f1]
  have hsh : w.shape? b = some (t, n) := by simp [World.shape?, hb, hc]
  simp only [convert, Sem.run_bind, run_underlying e2, Result.andThen_ok, run_underlying e4, beq_self_eq_true, markStringish, run_shape, hsh, run_freeze, Sem.run_pure]
  rfl

end
end Go.Re
