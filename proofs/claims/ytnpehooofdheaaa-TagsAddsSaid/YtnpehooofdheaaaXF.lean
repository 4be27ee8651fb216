/- The program's functions as plain ones. Printed by the session's own program. -/
import Derived.Test.YtnpehooofdheaaaRfH
namespace Go.Proofs.Ytnpehooofdheaaa
open Go Go.Re
set_option linter.unusedVariables false
set_option linter.unusedSimpArgs false
/-- reticule/tags.may -/
noncomputable def tags_may (x : Int) : Option Bool :=
  (bif decide (0 < x) then
      some (decide (x ≤ 65535))
    else
      some false : Option Bool).bind fun b1 =>
  some b1
/-- reticule/tags.of -/
noncomputable def tags_of (x : Int) : Option (List (BitVec 8)) :=
  some ([BitVec.ofInt 8 (shrI x (((8#64).toNat : Int) : Int).toNat), BitVec.ofInt 8 x] : List (BitVec 8))
/-- reticule/tags.places -/
noncomputable def tags_places_L0 : Nat → ((List (Int × (Int × (List (BitVec 8) × (Int × (List (BitVec 8) × (((Int × (BitVec 64 × (Int × (Int × (Int × Unit))))) × (Int × (Int × (List (BitVec 8) × ((Int × (Int × (Int × Unit))) × Unit))))) × ((Int × (Int × (Int × Unit))) × Unit)))))))) × (List (List (BitVec 8) × Int)) × Int) → Option ((List (List (BitVec 8) × Int)) ⊕ (List (List (BitVec 8) × Int)))
  | 0, _ => none
  | n + 1, j =>
  bif decide (0 ≤ j.2.2) then
      jn (A := ((List (Int × (Int × (List (BitVec 8) × (Int × (List (BitVec 8) × (((Int × (BitVec 64 × (Int × (Int × (Int × Unit))))) × (Int × (Int × (List (BitVec 8) × ((Int × (Int × (Int × Unit))) × Unit))))) × ((Int × (Int × (Int × Unit))) × Unit)))))))) × (List (List (BitVec 8) × Int)) × Int)) (R := ((List (List (BitVec 8) × Int)) ⊕ (List (List (BitVec 8) × Int)))) ((ix j.1 j.2.2).bind fun x1 =>
        (tags_may x1.1).bind fun r2 =>
        bif r2 then
          (ix j.1 j.2.2).bind fun x3 =>
          (tags_of x3.1).bind fun r4 =>
          (chk (decide (j.2.1.length + 1 ≤ lim))).bind fun _ =>
          some (Sum.inl (j.1, mpPut j.2.1 r4 j.2.2, j.2.2))
        else
          some (Sum.inl (j.1, j.2.1, j.2.2))) fun j5 =>
      tags_places_L0 n (j5.1, j5.2.1, w64 (j5.2.2 - 1))
    else
      some (Sum.inl j.2.1)
noncomputable def tags_places (x : (List (Int × (Int × (List (BitVec 8) × (Int × (List (BitVec 8) × (((Int × (BitVec 64 × (Int × (Int × (Int × Unit))))) × (Int × (Int × (List (BitVec 8) × ((Int × (Int × (Int × Unit))) × Unit))))) × ((Int × (Int × (Int × Unit))) × Unit))))))))) : Option (List (List (BitVec 8) × Int)) :=
  jn (A := (List (List (BitVec 8) × Int))) (R := (List (List (BitVec 8) × Int))) (tags_places_L0 Big (x, ([] : List (List (BitVec 8) × Int)), w64 ((x.length : Int) - 1))) fun q6 =>
  some q6
/-- reticule/tags.Find$1 -/
noncomputable def tags_Find_1 (x : (Int × (Int × (List (BitVec 8) × (Int × (List (BitVec 8) × (((Int × (BitVec 64 × (Int × (Int × (Int × Unit))))) × (Int × (Int × (List (BitVec 8) × ((Int × (Int × (Int × Unit))) × Unit))))) × ((Int × (Int × (Int × Unit))) × Unit))))))) × Int) : Option Bool :=
  some (decide (x.1.1 = x.2))
/-- slices.IndexFunc[[]reticule/api.Task,reticule/api.Task] -/
noncomputable def slices_IndexFunc_api_Task_c31_L0 : Nat → ((List (Int × (Int × (List (BitVec 8) × (Int × (List (BitVec 8) × (((Int × (BitVec 64 × (Int × (Int × (Int × Unit))))) × (Int × (Int × (List (BitVec 8) × ((Int × (Int × (Int × Unit))) × Unit))))) × ((Int × (Int × (Int × Unit))) × Unit)))))))) × Int × Int × Int) → Option (Unit ⊕ Int)
  | 0, _ => none
  | n + 1, j =>
  bif decide (j.2.2.2 < j.2.2.1) then
      (ix j.1 j.2.2.2).bind fun x1 =>
      (tags_Find_1 (x1, j.2.1)).bind fun r2 =>
      bif r2 then
        some (Sum.inr j.2.2.2)
      else
        slices_IndexFunc_api_Task_c31_L0 n (j.1, j.2.1, j.2.2.1, w64 (j.2.2.2 + 1))
    else
      some (Sum.inl ())
noncomputable def slices_IndexFunc_api_Task_c31 (x : (List (Int × (Int × (List (BitVec 8) × (Int × (List (BitVec 8) × (((Int × (BitVec 64 × (Int × (Int × (Int × Unit))))) × (Int × (Int × (List (BitVec 8) × ((Int × (Int × (Int × Unit))) × Unit))))) × ((Int × (Int × (Int × Unit))) × Unit)))))))) × Int) : Option Int :=
  jn (A := Unit) (R := Int) (slices_IndexFunc_api_Task_c31_L0 Big (x.1, x.2, (x.1.length : Int), 0)) fun q3 =>
  some (-1)
/-- reticule/tags.Find -/
noncomputable def tags_Find (x : (List (Int × (Int × (List (BitVec 8) × (Int × (List (BitVec 8) × (((Int × (BitVec 64 × (Int × (Int × (Int × Unit))))) × (Int × (Int × (List (BitVec 8) × ((Int × (Int × (Int × Unit))) × Unit))))) × ((Int × (Int × (Int × Unit))) × Unit)))))))) × Int) : Option Int :=
  (tags_may x.2).bind fun r1 =>
  bif !r1 then
    (slices_IndexFunc_api_Task_c31 (x.1, x.2)).bind fun r2 =>
    some r2
  else
    (tags_places x.1).bind fun r3 =>
    (tags_of x.2).bind fun r4 =>
    bif (mpGet r3 r4).isSome then
      some ((mpGet r3 r4).getD 0)
    else
      some (-1)
/-- slices.Grow[[]reticule/api.Task,reticule/api.Task] -/
noncomputable def slices_Grow_api_Task (x : Unit × Int) : Option (List (Int × (Int × (List (BitVec 8) × (Int × (List (BitVec 8) × (((Int × (BitVec 64 × (Int × (Int × (Int × Unit))))) × (Int × (Int × (List (BitVec 8) × ((Int × (Int × (Int × Unit))) × Unit))))) × ((Int × (Int × (Int × Unit))) × Unit)))))))) :=
  bif decide (x.2 < 0) then
    none
  else
    jn (A := (List (Int × (Int × (List (BitVec 8) × (Int × (List (BitVec 8) × (((Int × (BitVec 64 × (Int × (Int × (Int × Unit))))) × (Int × (Int × (List (BitVec 8) × ((Int × (Int × (Int × Unit))) × Unit))))) × ((Int × (Int × (Int × Unit))) × Unit))))))))) (R := (List (Int × (Int × (List (BitVec 8) × (Int × (List (BitVec 8) × (((Int × (BitVec 64 × (Int × (Int × (Int × Unit))))) × (Int × (Int × (List (BitVec 8) × ((Int × (Int × (Int × Unit))) × Unit))))) × ((Int × (Int × (Int × Unit))) × Unit))))))))) (bif decide (0 < (w64 (x.2 - (w64 ((0 : Int) - (([] : List (Int × (Int × (List (BitVec 8) × (Int × (List (BitVec 8) × (((Int × (BitVec 64 × (Int × (Int × (Int × Unit))))) × (Int × (Int × (List (BitVec 8) × ((Int × (Int × (Int × Unit))) × Unit))))) × ((Int × (Int × (Int × Unit))) × Unit)))))))).length : Int)))))) then
        (chk (decide (0 ≤ (0 : Int)) && decide ((0 : Int) ≤ (0 : Int)))).bind fun _ =>
        (chk ((decide (0 ≤ (w64 (x.2 - (w64 ((0 : Int) - (([] : List (Int × (Int × (List (BitVec 8) × (Int × (List (BitVec 8) × (((Int × (BitVec 64 × (Int × (Int × (Int × Unit))))) × (Int × (Int × (List (BitVec 8) × ((Int × (Int × (Int × Unit))) × Unit))))) × ((Int × (Int × (Int × Unit))) × Unit)))))))).length : Int)))) : Int)) && decide ((w64 (x.2 - (w64 ((0 : Int) - (([] : List (Int × (Int × (List (BitVec 8) × (Int × (List (BitVec 8) × (((Int × (BitVec 64 × (Int × (Int × (Int × Unit))))) × (Int × (Int × (List (BitVec 8) × ((Int × (Int × (Int × Unit))) × Unit))))) × ((Int × (Int × (Int × Unit))) × Unit)))))))).length : Int)))) : Int) ≤ (lim : Int))) && decide ((List.replicate (w64 (x.2 - (w64 ((0 : Int) - (([] : List (Int × (Int × (List (BitVec 8) × (Int × (List (BitVec 8) × (((Int × (BitVec 64 × (Int × (Int × (Int × Unit))))) × (Int × (Int × (List (BitVec 8) × ((Int × (Int × (Int × Unit))) × Unit))))) × ((Int × (Int × (Int × Unit))) × Unit)))))))).length : Int)))) : Int).toNat ((0, 0, List.replicate 16 (0#8), 0, ([] : List (BitVec 8)), ((0, 0#64, 0, 0, 0, ()), 0, 0, ([] : List (BitVec 8)), (0, 0, 0, ()), ()), (0, 0, 0, ()), ()) : (Int × (Int × (List (BitVec 8) × (Int × (List (BitVec 8) × (((Int × (BitVec 64 × (Int × (Int × (Int × Unit))))) × (Int × (Int × (List (BitVec 8) × ((Int × (Int × (Int × Unit))) × Unit))))) × ((Int × (Int × (Int × Unit))) × Unit))))))))).length ≤ lim))).bind fun _ =>
        (chk (decide (0 ≤ ((([] : List (Int × (Int × (List (BitVec 8) × (Int × (List (BitVec 8) × (((Int × (BitVec 64 × (Int × (Int × (Int × Unit))))) × (Int × (Int × (List (BitVec 8) × ((Int × (Int × (Int × Unit))) × Unit))))) × ((Int × (Int × (Int × Unit))) × Unit)))))))).length : Int) : Int)) && decide (((([] : List (Int × (Int × (List (BitVec 8) × (Int × (List (BitVec 8) × (((Int × (BitVec 64 × (Int × (Int × (Int × Unit))))) × (Int × (Int × (List (BitVec 8) × ((Int × (Int × (Int × Unit))) × Unit))))) × ((Int × (Int × (Int × Unit))) × Unit)))))))).length : Int) : Int) ≤ ((List.replicate (w64 (x.2 - (w64 ((0 : Int) - (([] : List (Int × (Int × (List (BitVec 8) × (Int × (List (BitVec 8) × (((Int × (BitVec 64 × (Int × (Int × (Int × Unit))))) × (Int × (Int × (List (BitVec 8) × ((Int × (Int × (Int × Unit))) × Unit))))) × ((Int × (Int × (Int × Unit))) × Unit)))))))).length : Int)))) : Int).toNat ((0, 0, List.replicate 16 (0#8), 0, ([] : List (BitVec 8)), ((0, 0#64, 0, 0, 0, ()), 0, 0, ([] : List (BitVec 8)), (0, 0, 0, ()), ()), (0, 0, 0, ()), ()) : (Int × (Int × (List (BitVec 8) × (Int × (List (BitVec 8) × (((Int × (BitVec 64 × (Int × (Int × (Int × Unit))))) × (Int × (Int × (List (BitVec 8) × ((Int × (Int × (Int × Unit))) × Unit))))) × ((Int × (Int × (Int × Unit))) × Unit))))))))).length : Int)))).bind fun _ =>
        some (Sum.inl ((List.replicate (w64 (x.2 - (w64 ((0 : Int) - (([] : List (Int × (Int × (List (BitVec 8) × (Int × (List (BitVec 8) × (((Int × (BitVec 64 × (Int × (Int × (Int × Unit))))) × (Int × (Int × (List (BitVec 8) × ((Int × (Int × (Int × Unit))) × Unit))))) × ((Int × (Int × (Int × Unit))) × Unit)))))))).length : Int)))) : Int).toNat ((0, 0, List.replicate 16 (0#8), 0, ([] : List (BitVec 8)), ((0, 0#64, 0, 0, 0, ()), 0, 0, ([] : List (BitVec 8)), (0, 0, 0, ()), ()), (0, 0, 0, ()), ()) : (Int × (Int × (List (BitVec 8) × (Int × (List (BitVec 8) × (((Int × (BitVec 64 × (Int × (Int × (Int × Unit))))) × (Int × (Int × (List (BitVec 8) × ((Int × (Int × (Int × Unit))) × Unit))))) × ((Int × (Int × (Int × Unit))) × Unit))))))))).take ((([] : List (Int × (Int × (List (BitVec 8) × (Int × (List (BitVec 8) × (((Int × (BitVec 64 × (Int × (Int × (Int × Unit))))) × (Int × (Int × (List (BitVec 8) × ((Int × (Int × (Int × Unit))) × Unit))))) × ((Int × (Int × (Int × Unit))) × Unit)))))))).length : Int) : Int).toNat))
      else
        some (Sum.inl ([]))) fun j1 =>
    some j1
/-- slices.Concat[[]reticule/api.Task,reticule/api.Task] -/
noncomputable def slices_Concat_api_Task_L0 : Nat → ((List (List (Int × (Int × (List (BitVec 8) × (Int × (List (BitVec 8) × (((Int × (BitVec 64 × (Int × (Int × (Int × Unit))))) × (Int × (Int × (List (BitVec 8) × ((Int × (Int × (Int × Unit))) × Unit))))) × ((Int × (Int × (Int × Unit))) × Unit))))))))) × Int × (List (List (Int × (Int × (List (BitVec 8) × (Int × (List (BitVec 8) × (((Int × (BitVec 64 × (Int × (Int × (Int × Unit))))) × (Int × (Int × (List (BitVec 8) × ((Int × (Int × (Int × Unit))) × Unit))))) × ((Int × (Int × (Int × Unit))) × Unit))))))))) × Int × Int) → Option (((List (List (Int × (Int × (List (BitVec 8) × (Int × (List (BitVec 8) × (((Int × (BitVec 64 × (Int × (Int × (Int × Unit))))) × (Int × (Int × (List (BitVec 8) × ((Int × (Int × (Int × Unit))) × Unit))))) × ((Int × (Int × (Int × Unit))) × Unit))))))))) × Int) ⊕ (List (Int × (Int × (List (BitVec 8) × (Int × (List (BitVec 8) × (((Int × (BitVec 64 × (Int × (Int × (Int × Unit))))) × (Int × (Int × (List (BitVec 8) × ((Int × (Int × (Int × Unit))) × Unit))))) × ((Int × (Int × (Int × Unit))) × Unit)))))))))
  | 0, _ => none
  | n + 1, j =>
  bif decide (j.2.2.2.2 < j.2.2.2.1) then
      (ix j.2.2.1 j.2.2.2.2).bind fun x1 =>
      bif decide ((w64 (j.2.1 + (x1.length : Int))) < 0) then
        none
      else
        slices_Concat_api_Task_L0 n (j.1, w64 (j.2.1 + (x1.length : Int)), j.2.2.1, j.2.2.2.1, w64 (j.2.2.2.2 + 1))
    else
      some (Sum.inl (j.1, j.2.1))
noncomputable def slices_Concat_api_Task_L1 : Nat → ((List (Int × (Int × (List (BitVec 8) × (Int × (List (BitVec 8) × (((Int × (BitVec 64 × (Int × (Int × (Int × Unit))))) × (Int × (Int × (List (BitVec 8) × ((Int × (Int × (Int × Unit))) × Unit))))) × ((Int × (Int × (Int × Unit))) × Unit)))))))) × (List (List (Int × (Int × (List (BitVec 8) × (Int × (List (BitVec 8) × (((Int × (BitVec 64 × (Int × (Int × (Int × Unit))))) × (Int × (Int × (List (BitVec 8) × ((Int × (Int × (Int × Unit))) × Unit))))) × ((Int × (Int × (Int × Unit))) × Unit))))))))) × Int × Int) → Option ((List (Int × (Int × (List (BitVec 8) × (Int × (List (BitVec 8) × (((Int × (BitVec 64 × (Int × (Int × (Int × Unit))))) × (Int × (Int × (List (BitVec 8) × ((Int × (Int × (Int × Unit))) × Unit))))) × ((Int × (Int × (Int × Unit))) × Unit)))))))) ⊕ (List (Int × (Int × (List (BitVec 8) × (Int × (List (BitVec 8) × (((Int × (BitVec 64 × (Int × (Int × (Int × Unit))))) × (Int × (Int × (List (BitVec 8) × ((Int × (Int × (Int × Unit))) × Unit))))) × ((Int × (Int × (Int × Unit))) × Unit)))))))))
  | 0, _ => none
  | n + 1, j =>
  bif decide (j.2.2.2 < j.2.2.1) then
      (ix j.2.1 j.2.2.2).bind fun x4 =>
      (chk (decide (j.1.length + x4.length ≤ lim))).bind fun _ =>
      slices_Concat_api_Task_L1 n (j.1 ++ x4, j.2.1, j.2.2.1, w64 (j.2.2.2 + 1))
    else
      some (Sum.inl j.1)
noncomputable def slices_Concat_api_Task (x : (List (List (Int × (Int × (List (BitVec 8) × (Int × (List (BitVec 8) × (((Int × (BitVec 64 × (Int × (Int × (Int × Unit))))) × (Int × (Int × (List (BitVec 8) × ((Int × (Int × (Int × Unit))) × Unit))))) × ((Int × (Int × (Int × Unit))) × Unit)))))))))) : Option (List (Int × (Int × (List (BitVec 8) × (Int × (List (BitVec 8) × (((Int × (BitVec 64 × (Int × (Int × (Int × Unit))))) × (Int × (Int × (List (BitVec 8) × ((Int × (Int × (Int × Unit))) × Unit))))) × ((Int × (Int × (Int × Unit))) × Unit)))))))) :=
  jn (A := ((List (List (Int × (Int × (List (BitVec 8) × (Int × (List (BitVec 8) × (((Int × (BitVec 64 × (Int × (Int × (Int × Unit))))) × (Int × (Int × (List (BitVec 8) × ((Int × (Int × (Int × Unit))) × Unit))))) × ((Int × (Int × (Int × Unit))) × Unit))))))))) × Int)) (R := (List (Int × (Int × (List (BitVec 8) × (Int × (List (BitVec 8) × (((Int × (BitVec 64 × (Int × (Int × (Int × Unit))))) × (Int × (Int × (List (BitVec 8) × ((Int × (Int × (Int × Unit))) × Unit))))) × ((Int × (Int × (Int × Unit))) × Unit))))))))) (slices_Concat_api_Task_L0 Big (x, 0, x, (x.length : Int), 0)) fun q2 =>
  (slices_Grow_api_Task ((), q2.2)).bind fun r3 =>
  jn (A := (List (Int × (Int × (List (BitVec 8) × (Int × (List (BitVec 8) × (((Int × (BitVec 64 × (Int × (Int × (Int × Unit))))) × (Int × (Int × (List (BitVec 8) × ((Int × (Int × (Int × Unit))) × Unit))))) × ((Int × (Int × (Int × Unit))) × Unit))))))))) (R := (List (Int × (Int × (List (BitVec 8) × (Int × (List (BitVec 8) × (((Int × (BitVec 64 × (Int × (Int × (Int × Unit))))) × (Int × (Int × (List (BitVec 8) × ((Int × (Int × (Int × Unit))) × Unit))))) × ((Int × (Int × (Int × Unit))) × Unit))))))))) (slices_Concat_api_Task_L1 Big (r3, q2.1, (q2.1.length : Int), 0)) fun q5 =>
  some q5
/-- reticule/tags.Add -/
noncomputable def tags_Add (x : (List (Int × (Int × (List (BitVec 8) × (Int × (List (BitVec 8) × (((Int × (BitVec 64 × (Int × (Int × (Int × Unit))))) × (Int × (Int × (List (BitVec 8) × ((Int × (Int × (Int × Unit))) × Unit))))) × ((Int × (Int × (Int × Unit))) × Unit)))))))) × (Int × (Int × (List (BitVec 8) × (Int × (List (BitVec 8) × (((Int × (BitVec 64 × (Int × (Int × (Int × Unit))))) × (Int × (Int × (List (BitVec 8) × ((Int × (Int × (Int × Unit))) × Unit))))) × ((Int × (Int × (Int × Unit))) × Unit))))))) × Int) : Option ((List (Int × (Int × (List (BitVec 8) × (Int × (List (BitVec 8) × (((Int × (BitVec 64 × (Int × (Int × (Int × Unit))))) × (Int × (Int × (List (BitVec 8) × ((Int × (Int × (Int × Unit))) × Unit))))) × ((Int × (Int × (Int × Unit))) × Unit)))))))) × Int) :=
  (tags_may x.2.1.1).bind fun r1 =>
  bif !r1 then
    some (x.1, 1)
  else
    (tags_Find (x.1, x.2.1.1)).bind fun r2 =>
    bif decide (0 ≤ r2) then
      some (x.1, 8)
    else
      bif decide ((bif decide (8 < x.2.2) then 8 else x.2.2) ≤ (x.1.length : Int)) then
        some (x.1, 6)
      else
        (slices_Concat_api_Task ([x.1, ([x.2.1] : List (Int × (Int × (List (BitVec 8) × (Int × (List (BitVec 8) × (((Int × (BitVec 64 × (Int × (Int × (Int × Unit))))) × (Int × (Int × (List (BitVec 8) × ((Int × (Int × (Int × Unit))) × Unit))))) × ((Int × (Int × (Int × Unit))) × Unit))))))))] : List (List (Int × (Int × (List (BitVec 8) × (Int × (List (BitVec 8) × (((Int × (BitVec 64 × (Int × (Int × (Int × Unit))))) × (Int × (Int × (List (BitVec 8) × ((Int × (Int × (Int × Unit))) × Unit))))) × ((Int × (Int × (Int × Unit))) × Unit)))))))))).bind fun r3 =>
        some (r3, 0)
/-- slices.Clone[[]reticule/api.Task,reticule/api.Task] -/
noncomputable def slices_Clone_api_Task (x : (List (Int × (Int × (List (BitVec 8) × (Int × (List (BitVec 8) × (((Int × (BitVec 64 × (Int × (Int × (Int × Unit))))) × (Int × (Int × (List (BitVec 8) × ((Int × (Int × (Int × Unit))) × Unit))))) × ((Int × (Int × (Int × Unit))) × Unit))))))))) : Option (List (Int × (Int × (List (BitVec 8) × (Int × (List (BitVec 8) × (((Int × (BitVec 64 × (Int × (Int × (Int × Unit))))) × (Int × (Int × (List (BitVec 8) × ((Int × (Int × (Int × Unit))) × Unit))))) × ((Int × (Int × (Int × Unit))) × Unit)))))))) :=
  bif List.isEmpty x then
    both (some ([] : List (Int × (Int × (List (BitVec 8) × (Int × (List (BitVec 8) × (((Int × (BitVec 64 × (Int × (Int × (Int × Unit))))) × (Int × (Int × (List (BitVec 8) × ((Int × (Int × (Int × Unit))) × Unit))))) × ((Int × (Int × (Int × Unit))) × Unit))))))))) ((chk (decide (([] : List (Int × (Int × (List (BitVec 8) × (Int × (List (BitVec 8) × (((Int × (BitVec 64 × (Int × (Int × (Int × Unit))))) × (Int × (Int × (List (BitVec 8) × ((Int × (Int × (Int × Unit))) × Unit))))) × ((Int × (Int × (Int × Unit))) × Unit)))))))).length + x.length ≤ lim))).bind fun _ =>
      some (([] : List (Int × (Int × (List (BitVec 8) × (Int × (List (BitVec 8) × (((Int × (BitVec 64 × (Int × (Int × (Int × Unit))))) × (Int × (Int × (List (BitVec 8) × ((Int × (Int × (Int × Unit))) × Unit))))) × ((Int × (Int × (Int × Unit))) × Unit)))))))) ++ x))
  else
    (chk (decide (([] : List (Int × (Int × (List (BitVec 8) × (Int × (List (BitVec 8) × (((Int × (BitVec 64 × (Int × (Int × (Int × Unit))))) × (Int × (Int × (List (BitVec 8) × ((Int × (Int × (Int × Unit))) × Unit))))) × ((Int × (Int × (Int × Unit))) × Unit)))))))).length + x.length ≤ lim))).bind fun _ =>
    some (([] : List (Int × (Int × (List (BitVec 8) × (Int × (List (BitVec 8) × (((Int × (BitVec 64 × (Int × (Int × (Int × Unit))))) × (Int × (Int × (List (BitVec 8) × ((Int × (Int × (Int × Unit))) × Unit))))) × ((Int × (Int × (Int × Unit))) × Unit)))))))) ++ x)
/-- reticule/tags.Drop$1 -/
noncomputable def tags_Drop_1 (x : (Int × (Int × (List (BitVec 8) × (Int × (List (BitVec 8) × (((Int × (BitVec 64 × (Int × (Int × (Int × Unit))))) × (Int × (Int × (List (BitVec 8) × ((Int × (Int × (Int × Unit))) × Unit))))) × ((Int × (Int × (Int × Unit))) × Unit))))))) × Int) : Option Bool :=
  some (decide (x.1.1 = x.2))
/-- slices.IndexFunc[[]reticule/api.Task,reticule/api.Task] -/
noncomputable def slices_IndexFunc_api_Task_c34_L0 : Nat → ((List (Int × (Int × (List (BitVec 8) × (Int × (List (BitVec 8) × (((Int × (BitVec 64 × (Int × (Int × (Int × Unit))))) × (Int × (Int × (List (BitVec 8) × ((Int × (Int × (Int × Unit))) × Unit))))) × ((Int × (Int × (Int × Unit))) × Unit)))))))) × Int × Int × Int) → Option (Unit ⊕ Int)
  | 0, _ => none
  | n + 1, j =>
  bif decide (j.2.2.2 < j.2.2.1) then
      (ix j.1 j.2.2.2).bind fun x1 =>
      (tags_Drop_1 (x1, j.2.1)).bind fun r2 =>
      bif r2 then
        some (Sum.inr j.2.2.2)
      else
        slices_IndexFunc_api_Task_c34_L0 n (j.1, j.2.1, j.2.2.1, w64 (j.2.2.2 + 1))
    else
      some (Sum.inl ())
noncomputable def slices_IndexFunc_api_Task_c34 (x : (List (Int × (Int × (List (BitVec 8) × (Int × (List (BitVec 8) × (((Int × (BitVec 64 × (Int × (Int × (Int × Unit))))) × (Int × (Int × (List (BitVec 8) × ((Int × (Int × (Int × Unit))) × Unit))))) × ((Int × (Int × (Int × Unit))) × Unit)))))))) × Int) : Option Int :=
  jn (A := Unit) (R := Int) (slices_IndexFunc_api_Task_c34_L0 Big (x.1, x.2, (x.1.length : Int), 0)) fun q3 =>
  some (-1)
/-- slices.DeleteFunc[[]reticule/api.Task,reticule/api.Task] -/
noncomputable def slices_DeleteFunc_api_Task_c34_L0 : Nat → ((List (Int × (Int × (List (BitVec 8) × (Int × (List (BitVec 8) × (((Int × (BitVec 64 × (Int × (Int × (Int × Unit))))) × (Int × (Int × (List (BitVec 8) × ((Int × (Int × (Int × Unit))) × Unit))))) × ((Int × (Int × (Int × Unit))) × Unit)))))))) × Int × Int × Int) → Option (((List (Int × (Int × (List (BitVec 8) × (Int × (List (BitVec 8) × (((Int × (BitVec 64 × (Int × (Int × (Int × Unit))))) × (Int × (Int × (List (BitVec 8) × ((Int × (Int × (Int × Unit))) × Unit))))) × ((Int × (Int × (Int × Unit))) × Unit)))))))) × Int) ⊕ (List (Int × (Int × (List (BitVec 8) × (Int × (List (BitVec 8) × (((Int × (BitVec 64 × (Int × (Int × (Int × Unit))))) × (Int × (Int × (List (BitVec 8) × ((Int × (Int × (Int × Unit))) × Unit))))) × ((Int × (Int × (Int × Unit))) × Unit)))))))))
  | 0, _ => none
  | n + 1, j =>
  bif decide (j.2.2.2 < (j.1.length : Int)) then
      jn (A := ((List (Int × (Int × (List (BitVec 8) × (Int × (List (BitVec 8) × (((Int × (BitVec 64 × (Int × (Int × (Int × Unit))))) × (Int × (Int × (List (BitVec 8) × ((Int × (Int × (Int × Unit))) × Unit))))) × ((Int × (Int × (Int × Unit))) × Unit)))))))) × Int × Int × Int)) (R := (((List (Int × (Int × (List (BitVec 8) × (Int × (List (BitVec 8) × (((Int × (BitVec 64 × (Int × (Int × (Int × Unit))))) × (Int × (Int × (List (BitVec 8) × ((Int × (Int × (Int × Unit))) × Unit))))) × ((Int × (Int × (Int × Unit))) × Unit)))))))) × Int) ⊕ (List (Int × (Int × (List (BitVec 8) × (Int × (List (BitVec 8) × (((Int × (BitVec 64 × (Int × (Int × (Int × Unit))))) × (Int × (Int × (List (BitVec 8) × ((Int × (Int × (Int × Unit))) × Unit))))) × ((Int × (Int × (Int × Unit))) × Unit)))))))))) ((chk (inLen j.2.2.2 j.1.length)).bind fun _ =>
        ((j.1[(j.2.2.2 : Int).toNat]?).bind fun y2 =>
          some y2).bind fun x3 =>
        (tags_Drop_1 (x3, j.2.1)).bind fun r4 =>
        bif !r4 then
          (chk (inLen j.2.2.1 j.1.length)).bind fun _ =>
          some (Sum.inl (j.1.set (j.2.2.1 : Int).toNat x3, j.2.1, w64 (j.2.2.1 + 1), j.2.2.2))
        else
          some (Sum.inl (j.1, j.2.1, j.2.2.1, j.2.2.2))) fun j5 =>
      slices_DeleteFunc_api_Task_c34_L0 n (j5.1, j5.2.1, j5.2.2.1, w64 (j5.2.2.2 + 1))
    else
      some (Sum.inl (j.1, j.2.2.1))
noncomputable def slices_DeleteFunc_api_Task_c34 (x : (List (Int × (Int × (List (BitVec 8) × (Int × (List (BitVec 8) × (((Int × (BitVec 64 × (Int × (Int × (Int × Unit))))) × (Int × (Int × (List (BitVec 8) × ((Int × (Int × (Int × Unit))) × Unit))))) × ((Int × (Int × (Int × Unit))) × Unit)))))))) × Int) : Option (List (Int × (Int × (List (BitVec 8) × (Int × (List (BitVec 8) × (((Int × (BitVec 64 × (Int × (Int × (Int × Unit))))) × (Int × (Int × (List (BitVec 8) × ((Int × (Int × (Int × Unit))) × Unit))))) × ((Int × (Int × (Int × Unit))) × Unit)))))))) :=
  (slices_IndexFunc_api_Task_c34 (x.1, x.2)).bind fun r1 =>
  bif decide (r1 = (-1)) then
    some x.1
  else
    jn (A := ((List (Int × (Int × (List (BitVec 8) × (Int × (List (BitVec 8) × (((Int × (BitVec 64 × (Int × (Int × (Int × Unit))))) × (Int × (Int × (List (BitVec 8) × ((Int × (Int × (Int × Unit))) × Unit))))) × ((Int × (Int × (Int × Unit))) × Unit)))))))) × Int)) (R := (List (Int × (Int × (List (BitVec 8) × (Int × (List (BitVec 8) × (((Int × (BitVec 64 × (Int × (Int × (Int × Unit))))) × (Int × (Int × (List (BitVec 8) × ((Int × (Int × (Int × Unit))) × Unit))))) × ((Int × (Int × (Int × Unit))) × Unit))))))))) (slices_DeleteFunc_api_Task_c34_L0 Big (x.1, x.2, r1, w64 (r1 + 1))) fun q6 =>
    (chk (decide (0 ≤ (q6.2 : Int)) && decide ((q6.2 : Int) ≤ (q6.1.length : Int)))).bind fun _ =>
    (chk (decide (0 ≤ (q6.2 : Int)) && decide ((q6.2 : Int) ≤ ((overAt (q6.2 : Int).toNat q6.1 (List.replicate (q6.1.length - (q6.2 : Int).toNat) ((0, 0, List.replicate 16 (0#8), 0, ([] : List (BitVec 8)), ((0, 0#64, 0, 0, 0, ()), 0, 0, ([] : List (BitVec 8)), (0, 0, 0, ()), ()), (0, 0, 0, ()), ()) : (Int × (Int × (List (BitVec 8) × (Int × (List (BitVec 8) × (((Int × (BitVec 64 × (Int × (Int × (Int × Unit))))) × (Int × (Int × (List (BitVec 8) × ((Int × (Int × (Int × Unit))) × Unit))))) × ((Int × (Int × (Int × Unit))) × Unit)))))))))).length : Int)))).bind fun _ =>
    some ((overAt (q6.2 : Int).toNat q6.1 (List.replicate (q6.1.length - (q6.2 : Int).toNat) ((0, 0, List.replicate 16 (0#8), 0, ([] : List (BitVec 8)), ((0, 0#64, 0, 0, 0, ()), 0, 0, ([] : List (BitVec 8)), (0, 0, 0, ()), ()), (0, 0, 0, ()), ()) : (Int × (Int × (List (BitVec 8) × (Int × (List (BitVec 8) × (((Int × (BitVec 64 × (Int × (Int × (Int × Unit))))) × (Int × (Int × (List (BitVec 8) × ((Int × (Int × (Int × Unit))) × Unit))))) × ((Int × (Int × (Int × Unit))) × Unit)))))))))).take (q6.2 : Int).toNat)
/-- reticule/tags.but -/
noncomputable def tags_but_c34 (x : (List (Int × (Int × (List (BitVec 8) × (Int × (List (BitVec 8) × (((Int × (BitVec 64 × (Int × (Int × (Int × Unit))))) × (Int × (Int × (List (BitVec 8) × ((Int × (Int × (Int × Unit))) × Unit))))) × ((Int × (Int × (Int × Unit))) × Unit)))))))) × Int) : Option (List (Int × (Int × (List (BitVec 8) × (Int × (List (BitVec 8) × (((Int × (BitVec 64 × (Int × (Int × (Int × Unit))))) × (Int × (Int × (List (BitVec 8) × ((Int × (Int × (Int × Unit))) × Unit))))) × ((Int × (Int × (Int × Unit))) × Unit)))))))) :=
  (slices_Clone_api_Task x.1).bind fun r1 =>
  (slices_DeleteFunc_api_Task_c34 (r1, x.2)).bind fun r2 =>
  some r2
/-- reticule/tags.Drop -/
noncomputable def tags_Drop (x : (List (Int × (Int × (List (BitVec 8) × (Int × (List (BitVec 8) × (((Int × (BitVec 64 × (Int × (Int × (Int × Unit))))) × (Int × (Int × (List (BitVec 8) × ((Int × (Int × (Int × Unit))) × Unit))))) × ((Int × (Int × (Int × Unit))) × Unit)))))))) × Int) : Option (List (Int × (Int × (List (BitVec 8) × (Int × (List (BitVec 8) × (((Int × (BitVec 64 × (Int × (Int × (Int × Unit))))) × (Int × (Int × (List (BitVec 8) × ((Int × (Int × (Int × Unit))) × Unit))))) × ((Int × (Int × (Int × Unit))) × Unit)))))))) :=
  (tags_but_c34 (x.1, x.2)).bind fun r1 =>
  some r1
/-- reticule/tags.Sweep$1 -/
noncomputable def tags_Sweep_1 (x : (Int × (Int × (List (BitVec 8) × (Int × (List (BitVec 8) × (((Int × (BitVec 64 × (Int × (Int × (Int × Unit))))) × (Int × (Int × (List (BitVec 8) × ((Int × (Int × (Int × Unit))) × Unit))))) × ((Int × (Int × (Int × Unit))) × Unit))))))) × Int) : Option Bool :=
  (bif decide (x.2 = (-1)) then
      some true
    else
      some (decide (x.1.2.1 = x.2)) : Option Bool).bind fun b1 =>
  some b1
/-- slices.IndexFunc[[]reticule/api.Task,reticule/api.Task] -/
noncomputable def slices_IndexFunc_api_Task_c35_L0 : Nat → ((List (Int × (Int × (List (BitVec 8) × (Int × (List (BitVec 8) × (((Int × (BitVec 64 × (Int × (Int × (Int × Unit))))) × (Int × (Int × (List (BitVec 8) × ((Int × (Int × (Int × Unit))) × Unit))))) × ((Int × (Int × (Int × Unit))) × Unit)))))))) × Int × Int × Int) → Option (Unit ⊕ Int)
  | 0, _ => none
  | n + 1, j =>
  bif decide (j.2.2.2 < j.2.2.1) then
      (ix j.1 j.2.2.2).bind fun x1 =>
      (tags_Sweep_1 (x1, j.2.1)).bind fun r2 =>
      bif r2 then
        some (Sum.inr j.2.2.2)
      else
        slices_IndexFunc_api_Task_c35_L0 n (j.1, j.2.1, j.2.2.1, w64 (j.2.2.2 + 1))
    else
      some (Sum.inl ())
noncomputable def slices_IndexFunc_api_Task_c35 (x : (List (Int × (Int × (List (BitVec 8) × (Int × (List (BitVec 8) × (((Int × (BitVec 64 × (Int × (Int × (Int × Unit))))) × (Int × (Int × (List (BitVec 8) × ((Int × (Int × (Int × Unit))) × Unit))))) × ((Int × (Int × (Int × Unit))) × Unit)))))))) × Int) : Option Int :=
  jn (A := Unit) (R := Int) (slices_IndexFunc_api_Task_c35_L0 Big (x.1, x.2, (x.1.length : Int), 0)) fun q3 =>
  some (-1)
/-- slices.DeleteFunc[[]reticule/api.Task,reticule/api.Task] -/
noncomputable def slices_DeleteFunc_api_Task_c35_L0 : Nat → ((List (Int × (Int × (List (BitVec 8) × (Int × (List (BitVec 8) × (((Int × (BitVec 64 × (Int × (Int × (Int × Unit))))) × (Int × (Int × (List (BitVec 8) × ((Int × (Int × (Int × Unit))) × Unit))))) × ((Int × (Int × (Int × Unit))) × Unit)))))))) × Int × Int × Int) → Option (((List (Int × (Int × (List (BitVec 8) × (Int × (List (BitVec 8) × (((Int × (BitVec 64 × (Int × (Int × (Int × Unit))))) × (Int × (Int × (List (BitVec 8) × ((Int × (Int × (Int × Unit))) × Unit))))) × ((Int × (Int × (Int × Unit))) × Unit)))))))) × Int) ⊕ (List (Int × (Int × (List (BitVec 8) × (Int × (List (BitVec 8) × (((Int × (BitVec 64 × (Int × (Int × (Int × Unit))))) × (Int × (Int × (List (BitVec 8) × ((Int × (Int × (Int × Unit))) × Unit))))) × ((Int × (Int × (Int × Unit))) × Unit)))))))))
  | 0, _ => none
  | n + 1, j =>
  bif decide (j.2.2.2 < (j.1.length : Int)) then
      jn (A := ((List (Int × (Int × (List (BitVec 8) × (Int × (List (BitVec 8) × (((Int × (BitVec 64 × (Int × (Int × (Int × Unit))))) × (Int × (Int × (List (BitVec 8) × ((Int × (Int × (Int × Unit))) × Unit))))) × ((Int × (Int × (Int × Unit))) × Unit)))))))) × Int × Int × Int)) (R := (((List (Int × (Int × (List (BitVec 8) × (Int × (List (BitVec 8) × (((Int × (BitVec 64 × (Int × (Int × (Int × Unit))))) × (Int × (Int × (List (BitVec 8) × ((Int × (Int × (Int × Unit))) × Unit))))) × ((Int × (Int × (Int × Unit))) × Unit)))))))) × Int) ⊕ (List (Int × (Int × (List (BitVec 8) × (Int × (List (BitVec 8) × (((Int × (BitVec 64 × (Int × (Int × (Int × Unit))))) × (Int × (Int × (List (BitVec 8) × ((Int × (Int × (Int × Unit))) × Unit))))) × ((Int × (Int × (Int × Unit))) × Unit)))))))))) ((chk (inLen j.2.2.2 j.1.length)).bind fun _ =>
        ((j.1[(j.2.2.2 : Int).toNat]?).bind fun y2 =>
          some y2).bind fun x3 =>
        (tags_Sweep_1 (x3, j.2.1)).bind fun r4 =>
        bif !r4 then
          (chk (inLen j.2.2.1 j.1.length)).bind fun _ =>
          some (Sum.inl (j.1.set (j.2.2.1 : Int).toNat x3, j.2.1, w64 (j.2.2.1 + 1), j.2.2.2))
        else
          some (Sum.inl (j.1, j.2.1, j.2.2.1, j.2.2.2))) fun j5 =>
      slices_DeleteFunc_api_Task_c35_L0 n (j5.1, j5.2.1, j5.2.2.1, w64 (j5.2.2.2 + 1))
    else
      some (Sum.inl (j.1, j.2.2.1))
noncomputable def slices_DeleteFunc_api_Task_c35 (x : (List (Int × (Int × (List (BitVec 8) × (Int × (List (BitVec 8) × (((Int × (BitVec 64 × (Int × (Int × (Int × Unit))))) × (Int × (Int × (List (BitVec 8) × ((Int × (Int × (Int × Unit))) × Unit))))) × ((Int × (Int × (Int × Unit))) × Unit)))))))) × Int) : Option (List (Int × (Int × (List (BitVec 8) × (Int × (List (BitVec 8) × (((Int × (BitVec 64 × (Int × (Int × (Int × Unit))))) × (Int × (Int × (List (BitVec 8) × ((Int × (Int × (Int × Unit))) × Unit))))) × ((Int × (Int × (Int × Unit))) × Unit)))))))) :=
  (slices_IndexFunc_api_Task_c35 (x.1, x.2)).bind fun r1 =>
  bif decide (r1 = (-1)) then
    some x.1
  else
    jn (A := ((List (Int × (Int × (List (BitVec 8) × (Int × (List (BitVec 8) × (((Int × (BitVec 64 × (Int × (Int × (Int × Unit))))) × (Int × (Int × (List (BitVec 8) × ((Int × (Int × (Int × Unit))) × Unit))))) × ((Int × (Int × (Int × Unit))) × Unit)))))))) × Int)) (R := (List (Int × (Int × (List (BitVec 8) × (Int × (List (BitVec 8) × (((Int × (BitVec 64 × (Int × (Int × (Int × Unit))))) × (Int × (Int × (List (BitVec 8) × ((Int × (Int × (Int × Unit))) × Unit))))) × ((Int × (Int × (Int × Unit))) × Unit))))))))) (slices_DeleteFunc_api_Task_c35_L0 Big (x.1, x.2, r1, w64 (r1 + 1))) fun q6 =>
    (chk (decide (0 ≤ (q6.2 : Int)) && decide ((q6.2 : Int) ≤ (q6.1.length : Int)))).bind fun _ =>
    (chk (decide (0 ≤ (q6.2 : Int)) && decide ((q6.2 : Int) ≤ ((overAt (q6.2 : Int).toNat q6.1 (List.replicate (q6.1.length - (q6.2 : Int).toNat) ((0, 0, List.replicate 16 (0#8), 0, ([] : List (BitVec 8)), ((0, 0#64, 0, 0, 0, ()), 0, 0, ([] : List (BitVec 8)), (0, 0, 0, ()), ()), (0, 0, 0, ()), ()) : (Int × (Int × (List (BitVec 8) × (Int × (List (BitVec 8) × (((Int × (BitVec 64 × (Int × (Int × (Int × Unit))))) × (Int × (Int × (List (BitVec 8) × ((Int × (Int × (Int × Unit))) × Unit))))) × ((Int × (Int × (Int × Unit))) × Unit)))))))))).length : Int)))).bind fun _ =>
    some ((overAt (q6.2 : Int).toNat q6.1 (List.replicate (q6.1.length - (q6.2 : Int).toNat) ((0, 0, List.replicate 16 (0#8), 0, ([] : List (BitVec 8)), ((0, 0#64, 0, 0, 0, ()), 0, 0, ([] : List (BitVec 8)), (0, 0, 0, ()), ()), (0, 0, 0, ()), ()) : (Int × (Int × (List (BitVec 8) × (Int × (List (BitVec 8) × (((Int × (BitVec 64 × (Int × (Int × (Int × Unit))))) × (Int × (Int × (List (BitVec 8) × ((Int × (Int × (Int × Unit))) × Unit))))) × ((Int × (Int × (Int × Unit))) × Unit)))))))))).take (q6.2 : Int).toNat)
/-- reticule/tags.but -/
noncomputable def tags_but_c35 (x : (List (Int × (Int × (List (BitVec 8) × (Int × (List (BitVec 8) × (((Int × (BitVec 64 × (Int × (Int × (Int × Unit))))) × (Int × (Int × (List (BitVec 8) × ((Int × (Int × (Int × Unit))) × Unit))))) × ((Int × (Int × (Int × Unit))) × Unit)))))))) × Int) : Option (List (Int × (Int × (List (BitVec 8) × (Int × (List (BitVec 8) × (((Int × (BitVec 64 × (Int × (Int × (Int × Unit))))) × (Int × (Int × (List (BitVec 8) × ((Int × (Int × (Int × Unit))) × Unit))))) × ((Int × (Int × (Int × Unit))) × Unit)))))))) :=
  (slices_Clone_api_Task x.1).bind fun r1 =>
  (slices_DeleteFunc_api_Task_c35 (r1, x.2)).bind fun r2 =>
  some r2
/-- reticule/tags.Sweep -/
noncomputable def tags_Sweep (x : (List (Int × (Int × (List (BitVec 8) × (Int × (List (BitVec 8) × (((Int × (BitVec 64 × (Int × (Int × (Int × Unit))))) × (Int × (Int × (List (BitVec 8) × ((Int × (Int × (Int × Unit))) × Unit))))) × ((Int × (Int × (Int × Unit))) × Unit)))))))) × Int) : Option (List (Int × (Int × (List (BitVec 8) × (Int × (List (BitVec 8) × (((Int × (BitVec 64 × (Int × (Int × (Int × Unit))))) × (Int × (Int × (List (BitVec 8) × ((Int × (Int × (Int × Unit))) × Unit))))) × ((Int × (Int × (Int × Unit))) × Unit)))))))) :=
  (tags_but_c35 (x.1, x.2)).bind fun r1 =>
  some r1
/-- reticule/tags.Tags -/
noncomputable def tags_Tags_L0 : Nat → ((List Int) × (List (Int × (Int × (List (BitVec 8) × (Int × (List (BitVec 8) × (((Int × (BitVec 64 × (Int × (Int × (Int × Unit))))) × (Int × (Int × (List (BitVec 8) × ((Int × (Int × (Int × Unit))) × Unit))))) × ((Int × (Int × (Int × Unit))) × Unit)))))))) × Int × Int) → Option ((List Int) ⊕ (List Int))
  | 0, _ => none
  | n + 1, j =>
  bif decide (j.2.2.2 < j.2.2.1) then
      (ix j.2.1 j.2.2.2).bind fun x1 =>
      (chk (decide (j.1.length + ([x1.1] : List Int).length ≤ lim))).bind fun _ =>
      tags_Tags_L0 n (j.1 ++ ([x1.1] : List Int), j.2.1, j.2.2.1, w64 (j.2.2.2 + 1))
    else
      some (Sum.inl j.1)
noncomputable def tags_Tags (x : (List (Int × (Int × (List (BitVec 8) × (Int × (List (BitVec 8) × (((Int × (BitVec 64 × (Int × (Int × (Int × Unit))))) × (Int × (Int × (List (BitVec 8) × ((Int × (Int × (Int × Unit))) × Unit))))) × ((Int × (Int × (Int × Unit))) × Unit))))))))) : Option (List Int) :=
  jn (A := (List Int)) (R := (List Int)) (tags_Tags_L0 Big (([] : List Int), x, (x.length : Int), 0)) fun q2 =>
  some q2
/-- reticule/reticuleref01.Ints -/
noncomputable def reticuleref01_Ints_L0 : Nat → ((List Int) × (List Int) × Int) → Option (Unit ⊕ Bool)
  | 0, _ => none
  | n + 1, j =>
  bif decide (j.2.2 < (j.1.length : Int)) then
      (ix j.1 j.2.2).bind fun x1 =>
      (ix j.2.1 j.2.2).bind fun x2 =>
      bif !decide (x1 = x2) then
        some (Sum.inr false)
      else
        reticuleref01_Ints_L0 n (j.1, j.2.1, w64 (j.2.2 + 1))
    else
      some (Sum.inl ())
noncomputable def reticuleref01_Ints (x : (List Int) × (List Int)) : Option Bool :=
  bif !decide ((x.1.length : Int) = (x.2.length : Int)) then
    some false
  else
    jn (A := Unit) (R := Bool) (reticuleref01_Ints_L0 Big (x.1, x.2, 0)) fun q3 =>
    some true
/-- reticule/tags.Right -/
noncomputable def tags_Right (x : (List (Int × (Int × (List (BitVec 8) × (Int × (List (BitVec 8) × (((Int × (BitVec 64 × (Int × (Int × (Int × Unit))))) × (Int × (Int × (List (BitVec 8) × ((Int × (Int × (Int × Unit))) × Unit))))) × ((Int × (Int × (Int × Unit))) × Unit))))))))) : Option Bool :=
  (bif decide ((x.length : Int) ≤ 8) then
      (tags_places x).bind fun r1 =>
      some (decide ((r1.length : Int) = (x.length : Int)))
    else
      some false : Option Bool).bind fun b2 =>
  some b2
/-- reticule/reticulelaw23.alive -/
noncomputable def reticulelaw23_alive (x : Unit) : Option Bool := some true
/-- reticule/reticuleref23.Great -/
noncomputable def reticuleref23_Great_L0 : Nat → ((List (Int × (Int × (List (BitVec 8) × (Int × (List (BitVec 8) × (((Int × (BitVec 64 × (Int × (Int × (Int × Unit))))) × (Int × (Int × (List (BitVec 8) × ((Int × (Int × (Int × Unit))) × Unit))))) × ((Int × (Int × (Int × Unit))) × Unit)))))))) × Int) → Option (Unit ⊕ Bool)
  | 0, _ => none
  | n + 1, j =>
  bif decide (j.2 < (j.1.length : Int)) then
      (ix j.1 j.2).bind fun x1 =>
      (bif decide (10000 < (x1.2.2.2.2.1.length : Int)) then
          some true
        else
          (ix j.1 j.2).bind fun x2 =>
          some (decide (10000 < (x2.2.2.2.2.2.1.2.2.2.1.length : Int))) : Option Bool).bind fun b3 =>
      bif b3 then
        some (Sum.inr true)
      else
        reticuleref23_Great_L0 n (j.1, w64 (j.2 + 1))
    else
      some (Sum.inl ())
noncomputable def reticuleref23_Great (x : (List (Int × (Int × (List (BitVec 8) × (Int × (List (BitVec 8) × (((Int × (BitVec 64 × (Int × (Int × (Int × Unit))))) × (Int × (Int × (List (BitVec 8) × ((Int × (Int × (Int × Unit))) × Unit))))) × ((Int × (Int × (Int × Unit))) × Unit))))))))) : Option Bool :=
  bif decide (20 < (x.length : Int)) then
    some true
  else
    jn (A := Unit) (R := Bool) (reticuleref23_Great_L0 Big (x, 0)) fun q4 =>
    some false
/-- reticule/reticuleref23.Copy -/
noncomputable def reticuleref23_Copy_L0 : Nat → ((List (Int × (Int × (List (BitVec 8) × (Int × (List (BitVec 8) × (((Int × (BitVec 64 × (Int × (Int × (Int × Unit))))) × (Int × (Int × (List (BitVec 8) × ((Int × (Int × (Int × Unit))) × Unit))))) × ((Int × (Int × (Int × Unit))) × Unit)))))))) × (List (Int × (Int × (List (BitVec 8) × (Int × (List (BitVec 8) × (((Int × (BitVec 64 × (Int × (Int × (Int × Unit))))) × (Int × (Int × (List (BitVec 8) × ((Int × (Int × (Int × Unit))) × Unit))))) × ((Int × (Int × (Int × Unit))) × Unit)))))))) × Int) → Option ((List (Int × (Int × (List (BitVec 8) × (Int × (List (BitVec 8) × (((Int × (BitVec 64 × (Int × (Int × (Int × Unit))))) × (Int × (Int × (List (BitVec 8) × ((Int × (Int × (Int × Unit))) × Unit))))) × ((Int × (Int × (Int × Unit))) × Unit)))))))) ⊕ (List (Int × (Int × (List (BitVec 8) × (Int × (List (BitVec 8) × (((Int × (BitVec 64 × (Int × (Int × (Int × Unit))))) × (Int × (Int × (List (BitVec 8) × ((Int × (Int × (Int × Unit))) × Unit))))) × ((Int × (Int × (Int × Unit))) × Unit)))))))))
  | 0, _ => none
  | n + 1, j =>
  bif decide (j.2.2 < (j.1.length : Int)) then
      (ix j.1 j.2.2).bind fun x1 =>
      (chk (decide (([] : List (BitVec 8)).length + x1.2.2.2.2.1.length ≤ lim))).bind fun _ =>
      (chk (decide (([] : List (BitVec 8)).length + x1.2.2.2.2.2.1.2.2.2.1.length ≤ lim))).bind fun _ =>
      (chk (decide (j.2.1.length + ([(x1.1, x1.2.1, x1.2.2.1, x1.2.2.2.1, ([] : List (BitVec 8)) ++ x1.2.2.2.2.1, (x1.2.2.2.2.2.1.1, x1.2.2.2.2.2.1.2.1, x1.2.2.2.2.2.1.2.2.1, ([] : List (BitVec 8)) ++ x1.2.2.2.2.2.1.2.2.2.1, x1.2.2.2.2.2.1.2.2.2.2), x1.2.2.2.2.2.2)] : List (Int × (Int × (List (BitVec 8) × (Int × (List (BitVec 8) × (((Int × (BitVec 64 × (Int × (Int × (Int × Unit))))) × (Int × (Int × (List (BitVec 8) × ((Int × (Int × (Int × Unit))) × Unit))))) × ((Int × (Int × (Int × Unit))) × Unit)))))))).length ≤ lim))).bind fun _ =>
      reticuleref23_Copy_L0 n (j.1, j.2.1 ++ ([(x1.1, x1.2.1, x1.2.2.1, x1.2.2.2.1, ([] : List (BitVec 8)) ++ x1.2.2.2.2.1, (x1.2.2.2.2.2.1.1, x1.2.2.2.2.2.1.2.1, x1.2.2.2.2.2.1.2.2.1, ([] : List (BitVec 8)) ++ x1.2.2.2.2.2.1.2.2.2.1, x1.2.2.2.2.2.1.2.2.2.2), x1.2.2.2.2.2.2)] : List (Int × (Int × (List (BitVec 8) × (Int × (List (BitVec 8) × (((Int × (BitVec 64 × (Int × (Int × (Int × Unit))))) × (Int × (Int × (List (BitVec 8) × ((Int × (Int × (Int × Unit))) × Unit))))) × ((Int × (Int × (Int × Unit))) × Unit)))))))), w64 (j.2.2 + 1))
    else
      some (Sum.inl j.2.1)
noncomputable def reticuleref23_Copy (x : (List (Int × (Int × (List (BitVec 8) × (Int × (List (BitVec 8) × (((Int × (BitVec 64 × (Int × (Int × (Int × Unit))))) × (Int × (Int × (List (BitVec 8) × ((Int × (Int × (Int × Unit))) × Unit))))) × ((Int × (Int × (Int × Unit))) × Unit))))))))) : Option (List (Int × (Int × (List (BitVec 8) × (Int × (List (BitVec 8) × (((Int × (BitVec 64 × (Int × (Int × (Int × Unit))))) × (Int × (Int × (List (BitVec 8) × ((Int × (Int × (Int × Unit))) × Unit))))) × ((Int × (Int × (Int × Unit))) × Unit)))))))) :=
  jn (A := (List (Int × (Int × (List (BitVec 8) × (Int × (List (BitVec 8) × (((Int × (BitVec 64 × (Int × (Int × (Int × Unit))))) × (Int × (Int × (List (BitVec 8) × ((Int × (Int × (Int × Unit))) × Unit))))) × ((Int × (Int × (Int × Unit))) × Unit))))))))) (R := (List (Int × (Int × (List (BitVec 8) × (Int × (List (BitVec 8) × (((Int × (BitVec 64 × (Int × (Int × (Int × Unit))))) × (Int × (Int × (List (BitVec 8) × ((Int × (Int × (Int × Unit))) × Unit))))) × ((Int × (Int × (Int × Unit))) × Unit))))))))) (reticuleref23_Copy_L0 Big (x, ([] : List (Int × (Int × (List (BitVec 8) × (Int × (List (BitVec 8) × (((Int × (BitVec 64 × (Int × (Int × (Int × Unit))))) × (Int × (Int × (List (BitVec 8) × ((Int × (Int × (Int × Unit))) × Unit))))) × ((Int × (Int × (Int × Unit))) × Unit)))))))), 0)) fun q2 =>
  some q2
/-- reticule/reticuleref23.Find -/
noncomputable def reticuleref23_Find_L0 : Nat → ((List (Int × (Int × (List (BitVec 8) × (Int × (List (BitVec 8) × (((Int × (BitVec 64 × (Int × (Int × (Int × Unit))))) × (Int × (Int × (List (BitVec 8) × ((Int × (Int × (Int × Unit))) × Unit))))) × ((Int × (Int × (Int × Unit))) × Unit)))))))) × Int × Int) → Option (Unit ⊕ Int)
  | 0, _ => none
  | n + 1, j =>
  bif decide (j.2.2 < (j.1.length : Int)) then
      (ix j.1 j.2.2).bind fun x1 =>
      bif decide (x1.1 = j.2.1) then
        some (Sum.inr j.2.2)
      else
        reticuleref23_Find_L0 n (j.1, j.2.1, w64 (j.2.2 + 1))
    else
      some (Sum.inl ())
noncomputable def reticuleref23_Find (x : (List (Int × (Int × (List (BitVec 8) × (Int × (List (BitVec 8) × (((Int × (BitVec 64 × (Int × (Int × (Int × Unit))))) × (Int × (Int × (List (BitVec 8) × ((Int × (Int × (Int × Unit))) × Unit))))) × ((Int × (Int × (Int × Unit))) × Unit)))))))) × Int) : Option Int :=
  jn (A := Unit) (R := Int) (reticuleref23_Find_L0 Big (x.1, x.2, 0)) fun q2 =>
  some (-1)
/-- reticule/reticuleref23.Add -/
noncomputable def reticuleref23_Add (x : (List (Int × (Int × (List (BitVec 8) × (Int × (List (BitVec 8) × (((Int × (BitVec 64 × (Int × (Int × (Int × Unit))))) × (Int × (Int × (List (BitVec 8) × ((Int × (Int × (Int × Unit))) × Unit))))) × ((Int × (Int × (Int × Unit))) × Unit)))))))) × (Int × (Int × (List (BitVec 8) × (Int × (List (BitVec 8) × (((Int × (BitVec 64 × (Int × (Int × (Int × Unit))))) × (Int × (Int × (List (BitVec 8) × ((Int × (Int × (Int × Unit))) × Unit))))) × ((Int × (Int × (Int × Unit))) × Unit))))))) × Int) : Option ((List (Int × (Int × (List (BitVec 8) × (Int × (List (BitVec 8) × (((Int × (BitVec 64 × (Int × (Int × (Int × Unit))))) × (Int × (Int × (List (BitVec 8) × ((Int × (Int × (Int × Unit))) × Unit))))) × ((Int × (Int × (Int × Unit))) × Unit)))))))) × Int) :=
  (bif decide (x.2.1.1 < 1) then
      some true
    else
      some (decide (65535 < x.2.1.1)) : Option Bool).bind fun b1 =>
  bif b1 then
    some (x.1, 1)
  else
    (reticuleref23_Find (x.1, x.2.1.1)).bind fun r2 =>
    bif decide (0 ≤ r2) then
      some (x.1, 8)
    else
      (bif decide (x.2.2 ≤ (x.1.length : Int)) then
          some true
        else
          some (decide (8 ≤ (x.1.length : Int))) : Option Bool).bind fun b3 =>
      bif b3 then
        some (x.1, 6)
      else
        (chk (decide (([] : List (Int × (Int × (List (BitVec 8) × (Int × (List (BitVec 8) × (((Int × (BitVec 64 × (Int × (Int × (Int × Unit))))) × (Int × (Int × (List (BitVec 8) × ((Int × (Int × (Int × Unit))) × Unit))))) × ((Int × (Int × (Int × Unit))) × Unit)))))))).length + x.1.length ≤ lim))).bind fun _ =>
        (chk (decide ((([] : List (Int × (Int × (List (BitVec 8) × (Int × (List (BitVec 8) × (((Int × (BitVec 64 × (Int × (Int × (Int × Unit))))) × (Int × (Int × (List (BitVec 8) × ((Int × (Int × (Int × Unit))) × Unit))))) × ((Int × (Int × (Int × Unit))) × Unit)))))))) ++ x.1).length + ([x.2.1] : List (Int × (Int × (List (BitVec 8) × (Int × (List (BitVec 8) × (((Int × (BitVec 64 × (Int × (Int × (Int × Unit))))) × (Int × (Int × (List (BitVec 8) × ((Int × (Int × (Int × Unit))) × Unit))))) × ((Int × (Int × (Int × Unit))) × Unit)))))))).length ≤ lim))).bind fun _ =>
        some ((([] : List (Int × (Int × (List (BitVec 8) × (Int × (List (BitVec 8) × (((Int × (BitVec 64 × (Int × (Int × (Int × Unit))))) × (Int × (Int × (List (BitVec 8) × ((Int × (Int × (Int × Unit))) × Unit))))) × ((Int × (Int × (Int × Unit))) × Unit)))))))) ++ x.1) ++ ([x.2.1] : List (Int × (Int × (List (BitVec 8) × (Int × (List (BitVec 8) × (((Int × (BitVec 64 × (Int × (Int × (Int × Unit))))) × (Int × (Int × (List (BitVec 8) × ((Int × (Int × (Int × Unit))) × Unit))))) × ((Int × (Int × (Int × Unit))) × Unit)))))))), 0)
/-- reticule/reticuleref10.Same -/
noncomputable def reticuleref10_Same (x : ((Int × (BitVec 64 × (Int × (Int × (Int × Unit))))) × (Int × (Int × (List (BitVec 8) × ((Int × (Int × (Int × Unit))) × Unit))))) × ((Int × (BitVec 64 × (Int × (Int × (Int × Unit))))) × (Int × (Int × (List (BitVec 8) × ((Int × (Int × (Int × Unit))) × Unit)))))) : Option Bool :=
  (bif (decide (x.1.1.1 = x.2.1.1)) && ((decide (x.1.1.2.1 = x.2.1.2.1)) && ((decide (x.1.1.2.2.1 = x.2.1.2.2.1)) && ((decide (x.1.1.2.2.2.1 = x.2.1.2.2.2.1)) && ((decide (x.1.1.2.2.2.2.1 = x.2.1.2.2.2.2.1)) && true)))) then
      some (decide (x.1.2.1 = x.2.2.1))
    else
      some false : Option Bool).bind fun b1 =>
  (bif b1 then
      some (decide (x.1.2.2.1 = x.2.2.2.1))
    else
      some false : Option Bool).bind fun b2 =>
  (bif b2 then
      (chk (decide (x.1.2.2.2.1.length ≤ lim))).bind fun _ =>
      (chk (decide (x.2.2.2.2.1.length ≤ lim))).bind fun _ =>
      some (decide (x.1.2.2.2.1 = x.2.2.2.2.1))
    else
      some false : Option Bool).bind fun b3 =>
  (bif b3 then
      some ((decide (x.1.2.2.2.2.1.1 = x.2.2.2.2.2.1.1)) && ((decide (x.1.2.2.2.2.1.2.1 = x.2.2.2.2.2.1.2.1)) && ((decide (x.1.2.2.2.2.1.2.2.1 = x.2.2.2.2.2.1.2.2.1)) && true)))
    else
      some false : Option Bool).bind fun b4 =>
  some b4
/-- reticule/reticuleref23.One -/
noncomputable def reticuleref23_One (x : (Int × (Int × (List (BitVec 8) × (Int × (List (BitVec 8) × (((Int × (BitVec 64 × (Int × (Int × (Int × Unit))))) × (Int × (Int × (List (BitVec 8) × ((Int × (Int × (Int × Unit))) × Unit))))) × ((Int × (Int × (Int × Unit))) × Unit))))))) × (Int × (Int × (List (BitVec 8) × (Int × (List (BitVec 8) × (((Int × (BitVec 64 × (Int × (Int × (Int × Unit))))) × (Int × (Int × (List (BitVec 8) × ((Int × (Int × (Int × Unit))) × Unit))))) × ((Int × (Int × (Int × Unit))) × Unit)))))))) : Option Bool :=
  (bif decide (x.1.1 = x.2.1) then
      some (decide (x.1.2.1 = x.2.2.1))
    else
      some false : Option Bool).bind fun b1 =>
  (bif b1 then
      some (decide (x.1.2.2.1 = x.2.2.2.1))
    else
      some false : Option Bool).bind fun b2 =>
  (bif b2 then
      some (decide (x.1.2.2.2.1 = x.2.2.2.2.1))
    else
      some false : Option Bool).bind fun b3 =>
  (bif b3 then
      (chk (decide (x.1.2.2.2.2.1.length ≤ lim))).bind fun _ =>
      (chk (decide (x.2.2.2.2.2.1.length ≤ lim))).bind fun _ =>
      some (decide (x.1.2.2.2.2.1 = x.2.2.2.2.2.1))
    else
      some false : Option Bool).bind fun b4 =>
  (bif b4 then
      some ((decide (x.1.2.2.2.2.2.2.1.1 = x.2.2.2.2.2.2.2.1.1)) && ((decide (x.1.2.2.2.2.2.2.1.2.1 = x.2.2.2.2.2.2.2.1.2.1)) && ((decide (x.1.2.2.2.2.2.2.1.2.2.1 = x.2.2.2.2.2.2.2.1.2.2.1)) && true)))
    else
      some false : Option Bool).bind fun b5 =>
  (bif b5 then
      (reticuleref10_Same (x.1.2.2.2.2.2.1, x.2.2.2.2.2.2.1)).bind fun r6 =>
      some r6
    else
      some false : Option Bool).bind fun b7 =>
  some b7
/-- reticule/reticuleref23.Same -/
noncomputable def reticuleref23_Same_L0 : Nat → ((List (Int × (Int × (List (BitVec 8) × (Int × (List (BitVec 8) × (((Int × (BitVec 64 × (Int × (Int × (Int × Unit))))) × (Int × (Int × (List (BitVec 8) × ((Int × (Int × (Int × Unit))) × Unit))))) × ((Int × (Int × (Int × Unit))) × Unit)))))))) × (List (Int × (Int × (List (BitVec 8) × (Int × (List (BitVec 8) × (((Int × (BitVec 64 × (Int × (Int × (Int × Unit))))) × (Int × (Int × (List (BitVec 8) × ((Int × (Int × (Int × Unit))) × Unit))))) × ((Int × (Int × (Int × Unit))) × Unit)))))))) × Int) → Option (Unit ⊕ Bool)
  | 0, _ => none
  | n + 1, j =>
  bif decide (j.2.2 < (j.1.length : Int)) then
      (ix j.1 j.2.2).bind fun x1 =>
      (ix j.2.1 j.2.2).bind fun x2 =>
      (reticuleref23_One (x1, x2)).bind fun r3 =>
      bif !r3 then
        some (Sum.inr false)
      else
        reticuleref23_Same_L0 n (j.1, j.2.1, w64 (j.2.2 + 1))
    else
      some (Sum.inl ())
noncomputable def reticuleref23_Same (x : (List (Int × (Int × (List (BitVec 8) × (Int × (List (BitVec 8) × (((Int × (BitVec 64 × (Int × (Int × (Int × Unit))))) × (Int × (Int × (List (BitVec 8) × ((Int × (Int × (Int × Unit))) × Unit))))) × ((Int × (Int × (Int × Unit))) × Unit)))))))) × (List (Int × (Int × (List (BitVec 8) × (Int × (List (BitVec 8) × (((Int × (BitVec 64 × (Int × (Int × (Int × Unit))))) × (Int × (Int × (List (BitVec 8) × ((Int × (Int × (Int × Unit))) × Unit))))) × ((Int × (Int × (Int × Unit))) × Unit))))))))) : Option Bool :=
  bif !decide ((x.1.length : Int) = (x.2.length : Int)) then
    some false
  else
    jn (A := Unit) (R := Bool) (reticuleref23_Same_L0 Big (x.1, x.2, 0)) fun q4 =>
    some true
/-- reticule/reticuleref23.Right -/
noncomputable def reticuleref23_Right_L0 : Nat → ((List (Int × (Int × (List (BitVec 8) × (Int × (List (BitVec 8) × (((Int × (BitVec 64 × (Int × (Int × (Int × Unit))))) × (Int × (Int × (List (BitVec 8) × ((Int × (Int × (Int × Unit))) × Unit))))) × ((Int × (Int × (Int × Unit))) × Unit)))))))) × Int) → Option (Unit ⊕ Bool)
  | 0, _ => none
  | n + 1, j =>
  bif decide (j.2 < (j.1.length : Int)) then
      (ix j.1 j.2).bind fun x1 =>
      (bif decide (x1.1 < 1) then
          some true
        else
          (ix j.1 j.2).bind fun x2 =>
          some (decide (65535 < x2.1)) : Option Bool).bind fun b3 =>
      (bif b3 then
          some true
        else
          (ix j.1 j.2).bind fun x4 =>
          (reticuleref23_Find (j.1, x4.1)).bind fun r5 =>
          some (!decide (r5 = j.2)) : Option Bool).bind fun b6 =>
      bif b6 then
        some (Sum.inr false)
      else
        reticuleref23_Right_L0 n (j.1, w64 (j.2 + 1))
    else
      some (Sum.inl ())
noncomputable def reticuleref23_Right (x : (List (Int × (Int × (List (BitVec 8) × (Int × (List (BitVec 8) × (((Int × (BitVec 64 × (Int × (Int × (Int × Unit))))) × (Int × (Int × (List (BitVec 8) × ((Int × (Int × (Int × Unit))) × Unit))))) × ((Int × (Int × (Int × Unit))) × Unit))))))))) : Option Bool :=
  bif decide (8 < (x.length : Int)) then
    some false
  else
    jn (A := Unit) (R := Bool) (reticuleref23_Right_L0 Big (x, 0)) fun q7 =>
    some true
/-- reticule/reticulelaw23.TagsAdds -/
noncomputable def reticulelaw23_TagsAdds (x : (List (Int × (Int × (List (BitVec 8) × (Int × (List (BitVec 8) × (((Int × (BitVec 64 × (Int × (Int × (Int × Unit))))) × (Int × (Int × (List (BitVec 8) × ((Int × (Int × (Int × Unit))) × Unit))))) × ((Int × (Int × (Int × Unit))) × Unit)))))))) × (Int × (Int × (List (BitVec 8) × (Int × (List (BitVec 8) × (((Int × (BitVec 64 × (Int × (Int × (Int × Unit))))) × (Int × (Int × (List (BitVec 8) × ((Int × (Int × (Int × Unit))) × Unit))))) × ((Int × (Int × (Int × Unit))) × Unit))))))) × Int) : Option Bool :=
  (reticulelaw23_alive ()).bind fun r1 =>
  bif !r1 then
    some false
  else
    (reticuleref23_Great x.1).bind fun r2 =>
    (bif r2 then
        some true
      else
        (reticuleref23_Great ([x.2.1] : List (Int × (Int × (List (BitVec 8) × (Int × (List (BitVec 8) × (((Int × (BitVec 64 × (Int × (Int × (Int × Unit))))) × (Int × (Int × (List (BitVec 8) × ((Int × (Int × (Int × Unit))) × Unit))))) × ((Int × (Int × (Int × Unit))) × Unit))))))))).bind fun r3 =>
        some r3 : Option Bool).bind fun b4 =>
    bif b4 then
      some true
    else
      (reticuleref23_Copy x.1).bind fun r5 =>
      (tags_Add (r5, x.2.1, x.2.2)).bind fun r6 =>
      (reticuleref23_Add (x.1, x.2.1, x.2.2)).bind fun r7 =>
      (reticuleref23_Same (r6.1, r7.1)).bind fun r8 =>
      (bif r8 then
          some (decide (r6.2 = r7.2))
        else
          some false : Option Bool).bind fun b9 =>
      (bif b9 then
          (reticuleref23_Same (r5, x.1)).bind fun r10 =>
          some r10
        else
          some false : Option Bool).bind fun b11 =>
      (bif b11 then
          (tags_Right x.1).bind fun r12 =>
          (reticuleref23_Right x.1).bind fun r13 =>
          some (decide (r12 = r13))
        else
          some false : Option Bool).bind fun b14 =>
      some b14
/-- reticule/reticuleref23.Drop -/
noncomputable def reticuleref23_Drop_L0 : Nat → ((List (Int × (Int × (List (BitVec 8) × (Int × (List (BitVec 8) × (((Int × (BitVec 64 × (Int × (Int × (Int × Unit))))) × (Int × (Int × (List (BitVec 8) × ((Int × (Int × (Int × Unit))) × Unit))))) × ((Int × (Int × (Int × Unit))) × Unit)))))))) × Int × (List (Int × (Int × (List (BitVec 8) × (Int × (List (BitVec 8) × (((Int × (BitVec 64 × (Int × (Int × (Int × Unit))))) × (Int × (Int × (List (BitVec 8) × ((Int × (Int × (Int × Unit))) × Unit))))) × ((Int × (Int × (Int × Unit))) × Unit)))))))) × Int) → Option ((List (Int × (Int × (List (BitVec 8) × (Int × (List (BitVec 8) × (((Int × (BitVec 64 × (Int × (Int × (Int × Unit))))) × (Int × (Int × (List (BitVec 8) × ((Int × (Int × (Int × Unit))) × Unit))))) × ((Int × (Int × (Int × Unit))) × Unit)))))))) ⊕ (List (Int × (Int × (List (BitVec 8) × (Int × (List (BitVec 8) × (((Int × (BitVec 64 × (Int × (Int × (Int × Unit))))) × (Int × (Int × (List (BitVec 8) × ((Int × (Int × (Int × Unit))) × Unit))))) × ((Int × (Int × (Int × Unit))) × Unit)))))))))
  | 0, _ => none
  | n + 1, j =>
  bif decide (j.2.2.2 < (j.1.length : Int)) then
      jn (A := ((List (Int × (Int × (List (BitVec 8) × (Int × (List (BitVec 8) × (((Int × (BitVec 64 × (Int × (Int × (Int × Unit))))) × (Int × (Int × (List (BitVec 8) × ((Int × (Int × (Int × Unit))) × Unit))))) × ((Int × (Int × (Int × Unit))) × Unit)))))))) × Int × (List (Int × (Int × (List (BitVec 8) × (Int × (List (BitVec 8) × (((Int × (BitVec 64 × (Int × (Int × (Int × Unit))))) × (Int × (Int × (List (BitVec 8) × ((Int × (Int × (Int × Unit))) × Unit))))) × ((Int × (Int × (Int × Unit))) × Unit)))))))) × Int)) (R := ((List (Int × (Int × (List (BitVec 8) × (Int × (List (BitVec 8) × (((Int × (BitVec 64 × (Int × (Int × (Int × Unit))))) × (Int × (Int × (List (BitVec 8) × ((Int × (Int × (Int × Unit))) × Unit))))) × ((Int × (Int × (Int × Unit))) × Unit)))))))) ⊕ (List (Int × (Int × (List (BitVec 8) × (Int × (List (BitVec 8) × (((Int × (BitVec 64 × (Int × (Int × (Int × Unit))))) × (Int × (Int × (List (BitVec 8) × ((Int × (Int × (Int × Unit))) × Unit))))) × ((Int × (Int × (Int × Unit))) × Unit)))))))))) ((ix j.1 j.2.2.2).bind fun x1 =>
        bif !decide (x1.1 = j.2.1) then
          (ix j.1 j.2.2.2).bind fun x2 =>
          (chk (decide (j.2.2.1.length + ([x2] : List (Int × (Int × (List (BitVec 8) × (Int × (List (BitVec 8) × (((Int × (BitVec 64 × (Int × (Int × (Int × Unit))))) × (Int × (Int × (List (BitVec 8) × ((Int × (Int × (Int × Unit))) × Unit))))) × ((Int × (Int × (Int × Unit))) × Unit)))))))).length ≤ lim))).bind fun _ =>
          some (Sum.inl (j.1, j.2.1, j.2.2.1 ++ ([x2] : List (Int × (Int × (List (BitVec 8) × (Int × (List (BitVec 8) × (((Int × (BitVec 64 × (Int × (Int × (Int × Unit))))) × (Int × (Int × (List (BitVec 8) × ((Int × (Int × (Int × Unit))) × Unit))))) × ((Int × (Int × (Int × Unit))) × Unit)))))))), j.2.2.2))
        else
          some (Sum.inl (j.1, j.2.1, j.2.2.1, j.2.2.2))) fun j3 =>
      reticuleref23_Drop_L0 n (j3.1, j3.2.1, j3.2.2.1, w64 (j3.2.2.2 + 1))
    else
      some (Sum.inl j.2.2.1)
noncomputable def reticuleref23_Drop (x : (List (Int × (Int × (List (BitVec 8) × (Int × (List (BitVec 8) × (((Int × (BitVec 64 × (Int × (Int × (Int × Unit))))) × (Int × (Int × (List (BitVec 8) × ((Int × (Int × (Int × Unit))) × Unit))))) × ((Int × (Int × (Int × Unit))) × Unit)))))))) × Int) : Option (List (Int × (Int × (List (BitVec 8) × (Int × (List (BitVec 8) × (((Int × (BitVec 64 × (Int × (Int × (Int × Unit))))) × (Int × (Int × (List (BitVec 8) × ((Int × (Int × (Int × Unit))) × Unit))))) × ((Int × (Int × (Int × Unit))) × Unit)))))))) :=
  jn (A := (List (Int × (Int × (List (BitVec 8) × (Int × (List (BitVec 8) × (((Int × (BitVec 64 × (Int × (Int × (Int × Unit))))) × (Int × (Int × (List (BitVec 8) × ((Int × (Int × (Int × Unit))) × Unit))))) × ((Int × (Int × (Int × Unit))) × Unit))))))))) (R := (List (Int × (Int × (List (BitVec 8) × (Int × (List (BitVec 8) × (((Int × (BitVec 64 × (Int × (Int × (Int × Unit))))) × (Int × (Int × (List (BitVec 8) × ((Int × (Int × (Int × Unit))) × Unit))))) × ((Int × (Int × (Int × Unit))) × Unit))))))))) (reticuleref23_Drop_L0 Big (x.1, x.2, ([] : List (Int × (Int × (List (BitVec 8) × (Int × (List (BitVec 8) × (((Int × (BitVec 64 × (Int × (Int × (Int × Unit))))) × (Int × (Int × (List (BitVec 8) × ((Int × (Int × (Int × Unit))) × Unit))))) × ((Int × (Int × (Int × Unit))) × Unit)))))))), 0)) fun q4 =>
  some q4
/-- reticule/reticuleref23.Sweep -/
noncomputable def reticuleref23_Sweep_L0 : Nat → ((List (Int × (Int × (List (BitVec 8) × (Int × (List (BitVec 8) × (((Int × (BitVec 64 × (Int × (Int × (Int × Unit))))) × (Int × (Int × (List (BitVec 8) × ((Int × (Int × (Int × Unit))) × Unit))))) × ((Int × (Int × (Int × Unit))) × Unit)))))))) × Int × (List (Int × (Int × (List (BitVec 8) × (Int × (List (BitVec 8) × (((Int × (BitVec 64 × (Int × (Int × (Int × Unit))))) × (Int × (Int × (List (BitVec 8) × ((Int × (Int × (Int × Unit))) × Unit))))) × ((Int × (Int × (Int × Unit))) × Unit)))))))) × Int) → Option ((List (Int × (Int × (List (BitVec 8) × (Int × (List (BitVec 8) × (((Int × (BitVec 64 × (Int × (Int × (Int × Unit))))) × (Int × (Int × (List (BitVec 8) × ((Int × (Int × (Int × Unit))) × Unit))))) × ((Int × (Int × (Int × Unit))) × Unit)))))))) ⊕ (List (Int × (Int × (List (BitVec 8) × (Int × (List (BitVec 8) × (((Int × (BitVec 64 × (Int × (Int × (Int × Unit))))) × (Int × (Int × (List (BitVec 8) × ((Int × (Int × (Int × Unit))) × Unit))))) × ((Int × (Int × (Int × Unit))) × Unit)))))))))
  | 0, _ => none
  | n + 1, j =>
  bif decide (j.2.2.2 < (j.1.length : Int)) then
      jn (A := ((List (Int × (Int × (List (BitVec 8) × (Int × (List (BitVec 8) × (((Int × (BitVec 64 × (Int × (Int × (Int × Unit))))) × (Int × (Int × (List (BitVec 8) × ((Int × (Int × (Int × Unit))) × Unit))))) × ((Int × (Int × (Int × Unit))) × Unit)))))))) × Int × (List (Int × (Int × (List (BitVec 8) × (Int × (List (BitVec 8) × (((Int × (BitVec 64 × (Int × (Int × (Int × Unit))))) × (Int × (Int × (List (BitVec 8) × ((Int × (Int × (Int × Unit))) × Unit))))) × ((Int × (Int × (Int × Unit))) × Unit)))))))) × Int)) (R := ((List (Int × (Int × (List (BitVec 8) × (Int × (List (BitVec 8) × (((Int × (BitVec 64 × (Int × (Int × (Int × Unit))))) × (Int × (Int × (List (BitVec 8) × ((Int × (Int × (Int × Unit))) × Unit))))) × ((Int × (Int × (Int × Unit))) × Unit)))))))) ⊕ (List (Int × (Int × (List (BitVec 8) × (Int × (List (BitVec 8) × (((Int × (BitVec 64 × (Int × (Int × (Int × Unit))))) × (Int × (Int × (List (BitVec 8) × ((Int × (Int × (Int × Unit))) × Unit))))) × ((Int × (Int × (Int × Unit))) × Unit)))))))))) ((bif !decide (j.2.1 = (-1)) then
            (ix j.1 j.2.2.2).bind fun x1 =>
            some (!decide (x1.2.1 = j.2.1))
          else
            some false : Option Bool).bind fun b2 =>
        bif b2 then
          (ix j.1 j.2.2.2).bind fun x3 =>
          (chk (decide (j.2.2.1.length + ([x3] : List (Int × (Int × (List (BitVec 8) × (Int × (List (BitVec 8) × (((Int × (BitVec 64 × (Int × (Int × (Int × Unit))))) × (Int × (Int × (List (BitVec 8) × ((Int × (Int × (Int × Unit))) × Unit))))) × ((Int × (Int × (Int × Unit))) × Unit)))))))).length ≤ lim))).bind fun _ =>
          some (Sum.inl (j.1, j.2.1, j.2.2.1 ++ ([x3] : List (Int × (Int × (List (BitVec 8) × (Int × (List (BitVec 8) × (((Int × (BitVec 64 × (Int × (Int × (Int × Unit))))) × (Int × (Int × (List (BitVec 8) × ((Int × (Int × (Int × Unit))) × Unit))))) × ((Int × (Int × (Int × Unit))) × Unit)))))))), j.2.2.2))
        else
          some (Sum.inl (j.1, j.2.1, j.2.2.1, j.2.2.2))) fun j4 =>
      reticuleref23_Sweep_L0 n (j4.1, j4.2.1, j4.2.2.1, w64 (j4.2.2.2 + 1))
    else
      some (Sum.inl j.2.2.1)
noncomputable def reticuleref23_Sweep (x : (List (Int × (Int × (List (BitVec 8) × (Int × (List (BitVec 8) × (((Int × (BitVec 64 × (Int × (Int × (Int × Unit))))) × (Int × (Int × (List (BitVec 8) × ((Int × (Int × (Int × Unit))) × Unit))))) × ((Int × (Int × (Int × Unit))) × Unit)))))))) × Int) : Option (List (Int × (Int × (List (BitVec 8) × (Int × (List (BitVec 8) × (((Int × (BitVec 64 × (Int × (Int × (Int × Unit))))) × (Int × (Int × (List (BitVec 8) × ((Int × (Int × (Int × Unit))) × Unit))))) × ((Int × (Int × (Int × Unit))) × Unit)))))))) :=
  jn (A := (List (Int × (Int × (List (BitVec 8) × (Int × (List (BitVec 8) × (((Int × (BitVec 64 × (Int × (Int × (Int × Unit))))) × (Int × (Int × (List (BitVec 8) × ((Int × (Int × (Int × Unit))) × Unit))))) × ((Int × (Int × (Int × Unit))) × Unit))))))))) (R := (List (Int × (Int × (List (BitVec 8) × (Int × (List (BitVec 8) × (((Int × (BitVec 64 × (Int × (Int × (Int × Unit))))) × (Int × (Int × (List (BitVec 8) × ((Int × (Int × (Int × Unit))) × Unit))))) × ((Int × (Int × (Int × Unit))) × Unit))))))))) (reticuleref23_Sweep_L0 Big (x.1, x.2, ([] : List (Int × (Int × (List (BitVec 8) × (Int × (List (BitVec 8) × (((Int × (BitVec 64 × (Int × (Int × (Int × Unit))))) × (Int × (Int × (List (BitVec 8) × ((Int × (Int × (Int × Unit))) × Unit))))) × ((Int × (Int × (Int × Unit))) × Unit)))))))), 0)) fun q5 =>
  some q5
/-- reticule/reticuleref23.Tags -/
noncomputable def reticuleref23_Tags_L0 : Nat → ((List (Int × (Int × (List (BitVec 8) × (Int × (List (BitVec 8) × (((Int × (BitVec 64 × (Int × (Int × (Int × Unit))))) × (Int × (Int × (List (BitVec 8) × ((Int × (Int × (Int × Unit))) × Unit))))) × ((Int × (Int × (Int × Unit))) × Unit)))))))) × (List Int) × Int) → Option ((List Int) ⊕ (List Int))
  | 0, _ => none
  | n + 1, j =>
  bif decide (j.2.2 < (j.1.length : Int)) then
      (ix j.1 j.2.2).bind fun x1 =>
      (chk (decide (j.2.1.length + ([x1.1] : List Int).length ≤ lim))).bind fun _ =>
      reticuleref23_Tags_L0 n (j.1, j.2.1 ++ ([x1.1] : List Int), w64 (j.2.2 + 1))
    else
      some (Sum.inl j.2.1)
noncomputable def reticuleref23_Tags (x : (List (Int × (Int × (List (BitVec 8) × (Int × (List (BitVec 8) × (((Int × (BitVec 64 × (Int × (Int × (Int × Unit))))) × (Int × (Int × (List (BitVec 8) × ((Int × (Int × (Int × Unit))) × Unit))))) × ((Int × (Int × (Int × Unit))) × Unit))))))))) : Option (List Int) :=
  jn (A := (List Int)) (R := (List Int)) (reticuleref23_Tags_L0 Big (x, ([] : List Int), 0)) fun q2 =>
  some q2
/-- reticule/reticulelaw23.TagsTakes -/
noncomputable def reticulelaw23_TagsTakes (x : (List (Int × (Int × (List (BitVec 8) × (Int × (List (BitVec 8) × (((Int × (BitVec 64 × (Int × (Int × (Int × Unit))))) × (Int × (Int × (List (BitVec 8) × ((Int × (Int × (Int × Unit))) × Unit))))) × ((Int × (Int × (Int × Unit))) × Unit)))))))) × Int × Int) : Option Bool :=
  (reticulelaw23_alive ()).bind fun r1 =>
  bif !r1 then
    some false
  else
    (reticuleref23_Great x.1).bind fun r2 =>
    bif r2 then
      some true
    else
      (reticuleref23_Copy x.1).bind fun r3 =>
      (tags_Find (r3, x.2.1)).bind fun r4 =>
      (reticuleref23_Find (x.1, x.2.1)).bind fun r5 =>
      (bif decide (r4 = r5) then
          (tags_Drop (r3, x.2.1)).bind fun r6 =>
          (reticuleref23_Drop (x.1, x.2.1)).bind fun r7 =>
          (reticuleref23_Same (r6, r7)).bind fun r8 =>
          some r8
        else
          some false : Option Bool).bind fun b9 =>
      (bif b9 then
          (tags_Sweep (r3, x.2.2)).bind fun r10 =>
          (reticuleref23_Sweep (x.1, x.2.2)).bind fun r11 =>
          (reticuleref23_Same (r10, r11)).bind fun r12 =>
          some r12
        else
          some false : Option Bool).bind fun b13 =>
      (bif b13 then
          (tags_Tags r3).bind fun r14 =>
          (reticuleref23_Tags x.1).bind fun r15 =>
          (reticuleref01_Ints (r14, r15)).bind fun r16 =>
          some r16
        else
          some false : Option Bool).bind fun b17 =>
      (bif b17 then
          (reticuleref23_Same (r3, x.1)).bind fun r18 =>
          some r18
        else
          some false : Option Bool).bind fun b19 =>
      some b19
/-- reticule/reticulelaw23.without -/
noncomputable def reticulelaw23_without_L0 : Nat → ((List Int) × Int × (List Int) × Int) → Option ((List Int) ⊕ (List Int))
  | 0, _ => none
  | n + 1, j =>
  bif decide (j.2.2.2 < (j.1.length : Int)) then
      jn (A := ((List Int) × Int × (List Int) × Int)) (R := ((List Int) ⊕ (List Int))) ((ix j.1 j.2.2.2).bind fun x1 =>
        bif !decide (x1 = j.2.1) then
          (ix j.1 j.2.2.2).bind fun x2 =>
          (chk (decide (j.2.2.1.length + ([x2] : List Int).length ≤ lim))).bind fun _ =>
          some (Sum.inl (j.1, j.2.1, j.2.2.1 ++ ([x2] : List Int), j.2.2.2))
        else
          some (Sum.inl (j.1, j.2.1, j.2.2.1, j.2.2.2))) fun j3 =>
      reticulelaw23_without_L0 n (j3.1, j3.2.1, j3.2.2.1, w64 (j3.2.2.2 + 1))
    else
      some (Sum.inl j.2.2.1)
noncomputable def reticulelaw23_without (x : (List Int) × Int) : Option (List Int) :=
  jn (A := (List Int)) (R := (List Int)) (reticulelaw23_without_L0 Big (x.1, x.2, ([] : List Int), 0)) fun q4 =>
  some q4
/-- reticule/reticuleref01.Has -/
noncomputable def reticuleref01_Has_L0 : Nat → ((List Int) × Int × Int) → Option (Unit ⊕ Bool)
  | 0, _ => none
  | n + 1, j =>
  bif decide (j.2.2 < (j.1.length : Int)) then
      (ix j.1 j.2.2).bind fun x1 =>
      bif decide (x1 = j.2.1) then
        some (Sum.inr true)
      else
        reticuleref01_Has_L0 n (j.1, j.2.1, w64 (j.2.2 + 1))
    else
      some (Sum.inl ())
noncomputable def reticuleref01_Has (x : (List Int) × Int) : Option Bool :=
  jn (A := Unit) (R := Bool) (reticuleref01_Has_L0 Big (x.1, x.2, 0)) fun q2 =>
  some false
/-- reticule/reticulelaw23.TagsOnce -/
noncomputable def reticulelaw23_TagsOnce_L1 : Nat → ((List (Int × (Int × (Int × Unit)))) × Int × (List (Int × (Int × (List (BitVec 8) × (Int × (List (BitVec 8) × (((Int × (BitVec 64 × (Int × (Int × (Int × Unit))))) × (Int × (Int × (List (BitVec 8) × ((Int × (Int × (Int × Unit))) × Unit))))) × ((Int × (Int × (Int × Unit))) × Unit)))))))) × (List Int) × Int × (Int × (Int × (Int × Unit))) × Int) → Option (((List (Int × (Int × (Int × Unit)))) × Int × (List (Int × (Int × (List (BitVec 8) × (Int × (List (BitVec 8) × (((Int × (BitVec 64 × (Int × (Int × (Int × Unit))))) × (Int × (Int × (List (BitVec 8) × ((Int × (Int × (Int × Unit))) × Unit))))) × ((Int × (Int × (Int × Unit))) × Unit)))))))) × (List Int) × Int) ⊕ (((List (Int × (Int × (Int × Unit)))) × Int × (List (Int × (Int × (List (BitVec 8) × (Int × (List (BitVec 8) × (((Int × (BitVec 64 × (Int × (Int × (Int × Unit))))) × (Int × (Int × (List (BitVec 8) × ((Int × (Int × (Int × Unit))) × Unit))))) × ((Int × (Int × (Int × Unit))) × Unit)))))))) × (List Int) × Int) ⊕ (Unit ⊕ Bool)))
  | 0, _ => none
  | n + 1, j =>
  bif decide (j.2.2.2.2.2.2 < (j.2.2.1.length : Int)) then
      (ix j.2.2.1 j.2.2.2.2.2.2).bind fun x7 =>
      (bif decide (x7.2.1 = j.2.2.2.2.2.1.2.2.1) then
          some true
        else
          some (decide (j.2.2.2.2.2.1.2.2.1 = (-1))) : Option Bool).bind fun b8 =>
      bif b8 then
        some (Sum.inr (Sum.inr (Sum.inr false)))
      else
        reticulelaw23_TagsOnce_L1 n (j.1, j.2.1, j.2.2.1, j.2.2.2.1, j.2.2.2.2.1, j.2.2.2.2.2.1, w64 (j.2.2.2.2.2.2 + 1))
    else
      some (Sum.inl (j.1, j.2.1, j.2.2.1, j.2.2.2.1, j.2.2.2.2.1))
noncomputable def reticulelaw23_TagsOnce_L0 : Nat → ((List (Int × (Int × (Int × Unit)))) × Int × (List (Int × (Int × (List (BitVec 8) × (Int × (List (BitVec 8) × (((Int × (BitVec 64 × (Int × (Int × (Int × Unit))))) × (Int × (Int × (List (BitVec 8) × ((Int × (Int × (Int × Unit))) × Unit))))) × ((Int × (Int × (Int × Unit))) × Unit)))))))) × (List Int) × Int) → Option (Unit ⊕ Bool)
  | 0, _ => none
  | n + 1, j =>
  bif decide (j.2.2.2.2 < (j.1.length : Int)) then
      (ix j.1 j.2.2.2.2).bind fun x2 =>
      jn (A := ((List (Int × (Int × (Int × Unit)))) × Int × (List (Int × (Int × (List (BitVec 8) × (Int × (List (BitVec 8) × (((Int × (BitVec 64 × (Int × (Int × (Int × Unit))))) × (Int × (Int × (List (BitVec 8) × ((Int × (Int × (Int × Unit))) × Unit))))) × ((Int × (Int × (Int × Unit))) × Unit)))))))) × (List Int) × Int)) (R := (Unit ⊕ Bool)) (bif decide (x2.1 = 1) then
          (tags_Drop (j.2.2.1, x2.2.1)).bind fun r3 =>
          (reticulelaw23_without (j.2.2.2.1, x2.2.1)).bind fun r4 =>
          some (Sum.inl (j.1, j.2.1, r3, r4, j.2.2.2.2))
        else
          bif decide (x2.1 = 2) then
            (tags_Sweep (j.2.2.1, x2.2.2.1)).bind fun r5 =>
            (tags_Tags r5).bind fun r6 =>
            jn (A := ((List (Int × (Int × (Int × Unit)))) × Int × (List (Int × (Int × (List (BitVec 8) × (Int × (List (BitVec 8) × (((Int × (BitVec 64 × (Int × (Int × (Int × Unit))))) × (Int × (Int × (List (BitVec 8) × ((Int × (Int × (Int × Unit))) × Unit))))) × ((Int × (Int × (Int × Unit))) × Unit)))))))) × (List Int) × Int)) (R := (((List (Int × (Int × (Int × Unit)))) × Int × (List (Int × (Int × (List (BitVec 8) × (Int × (List (BitVec 8) × (((Int × (BitVec 64 × (Int × (Int × (Int × Unit))))) × (Int × (Int × (List (BitVec 8) × ((Int × (Int × (Int × Unit))) × Unit))))) × ((Int × (Int × (Int × Unit))) × Unit)))))))) × (List Int) × Int) ⊕ (Unit ⊕ Bool))) (reticulelaw23_TagsOnce_L1 Big (j.1, j.2.1, r5, r6, j.2.2.2.2, x2, 0)) fun q9 =>
            some (Sum.inl (q9.1, q9.2.1, q9.2.2.1, q9.2.2.2.1, q9.2.2.2.2))
          else
            (tags_Add (j.2.2.1, (x2.2.1, x2.2.2.1, List.replicate 16 (0#8), 0, ([] : List (BitVec 8)), ((0, 0#64, 0, 0, 0, ()), 0, 0, ([] : List (BitVec 8)), (0, 0, 0, ()), ()), (0, 0, 0, ()), ()), j.2.1)).bind fun r10 =>
            (bif decide (1 ≤ x2.2.1) then
                some (decide (x2.2.1 ≤ 65535))
              else
                some false : Option Bool).bind fun b11 =>
            (bif b11 then
                (reticuleref01_Has (j.2.2.2.1, x2.2.1)).bind fun r12 =>
                some (!r12)
              else
                some false : Option Bool).bind fun b13 =>
            (bif b13 then
                some (decide ((j.2.2.2.1.length : Int) < j.2.1))
              else
                some false : Option Bool).bind fun b14 =>
            bif !(decide ((decide (r10.2 = 0)) = b14)) then
              some (Sum.inr (Sum.inr false))
            else
              bif b14 then
                (chk (decide (([] : List Int).length + j.2.2.2.1.length ≤ lim))).bind fun _ =>
                (chk (decide ((([] : List Int) ++ j.2.2.2.1).length + ([x2.2.1] : List Int).length ≤ lim))).bind fun _ =>
                some (Sum.inl (j.1, j.2.1, r10.1, (([] : List Int) ++ j.2.2.2.1) ++ ([x2.2.1] : List Int), j.2.2.2.2))
              else
                some (Sum.inl (j.1, j.2.1, r10.1, j.2.2.2.1, j.2.2.2.2))) fun j15 =>
      (tags_Right j15.2.2.1).bind fun r16 =>
      (bif !r16 then
          some true
        else
          some (decide (j15.2.1 < (j15.2.2.1.length : Int))) : Option Bool).bind fun b17 =>
      (bif b17 then
          some true
        else
          (tags_Tags j15.2.2.1).bind fun r18 =>
          (reticuleref01_Ints (r18, j15.2.2.2.1)).bind fun r19 =>
          some (!r19) : Option Bool).bind fun b20 =>
      bif b20 then
        some (Sum.inr false)
      else
        reticulelaw23_TagsOnce_L0 n (j15.1, j15.2.1, j15.2.2.1, j15.2.2.2.1, w64 (j15.2.2.2.2 + 1))
    else
      some (Sum.inl ())
noncomputable def reticulelaw23_TagsOnce (x : (List (Int × (Int × (Int × Unit)))) × (BitVec 8)) : Option Bool :=
  (reticulelaw23_alive ()).bind fun r1 =>
  bif !r1 then
    some false
  else
    bif decide (60 < (x.1.length : Int)) then
      some true
    else
      jn (A := Unit) (R := Bool) (reticulelaw23_TagsOnce_L0 Big (x.1, w64 ((1 : Int) + ((x.2.toNat : Int).tmod 8)), ([] : List (Int × (Int × (List (BitVec 8) × (Int × (List (BitVec 8) × (((Int × (BitVec 64 × (Int × (Int × (Int × Unit))))) × (Int × (Int × (List (BitVec 8) × ((Int × (Int × (Int × Unit))) × Unit))))) × ((Int × (Int × (Int × Unit))) × Unit)))))))), ([] : List Int), 0)) fun q21 =>
      some true
/-- reticule/reticulelaw23.TagsBack -/
noncomputable def reticulelaw23_TagsBack (x : (List (Int × (Int × (List (BitVec 8) × (Int × (List (BitVec 8) × (((Int × (BitVec 64 × (Int × (Int × (Int × Unit))))) × (Int × (Int × (List (BitVec 8) × ((Int × (Int × (Int × Unit))) × Unit))))) × ((Int × (Int × (Int × Unit))) × Unit)))))))) × (Int × (Int × (List (BitVec 8) × (Int × (List (BitVec 8) × (((Int × (BitVec 64 × (Int × (Int × (Int × Unit))))) × (Int × (Int × (List (BitVec 8) × ((Int × (Int × (Int × Unit))) × Unit))))) × ((Int × (Int × (Int × Unit))) × Unit)))))))) : Option Bool :=
  (reticulelaw23_alive ()).bind fun r1 =>
  bif !r1 then
    some false
  else
    (reticuleref23_Great x.1).bind fun r2 =>
    (bif r2 then
        some true
      else
        (reticuleref23_Great ([x.2] : List (Int × (Int × (List (BitVec 8) × (Int × (List (BitVec 8) × (((Int × (BitVec 64 × (Int × (Int × (Int × Unit))))) × (Int × (Int × (List (BitVec 8) × ((Int × (Int × (Int × Unit))) × Unit))))) × ((Int × (Int × (Int × Unit))) × Unit))))))))).bind fun r3 =>
        some r3 : Option Bool).bind fun b4 =>
    (bif b4 then
        some true
      else
        (reticuleref23_Right x.1).bind fun r5 =>
        some (!r5) : Option Bool).bind fun b6 =>
    bif b6 then
      some true
    else
      (tags_Add (x.1, x.2, 8)).bind fun r7 =>
      bif !decide (r7.2 = 0) then
        (reticuleref23_Same (r7.1, x.1)).bind fun r8 =>
        some r8
      else
        (tags_Find (r7.1, x.2.1)).bind fun r9 =>
        (bif decide (r9 = (x.1.length : Int)) then
            (tags_Drop (r7.1, x.2.1)).bind fun r10 =>
            (reticuleref23_Same (r10, x.1)).bind fun r11 =>
            some r11
          else
            some false : Option Bool).bind fun b12 =>
        some b12
end Go.Proofs.Ytnpehooofdheaaa
