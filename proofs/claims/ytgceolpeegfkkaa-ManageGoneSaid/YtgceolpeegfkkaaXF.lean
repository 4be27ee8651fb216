/- The program's functions as plain ones. Printed by the session's own program. -/
import Derived.Test.YtgceolpeegfkkaaRfH
namespace Go.Proofs.Ytgceolpeegfkkaa
open Go Go.Re
set_option linter.unusedVariables false
set_option linter.unusedSimpArgs false
/-- reticule/reticuleref04.Of -/
noncomputable def reticuleref04_Of (x : Int × Int × Int) : Option (Int × (Int × (Int × Unit))) :=
  some (x.1, x.2.1, x.2.2, ())
/-- reticule/reticuleref02.Make -/
noncomputable def reticuleref02_Make_L1 : Nat → (Int × (BitVec 8) × (List (List (BitVec 8))) × Int × Int) → Option ((Int × (BitVec 8) × (List (List (BitVec 8))) × Int) ⊕ ((List (List (BitVec 8))) ⊕ ((List (List (BitVec 8))) × Int)))
  | 0, _ => none
  | n + 1, j =>
  bif decide (j.2.2.2.2 < 64) then
      (chk (inLen j.2.2.2.1 j.2.2.1.length)).bind fun _ =>
      (chk (inLen j.2.2.2.2 64)).bind fun _ =>
      ((j.2.2.1[(j.2.2.2.1 : Int).toNat]?).bind fun z2 =>
        Option.map (fun u4 => j.2.2.1.set (j.2.2.2.1 : Int).toNat u4) ((z2[(j.2.2.2.2 : Int).toNat]?).bind fun z3 =>
          some (z2.set (j.2.2.2.2 : Int).toNat j.2.1))).bind fun x5 =>
      reticuleref02_Make_L1 n (j.1, j.2.1, x5, j.2.2.2.1, w64 (j.2.2.2.2 + 1))
    else
      some (Sum.inl (j.1, j.2.1, j.2.2.1, j.2.2.2.1))
noncomputable def reticuleref02_Make_L0 : Nat → (Int × (BitVec 8) × (List (List (BitVec 8))) × Int) → Option ((List (List (BitVec 8))) ⊕ ((List (List (BitVec 8))) × Int))
  | 0, _ => none
  | n + 1, j =>
  bif decide (j.2.2.2 < j.1) then
      jn (A := (Int × (BitVec 8) × (List (List (BitVec 8))) × Int)) (R := ((List (List (BitVec 8))) ⊕ ((List (List (BitVec 8))) × Int))) (reticuleref02_Make_L1 Big (j.1, j.2.1, j.2.2.1, j.2.2.2, 0)) fun q6 =>
      reticuleref02_Make_L0 n (q6.1, q6.2.1, q6.2.2.1, w64 (q6.2.2.2 + 1))
    else
      some (Sum.inl j.2.2.1)
noncomputable def reticuleref02_Make (x : Int × (BitVec 8)) : Option ((List (List (BitVec 8))) × Int) :=
  (bif decide (x.1 < 0) then
      some true
    else
      some (decide (64 < x.1)) : Option Bool).bind fun b1 =>
  bif b1 then
    some (([] : List (List (BitVec 8))), 1)
  else
    (chk (decide (0 ≤ x.1) && decide (x.1 ≤ x.1) && decide (x.1 ≤ (lim : Int)))).bind fun _ =>
    jn (A := (List (List (BitVec 8)))) (R := ((List (List (BitVec 8))) × Int)) (reticuleref02_Make_L0 Big (x.1, x.2, List.replicate (x.1 : Int).toNat (List.replicate 64 (0#8)), 0)) fun q7 =>
    some (q7, 0)
/-- reticule/reticuleref12.Make -/
noncomputable def reticuleref12_Make_L0 : Nat → (Int × Int × (List (((List (List (BitVec 8)) × (List (Int × (List (BitVec 8) × Unit)) × Unit)) × (Bool × (Bool × (Bool × Unit)))) × (Bool × (List (Int × (Int × (Int × Unit))) × ((Int × (Int × (Int × Unit))) × Unit))))) × Int) → Option ((List (((List (List (BitVec 8)) × (List (Int × (List (BitVec 8) × Unit)) × Unit)) × (Bool × (Bool × (Bool × Unit)))) × (Bool × (List (Int × (Int × (Int × Unit))) × ((Int × (Int × (Int × Unit))) × Unit))))) ⊕ ((List (((List (List (BitVec 8)) × (List (Int × (List (BitVec 8) × Unit)) × Unit)) × (Bool × (Bool × (Bool × Unit)))) × (Bool × (List (Int × (Int × (Int × Unit))) × ((Int × (Int × (Int × Unit))) × Unit))))) × Int))
  | 0, _ => none
  | n + 1, j =>
  bif decide (j.2.2.2 < j.1) then
      (reticuleref04_Of (6, 41, 0)).bind fun r4 =>
      (reticuleref02_Make (j.2.1, 0#8)).bind fun r5 =>
      (chk (decide (j.2.2.1.length + ([(((r5.1, ([] : List (Int × (List (BitVec 8) × Unit))), ()), true, false, false, ()), true, ([r4] : List (Int × (Int × (Int × Unit)))), (0, 0, 0, ()), ())] : List (((List (List (BitVec 8)) × (List (Int × (List (BitVec 8) × Unit)) × Unit)) × (Bool × (Bool × (Bool × Unit)))) × (Bool × (List (Int × (Int × (Int × Unit))) × ((Int × (Int × (Int × Unit))) × Unit))))).length ≤ lim))).bind fun _ =>
      reticuleref12_Make_L0 n (j.1, j.2.1, j.2.2.1 ++ ([(((r5.1, ([] : List (Int × (List (BitVec 8) × Unit))), ()), true, false, false, ()), true, ([r4] : List (Int × (Int × (Int × Unit)))), (0, 0, 0, ()), ())] : List (((List (List (BitVec 8)) × (List (Int × (List (BitVec 8) × Unit)) × Unit)) × (Bool × (Bool × (Bool × Unit)))) × (Bool × (List (Int × (Int × (Int × Unit))) × ((Int × (Int × (Int × Unit))) × Unit))))), w64 (j.2.2.2 + 1))
    else
      some (Sum.inl j.2.2.1)
noncomputable def reticuleref12_Make (x : Int × Int) : Option ((List (((List (List (BitVec 8)) × (List (Int × (List (BitVec 8) × Unit)) × Unit)) × (Bool × (Bool × (Bool × Unit)))) × (Bool × (List (Int × (Int × (Int × Unit))) × ((Int × (Int × (Int × Unit))) × Unit))))) × Int) :=
  (bif decide (x.1 < 1) then
      some true
    else
      some (decide (4 < x.1)) : Option Bool).bind fun b1 =>
  (bif b1 then
      some true
    else
      some (decide (x.2 < 1)) : Option Bool).bind fun b2 =>
  (bif b2 then
      some true
    else
      some (decide (64 < x.2)) : Option Bool).bind fun b3 =>
  bif b3 then
    some (([] : List (((List (List (BitVec 8)) × (List (Int × (List (BitVec 8) × Unit)) × Unit)) × (Bool × (Bool × (Bool × Unit)))) × (Bool × (List (Int × (Int × (Int × Unit))) × ((Int × (Int × (Int × Unit))) × Unit))))), 1)
  else
    jn (A := (List (((List (List (BitVec 8)) × (List (Int × (List (BitVec 8) × Unit)) × Unit)) × (Bool × (Bool × (Bool × Unit)))) × (Bool × (List (Int × (Int × (Int × Unit))) × ((Int × (Int × (Int × Unit))) × Unit)))))) (R := ((List (((List (List (BitVec 8)) × (List (Int × (List (BitVec 8) × Unit)) × Unit)) × (Bool × (Bool × (Bool × Unit)))) × (Bool × (List (Int × (Int × (Int × Unit))) × ((Int × (Int × (Int × Unit))) × Unit))))) × Int)) (reticuleref12_Make_L0 Big (x.1, x.2, ([] : List (((List (List (BitVec 8)) × (List (Int × (List (BitVec 8) × Unit)) × Unit)) × (Bool × (Bool × (Bool × Unit)))) × (Bool × (List (Int × (Int × (Int × Unit))) × ((Int × (Int × (Int × Unit))) × Unit))))), 0)) fun q6 =>
    some (q6, 0)
/-- reticule/reticuleref22.two -/
noncomputable def reticuleref22_two (x : Int) : Option (List (BitVec 8)) :=
  some ([BitVec.ofInt 8 (BitVec.toInt (BitVec.ofInt 64 (shrI x (((8#64).toNat : Int) : Int).toNat) &&& BitVec.ofInt 64 255)), BitVec.ofInt 8 (BitVec.toInt (BitVec.ofInt 64 x &&& BitVec.ofInt 64 255))] : List (BitVec 8))
/-- reticule/reticuleref22.head -/
noncomputable def reticuleref22_head (x : (BitVec 8) × Int) : Option (List (BitVec 8)) :=
  (reticuleref22_two x.2).bind fun r1 =>
  (chk (decide (([x.1, 0#8] : List (BitVec 8)).length + r1.length ≤ lim))).bind fun _ =>
  some (([x.1, 0#8] : List (BitVec 8)) ++ r1)
/-- reticule/reticuleref22.Ready -/
noncomputable def reticuleref22_Ready (x : Int × Int) : Option (Int × (Int × (List (BitVec 8) × Unit))) :=
  jn (A := (Int × (Int × (Int × (List (BitVec 8) × Unit))) × Int)) (R := (Int × (Int × (List (BitVec 8) × Unit)))) (bif decide (x.2 = 1) then
      some (Sum.inl (x.1, (0, 0, ([] : List (BitVec 8)), ()), 6))
    else
      some (Sum.inl (x.1, (0, 0, ([] : List (BitVec 8)), ()), 7))) fun j1 =>
  (reticuleref22_head (BitVec.ofInt 8 j1.2.2, j1.1)).bind fun r2 =>
  some (j1.2.2, j1.1, r2, ())
/-- reticule/reticuleref22.Response -/
noncomputable def reticuleref22_Response (x : Int × Int) : Option (Int × (Int × (List (BitVec 8) × Unit))) :=
  (reticuleref22_head (4#8, x.1)).bind fun r1 =>
  (chk (decide (r1.length + ([0#8, 0#8, 0#8, BitVec.ofInt 8 (BitVec.toInt (BitVec.ofInt 64 x.2 &&& BitVec.ofInt 64 255))] : List (BitVec 8)).length ≤ lim))).bind fun _ =>
  some (4, x.1, r1 ++ ([0#8, 0#8, 0#8, BitVec.ofInt 8 (BitVec.toInt (BitVec.ofInt 64 x.2 &&& BitVec.ofInt 64 255))] : List (BitVec 8)), ())
/-- reticule/tags.may -/
noncomputable def tags_may (x : Int) : Option Bool :=
  (bif decide (0 < x) then
      some (decide (x ≤ 65535))
    else
      some false : Option Bool).bind fun b1 =>
  some b1
/-- reticule/tags.of -/
noncomputable def tags_of (x : Int) : Option (List (BitVec 8)) :=
  some ([BitVec.ofInt 8 (shrI x (((8#64).toNat : Int) : Int).toNat), BitVec.ofInt 8 x] : List (BitVec 8))
/-- reticule/tags.places -/
noncomputable def tags_places_L0 : Nat → ((List (Int × (Int × (List (BitVec 8) × (Int × (List (BitVec 8) × (((Int × (BitVec 64 × (Int × (Int × (Int × Unit))))) × (Int × (Int × (List (BitVec 8) × ((Int × (Int × (Int × Unit))) × Unit))))) × ((Int × (Int × (Int × Unit))) × Unit)))))))) × (List (List (BitVec 8) × Int)) × Int) → Option ((List (List (BitVec 8) × Int)) ⊕ (List (List (BitVec 8) × Int)))
  | 0, _ => none
  | n + 1, j =>
  bif decide (0 ≤ j.2.2) then
      jn (A := ((List (Int × (Int × (List (BitVec 8) × (Int × (List (BitVec 8) × (((Int × (BitVec 64 × (Int × (Int × (Int × Unit))))) × (Int × (Int × (List (BitVec 8) × ((Int × (Int × (Int × Unit))) × Unit))))) × ((Int × (Int × (Int × Unit))) × Unit)))))))) × (List (List (BitVec 8) × Int)) × Int)) (R := ((List (List (BitVec 8) × Int)) ⊕ (List (List (BitVec 8) × Int)))) ((ix j.1 j.2.2).bind fun x1 =>
        (tags_may x1.1).bind fun r2 =>
        bif r2 then
          (ix j.1 j.2.2).bind fun x3 =>
          (tags_of x3.1).bind fun r4 =>
          (chk (decide (j.2.1.length + 1 ≤ lim))).bind fun _ =>
          some (Sum.inl (j.1, mpPut j.2.1 r4 j.2.2, j.2.2))
        else
          some (Sum.inl (j.1, j.2.1, j.2.2))) fun j5 =>
      tags_places_L0 n (j5.1, j5.2.1, w64 (j5.2.2 - 1))
    else
      some (Sum.inl j.2.1)
noncomputable def tags_places (x : (List (Int × (Int × (List (BitVec 8) × (Int × (List (BitVec 8) × (((Int × (BitVec 64 × (Int × (Int × (Int × Unit))))) × (Int × (Int × (List (BitVec 8) × ((Int × (Int × (Int × Unit))) × Unit))))) × ((Int × (Int × (Int × Unit))) × Unit))))))))) : Option (List (List (BitVec 8) × Int)) :=
  jn (A := (List (List (BitVec 8) × Int))) (R := (List (List (BitVec 8) × Int))) (tags_places_L0 Big (x, ([] : List (List (BitVec 8) × Int)), w64 ((x.length : Int) - 1))) fun q6 =>
  some q6
/-- reticule/tags.Find$1 -/
noncomputable def tags_Find_1 (x : (Int × (Int × (List (BitVec 8) × (Int × (List (BitVec 8) × (((Int × (BitVec 64 × (Int × (Int × (Int × Unit))))) × (Int × (Int × (List (BitVec 8) × ((Int × (Int × (Int × Unit))) × Unit))))) × ((Int × (Int × (Int × Unit))) × Unit))))))) × Int) : Option Bool :=
  some (decide (x.1.1 = x.2))
/-- slices.IndexFunc[[]reticule/api.Task,reticule/api.Task] -/
noncomputable def slices_IndexFunc_api_Task_c58_L0 : Nat → ((List (Int × (Int × (List (BitVec 8) × (Int × (List (BitVec 8) × (((Int × (BitVec 64 × (Int × (Int × (Int × Unit))))) × (Int × (Int × (List (BitVec 8) × ((Int × (Int × (Int × Unit))) × Unit))))) × ((Int × (Int × (Int × Unit))) × Unit)))))))) × Int × Int × Int) → Option (Unit ⊕ Int)
  | 0, _ => none
  | n + 1, j =>
  bif decide (j.2.2.2 < j.2.2.1) then
      (ix j.1 j.2.2.2).bind fun x1 =>
      (tags_Find_1 (x1, j.2.1)).bind fun r2 =>
      bif r2 then
        some (Sum.inr j.2.2.2)
      else
        slices_IndexFunc_api_Task_c58_L0 n (j.1, j.2.1, j.2.2.1, w64 (j.2.2.2 + 1))
    else
      some (Sum.inl ())
noncomputable def slices_IndexFunc_api_Task_c58 (x : (List (Int × (Int × (List (BitVec 8) × (Int × (List (BitVec 8) × (((Int × (BitVec 64 × (Int × (Int × (Int × Unit))))) × (Int × (Int × (List (BitVec 8) × ((Int × (Int × (Int × Unit))) × Unit))))) × ((Int × (Int × (Int × Unit))) × Unit)))))))) × Int) : Option Int :=
  jn (A := Unit) (R := Int) (slices_IndexFunc_api_Task_c58_L0 Big (x.1, x.2, (x.1.length : Int), 0)) fun q3 =>
  some (-1)
/-- reticule/tags.Find -/
noncomputable def tags_Find (x : (List (Int × (Int × (List (BitVec 8) × (Int × (List (BitVec 8) × (((Int × (BitVec 64 × (Int × (Int × (Int × Unit))))) × (Int × (Int × (List (BitVec 8) × ((Int × (Int × (Int × Unit))) × Unit))))) × ((Int × (Int × (Int × Unit))) × Unit)))))))) × Int) : Option Int :=
  (tags_may x.2).bind fun r1 =>
  bif !r1 then
    (slices_IndexFunc_api_Task_c58 (x.1, x.2)).bind fun r2 =>
    some r2
  else
    (tags_places x.1).bind fun r3 =>
    (tags_of x.2).bind fun r4 =>
    bif (mpGet r3 r4).isSome then
      some ((mpGet r3 r4).getD 0)
    else
      some (-1)
/-- reticule/tags.Tags -/
noncomputable def tags_Tags_L0 : Nat → ((List Int) × (List (Int × (Int × (List (BitVec 8) × (Int × (List (BitVec 8) × (((Int × (BitVec 64 × (Int × (Int × (Int × Unit))))) × (Int × (Int × (List (BitVec 8) × ((Int × (Int × (Int × Unit))) × Unit))))) × ((Int × (Int × (Int × Unit))) × Unit)))))))) × Int × Int) → Option ((List Int) ⊕ (List Int))
  | 0, _ => none
  | n + 1, j =>
  bif decide (j.2.2.2 < j.2.2.1) then
      (ix j.2.1 j.2.2.2).bind fun x1 =>
      (chk (decide (j.1.length + ([x1.1] : List Int).length ≤ lim))).bind fun _ =>
      tags_Tags_L0 n (j.1 ++ ([x1.1] : List Int), j.2.1, j.2.2.1, w64 (j.2.2.2 + 1))
    else
      some (Sum.inl j.1)
noncomputable def tags_Tags (x : (List (Int × (Int × (List (BitVec 8) × (Int × (List (BitVec 8) × (((Int × (BitVec 64 × (Int × (Int × (Int × Unit))))) × (Int × (Int × (List (BitVec 8) × ((Int × (Int × (Int × Unit))) × Unit))))) × ((Int × (Int × (Int × Unit))) × Unit))))))))) : Option (List Int) :=
  jn (A := (List Int)) (R := (List Int)) (tags_Tags_L0 Big (([] : List Int), x, (x.length : Int), 0)) fun q2 =>
  some q2
/-- slices.Index[[]int,int] -/
noncomputable def slices_Index_int_L0 : Nat → ((List Int) × Int × Int × Int) → Option (Unit ⊕ Int)
  | 0, _ => none
  | n + 1, j =>
  bif decide (j.2.2.2 < j.2.2.1) then
      (ix j.1 j.2.2.2).bind fun x1 =>
      bif decide (j.2.1 = x1) then
        some (Sum.inr j.2.2.2)
      else
        slices_Index_int_L0 n (j.1, j.2.1, j.2.2.1, w64 (j.2.2.2 + 1))
    else
      some (Sum.inl ())
noncomputable def slices_Index_int (x : (List Int) × Int) : Option Int :=
  jn (A := Unit) (R := Int) (slices_Index_int_L0 Big (x.1, x.2, (x.1.length : Int), 0)) fun q2 =>
  some (-1)
/-- slices.Contains[[]int,int] -/
noncomputable def slices_Contains_int (x : (List Int) × Int) : Option Bool :=
  (slices_Index_int (x.1, x.2)).bind fun r1 =>
  some (decide (0 ≤ r1))
/-- reticule/manage.Drop -/
noncomputable def manage_Drop_L0 : Nat → ((List Int) × (List (Int × (Int × (List (BitVec 8) × (Int × (List (BitVec 8) × (((Int × (BitVec 64 × (Int × (Int × (Int × Unit))))) × (Int × (Int × (List (BitVec 8) × ((Int × (Int × (Int × Unit))) × Unit))))) × ((Int × (Int × (Int × Unit))) × Unit))))))) × (List (Int × (Int × (List (BitVec 8) × Unit))) × Unit)) × (List (Int × (Int × (List (BitVec 8) × (Int × (List (BitVec 8) × (((Int × (BitVec 64 × (Int × (Int × (Int × Unit))))) × (Int × (Int × (List (BitVec 8) × ((Int × (Int × (Int × Unit))) × Unit))))) × ((Int × (Int × (Int × Unit))) × Unit))))))) × (List (Int × (Int × (List (BitVec 8) × Unit))) × Unit)) × (List (Int × (Int × (List (BitVec 8) × (Int × (List (BitVec 8) × (((Int × (BitVec 64 × (Int × (Int × (Int × Unit))))) × (Int × (Int × (List (BitVec 8) × ((Int × (Int × (Int × Unit))) × Unit))))) × ((Int × (Int × (Int × Unit))) × Unit))))))) × (List (Int × (Int × (List (BitVec 8) × Unit))) × Unit)) × (List (Int × (Int × (List (BitVec 8) × (Int × (List (BitVec 8) × (((Int × (BitVec 64 × (Int × (Int × (Int × Unit))))) × (Int × (Int × (List (BitVec 8) × ((Int × (Int × (Int × Unit))) × Unit))))) × ((Int × (Int × (Int × Unit))) × Unit)))))))) × Int × Int) → Option (((List Int) × (List (Int × (Int × (List (BitVec 8) × (Int × (List (BitVec 8) × (((Int × (BitVec 64 × (Int × (Int × (Int × Unit))))) × (Int × (Int × (List (BitVec 8) × ((Int × (Int × (Int × Unit))) × Unit))))) × ((Int × (Int × (Int × Unit))) × Unit))))))) × (List (Int × (Int × (List (BitVec 8) × Unit))) × Unit)) × (List (Int × (Int × (List (BitVec 8) × (Int × (List (BitVec 8) × (((Int × (BitVec 64 × (Int × (Int × (Int × Unit))))) × (Int × (Int × (List (BitVec 8) × ((Int × (Int × (Int × Unit))) × Unit))))) × ((Int × (Int × (Int × Unit))) × Unit))))))) × (List (Int × (Int × (List (BitVec 8) × Unit))) × Unit)) × (List (Int × (Int × (List (BitVec 8) × (Int × (List (BitVec 8) × (((Int × (BitVec 64 × (Int × (Int × (Int × Unit))))) × (Int × (Int × (List (BitVec 8) × ((Int × (Int × (Int × Unit))) × Unit))))) × ((Int × (Int × (Int × Unit))) × Unit))))))) × (List (Int × (Int × (List (BitVec 8) × Unit))) × Unit))) ⊕ (List (Int × (Int × (List (BitVec 8) × (Int × (List (BitVec 8) × (((Int × (BitVec 64 × (Int × (Int × (Int × Unit))))) × (Int × (Int × (List (BitVec 8) × ((Int × (Int × (Int × Unit))) × Unit))))) × ((Int × (Int × (Int × Unit))) × Unit))))))) × (List (Int × (Int × (List (BitVec 8) × Unit))) × Unit)))
  | 0, _ => none
  | n + 1, j =>
  bif decide (j.2.2.2.2.2.2 < j.2.2.2.2.2.1) then
      jn (A := ((List Int) × (List (Int × (Int × (List (BitVec 8) × (Int × (List (BitVec 8) × (((Int × (BitVec 64 × (Int × (Int × (Int × Unit))))) × (Int × (Int × (List (BitVec 8) × ((Int × (Int × (Int × Unit))) × Unit))))) × ((Int × (Int × (Int × Unit))) × Unit))))))) × (List (Int × (Int × (List (BitVec 8) × Unit))) × Unit)) × (List (Int × (Int × (List (BitVec 8) × (Int × (List (BitVec 8) × (((Int × (BitVec 64 × (Int × (Int × (Int × Unit))))) × (Int × (Int × (List (BitVec 8) × ((Int × (Int × (Int × Unit))) × Unit))))) × ((Int × (Int × (Int × Unit))) × Unit))))))) × (List (Int × (Int × (List (BitVec 8) × Unit))) × Unit)) × (List (Int × (Int × (List (BitVec 8) × (Int × (List (BitVec 8) × (((Int × (BitVec 64 × (Int × (Int × (Int × Unit))))) × (Int × (Int × (List (BitVec 8) × ((Int × (Int × (Int × Unit))) × Unit))))) × ((Int × (Int × (Int × Unit))) × Unit))))))) × (List (Int × (Int × (List (BitVec 8) × Unit))) × Unit)) × (List (Int × (Int × (List (BitVec 8) × (Int × (List (BitVec 8) × (((Int × (BitVec 64 × (Int × (Int × (Int × Unit))))) × (Int × (Int × (List (BitVec 8) × ((Int × (Int × (Int × Unit))) × Unit))))) × ((Int × (Int × (Int × Unit))) × Unit)))))))) × Int × Int)) (R := (((List Int) × (List (Int × (Int × (List (BitVec 8) × (Int × (List (BitVec 8) × (((Int × (BitVec 64 × (Int × (Int × (Int × Unit))))) × (Int × (Int × (List (BitVec 8) × ((Int × (Int × (Int × Unit))) × Unit))))) × ((Int × (Int × (Int × Unit))) × Unit))))))) × (List (Int × (Int × (List (BitVec 8) × Unit))) × Unit)) × (List (Int × (Int × (List (BitVec 8) × (Int × (List (BitVec 8) × (((Int × (BitVec 64 × (Int × (Int × (Int × Unit))))) × (Int × (Int × (List (BitVec 8) × ((Int × (Int × (Int × Unit))) × Unit))))) × ((Int × (Int × (Int × Unit))) × Unit))))))) × (List (Int × (Int × (List (BitVec 8) × Unit))) × Unit)) × (List (Int × (Int × (List (BitVec 8) × (Int × (List (BitVec 8) × (((Int × (BitVec 64 × (Int × (Int × (Int × Unit))))) × (Int × (Int × (List (BitVec 8) × ((Int × (Int × (Int × Unit))) × Unit))))) × ((Int × (Int × (Int × Unit))) × Unit))))))) × (List (Int × (Int × (List (BitVec 8) × Unit))) × Unit))) ⊕ (List (Int × (Int × (List (BitVec 8) × (Int × (List (BitVec 8) × (((Int × (BitVec 64 × (Int × (Int × (Int × Unit))))) × (Int × (Int × (List (BitVec 8) × ((Int × (Int × (Int × Unit))) × Unit))))) × ((Int × (Int × (Int × Unit))) × Unit))))))) × (List (Int × (Int × (List (BitVec 8) × Unit))) × Unit)))) ((ix j.2.2.2.2.1 j.2.2.2.2.2.2).bind fun x1 =>
        (slices_Contains_int (j.1, x1.1)).bind fun r2 =>
        bif !r2 then
          (chk (decide (j.2.2.2.1.1.length + ([x1] : List (Int × (Int × (List (BitVec 8) × (Int × (List (BitVec 8) × (((Int × (BitVec 64 × (Int × (Int × (Int × Unit))))) × (Int × (Int × (List (BitVec 8) × ((Int × (Int × (Int × Unit))) × Unit))))) × ((Int × (Int × (Int × Unit))) × Unit)))))))).length ≤ lim))).bind fun _ =>
          some (Sum.inl (j.1, j.2.1, j.2.2.1, (j.2.2.2.1.1 ++ ([x1] : List (Int × (Int × (List (BitVec 8) × (Int × (List (BitVec 8) × (((Int × (BitVec 64 × (Int × (Int × (Int × Unit))))) × (Int × (Int × (List (BitVec 8) × ((Int × (Int × (Int × Unit))) × Unit))))) × ((Int × (Int × (Int × Unit))) × Unit)))))))), j.2.2.2.1.2), j.2.2.2.2.1, j.2.2.2.2.2.1, j.2.2.2.2.2.2))
        else
          some (Sum.inl (j.1, j.2.1, j.2.2.1, j.2.2.2.1, j.2.2.2.2.1, j.2.2.2.2.2.1, j.2.2.2.2.2.2))) fun j3 =>
      manage_Drop_L0 n (j3.1, j3.2.1, j3.2.2.1, j3.2.2.2.1, j3.2.2.2.2.1, j3.2.2.2.2.2.1, w64 (j3.2.2.2.2.2.2 + 1))
    else
      some (Sum.inl (j.1, j.2.1, j.2.2.1, j.2.2.2.1))
noncomputable def manage_Drop_L1 : Nat → ((List Int) × (List (Int × (Int × (List (BitVec 8) × (Int × (List (BitVec 8) × (((Int × (BitVec 64 × (Int × (Int × (Int × Unit))))) × (Int × (Int × (List (BitVec 8) × ((Int × (Int × (Int × Unit))) × Unit))))) × ((Int × (Int × (Int × Unit))) × Unit))))))) × (List (Int × (Int × (List (BitVec 8) × Unit))) × Unit)) × (List (Int × (Int × (List (BitVec 8) × (Int × (List (BitVec 8) × (((Int × (BitVec 64 × (Int × (Int × (Int × Unit))))) × (Int × (Int × (List (BitVec 8) × ((Int × (Int × (Int × Unit))) × Unit))))) × ((Int × (Int × (Int × Unit))) × Unit))))))) × (List (Int × (Int × (List (BitVec 8) × Unit))) × Unit)) × (List (Int × (Int × (List (BitVec 8) × Unit)))) × Int × Int) → Option (((List (Int × (Int × (List (BitVec 8) × (Int × (List (BitVec 8) × (((Int × (BitVec 64 × (Int × (Int × (Int × Unit))))) × (Int × (Int × (List (BitVec 8) × ((Int × (Int × (Int × Unit))) × Unit))))) × ((Int × (Int × (Int × Unit))) × Unit))))))) × (List (Int × (Int × (List (BitVec 8) × Unit))) × Unit)) × (List (Int × (Int × (List (BitVec 8) × (Int × (List (BitVec 8) × (((Int × (BitVec 64 × (Int × (Int × (Int × Unit))))) × (Int × (Int × (List (BitVec 8) × ((Int × (Int × (Int × Unit))) × Unit))))) × ((Int × (Int × (Int × Unit))) × Unit))))))) × (List (Int × (Int × (List (BitVec 8) × Unit))) × Unit))) ⊕ (List (Int × (Int × (List (BitVec 8) × (Int × (List (BitVec 8) × (((Int × (BitVec 64 × (Int × (Int × (Int × Unit))))) × (Int × (Int × (List (BitVec 8) × ((Int × (Int × (Int × Unit))) × Unit))))) × ((Int × (Int × (Int × Unit))) × Unit))))))) × (List (Int × (Int × (List (BitVec 8) × Unit))) × Unit)))
  | 0, _ => none
  | n + 1, j =>
  bif decide (j.2.2.2.2.2 < j.2.2.2.2.1) then
      jn (A := ((List Int) × (List (Int × (Int × (List (BitVec 8) × (Int × (List (BitVec 8) × (((Int × (BitVec 64 × (Int × (Int × (Int × Unit))))) × (Int × (Int × (List (BitVec 8) × ((Int × (Int × (Int × Unit))) × Unit))))) × ((Int × (Int × (Int × Unit))) × Unit))))))) × (List (Int × (Int × (List (BitVec 8) × Unit))) × Unit)) × (List (Int × (Int × (List (BitVec 8) × (Int × (List (BitVec 8) × (((Int × (BitVec 64 × (Int × (Int × (Int × Unit))))) × (Int × (Int × (List (BitVec 8) × ((Int × (Int × (Int × Unit))) × Unit))))) × ((Int × (Int × (Int × Unit))) × Unit))))))) × (List (Int × (Int × (List (BitVec 8) × Unit))) × Unit)) × (List (Int × (Int × (List (BitVec 8) × Unit)))) × Int × Int)) (R := (((List (Int × (Int × (List (BitVec 8) × (Int × (List (BitVec 8) × (((Int × (BitVec 64 × (Int × (Int × (Int × Unit))))) × (Int × (Int × (List (BitVec 8) × ((Int × (Int × (Int × Unit))) × Unit))))) × ((Int × (Int × (Int × Unit))) × Unit))))))) × (List (Int × (Int × (List (BitVec 8) × Unit))) × Unit)) × (List (Int × (Int × (List (BitVec 8) × (Int × (List (BitVec 8) × (((Int × (BitVec 64 × (Int × (Int × (Int × Unit))))) × (Int × (Int × (List (BitVec 8) × ((Int × (Int × (Int × Unit))) × Unit))))) × ((Int × (Int × (Int × Unit))) × Unit))))))) × (List (Int × (Int × (List (BitVec 8) × Unit))) × Unit))) ⊕ (List (Int × (Int × (List (BitVec 8) × (Int × (List (BitVec 8) × (((Int × (BitVec 64 × (Int × (Int × (Int × Unit))))) × (Int × (Int × (List (BitVec 8) × ((Int × (Int × (Int × Unit))) × Unit))))) × ((Int × (Int × (Int × Unit))) × Unit))))))) × (List (Int × (Int × (List (BitVec 8) × Unit))) × Unit)))) ((ix j.2.2.2.1 j.2.2.2.2.2).bind fun x5 =>
        (bif decide (x5.1 = 6) then
            some true
          else
            some (decide (x5.1 = 7)) : Option Bool).bind fun b6 =>
        (bif !b6 then
            some true
          else
            (slices_Contains_int (j.1, x5.2.1)).bind fun r7 =>
            some (!r7) : Option Bool).bind fun b8 =>
        bif b8 then
          (chk (decide (j.2.2.1.2.1.length + ([x5] : List (Int × (Int × (List (BitVec 8) × Unit)))).length ≤ lim))).bind fun _ =>
          some (Sum.inl (j.1, j.2.1, (j.2.2.1.1, j.2.2.1.2.1 ++ ([x5] : List (Int × (Int × (List (BitVec 8) × Unit)))), j.2.2.1.2.2), j.2.2.2.1, j.2.2.2.2.1, j.2.2.2.2.2))
        else
          some (Sum.inl (j.1, j.2.1, j.2.2.1, j.2.2.2.1, j.2.2.2.2.1, j.2.2.2.2.2))) fun j9 =>
      manage_Drop_L1 n (j9.1, j9.2.1, j9.2.2.1, j9.2.2.2.1, j9.2.2.2.2.1, w64 (j9.2.2.2.2.2 + 1))
    else
      some (Sum.inl (j.2.1, j.2.2.1))
noncomputable def manage_Drop (x : (List (Int × (Int × (List (BitVec 8) × (Int × (List (BitVec 8) × (((Int × (BitVec 64 × (Int × (Int × (Int × Unit))))) × (Int × (Int × (List (BitVec 8) × ((Int × (Int × (Int × Unit))) × Unit))))) × ((Int × (Int × (Int × Unit))) × Unit))))))) × (List (Int × (Int × (List (BitVec 8) × Unit))) × Unit)) × (List Int)) : Option (List (Int × (Int × (List (BitVec 8) × (Int × (List (BitVec 8) × (((Int × (BitVec 64 × (Int × (Int × (Int × Unit))))) × (Int × (Int × (List (BitVec 8) × ((Int × (Int × (Int × Unit))) × Unit))))) × ((Int × (Int × (Int × Unit))) × Unit))))))) × (List (Int × (Int × (List (BitVec 8) × Unit))) × Unit)) :=
  jn (A := ((List Int) × (List (Int × (Int × (List (BitVec 8) × (Int × (List (BitVec 8) × (((Int × (BitVec 64 × (Int × (Int × (Int × Unit))))) × (Int × (Int × (List (BitVec 8) × ((Int × (Int × (Int × Unit))) × Unit))))) × ((Int × (Int × (Int × Unit))) × Unit))))))) × (List (Int × (Int × (List (BitVec 8) × Unit))) × Unit)) × (List (Int × (Int × (List (BitVec 8) × (Int × (List (BitVec 8) × (((Int × (BitVec 64 × (Int × (Int × (Int × Unit))))) × (Int × (Int × (List (BitVec 8) × ((Int × (Int × (Int × Unit))) × Unit))))) × ((Int × (Int × (Int × Unit))) × Unit))))))) × (List (Int × (Int × (List (BitVec 8) × Unit))) × Unit)) × (List (Int × (Int × (List (BitVec 8) × (Int × (List (BitVec 8) × (((Int × (BitVec 64 × (Int × (Int × (Int × Unit))))) × (Int × (Int × (List (BitVec 8) × ((Int × (Int × (Int × Unit))) × Unit))))) × ((Int × (Int × (Int × Unit))) × Unit))))))) × (List (Int × (Int × (List (BitVec 8) × Unit))) × Unit)))) (R := (List (Int × (Int × (List (BitVec 8) × (Int × (List (BitVec 8) × (((Int × (BitVec 64 × (Int × (Int × (Int × Unit))))) × (Int × (Int × (List (BitVec 8) × ((Int × (Int × (Int × Unit))) × Unit))))) × ((Int × (Int × (Int × Unit))) × Unit))))))) × (List (Int × (Int × (List (BitVec 8) × Unit))) × Unit))) (manage_Drop_L0 Big (x.2, x.1, (([] : List (Int × (Int × (List (BitVec 8) × (Int × (List (BitVec 8) × (((Int × (BitVec 64 × (Int × (Int × (Int × Unit))))) × (Int × (Int × (List (BitVec 8) × ((Int × (Int × (Int × Unit))) × Unit))))) × ((Int × (Int × (Int × Unit))) × Unit)))))))), ([] : List (Int × (Int × (List (BitVec 8) × Unit)))), ()), (([] : List (Int × (Int × (List (BitVec 8) × (Int × (List (BitVec 8) × (((Int × (BitVec 64 × (Int × (Int × (Int × Unit))))) × (Int × (Int × (List (BitVec 8) × ((Int × (Int × (Int × Unit))) × Unit))))) × ((Int × (Int × (Int × Unit))) × Unit)))))))), ([] : List (Int × (Int × (List (BitVec 8) × Unit)))), ()), x.1.1, (x.1.1.length : Int), 0)) fun q4 =>
  jn (A := ((List (Int × (Int × (List (BitVec 8) × (Int × (List (BitVec 8) × (((Int × (BitVec 64 × (Int × (Int × (Int × Unit))))) × (Int × (Int × (List (BitVec 8) × ((Int × (Int × (Int × Unit))) × Unit))))) × ((Int × (Int × (Int × Unit))) × Unit))))))) × (List (Int × (Int × (List (BitVec 8) × Unit))) × Unit)) × (List (Int × (Int × (List (BitVec 8) × (Int × (List (BitVec 8) × (((Int × (BitVec 64 × (Int × (Int × (Int × Unit))))) × (Int × (Int × (List (BitVec 8) × ((Int × (Int × (Int × Unit))) × Unit))))) × ((Int × (Int × (Int × Unit))) × Unit))))))) × (List (Int × (Int × (List (BitVec 8) × Unit))) × Unit)))) (R := (List (Int × (Int × (List (BitVec 8) × (Int × (List (BitVec 8) × (((Int × (BitVec 64 × (Int × (Int × (Int × Unit))))) × (Int × (Int × (List (BitVec 8) × ((Int × (Int × (Int × Unit))) × Unit))))) × ((Int × (Int × (Int × Unit))) × Unit))))))) × (List (Int × (Int × (List (BitVec 8) × Unit))) × Unit))) (manage_Drop_L1 Big (q4.1, q4.2.2.1, q4.2.2.2, q4.2.1.2.1, (q4.2.1.2.1.length : Int), 0)) fun q10 =>
  some q10.2
/-- reticule/sense.reset -/
noncomputable def sense_reset (x : Int) : Option (Int × (Int × (Int × Unit))) :=
  some (6, 41, x, ())
/-- reticule/sense.NexusLoss -/
noncomputable def sense_NexusLoss (x : Unit) : Option (Int × (Int × (Int × Unit))) :=
  (sense_reset 7).bind fun r1 =>
  some r1
/-- reticule/unit.there -/
noncomputable def unit_there (x : (List (((List (List (BitVec 8)) × (List (Int × (List (BitVec 8) × Unit)) × Unit)) × (Bool × (Bool × (Bool × Unit)))) × (Bool × (List (Int × (Int × (Int × Unit))) × ((Int × (Int × (Int × Unit))) × Unit))))) × Int) : Option Bool :=
  (bif decide (0 ≤ x.2) then
      some (decide (x.2 < (x.1.length : Int)))
    else
      some false : Option Bool).bind fun b1 =>
  some b1
/-- slices.Clone[[]reticule/api.Unit,reticule/api.Unit] -/
noncomputable def slices_Clone_api_Unit (x : (List (((List (List (BitVec 8)) × (List (Int × (List (BitVec 8) × Unit)) × Unit)) × (Bool × (Bool × (Bool × Unit)))) × (Bool × (List (Int × (Int × (Int × Unit))) × ((Int × (Int × (Int × Unit))) × Unit)))))) : Option (List (((List (List (BitVec 8)) × (List (Int × (List (BitVec 8) × Unit)) × Unit)) × (Bool × (Bool × (Bool × Unit)))) × (Bool × (List (Int × (Int × (Int × Unit))) × ((Int × (Int × (Int × Unit))) × Unit))))) :=
  bif List.isEmpty x then
    both (some ([] : List (((List (List (BitVec 8)) × (List (Int × (List (BitVec 8) × Unit)) × Unit)) × (Bool × (Bool × (Bool × Unit)))) × (Bool × (List (Int × (Int × (Int × Unit))) × ((Int × (Int × (Int × Unit))) × Unit)))))) ((chk (decide (([] : List (((List (List (BitVec 8)) × (List (Int × (List (BitVec 8) × Unit)) × Unit)) × (Bool × (Bool × (Bool × Unit)))) × (Bool × (List (Int × (Int × (Int × Unit))) × ((Int × (Int × (Int × Unit))) × Unit))))).length + x.length ≤ lim))).bind fun _ =>
      some (([] : List (((List (List (BitVec 8)) × (List (Int × (List (BitVec 8) × Unit)) × Unit)) × (Bool × (Bool × (Bool × Unit)))) × (Bool × (List (Int × (Int × (Int × Unit))) × ((Int × (Int × (Int × Unit))) × Unit))))) ++ x))
  else
    (chk (decide (([] : List (((List (List (BitVec 8)) × (List (Int × (List (BitVec 8) × Unit)) × Unit)) × (Bool × (Bool × (Bool × Unit)))) × (Bool × (List (Int × (Int × (Int × Unit))) × ((Int × (Int × (Int × Unit))) × Unit))))).length + x.length ≤ lim))).bind fun _ =>
    some (([] : List (((List (List (BitVec 8)) × (List (Int × (List (BitVec 8) × Unit)) × Unit)) × (Bool × (Bool × (Bool × Unit)))) × (Bool × (List (Int × (Int × (Int × Unit))) × ((Int × (Int × (Int × Unit))) × Unit))))) ++ x)
/-- slices.Index[[]reticule/api.Sense,reticule/api.Sense] -/
noncomputable def slices_Index_api_Sense_L0 : Nat → ((List (Int × (Int × (Int × Unit)))) × (Int × (Int × (Int × Unit))) × Int × Int) → Option (Unit ⊕ Int)
  | 0, _ => none
  | n + 1, j =>
  bif decide (j.2.2.2 < j.2.2.1) then
      (ix j.1 j.2.2.2).bind fun x1 =>
      bif (decide (j.2.1.1 = x1.1)) && ((decide (j.2.1.2.1 = x1.2.1)) && ((decide (j.2.1.2.2.1 = x1.2.2.1)) && true)) then
        some (Sum.inr j.2.2.2)
      else
        slices_Index_api_Sense_L0 n (j.1, j.2.1, j.2.2.1, w64 (j.2.2.2 + 1))
    else
      some (Sum.inl ())
noncomputable def slices_Index_api_Sense (x : (List (Int × (Int × (Int × Unit)))) × (Int × (Int × (Int × Unit)))) : Option Int :=
  jn (A := Unit) (R := Int) (slices_Index_api_Sense_L0 Big (x.1, x.2, (x.1.length : Int), 0)) fun q2 =>
  some (-1)
/-- slices.Contains[[]reticule/api.Sense,reticule/api.Sense] -/
noncomputable def slices_Contains_api_Sense (x : (List (Int × (Int × (Int × Unit)))) × (Int × (Int × (Int × Unit)))) : Option Bool :=
  (slices_Index_api_Sense (x.1, x.2)).bind fun r1 =>
  some (decide (0 ≤ r1))
/-- reticule/sense.PowerOn -/
noncomputable def sense_PowerOn (x : Unit) : Option (Int × (Int × (Int × Unit))) :=
  (sense_reset 0).bind fun r1 =>
  some r1
/-- slices.Clip[[]reticule/api.Sense,reticule/api.Sense] -/
noncomputable def slices_Clip_api_Sense (x : (List (Int × (Int × (Int × Unit))))) : Option (List (Int × (Int × (Int × Unit)))) :=
  (chk ((decide (0 ≤ ((x.length : Int) : Int)) && decide (((x.length : Int) : Int) ≤ (x.length : Int))) && decide (((x.length : Int) : Int) = ((x.length : Int) : Int)))).bind fun _ =>
  some (x.take ((x.length : Int) : Int).toNat)
/-- reticule/sense.Add -/
noncomputable def sense_Add (x : (List (Int × (Int × (Int × Unit)))) × (Int × (Int × (Int × Unit)))) : Option (List (Int × (Int × (Int × Unit)))) :=
  (slices_Contains_api_Sense (x.1, x.2)).bind fun r1 =>
  bif r1 then
    some x.1
  else
    (sense_PowerOn ()).bind fun r2 =>
    bif (decide (x.2.1 = r2.1)) && ((decide (x.2.2.1 = r2.2.1)) && ((decide (x.2.2.2.1 = r2.2.2.1)) && true)) then
      some ([x.2] : List (Int × (Int × (Int × Unit))))
    else
      bif decide (4 ≤ (x.1.length : Int)) then
        some x.1
      else
        (slices_Clip_api_Sense x.1).bind fun r3 =>
        (chk (decide (r3.length + ([x.2] : List (Int × (Int × (Int × Unit)))).length ≤ lim))).bind fun _ =>
        some (r3 ++ ([x.2] : List (Int × (Int × (Int × Unit)))))
/-- reticule/unit.Attend$1 -/
noncomputable def unit_Attend_1 (x : (((List (List (BitVec 8)) × (List (Int × (List (BitVec 8) × Unit)) × Unit)) × (Bool × (Bool × (Bool × Unit)))) × (Bool × (List (Int × (Int × (Int × Unit))) × ((Int × (Int × (Int × Unit))) × Unit)))) × (Int × (Int × (Int × Unit)))) : Option (((List (List (BitVec 8)) × (List (Int × (List (BitVec 8) × Unit)) × Unit)) × (Bool × (Bool × (Bool × Unit)))) × (Bool × (List (Int × (Int × (Int × Unit))) × ((Int × (Int × (Int × Unit))) × Unit)))) :=
  (sense_Add (x.1.2.2.1, x.2)).bind fun r1 =>
  some (x.1.1, x.1.2.1, r1, x.1.2.2.2)
/-- reticule/unit.change -/
noncomputable def unit_change_c61 (x : (List (((List (List (BitVec 8)) × (List (Int × (List (BitVec 8) × Unit)) × Unit)) × (Bool × (Bool × (Bool × Unit)))) × (Bool × (List (Int × (Int × (Int × Unit))) × ((Int × (Int × (Int × Unit))) × Unit))))) × Int × (Int × (Int × (Int × Unit)))) : Option (List (((List (List (BitVec 8)) × (List (Int × (List (BitVec 8) × Unit)) × Unit)) × (Bool × (Bool × (Bool × Unit)))) × (Bool × (List (Int × (Int × (Int × Unit))) × ((Int × (Int × (Int × Unit))) × Unit))))) :=
  (unit_there (x.1, x.2.1)).bind fun r1 =>
  bif !r1 then
    some x.1
  else
    (slices_Clone_api_Unit x.1).bind fun r2 =>
    (chk (inLen x.2.1 r2.length)).bind fun _ =>
    (unit_Attend_1 (r2.getD (x.2.1 : Int).toNat (((([] : List (List (BitVec 8))), ([] : List (Int × (List (BitVec 8) × Unit))), ()), false, false, false, ()), false, ([] : List (Int × (Int × (Int × Unit)))), (0, 0, 0, ()), ()), x.2.2)).bind fun r3 =>
    some (r2.set (x.2.1 : Int).toNat r3)
/-- reticule/unit.Attend -/
noncomputable def unit_Attend_L0 : Nat → ((List (((List (List (BitVec 8)) × (List (Int × (List (BitVec 8) × Unit)) × Unit)) × (Bool × (Bool × (Bool × Unit)))) × (Bool × (List (Int × (Int × (Int × Unit))) × ((Int × (Int × (Int × Unit))) × Unit))))) × (Int × (Int × (Int × Unit))) × Int × Int) → Option ((List (((List (List (BitVec 8)) × (List (Int × (List (BitVec 8) × Unit)) × Unit)) × (Bool × (Bool × (Bool × Unit)))) × (Bool × (List (Int × (Int × (Int × Unit))) × ((Int × (Int × (Int × Unit))) × Unit))))) ⊕ (List (((List (List (BitVec 8)) × (List (Int × (List (BitVec 8) × Unit)) × Unit)) × (Bool × (Bool × (Bool × Unit)))) × (Bool × (List (Int × (Int × (Int × Unit))) × ((Int × (Int × (Int × Unit))) × Unit))))))
  | 0, _ => none
  | n + 1, j =>
  bif decide (j.2.2.2 < j.2.2.1) then
      (unit_change_c61 (j.1, j.2.2.2, j.2.1)).bind fun r2 =>
      unit_Attend_L0 n (r2, j.2.1, j.2.2.1, w64 (j.2.2.2 + 1))
    else
      some (Sum.inl j.1)
noncomputable def unit_Attend (x : (List (((List (List (BitVec 8)) × (List (Int × (List (BitVec 8) × Unit)) × Unit)) × (Bool × (Bool × (Bool × Unit)))) × (Bool × (List (Int × (Int × (Int × Unit))) × ((Int × (Int × (Int × Unit))) × Unit))))) × Int × (Int × (Int × (Int × Unit)))) : Option (List (((List (List (BitVec 8)) × (List (Int × (List (BitVec 8) × Unit)) × Unit)) × (Bool × (Bool × (Bool × Unit)))) × (Bool × (List (Int × (Int × (Int × Unit))) × ((Int × (Int × (Int × Unit))) × Unit))))) :=
  bif !decide (x.2.1 = (-1)) then
    (unit_change_c61 (x.1, x.2.1, x.2.2)).bind fun r1 =>
    some r1
  else
    jn (A := (List (((List (List (BitVec 8)) × (List (Int × (List (BitVec 8) × Unit)) × Unit)) × (Bool × (Bool × (Bool × Unit)))) × (Bool × (List (Int × (Int × (Int × Unit))) × ((Int × (Int × (Int × Unit))) × Unit)))))) (R := (List (((List (List (BitVec 8)) × (List (Int × (List (BitVec 8) × Unit)) × Unit)) × (Bool × (Bool × (Bool × Unit)))) × (Bool × (List (Int × (Int × (Int × Unit))) × ((Int × (Int × (Int × Unit))) × Unit)))))) (unit_Attend_L0 Big (x.1, x.2.2, (x.1.length : Int), 0)) fun q3 =>
    some q3
/-- reticule/manage.meant -/
noncomputable def manage_meant (x : (List (Int × (Int × (List (BitVec 8) × (Int × (List (BitVec 8) × (((Int × (BitVec 64 × (Int × (Int × (Int × Unit))))) × (Int × (Int × (List (BitVec 8) × ((Int × (Int × (Int × Unit))) × Unit))))) × ((Int × (Int × (Int × Unit))) × Unit))))))) × (List (Int × (Int × (List (BitVec 8) × Unit))) × Unit)) × (Int × (Int × (Int × (Int × Unit))))) : Option (List Int) :=
  (tags_Find (x.1.1, x.2.2.2.1)).bind fun r1 =>
  (bif decide (0 ≤ r1) then
      (ix x.1.1 r1).bind fun x2 =>
      some (decide (x2.2.1 = x.2.2.2.2.1))
    else
      some false : Option Bool).bind fun b3 =>
  bif b3 then
    some ([x.2.2.2.1] : List Int)
  else
    some ([] : List Int)
/-- reticule/manage.of -/
noncomputable def manage_of_L0 : Nat → (Int × (List Int) × (List (Int × (Int × (List (BitVec 8) × (Int × (List (BitVec 8) × (((Int × (BitVec 64 × (Int × (Int × (Int × Unit))))) × (Int × (Int × (List (BitVec 8) × ((Int × (Int × (Int × Unit))) × Unit))))) × ((Int × (Int × (Int × Unit))) × Unit)))))))) × Int × Int) → Option ((List Int) ⊕ (List Int))
  | 0, _ => none
  | n + 1, j =>
  bif decide (j.2.2.2.2 < j.2.2.2.1) then
      jn (A := (Int × (List Int) × (List (Int × (Int × (List (BitVec 8) × (Int × (List (BitVec 8) × (((Int × (BitVec 64 × (Int × (Int × (Int × Unit))))) × (Int × (Int × (List (BitVec 8) × ((Int × (Int × (Int × Unit))) × Unit))))) × ((Int × (Int × (Int × Unit))) × Unit)))))))) × Int × Int)) (R := ((List Int) ⊕ (List Int))) ((ix j.2.2.1 j.2.2.2.2).bind fun x1 =>
        bif decide (x1.2.1 = j.1) then
          (chk (decide (j.2.1.length + ([x1.1] : List Int).length ≤ lim))).bind fun _ =>
          some (Sum.inl (j.1, j.2.1 ++ ([x1.1] : List Int), j.2.2.1, j.2.2.2.1, j.2.2.2.2))
        else
          some (Sum.inl (j.1, j.2.1, j.2.2.1, j.2.2.2.1, j.2.2.2.2))) fun j2 =>
      manage_of_L0 n (j2.1, j2.2.1, j2.2.2.1, j2.2.2.2.1, w64 (j2.2.2.2.2 + 1))
    else
      some (Sum.inl j.2.1)
noncomputable def manage_of (x : (List (Int × (Int × (List (BitVec 8) × (Int × (List (BitVec 8) × (((Int × (BitVec 64 × (Int × (Int × (Int × Unit))))) × (Int × (Int × (List (BitVec 8) × ((Int × (Int × (Int × Unit))) × Unit))))) × ((Int × (Int × (Int × Unit))) × Unit)))))))) × Int) : Option (List Int) :=
  jn (A := (List Int)) (R := (List Int)) (manage_of_L0 Big (x.2, ([] : List Int), x.1, (x.1.length : Int), 0)) fun q3 =>
  some q3
/-- reticule/sense.UnitReset -/
noncomputable def sense_UnitReset (x : Unit) : Option (Int × (Int × (Int × Unit))) :=
  (sense_reset 3).bind fun r1 =>
  some r1
/-- reticule/manage.Do -/
noncomputable def manage_Do (x : (List (Int × (Int × (List (BitVec 8) × (Int × (List (BitVec 8) × (((Int × (BitVec 64 × (Int × (Int × (Int × Unit))))) × (Int × (Int × (List (BitVec 8) × ((Int × (Int × (Int × Unit))) × Unit))))) × ((Int × (Int × (Int × Unit))) × Unit))))))) × (List (Int × (Int × (List (BitVec 8) × Unit))) × Unit)) × (List (((List (List (BitVec 8)) × (List (Int × (List (BitVec 8) × Unit)) × Unit)) × (Bool × (Bool × (Bool × Unit)))) × (Bool × (List (Int × (Int × (Int × Unit))) × ((Int × (Int × (Int × Unit))) × Unit))))) × (Int × (Int × (Int × (Int × Unit))))) : Option ((List (Int × (Int × (List (BitVec 8) × (Int × (List (BitVec 8) × (((Int × (BitVec 64 × (Int × (Int × (Int × Unit))))) × (Int × (Int × (List (BitVec 8) × ((Int × (Int × (Int × Unit))) × Unit))))) × ((Int × (Int × (Int × Unit))) × Unit))))))) × (List (Int × (Int × (List (BitVec 8) × Unit))) × Unit)) × (List (((List (List (BitVec 8)) × (List (Int × (List (BitVec 8) × Unit)) × Unit)) × (Bool × (Bool × (Bool × Unit)))) × (Bool × (List (Int × (Int × (Int × Unit))) × ((Int × (Int × (Int × Unit))) × Unit))))) × Int) :=
  (tags_Find (x.1.1, x.2.2.1)).bind fun r1 =>
  bif decide (0 ≤ r1) then
    (tags_Tags x.1.1).bind fun r2 =>
    (manage_Drop (x.1, r2)).bind fun r3 =>
    some (r3, x.2.1, 10)
  else
    bif decide (x.2.2.2.1 = 16) then
      (sense_NexusLoss ()).bind fun r4 =>
      (unit_Attend (x.2.1, (-1), r4)).bind fun r5 =>
      some ((([] : List (Int × (Int × (List (BitVec 8) × (Int × (List (BitVec 8) × (((Int × (BitVec 64 × (Int × (Int × (Int × Unit))))) × (Int × (Int × (List (BitVec 8) × ((Int × (Int × (Int × Unit))) × Unit))))) × ((Int × (Int × (Int × Unit))) × Unit)))))))), ([] : List (Int × (Int × (List (BitVec 8) × Unit)))), ()), r5, 0)
    else
      jn (A := ((List (((List (List (BitVec 8)) × (List (Int × (List (BitVec 8) × Unit)) × Unit)) × (Bool × (Bool × (Bool × Unit)))) × (Bool × (List (Int × (Int × (Int × Unit))) × ((Int × (Int × (Int × Unit))) × Unit))))) × (List (Int × (Int × (List (BitVec 8) × (Int × (List (BitVec 8) × (((Int × (BitVec 64 × (Int × (Int × (Int × Unit))))) × (Int × (Int × (List (BitVec 8) × ((Int × (Int × (Int × Unit))) × Unit))))) × ((Int × (Int × (Int × Unit))) × Unit))))))) × (List (Int × (Int × (List (BitVec 8) × Unit))) × Unit)) × (Int × (Int × (Int × (Int × Unit)))) × (List (Int × (Int × (List (BitVec 8) × (Int × (List (BitVec 8) × (((Int × (BitVec 64 × (Int × (Int × (Int × Unit))))) × (Int × (Int × (List (BitVec 8) × ((Int × (Int × (Int × Unit))) × Unit))))) × ((Int × (Int × (Int × Unit))) × Unit))))))) × (List (Int × (Int × (List (BitVec 8) × Unit))) × Unit)) × Bool)) (R := ((List (Int × (Int × (List (BitVec 8) × (Int × (List (BitVec 8) × (((Int × (BitVec 64 × (Int × (Int × (Int × Unit))))) × (Int × (Int × (List (BitVec 8) × ((Int × (Int × (Int × Unit))) × Unit))))) × ((Int × (Int × (Int × Unit))) × Unit))))))) × (List (Int × (Int × (List (BitVec 8) × Unit))) × Unit)) × (List (((List (List (BitVec 8)) × (List (Int × (List (BitVec 8) × Unit)) × Unit)) × (Bool × (Bool × (Bool × Unit)))) × (Bool × (List (Int × (Int × (Int × Unit))) × ((Int × (Int × (Int × Unit))) × Unit))))) × Int)) (bif decide (x.2.2.2.1 = 1) then
          some (Sum.inl (x.2.1, x.1, x.2.2, (([] : List (Int × (Int × (List (BitVec 8) × (Int × (List (BitVec 8) × (((Int × (BitVec 64 × (Int × (Int × (Int × Unit))))) × (Int × (Int × (List (BitVec 8) × ((Int × (Int × (Int × Unit))) × Unit))))) × ((Int × (Int × (Int × Unit))) × Unit)))))))), ([] : List (Int × (Int × (List (BitVec 8) × Unit)))), ()), decide (x.2.2.2.1 = 1)))
        else
          bif decide (x.2.2.2.1 = 2) then
            some (Sum.inl (x.2.1, x.1, x.2.2, (([] : List (Int × (Int × (List (BitVec 8) × (Int × (List (BitVec 8) × (((Int × (BitVec 64 × (Int × (Int × (Int × Unit))))) × (Int × (Int × (List (BitVec 8) × ((Int × (Int × (Int × Unit))) × Unit))))) × ((Int × (Int × (Int × Unit))) × Unit)))))))), ([] : List (Int × (Int × (List (BitVec 8) × Unit)))), ()), decide (x.2.2.2.1 = 2)))
          else
            bif decide (x.2.2.2.1 = 8) then
              some (Sum.inl (x.2.1, x.1, x.2.2, (([] : List (Int × (Int × (List (BitVec 8) × (Int × (List (BitVec 8) × (((Int × (BitVec 64 × (Int × (Int × (Int × Unit))))) × (Int × (Int × (List (BitVec 8) × ((Int × (Int × (Int × Unit))) × Unit))))) × ((Int × (Int × (Int × Unit))) × Unit)))))))), ([] : List (Int × (Int × (List (BitVec 8) × Unit)))), ()), decide (x.2.2.2.1 = 8)))
            else
              some (Sum.inl (x.2.1, x.1, x.2.2, (([] : List (Int × (Int × (List (BitVec 8) × (Int × (List (BitVec 8) × (((Int × (BitVec 64 × (Int × (Int × (Int × Unit))))) × (Int × (Int × (List (BitVec 8) × ((Int × (Int × (Int × Unit))) × Unit))))) × ((Int × (Int × (Int × Unit))) × Unit)))))))), ([] : List (Int × (Int × (List (BitVec 8) × Unit)))), ()), decide (x.2.2.2.1 = 128)))) fun j6 =>
      bif j6.2.2.2.2 then
        (bif decide (j6.2.2.1.2.2.2.1 < 0) then
            some true
          else
            some (decide ((j6.1.length : Int) ≤ j6.2.2.1.2.2.2.1)) : Option Bool).bind fun b7 =>
        bif b7 then
          some (j6.2.1, j6.1, 9)
        else
          jn (A := ((List (((List (List (BitVec 8)) × (List (Int × (List (BitVec 8) × Unit)) × Unit)) × (Bool × (Bool × (Bool × Unit)))) × (Bool × (List (Int × (Int × (Int × Unit))) × ((Int × (Int × (Int × Unit))) × Unit))))) × (List (Int × (Int × (List (BitVec 8) × (Int × (List (BitVec 8) × (((Int × (BitVec 64 × (Int × (Int × (Int × Unit))))) × (Int × (Int × (List (BitVec 8) × ((Int × (Int × (Int × Unit))) × Unit))))) × ((Int × (Int × (Int × Unit))) × Unit))))))) × (List (Int × (Int × (List (BitVec 8) × Unit))) × Unit)) × (List (Int × (Int × (List (BitVec 8) × (Int × (List (BitVec 8) × (((Int × (BitVec 64 × (Int × (Int × (Int × Unit))))) × (Int × (Int × (List (BitVec 8) × ((Int × (Int × (Int × Unit))) × Unit))))) × ((Int × (Int × (Int × Unit))) × Unit))))))) × (List (Int × (Int × (List (BitVec 8) × Unit))) × Unit)))) (R := ((List (Int × (Int × (List (BitVec 8) × (Int × (List (BitVec 8) × (((Int × (BitVec 64 × (Int × (Int × (Int × Unit))))) × (Int × (Int × (List (BitVec 8) × ((Int × (Int × (Int × Unit))) × Unit))))) × ((Int × (Int × (Int × Unit))) × Unit))))))) × (List (Int × (Int × (List (BitVec 8) × Unit))) × Unit)) × (List (((List (List (BitVec 8)) × (List (Int × (List (BitVec 8) × Unit)) × Unit)) × (Bool × (Bool × (Bool × Unit)))) × (Bool × (List (Int × (Int × (Int × Unit))) × ((Int × (Int × (Int × Unit))) × Unit))))) × Int)) (bif decide (j6.2.2.1.2.1 = 1) then
              (manage_meant (j6.2.1, j6.2.2.1)).bind fun r8 =>
              (manage_Drop (j6.2.1, r8)).bind fun r9 =>
              some (Sum.inl (j6.1, r9, j6.2.2.2.1))
            else
              bif decide (j6.2.2.1.2.1 = 2) then
                (manage_of (j6.2.1.1, j6.2.2.1.2.2.2.1)).bind fun r10 =>
                (manage_Drop (j6.2.1, r10)).bind fun r11 =>
                some (Sum.inl (j6.1, r11, j6.2.2.2.1))
              else
                bif decide (j6.2.2.1.2.1 = 8) then
                  (manage_of (j6.2.1.1, j6.2.2.1.2.2.2.1)).bind fun r12 =>
                  (manage_Drop (j6.2.1, r12)).bind fun r13 =>
                  (sense_UnitReset ()).bind fun r14 =>
                  (unit_Attend (j6.1, j6.2.2.1.2.2.2.1, r14)).bind fun r15 =>
                  some (Sum.inl (r15, r13, j6.2.2.2.1))
                else
                  bif decide (j6.2.2.1.2.1 = 128) then
                    (manage_meant (j6.2.1, j6.2.2.1)).bind fun r16 =>
                    bif decide (0 < (r16.length : Int)) then
                      some (Sum.inr (j6.2.1, j6.1, 8))
                    else
                      some (Sum.inl (j6.1, j6.2.1, j6.2.2.2.1))
                  else
                    some (Sum.inl (j6.1, j6.2.1, j6.2.2.2.1))) fun j17 =>
          some (j17.2.1, j17.1, 0)
      else
        some (j6.2.1, j6.1, 4)
/-- reticule/reticulelaw24.alive -/
noncomputable def reticulelaw24_alive (x : Unit) : Option Bool := some true
/-- reticule/reticuleref23.Great -/
noncomputable def reticuleref23_Great_L0 : Nat → ((List (Int × (Int × (List (BitVec 8) × (Int × (List (BitVec 8) × (((Int × (BitVec 64 × (Int × (Int × (Int × Unit))))) × (Int × (Int × (List (BitVec 8) × ((Int × (Int × (Int × Unit))) × Unit))))) × ((Int × (Int × (Int × Unit))) × Unit)))))))) × Int) → Option (Unit ⊕ Bool)
  | 0, _ => none
  | n + 1, j =>
  bif decide (j.2 < (j.1.length : Int)) then
      (ix j.1 j.2).bind fun x1 =>
      (bif decide (10000 < (x1.2.2.2.2.1.length : Int)) then
          some true
        else
          (ix j.1 j.2).bind fun x2 =>
          some (decide (10000 < (x2.2.2.2.2.2.1.2.2.2.1.length : Int))) : Option Bool).bind fun b3 =>
      bif b3 then
        some (Sum.inr true)
      else
        reticuleref23_Great_L0 n (j.1, w64 (j.2 + 1))
    else
      some (Sum.inl ())
noncomputable def reticuleref23_Great (x : (List (Int × (Int × (List (BitVec 8) × (Int × (List (BitVec 8) × (((Int × (BitVec 64 × (Int × (Int × (Int × Unit))))) × (Int × (Int × (List (BitVec 8) × ((Int × (Int × (Int × Unit))) × Unit))))) × ((Int × (Int × (Int × Unit))) × Unit))))))))) : Option Bool :=
  bif decide (20 < (x.length : Int)) then
    some true
  else
    jn (A := Unit) (R := Bool) (reticuleref23_Great_L0 Big (x, 0)) fun q4 =>
    some false
/-- reticule/reticuleref12.Great -/
noncomputable def reticuleref12_Great_L0 : Nat → ((List (((List (List (BitVec 8)) × (List (Int × (List (BitVec 8) × Unit)) × Unit)) × (Bool × (Bool × (Bool × Unit)))) × (Bool × (List (Int × (Int × (Int × Unit))) × ((Int × (Int × (Int × Unit))) × Unit))))) × Int) → Option (Unit ⊕ Bool)
  | 0, _ => none
  | n + 1, j =>
  bif decide (j.2 < (j.1.length : Int)) then
      (ix j.1 j.2).bind fun x1 =>
      (bif decide (70 < (x1.1.1.1.length : Int)) then
          some true
        else
          (ix j.1 j.2).bind fun x2 =>
          some (decide (70 < (x2.1.1.2.1.length : Int))) : Option Bool).bind fun b3 =>
      (bif b3 then
          some true
        else
          (ix j.1 j.2).bind fun x4 =>
          some (decide (20 < (x4.2.2.1.length : Int))) : Option Bool).bind fun b5 =>
      bif b5 then
        some (Sum.inr true)
      else
        reticuleref12_Great_L0 n (j.1, w64 (j.2 + 1))
    else
      some (Sum.inl ())
noncomputable def reticuleref12_Great (x : (List (((List (List (BitVec 8)) × (List (Int × (List (BitVec 8) × Unit)) × Unit)) × (Bool × (Bool × (Bool × Unit)))) × (Bool × (List (Int × (Int × (Int × Unit))) × ((Int × (Int × (Int × Unit))) × Unit)))))) : Option Bool :=
  bif decide (6 < (x.length : Int)) then
    some true
  else
    jn (A := Unit) (R := Bool) (reticuleref12_Great_L0 Big (x, 0)) fun q6 =>
    some false
/-- reticule/reticuleref24.Great -/
noncomputable def reticuleref24_Great_L0 : Nat → ((List (Int × (Int × (List (BitVec 8) × (Int × (List (BitVec 8) × (((Int × (BitVec 64 × (Int × (Int × (Int × Unit))))) × (Int × (Int × (List (BitVec 8) × ((Int × (Int × (Int × Unit))) × Unit))))) × ((Int × (Int × (Int × Unit))) × Unit))))))) × (List (Int × (Int × (List (BitVec 8) × Unit))) × Unit)) × Int) → Option (Unit ⊕ Bool)
  | 0, _ => none
  | n + 1, j =>
  bif decide (j.2 < (j.1.2.1.length : Int)) then
      (ix j.1.2.1 j.2).bind fun x5 =>
      bif decide (200 < (x5.2.2.1.length : Int)) then
        some (Sum.inr true)
      else
        reticuleref24_Great_L0 n (j.1, w64 (j.2 + 1))
    else
      some (Sum.inl ())
noncomputable def reticuleref24_Great (x : (List (Int × (Int × (List (BitVec 8) × (Int × (List (BitVec 8) × (((Int × (BitVec 64 × (Int × (Int × (Int × Unit))))) × (Int × (Int × (List (BitVec 8) × ((Int × (Int × (Int × Unit))) × Unit))))) × ((Int × (Int × (Int × Unit))) × Unit))))))) × (List (Int × (Int × (List (BitVec 8) × Unit))) × Unit)) × (List (((List (List (BitVec 8)) × (List (Int × (List (BitVec 8) × Unit)) × Unit)) × (Bool × (Bool × (Bool × Unit)))) × (Bool × (List (Int × (Int × (Int × Unit))) × ((Int × (Int × (Int × Unit))) × Unit)))))) : Option Bool :=
  (reticuleref23_Great x.1.1).bind fun r1 =>
  (bif r1 then
      some true
    else
      some (decide (40 < (x.1.2.1.length : Int))) : Option Bool).bind fun b2 =>
  (bif b2 then
      some true
    else
      (reticuleref12_Great x.2).bind fun r3 =>
      some r3 : Option Bool).bind fun b4 =>
  bif b4 then
    some true
  else
    jn (A := Unit) (R := Bool) (reticuleref24_Great_L0 Big (x.1, 0)) fun q6 =>
    some false
/-- reticule/reticuleref23.Copy -/
noncomputable def reticuleref23_Copy_L0 : Nat → ((List (Int × (Int × (List (BitVec 8) × (Int × (List (BitVec 8) × (((Int × (BitVec 64 × (Int × (Int × (Int × Unit))))) × (Int × (Int × (List (BitVec 8) × ((Int × (Int × (Int × Unit))) × Unit))))) × ((Int × (Int × (Int × Unit))) × Unit)))))))) × (List (Int × (Int × (List (BitVec 8) × (Int × (List (BitVec 8) × (((Int × (BitVec 64 × (Int × (Int × (Int × Unit))))) × (Int × (Int × (List (BitVec 8) × ((Int × (Int × (Int × Unit))) × Unit))))) × ((Int × (Int × (Int × Unit))) × Unit)))))))) × Int) → Option ((List (Int × (Int × (List (BitVec 8) × (Int × (List (BitVec 8) × (((Int × (BitVec 64 × (Int × (Int × (Int × Unit))))) × (Int × (Int × (List (BitVec 8) × ((Int × (Int × (Int × Unit))) × Unit))))) × ((Int × (Int × (Int × Unit))) × Unit)))))))) ⊕ (List (Int × (Int × (List (BitVec 8) × (Int × (List (BitVec 8) × (((Int × (BitVec 64 × (Int × (Int × (Int × Unit))))) × (Int × (Int × (List (BitVec 8) × ((Int × (Int × (Int × Unit))) × Unit))))) × ((Int × (Int × (Int × Unit))) × Unit)))))))))
  | 0, _ => none
  | n + 1, j =>
  bif decide (j.2.2 < (j.1.length : Int)) then
      (ix j.1 j.2.2).bind fun x1 =>
      (chk (decide (([] : List (BitVec 8)).length + x1.2.2.2.2.1.length ≤ lim))).bind fun _ =>
      (chk (decide (([] : List (BitVec 8)).length + x1.2.2.2.2.2.1.2.2.2.1.length ≤ lim))).bind fun _ =>
      (chk (decide (j.2.1.length + ([(x1.1, x1.2.1, x1.2.2.1, x1.2.2.2.1, ([] : List (BitVec 8)) ++ x1.2.2.2.2.1, (x1.2.2.2.2.2.1.1, x1.2.2.2.2.2.1.2.1, x1.2.2.2.2.2.1.2.2.1, ([] : List (BitVec 8)) ++ x1.2.2.2.2.2.1.2.2.2.1, x1.2.2.2.2.2.1.2.2.2.2), x1.2.2.2.2.2.2)] : List (Int × (Int × (List (BitVec 8) × (Int × (List (BitVec 8) × (((Int × (BitVec 64 × (Int × (Int × (Int × Unit))))) × (Int × (Int × (List (BitVec 8) × ((Int × (Int × (Int × Unit))) × Unit))))) × ((Int × (Int × (Int × Unit))) × Unit)))))))).length ≤ lim))).bind fun _ =>
      reticuleref23_Copy_L0 n (j.1, j.2.1 ++ ([(x1.1, x1.2.1, x1.2.2.1, x1.2.2.2.1, ([] : List (BitVec 8)) ++ x1.2.2.2.2.1, (x1.2.2.2.2.2.1.1, x1.2.2.2.2.2.1.2.1, x1.2.2.2.2.2.1.2.2.1, ([] : List (BitVec 8)) ++ x1.2.2.2.2.2.1.2.2.2.1, x1.2.2.2.2.2.1.2.2.2.2), x1.2.2.2.2.2.2)] : List (Int × (Int × (List (BitVec 8) × (Int × (List (BitVec 8) × (((Int × (BitVec 64 × (Int × (Int × (Int × Unit))))) × (Int × (Int × (List (BitVec 8) × ((Int × (Int × (Int × Unit))) × Unit))))) × ((Int × (Int × (Int × Unit))) × Unit)))))))), w64 (j.2.2 + 1))
    else
      some (Sum.inl j.2.1)
noncomputable def reticuleref23_Copy (x : (List (Int × (Int × (List (BitVec 8) × (Int × (List (BitVec 8) × (((Int × (BitVec 64 × (Int × (Int × (Int × Unit))))) × (Int × (Int × (List (BitVec 8) × ((Int × (Int × (Int × Unit))) × Unit))))) × ((Int × (Int × (Int × Unit))) × Unit))))))))) : Option (List (Int × (Int × (List (BitVec 8) × (Int × (List (BitVec 8) × (((Int × (BitVec 64 × (Int × (Int × (Int × Unit))))) × (Int × (Int × (List (BitVec 8) × ((Int × (Int × (Int × Unit))) × Unit))))) × ((Int × (Int × (Int × Unit))) × Unit)))))))) :=
  jn (A := (List (Int × (Int × (List (BitVec 8) × (Int × (List (BitVec 8) × (((Int × (BitVec 64 × (Int × (Int × (Int × Unit))))) × (Int × (Int × (List (BitVec 8) × ((Int × (Int × (Int × Unit))) × Unit))))) × ((Int × (Int × (Int × Unit))) × Unit))))))))) (R := (List (Int × (Int × (List (BitVec 8) × (Int × (List (BitVec 8) × (((Int × (BitVec 64 × (Int × (Int × (Int × Unit))))) × (Int × (Int × (List (BitVec 8) × ((Int × (Int × (Int × Unit))) × Unit))))) × ((Int × (Int × (Int × Unit))) × Unit))))))))) (reticuleref23_Copy_L0 Big (x, ([] : List (Int × (Int × (List (BitVec 8) × (Int × (List (BitVec 8) × (((Int × (BitVec 64 × (Int × (Int × (Int × Unit))))) × (Int × (Int × (List (BitVec 8) × ((Int × (Int × (Int × Unit))) × Unit))))) × ((Int × (Int × (Int × Unit))) × Unit)))))))), 0)) fun q2 =>
  some q2
/-- reticule/reticuleref24.Copy -/
noncomputable def reticuleref24_Copy_L0 : Nat → ((List (Int × (Int × (List (BitVec 8) × (Int × (List (BitVec 8) × (((Int × (BitVec 64 × (Int × (Int × (Int × Unit))))) × (Int × (Int × (List (BitVec 8) × ((Int × (Int × (Int × Unit))) × Unit))))) × ((Int × (Int × (Int × Unit))) × Unit))))))) × (List (Int × (Int × (List (BitVec 8) × Unit))) × Unit)) × (List (Int × (Int × (List (BitVec 8) × (Int × (List (BitVec 8) × (((Int × (BitVec 64 × (Int × (Int × (Int × Unit))))) × (Int × (Int × (List (BitVec 8) × ((Int × (Int × (Int × Unit))) × Unit))))) × ((Int × (Int × (Int × Unit))) × Unit))))))) × (List (Int × (Int × (List (BitVec 8) × Unit))) × Unit)) × (List (Int × (Int × (List (BitVec 8) × (Int × (List (BitVec 8) × (((Int × (BitVec 64 × (Int × (Int × (Int × Unit))))) × (Int × (Int × (List (BitVec 8) × ((Int × (Int × (Int × Unit))) × Unit))))) × ((Int × (Int × (Int × Unit))) × Unit))))))) × (List (Int × (Int × (List (BitVec 8) × Unit))) × Unit)) × Int) → Option (((List (Int × (Int × (List (BitVec 8) × (Int × (List (BitVec 8) × (((Int × (BitVec 64 × (Int × (Int × (Int × Unit))))) × (Int × (Int × (List (BitVec 8) × ((Int × (Int × (Int × Unit))) × Unit))))) × ((Int × (Int × (Int × Unit))) × Unit))))))) × (List (Int × (Int × (List (BitVec 8) × Unit))) × Unit)) × (List (Int × (Int × (List (BitVec 8) × (Int × (List (BitVec 8) × (((Int × (BitVec 64 × (Int × (Int × (Int × Unit))))) × (Int × (Int × (List (BitVec 8) × ((Int × (Int × (Int × Unit))) × Unit))))) × ((Int × (Int × (Int × Unit))) × Unit))))))) × (List (Int × (Int × (List (BitVec 8) × Unit))) × Unit))) ⊕ (List (Int × (Int × (List (BitVec 8) × (Int × (List (BitVec 8) × (((Int × (BitVec 64 × (Int × (Int × (Int × Unit))))) × (Int × (Int × (List (BitVec 8) × ((Int × (Int × (Int × Unit))) × Unit))))) × ((Int × (Int × (Int × Unit))) × Unit))))))) × (List (Int × (Int × (List (BitVec 8) × Unit))) × Unit)))
  | 0, _ => none
  | n + 1, j =>
  bif decide (j.2.2.2 < (j.1.2.1.length : Int)) then
      (ix j.1.2.1 j.2.2.2).bind fun x2 =>
      (chk (decide (([] : List (BitVec 8)).length + x2.2.2.1.length ≤ lim))).bind fun _ =>
      (chk (decide (j.2.2.1.2.1.length + ([(x2.1, x2.2.1, ([] : List (BitVec 8)) ++ x2.2.2.1, x2.2.2.2)] : List (Int × (Int × (List (BitVec 8) × Unit)))).length ≤ lim))).bind fun _ =>
      reticuleref24_Copy_L0 n (j.1, j.2.1, (j.2.2.1.1, j.2.2.1.2.1 ++ ([(x2.1, x2.2.1, ([] : List (BitVec 8)) ++ x2.2.2.1, x2.2.2.2)] : List (Int × (Int × (List (BitVec 8) × Unit)))), j.2.2.1.2.2), w64 (j.2.2.2 + 1))
    else
      some (Sum.inl (j.2.1, j.2.2.1))
noncomputable def reticuleref24_Copy (x : (List (Int × (Int × (List (BitVec 8) × (Int × (List (BitVec 8) × (((Int × (BitVec 64 × (Int × (Int × (Int × Unit))))) × (Int × (Int × (List (BitVec 8) × ((Int × (Int × (Int × Unit))) × Unit))))) × ((Int × (Int × (Int × Unit))) × Unit))))))) × (List (Int × (Int × (List (BitVec 8) × Unit))) × Unit))) : Option (List (Int × (Int × (List (BitVec 8) × (Int × (List (BitVec 8) × (((Int × (BitVec 64 × (Int × (Int × (Int × Unit))))) × (Int × (Int × (List (BitVec 8) × ((Int × (Int × (Int × Unit))) × Unit))))) × ((Int × (Int × (Int × Unit))) × Unit))))))) × (List (Int × (Int × (List (BitVec 8) × Unit))) × Unit)) :=
  (reticuleref23_Copy x.1).bind fun r1 =>
  jn (A := ((List (Int × (Int × (List (BitVec 8) × (Int × (List (BitVec 8) × (((Int × (BitVec 64 × (Int × (Int × (Int × Unit))))) × (Int × (Int × (List (BitVec 8) × ((Int × (Int × (Int × Unit))) × Unit))))) × ((Int × (Int × (Int × Unit))) × Unit))))))) × (List (Int × (Int × (List (BitVec 8) × Unit))) × Unit)) × (List (Int × (Int × (List (BitVec 8) × (Int × (List (BitVec 8) × (((Int × (BitVec 64 × (Int × (Int × (Int × Unit))))) × (Int × (Int × (List (BitVec 8) × ((Int × (Int × (Int × Unit))) × Unit))))) × ((Int × (Int × (Int × Unit))) × Unit))))))) × (List (Int × (Int × (List (BitVec 8) × Unit))) × Unit)))) (R := (List (Int × (Int × (List (BitVec 8) × (Int × (List (BitVec 8) × (((Int × (BitVec 64 × (Int × (Int × (Int × Unit))))) × (Int × (Int × (List (BitVec 8) × ((Int × (Int × (Int × Unit))) × Unit))))) × ((Int × (Int × (Int × Unit))) × Unit))))))) × (List (Int × (Int × (List (BitVec 8) × Unit))) × Unit))) (reticuleref24_Copy_L0 Big (x, (([] : List (Int × (Int × (List (BitVec 8) × (Int × (List (BitVec 8) × (((Int × (BitVec 64 × (Int × (Int × (Int × Unit))))) × (Int × (Int × (List (BitVec 8) × ((Int × (Int × (Int × Unit))) × Unit))))) × ((Int × (Int × (Int × Unit))) × Unit)))))))), ([] : List (Int × (Int × (List (BitVec 8) × Unit)))), ()), (r1, ([] : List (Int × (Int × (List (BitVec 8) × Unit)))), ()), 0)) fun q3 =>
  some q3.2
/-- reticule/reticuleref02.Copy -/
noncomputable def reticuleref02_Copy (x : (List (List (BitVec 8)))) : Option (List (List (BitVec 8))) :=
  (chk (decide (([] : List (List (BitVec 8))).length + x.length ≤ lim))).bind fun _ =>
  some (([] : List (List (BitVec 8))) ++ x)
/-- reticule/reticuleref03.Copy -/
noncomputable def reticuleref03_Copy (x : (List (List (BitVec 8)) × (List (Int × (List (BitVec 8) × Unit)) × Unit))) : Option (List (List (BitVec 8)) × (List (Int × (List (BitVec 8) × Unit)) × Unit)) :=
  (reticuleref02_Copy x.1).bind fun r1 =>
  (chk (decide (([] : List (Int × (List (BitVec 8) × Unit))).length + x.2.1.length ≤ lim))).bind fun _ =>
  some (r1, ([] : List (Int × (List (BitVec 8) × Unit))) ++ x.2.1, ())
/-- reticule/reticuleref05.Copy -/
noncomputable def reticuleref05_Copy (x : ((List (List (BitVec 8)) × (List (Int × (List (BitVec 8) × Unit)) × Unit)) × (Bool × (Bool × (Bool × Unit))))) : Option ((List (List (BitVec 8)) × (List (Int × (List (BitVec 8) × Unit)) × Unit)) × (Bool × (Bool × (Bool × Unit)))) :=
  (reticuleref03_Copy x.1).bind fun r1 =>
  some (r1, x.2)
/-- reticule/reticuleref10.Copy -/
noncomputable def reticuleref10_Copy (x : (((List (List (BitVec 8)) × (List (Int × (List (BitVec 8) × Unit)) × Unit)) × (Bool × (Bool × (Bool × Unit)))) × (Bool × (List (Int × (Int × (Int × Unit))) × ((Int × (Int × (Int × Unit))) × Unit))))) : Option (((List (List (BitVec 8)) × (List (Int × (List (BitVec 8) × Unit)) × Unit)) × (Bool × (Bool × (Bool × Unit)))) × (Bool × (List (Int × (Int × (Int × Unit))) × ((Int × (Int × (Int × Unit))) × Unit)))) :=
  (reticuleref05_Copy x.1).bind fun r1 =>
  (chk (decide (([] : List (Int × (Int × (Int × Unit)))).length + x.2.2.1.length ≤ lim))).bind fun _ =>
  some (r1, x.2.1, ([] : List (Int × (Int × (Int × Unit)))) ++ x.2.2.1, x.2.2.2)
/-- reticule/reticuleref12.Copy -/
noncomputable def reticuleref12_Copy_L0 : Nat → ((List (((List (List (BitVec 8)) × (List (Int × (List (BitVec 8) × Unit)) × Unit)) × (Bool × (Bool × (Bool × Unit)))) × (Bool × (List (Int × (Int × (Int × Unit))) × ((Int × (Int × (Int × Unit))) × Unit))))) × (List (((List (List (BitVec 8)) × (List (Int × (List (BitVec 8) × Unit)) × Unit)) × (Bool × (Bool × (Bool × Unit)))) × (Bool × (List (Int × (Int × (Int × Unit))) × ((Int × (Int × (Int × Unit))) × Unit))))) × Int) → Option ((List (((List (List (BitVec 8)) × (List (Int × (List (BitVec 8) × Unit)) × Unit)) × (Bool × (Bool × (Bool × Unit)))) × (Bool × (List (Int × (Int × (Int × Unit))) × ((Int × (Int × (Int × Unit))) × Unit))))) ⊕ (List (((List (List (BitVec 8)) × (List (Int × (List (BitVec 8) × Unit)) × Unit)) × (Bool × (Bool × (Bool × Unit)))) × (Bool × (List (Int × (Int × (Int × Unit))) × ((Int × (Int × (Int × Unit))) × Unit))))))
  | 0, _ => none
  | n + 1, j =>
  bif decide (j.2.2 < (j.1.length : Int)) then
      (ix j.1 j.2.2).bind fun x1 =>
      (reticuleref10_Copy x1).bind fun r2 =>
      (chk (decide (j.2.1.length + ([r2] : List (((List (List (BitVec 8)) × (List (Int × (List (BitVec 8) × Unit)) × Unit)) × (Bool × (Bool × (Bool × Unit)))) × (Bool × (List (Int × (Int × (Int × Unit))) × ((Int × (Int × (Int × Unit))) × Unit))))).length ≤ lim))).bind fun _ =>
      reticuleref12_Copy_L0 n (j.1, j.2.1 ++ ([r2] : List (((List (List (BitVec 8)) × (List (Int × (List (BitVec 8) × Unit)) × Unit)) × (Bool × (Bool × (Bool × Unit)))) × (Bool × (List (Int × (Int × (Int × Unit))) × ((Int × (Int × (Int × Unit))) × Unit))))), w64 (j.2.2 + 1))
    else
      some (Sum.inl j.2.1)
noncomputable def reticuleref12_Copy (x : (List (((List (List (BitVec 8)) × (List (Int × (List (BitVec 8) × Unit)) × Unit)) × (Bool × (Bool × (Bool × Unit)))) × (Bool × (List (Int × (Int × (Int × Unit))) × ((Int × (Int × (Int × Unit))) × Unit)))))) : Option (List (((List (List (BitVec 8)) × (List (Int × (List (BitVec 8) × Unit)) × Unit)) × (Bool × (Bool × (Bool × Unit)))) × (Bool × (List (Int × (Int × (Int × Unit))) × ((Int × (Int × (Int × Unit))) × Unit))))) :=
  jn (A := (List (((List (List (BitVec 8)) × (List (Int × (List (BitVec 8) × Unit)) × Unit)) × (Bool × (Bool × (Bool × Unit)))) × (Bool × (List (Int × (Int × (Int × Unit))) × ((Int × (Int × (Int × Unit))) × Unit)))))) (R := (List (((List (List (BitVec 8)) × (List (Int × (List (BitVec 8) × Unit)) × Unit)) × (Bool × (Bool × (Bool × Unit)))) × (Bool × (List (Int × (Int × (Int × Unit))) × ((Int × (Int × (Int × Unit))) × Unit)))))) (reticuleref12_Copy_L0 Big (x, ([] : List (((List (List (BitVec 8)) × (List (Int × (List (BitVec 8) × Unit)) × Unit)) × (Bool × (Bool × (Bool × Unit)))) × (Bool × (List (Int × (Int × (Int × Unit))) × ((Int × (Int × (Int × Unit))) × Unit))))), 0)) fun q3 =>
  some q3
/-- reticule/reticuleref23.Find -/
noncomputable def reticuleref23_Find_L0 : Nat → ((List (Int × (Int × (List (BitVec 8) × (Int × (List (BitVec 8) × (((Int × (BitVec 64 × (Int × (Int × (Int × Unit))))) × (Int × (Int × (List (BitVec 8) × ((Int × (Int × (Int × Unit))) × Unit))))) × ((Int × (Int × (Int × Unit))) × Unit)))))))) × Int × Int) → Option (Unit ⊕ Int)
  | 0, _ => none
  | n + 1, j =>
  bif decide (j.2.2 < (j.1.length : Int)) then
      (ix j.1 j.2.2).bind fun x1 =>
      bif decide (x1.1 = j.2.1) then
        some (Sum.inr j.2.2)
      else
        reticuleref23_Find_L0 n (j.1, j.2.1, w64 (j.2.2 + 1))
    else
      some (Sum.inl ())
noncomputable def reticuleref23_Find (x : (List (Int × (Int × (List (BitVec 8) × (Int × (List (BitVec 8) × (((Int × (BitVec 64 × (Int × (Int × (Int × Unit))))) × (Int × (Int × (List (BitVec 8) × ((Int × (Int × (Int × Unit))) × Unit))))) × ((Int × (Int × (Int × Unit))) × Unit)))))))) × Int) : Option Int :=
  jn (A := Unit) (R := Int) (reticuleref23_Find_L0 Big (x.1, x.2, 0)) fun q2 =>
  some (-1)
/-- reticule/reticuleref23.Tags -/
noncomputable def reticuleref23_Tags_L0 : Nat → ((List (Int × (Int × (List (BitVec 8) × (Int × (List (BitVec 8) × (((Int × (BitVec 64 × (Int × (Int × (Int × Unit))))) × (Int × (Int × (List (BitVec 8) × ((Int × (Int × (Int × Unit))) × Unit))))) × ((Int × (Int × (Int × Unit))) × Unit)))))))) × (List Int) × Int) → Option ((List Int) ⊕ (List Int))
  | 0, _ => none
  | n + 1, j =>
  bif decide (j.2.2 < (j.1.length : Int)) then
      (ix j.1 j.2.2).bind fun x1 =>
      (chk (decide (j.2.1.length + ([x1.1] : List Int).length ≤ lim))).bind fun _ =>
      reticuleref23_Tags_L0 n (j.1, j.2.1 ++ ([x1.1] : List Int), w64 (j.2.2 + 1))
    else
      some (Sum.inl j.2.1)
noncomputable def reticuleref23_Tags (x : (List (Int × (Int × (List (BitVec 8) × (Int × (List (BitVec 8) × (((Int × (BitVec 64 × (Int × (Int × (Int × Unit))))) × (Int × (Int × (List (BitVec 8) × ((Int × (Int × (Int × Unit))) × Unit))))) × ((Int × (Int × (Int × Unit))) × Unit))))))))) : Option (List Int) :=
  jn (A := (List Int)) (R := (List Int)) (reticuleref23_Tags_L0 Big (x, ([] : List Int), 0)) fun q2 =>
  some q2
/-- reticule/reticuleref01.Has -/
noncomputable def reticuleref01_Has_L0 : Nat → ((List Int) × Int × Int) → Option (Unit ⊕ Bool)
  | 0, _ => none
  | n + 1, j =>
  bif decide (j.2.2 < (j.1.length : Int)) then
      (ix j.1 j.2.2).bind fun x1 =>
      bif decide (x1 = j.2.1) then
        some (Sum.inr true)
      else
        reticuleref01_Has_L0 n (j.1, j.2.1, w64 (j.2.2 + 1))
    else
      some (Sum.inl ())
noncomputable def reticuleref01_Has (x : (List Int) × Int) : Option Bool :=
  jn (A := Unit) (R := Bool) (reticuleref01_Has_L0 Big (x.1, x.2, 0)) fun q2 =>
  some false
/-- reticule/reticuleref24.Drop -/
noncomputable def reticuleref24_Drop_L0 : Nat → ((List Int) × (List (Int × (Int × (List (BitVec 8) × (Int × (List (BitVec 8) × (((Int × (BitVec 64 × (Int × (Int × (Int × Unit))))) × (Int × (Int × (List (BitVec 8) × ((Int × (Int × (Int × Unit))) × Unit))))) × ((Int × (Int × (Int × Unit))) × Unit))))))) × (List (Int × (Int × (List (BitVec 8) × Unit))) × Unit)) × (List (Int × (Int × (List (BitVec 8) × (Int × (List (BitVec 8) × (((Int × (BitVec 64 × (Int × (Int × (Int × Unit))))) × (Int × (Int × (List (BitVec 8) × ((Int × (Int × (Int × Unit))) × Unit))))) × ((Int × (Int × (Int × Unit))) × Unit))))))) × (List (Int × (Int × (List (BitVec 8) × Unit))) × Unit)) × (List (Int × (Int × (List (BitVec 8) × (Int × (List (BitVec 8) × (((Int × (BitVec 64 × (Int × (Int × (Int × Unit))))) × (Int × (Int × (List (BitVec 8) × ((Int × (Int × (Int × Unit))) × Unit))))) × ((Int × (Int × (Int × Unit))) × Unit))))))) × (List (Int × (Int × (List (BitVec 8) × Unit))) × Unit)) × Int) → Option (((List Int) × (List (Int × (Int × (List (BitVec 8) × (Int × (List (BitVec 8) × (((Int × (BitVec 64 × (Int × (Int × (Int × Unit))))) × (Int × (Int × (List (BitVec 8) × ((Int × (Int × (Int × Unit))) × Unit))))) × ((Int × (Int × (Int × Unit))) × Unit))))))) × (List (Int × (Int × (List (BitVec 8) × Unit))) × Unit)) × (List (Int × (Int × (List (BitVec 8) × (Int × (List (BitVec 8) × (((Int × (BitVec 64 × (Int × (Int × (Int × Unit))))) × (Int × (Int × (List (BitVec 8) × ((Int × (Int × (Int × Unit))) × Unit))))) × ((Int × (Int × (Int × Unit))) × Unit))))))) × (List (Int × (Int × (List (BitVec 8) × Unit))) × Unit)) × (List (Int × (Int × (List (BitVec 8) × (Int × (List (BitVec 8) × (((Int × (BitVec 64 × (Int × (Int × (Int × Unit))))) × (Int × (Int × (List (BitVec 8) × ((Int × (Int × (Int × Unit))) × Unit))))) × ((Int × (Int × (Int × Unit))) × Unit))))))) × (List (Int × (Int × (List (BitVec 8) × Unit))) × Unit))) ⊕ (List (Int × (Int × (List (BitVec 8) × (Int × (List (BitVec 8) × (((Int × (BitVec 64 × (Int × (Int × (Int × Unit))))) × (Int × (Int × (List (BitVec 8) × ((Int × (Int × (Int × Unit))) × Unit))))) × ((Int × (Int × (Int × Unit))) × Unit))))))) × (List (Int × (Int × (List (BitVec 8) × Unit))) × Unit)))
  | 0, _ => none
  | n + 1, j =>
  bif decide (j.2.2.2.2 < (j.2.1.1.length : Int)) then
      jn (A := ((List Int) × (List (Int × (Int × (List (BitVec 8) × (Int × (List (BitVec 8) × (((Int × (BitVec 64 × (Int × (Int × (Int × Unit))))) × (Int × (Int × (List (BitVec 8) × ((Int × (Int × (Int × Unit))) × Unit))))) × ((Int × (Int × (Int × Unit))) × Unit))))))) × (List (Int × (Int × (List (BitVec 8) × Unit))) × Unit)) × (List (Int × (Int × (List (BitVec 8) × (Int × (List (BitVec 8) × (((Int × (BitVec 64 × (Int × (Int × (Int × Unit))))) × (Int × (Int × (List (BitVec 8) × ((Int × (Int × (Int × Unit))) × Unit))))) × ((Int × (Int × (Int × Unit))) × Unit))))))) × (List (Int × (Int × (List (BitVec 8) × Unit))) × Unit)) × (List (Int × (Int × (List (BitVec 8) × (Int × (List (BitVec 8) × (((Int × (BitVec 64 × (Int × (Int × (Int × Unit))))) × (Int × (Int × (List (BitVec 8) × ((Int × (Int × (Int × Unit))) × Unit))))) × ((Int × (Int × (Int × Unit))) × Unit))))))) × (List (Int × (Int × (List (BitVec 8) × Unit))) × Unit)) × Int)) (R := (((List Int) × (List (Int × (Int × (List (BitVec 8) × (Int × (List (BitVec 8) × (((Int × (BitVec 64 × (Int × (Int × (Int × Unit))))) × (Int × (Int × (List (BitVec 8) × ((Int × (Int × (Int × Unit))) × Unit))))) × ((Int × (Int × (Int × Unit))) × Unit))))))) × (List (Int × (Int × (List (BitVec 8) × Unit))) × Unit)) × (List (Int × (Int × (List (BitVec 8) × (Int × (List (BitVec 8) × (((Int × (BitVec 64 × (Int × (Int × (Int × Unit))))) × (Int × (Int × (List (BitVec 8) × ((Int × (Int × (Int × Unit))) × Unit))))) × ((Int × (Int × (Int × Unit))) × Unit))))))) × (List (Int × (Int × (List (BitVec 8) × Unit))) × Unit)) × (List (Int × (Int × (List (BitVec 8) × (Int × (List (BitVec 8) × (((Int × (BitVec 64 × (Int × (Int × (Int × Unit))))) × (Int × (Int × (List (BitVec 8) × ((Int × (Int × (Int × Unit))) × Unit))))) × ((Int × (Int × (Int × Unit))) × Unit))))))) × (List (Int × (Int × (List (BitVec 8) × Unit))) × Unit))) ⊕ (List (Int × (Int × (List (BitVec 8) × (Int × (List (BitVec 8) × (((Int × (BitVec 64 × (Int × (Int × (Int × Unit))))) × (Int × (Int × (List (BitVec 8) × ((Int × (Int × (Int × Unit))) × Unit))))) × ((Int × (Int × (Int × Unit))) × Unit))))))) × (List (Int × (Int × (List (BitVec 8) × Unit))) × Unit)))) ((ix j.2.1.1 j.2.2.2.2).bind fun x1 =>
        (reticuleref01_Has (j.1, x1.1)).bind fun r2 =>
        bif !r2 then
          (ix j.2.1.1 j.2.2.2.2).bind fun x3 =>
          (chk (decide (j.2.2.2.1.1.length + ([x3] : List (Int × (Int × (List (BitVec 8) × (Int × (List (BitVec 8) × (((Int × (BitVec 64 × (Int × (Int × (Int × Unit))))) × (Int × (Int × (List (BitVec 8) × ((Int × (Int × (Int × Unit))) × Unit))))) × ((Int × (Int × (Int × Unit))) × Unit)))))))).length ≤ lim))).bind fun _ =>
          some (Sum.inl (j.1, j.2.1, j.2.2.1, (j.2.2.2.1.1 ++ ([x3] : List (Int × (Int × (List (BitVec 8) × (Int × (List (BitVec 8) × (((Int × (BitVec 64 × (Int × (Int × (Int × Unit))))) × (Int × (Int × (List (BitVec 8) × ((Int × (Int × (Int × Unit))) × Unit))))) × ((Int × (Int × (Int × Unit))) × Unit)))))))), j.2.2.2.1.2), j.2.2.2.2))
        else
          some (Sum.inl (j.1, j.2.1, j.2.2.1, j.2.2.2.1, j.2.2.2.2))) fun j4 =>
      reticuleref24_Drop_L0 n (j4.1, j4.2.1, j4.2.2.1, j4.2.2.2.1, w64 (j4.2.2.2.2 + 1))
    else
      some (Sum.inl (j.1, j.2.1, j.2.2.1, j.2.2.2.1))
noncomputable def reticuleref24_Drop_L1 : Nat → ((List Int) × (List (Int × (Int × (List (BitVec 8) × (Int × (List (BitVec 8) × (((Int × (BitVec 64 × (Int × (Int × (Int × Unit))))) × (Int × (Int × (List (BitVec 8) × ((Int × (Int × (Int × Unit))) × Unit))))) × ((Int × (Int × (Int × Unit))) × Unit))))))) × (List (Int × (Int × (List (BitVec 8) × Unit))) × Unit)) × (List (Int × (Int × (List (BitVec 8) × (Int × (List (BitVec 8) × (((Int × (BitVec 64 × (Int × (Int × (Int × Unit))))) × (Int × (Int × (List (BitVec 8) × ((Int × (Int × (Int × Unit))) × Unit))))) × ((Int × (Int × (Int × Unit))) × Unit))))))) × (List (Int × (Int × (List (BitVec 8) × Unit))) × Unit)) × (List (Int × (Int × (List (BitVec 8) × (Int × (List (BitVec 8) × (((Int × (BitVec 64 × (Int × (Int × (Int × Unit))))) × (Int × (Int × (List (BitVec 8) × ((Int × (Int × (Int × Unit))) × Unit))))) × ((Int × (Int × (Int × Unit))) × Unit))))))) × (List (Int × (Int × (List (BitVec 8) × Unit))) × Unit)) × Int) → Option (((List (Int × (Int × (List (BitVec 8) × (Int × (List (BitVec 8) × (((Int × (BitVec 64 × (Int × (Int × (Int × Unit))))) × (Int × (Int × (List (BitVec 8) × ((Int × (Int × (Int × Unit))) × Unit))))) × ((Int × (Int × (Int × Unit))) × Unit))))))) × (List (Int × (Int × (List (BitVec 8) × Unit))) × Unit)) × (List (Int × (Int × (List (BitVec 8) × (Int × (List (BitVec 8) × (((Int × (BitVec 64 × (Int × (Int × (Int × Unit))))) × (Int × (Int × (List (BitVec 8) × ((Int × (Int × (Int × Unit))) × Unit))))) × ((Int × (Int × (Int × Unit))) × Unit))))))) × (List (Int × (Int × (List (BitVec 8) × Unit))) × Unit))) ⊕ (List (Int × (Int × (List (BitVec 8) × (Int × (List (BitVec 8) × (((Int × (BitVec 64 × (Int × (Int × (Int × Unit))))) × (Int × (Int × (List (BitVec 8) × ((Int × (Int × (Int × Unit))) × Unit))))) × ((Int × (Int × (Int × Unit))) × Unit))))))) × (List (Int × (Int × (List (BitVec 8) × Unit))) × Unit)))
  | 0, _ => none
  | n + 1, j =>
  bif decide (j.2.2.2.2 < (j.2.1.2.1.length : Int)) then
      jn (A := ((List Int) × (List (Int × (Int × (List (BitVec 8) × (Int × (List (BitVec 8) × (((Int × (BitVec 64 × (Int × (Int × (Int × Unit))))) × (Int × (Int × (List (BitVec 8) × ((Int × (Int × (Int × Unit))) × Unit))))) × ((Int × (Int × (Int × Unit))) × Unit))))))) × (List (Int × (Int × (List (BitVec 8) × Unit))) × Unit)) × (List (Int × (Int × (List (BitVec 8) × (Int × (List (BitVec 8) × (((Int × (BitVec 64 × (Int × (Int × (Int × Unit))))) × (Int × (Int × (List (BitVec 8) × ((Int × (Int × (Int × Unit))) × Unit))))) × ((Int × (Int × (Int × Unit))) × Unit))))))) × (List (Int × (Int × (List (BitVec 8) × Unit))) × Unit)) × (List (Int × (Int × (List (BitVec 8) × (Int × (List (BitVec 8) × (((Int × (BitVec 64 × (Int × (Int × (Int × Unit))))) × (Int × (Int × (List (BitVec 8) × ((Int × (Int × (Int × Unit))) × Unit))))) × ((Int × (Int × (Int × Unit))) × Unit))))))) × (List (Int × (Int × (List (BitVec 8) × Unit))) × Unit)) × Int)) (R := (((List (Int × (Int × (List (BitVec 8) × (Int × (List (BitVec 8) × (((Int × (BitVec 64 × (Int × (Int × (Int × Unit))))) × (Int × (Int × (List (BitVec 8) × ((Int × (Int × (Int × Unit))) × Unit))))) × ((Int × (Int × (Int × Unit))) × Unit))))))) × (List (Int × (Int × (List (BitVec 8) × Unit))) × Unit)) × (List (Int × (Int × (List (BitVec 8) × (Int × (List (BitVec 8) × (((Int × (BitVec 64 × (Int × (Int × (Int × Unit))))) × (Int × (Int × (List (BitVec 8) × ((Int × (Int × (Int × Unit))) × Unit))))) × ((Int × (Int × (Int × Unit))) × Unit))))))) × (List (Int × (Int × (List (BitVec 8) × Unit))) × Unit))) ⊕ (List (Int × (Int × (List (BitVec 8) × (Int × (List (BitVec 8) × (((Int × (BitVec 64 × (Int × (Int × (Int × Unit))))) × (Int × (Int × (List (BitVec 8) × ((Int × (Int × (Int × Unit))) × Unit))))) × ((Int × (Int × (Int × Unit))) × Unit))))))) × (List (Int × (Int × (List (BitVec 8) × Unit))) × Unit)))) ((ix j.2.1.2.1 j.2.2.2.2).bind fun x6 =>
        (bif !decide (x6.1 = 6) then
            some (!decide (x6.1 = 7))
          else
            some false : Option Bool).bind fun b7 =>
        (bif b7 then
            some true
          else
            (reticuleref01_Has (j.1, x6.2.1)).bind fun r8 =>
            some (!r8) : Option Bool).bind fun b9 =>
        bif b9 then
          (chk (decide (j.2.2.2.1.2.1.length + ([x6] : List (Int × (Int × (List (BitVec 8) × Unit)))).length ≤ lim))).bind fun _ =>
          some (Sum.inl (j.1, j.2.1, j.2.2.1, (j.2.2.2.1.1, j.2.2.2.1.2.1 ++ ([x6] : List (Int × (Int × (List (BitVec 8) × Unit)))), j.2.2.2.1.2.2), j.2.2.2.2))
        else
          some (Sum.inl (j.1, j.2.1, j.2.2.1, j.2.2.2.1, j.2.2.2.2))) fun j10 =>
      reticuleref24_Drop_L1 n (j10.1, j10.2.1, j10.2.2.1, j10.2.2.2.1, w64 (j10.2.2.2.2 + 1))
    else
      some (Sum.inl (j.2.2.1, j.2.2.2.1))
noncomputable def reticuleref24_Drop (x : (List (Int × (Int × (List (BitVec 8) × (Int × (List (BitVec 8) × (((Int × (BitVec 64 × (Int × (Int × (Int × Unit))))) × (Int × (Int × (List (BitVec 8) × ((Int × (Int × (Int × Unit))) × Unit))))) × ((Int × (Int × (Int × Unit))) × Unit))))))) × (List (Int × (Int × (List (BitVec 8) × Unit))) × Unit)) × (List Int)) : Option (List (Int × (Int × (List (BitVec 8) × (Int × (List (BitVec 8) × (((Int × (BitVec 64 × (Int × (Int × (Int × Unit))))) × (Int × (Int × (List (BitVec 8) × ((Int × (Int × (Int × Unit))) × Unit))))) × ((Int × (Int × (Int × Unit))) × Unit))))))) × (List (Int × (Int × (List (BitVec 8) × Unit))) × Unit)) :=
  jn (A := ((List Int) × (List (Int × (Int × (List (BitVec 8) × (Int × (List (BitVec 8) × (((Int × (BitVec 64 × (Int × (Int × (Int × Unit))))) × (Int × (Int × (List (BitVec 8) × ((Int × (Int × (Int × Unit))) × Unit))))) × ((Int × (Int × (Int × Unit))) × Unit))))))) × (List (Int × (Int × (List (BitVec 8) × Unit))) × Unit)) × (List (Int × (Int × (List (BitVec 8) × (Int × (List (BitVec 8) × (((Int × (BitVec 64 × (Int × (Int × (Int × Unit))))) × (Int × (Int × (List (BitVec 8) × ((Int × (Int × (Int × Unit))) × Unit))))) × ((Int × (Int × (Int × Unit))) × Unit))))))) × (List (Int × (Int × (List (BitVec 8) × Unit))) × Unit)) × (List (Int × (Int × (List (BitVec 8) × (Int × (List (BitVec 8) × (((Int × (BitVec 64 × (Int × (Int × (Int × Unit))))) × (Int × (Int × (List (BitVec 8) × ((Int × (Int × (Int × Unit))) × Unit))))) × ((Int × (Int × (Int × Unit))) × Unit))))))) × (List (Int × (Int × (List (BitVec 8) × Unit))) × Unit)))) (R := (List (Int × (Int × (List (BitVec 8) × (Int × (List (BitVec 8) × (((Int × (BitVec 64 × (Int × (Int × (Int × Unit))))) × (Int × (Int × (List (BitVec 8) × ((Int × (Int × (Int × Unit))) × Unit))))) × ((Int × (Int × (Int × Unit))) × Unit))))))) × (List (Int × (Int × (List (BitVec 8) × Unit))) × Unit))) (reticuleref24_Drop_L0 Big (x.2, x.1, (([] : List (Int × (Int × (List (BitVec 8) × (Int × (List (BitVec 8) × (((Int × (BitVec 64 × (Int × (Int × (Int × Unit))))) × (Int × (Int × (List (BitVec 8) × ((Int × (Int × (Int × Unit))) × Unit))))) × ((Int × (Int × (Int × Unit))) × Unit)))))))), ([] : List (Int × (Int × (List (BitVec 8) × Unit)))), ()), (([] : List (Int × (Int × (List (BitVec 8) × (Int × (List (BitVec 8) × (((Int × (BitVec 64 × (Int × (Int × (Int × Unit))))) × (Int × (Int × (List (BitVec 8) × ((Int × (Int × (Int × Unit))) × Unit))))) × ((Int × (Int × (Int × Unit))) × Unit)))))))), ([] : List (Int × (Int × (List (BitVec 8) × Unit)))), ()), 0)) fun q5 =>
  jn (A := ((List (Int × (Int × (List (BitVec 8) × (Int × (List (BitVec 8) × (((Int × (BitVec 64 × (Int × (Int × (Int × Unit))))) × (Int × (Int × (List (BitVec 8) × ((Int × (Int × (Int × Unit))) × Unit))))) × ((Int × (Int × (Int × Unit))) × Unit))))))) × (List (Int × (Int × (List (BitVec 8) × Unit))) × Unit)) × (List (Int × (Int × (List (BitVec 8) × (Int × (List (BitVec 8) × (((Int × (BitVec 64 × (Int × (Int × (Int × Unit))))) × (Int × (Int × (List (BitVec 8) × ((Int × (Int × (Int × Unit))) × Unit))))) × ((Int × (Int × (Int × Unit))) × Unit))))))) × (List (Int × (Int × (List (BitVec 8) × Unit))) × Unit)))) (R := (List (Int × (Int × (List (BitVec 8) × (Int × (List (BitVec 8) × (((Int × (BitVec 64 × (Int × (Int × (Int × Unit))))) × (Int × (Int × (List (BitVec 8) × ((Int × (Int × (Int × Unit))) × Unit))))) × ((Int × (Int × (Int × Unit))) × Unit))))))) × (List (Int × (Int × (List (BitVec 8) × Unit))) × Unit))) (reticuleref24_Drop_L1 Big (q5.1, q5.2.1, q5.2.2.1, q5.2.2.2, 0)) fun q11 =>
  some q11.2
/-- reticule/reticuleref12.There -/
noncomputable def reticuleref12_There (x : (List (((List (List (BitVec 8)) × (List (Int × (List (BitVec 8) × Unit)) × Unit)) × (Bool × (Bool × (Bool × Unit)))) × (Bool × (List (Int × (Int × (Int × Unit))) × ((Int × (Int × (Int × Unit))) × Unit))))) × Int) : Option Bool :=
  (bif decide (0 ≤ x.2) then
      some (decide (x.2 < (x.1.length : Int)))
    else
      some false : Option Bool).bind fun b1 =>
  some b1
/-- reticule/reticuleref24.meant -/
noncomputable def reticuleref24_meant (x : (List (Int × (Int × (List (BitVec 8) × (Int × (List (BitVec 8) × (((Int × (BitVec 64 × (Int × (Int × (Int × Unit))))) × (Int × (Int × (List (BitVec 8) × ((Int × (Int × (Int × Unit))) × Unit))))) × ((Int × (Int × (Int × Unit))) × Unit))))))) × (List (Int × (Int × (List (BitVec 8) × Unit))) × Unit)) × (Int × (Int × (Int × (Int × Unit))))) : Option Bool :=
  (reticuleref23_Find (x.1.1, x.2.2.2.1)).bind fun r1 =>
  (bif decide (0 ≤ r1) then
      (ix x.1.1 r1).bind fun x2 =>
      some (decide (x2.2.1 = x.2.2.2.2.1))
    else
      some false : Option Bool).bind fun b3 =>
  some b3
/-- reticule/reticuleref24.of -/
noncomputable def reticuleref24_of_L0 : Nat → ((List (Int × (Int × (List (BitVec 8) × (Int × (List (BitVec 8) × (((Int × (BitVec 64 × (Int × (Int × (Int × Unit))))) × (Int × (Int × (List (BitVec 8) × ((Int × (Int × (Int × Unit))) × Unit))))) × ((Int × (Int × (Int × Unit))) × Unit)))))))) × Int × (List Int) × Int) → Option ((List Int) ⊕ (List Int))
  | 0, _ => none
  | n + 1, j =>
  bif decide (j.2.2.2 < (j.1.length : Int)) then
      jn (A := ((List (Int × (Int × (List (BitVec 8) × (Int × (List (BitVec 8) × (((Int × (BitVec 64 × (Int × (Int × (Int × Unit))))) × (Int × (Int × (List (BitVec 8) × ((Int × (Int × (Int × Unit))) × Unit))))) × ((Int × (Int × (Int × Unit))) × Unit)))))))) × Int × (List Int) × Int)) (R := ((List Int) ⊕ (List Int))) ((ix j.1 j.2.2.2).bind fun x1 =>
        bif decide (x1.2.1 = j.2.1) then
          (ix j.1 j.2.2.2).bind fun x2 =>
          (chk (decide (j.2.2.1.length + ([x2.1] : List Int).length ≤ lim))).bind fun _ =>
          some (Sum.inl (j.1, j.2.1, j.2.2.1 ++ ([x2.1] : List Int), j.2.2.2))
        else
          some (Sum.inl (j.1, j.2.1, j.2.2.1, j.2.2.2))) fun j3 =>
      reticuleref24_of_L0 n (j3.1, j3.2.1, j3.2.2.1, w64 (j3.2.2.2 + 1))
    else
      some (Sum.inl j.2.2.1)
noncomputable def reticuleref24_of (x : (List (Int × (Int × (List (BitVec 8) × (Int × (List (BitVec 8) × (((Int × (BitVec 64 × (Int × (Int × (Int × Unit))))) × (Int × (Int × (List (BitVec 8) × ((Int × (Int × (Int × Unit))) × Unit))))) × ((Int × (Int × (Int × Unit))) × Unit)))))))) × Int) : Option (List Int) :=
  jn (A := (List Int)) (R := (List Int)) (reticuleref24_of_L0 Big (x.1, x.2, ([] : List Int), 0)) fun q4 =>
  some q4
/-- reticule/reticuleref04.Has -/
noncomputable def reticuleref04_Has_L0 : Nat → ((List (Int × (Int × (Int × Unit)))) × (Int × (Int × (Int × Unit))) × Int) → Option (Unit ⊕ Bool)
  | 0, _ => none
  | n + 1, j =>
  bif decide (j.2.2 < (j.1.length : Int)) then
      (ix j.1 j.2.2).bind fun x1 =>
      bif (decide (x1.1 = j.2.1.1)) && ((decide (x1.2.1 = j.2.1.2.1)) && ((decide (x1.2.2.1 = j.2.1.2.2.1)) && true)) then
        some (Sum.inr true)
      else
        reticuleref04_Has_L0 n (j.1, j.2.1, w64 (j.2.2 + 1))
    else
      some (Sum.inl ())
noncomputable def reticuleref04_Has (x : (List (Int × (Int × (Int × Unit)))) × (Int × (Int × (Int × Unit)))) : Option Bool :=
  jn (A := Unit) (R := Bool) (reticuleref04_Has_L0 Big (x.1, x.2, 0)) fun q2 =>
  some false
/-- reticule/reticuleref04.Add -/
noncomputable def reticuleref04_Add (x : (List (Int × (Int × (Int × Unit)))) × (Int × (Int × (Int × Unit)))) : Option (List (Int × (Int × (Int × Unit)))) :=
  (chk (decide (([] : List (Int × (Int × (Int × Unit)))).length + x.1.length ≤ lim))).bind fun _ =>
  (reticuleref04_Has (x.1, x.2)).bind fun r1 =>
  bif r1 then
    some (([] : List (Int × (Int × (Int × Unit)))) ++ x.1)
  else
    (reticuleref04_Of (6, 41, 0)).bind fun r2 =>
    bif (decide (x.2.1 = r2.1)) && ((decide (x.2.2.1 = r2.2.1)) && ((decide (x.2.2.2.1 = r2.2.2.1)) && true)) then
      some ([x.2] : List (Int × (Int × (Int × Unit))))
    else
      bif decide (4 ≤ (x.1.length : Int)) then
        some (([] : List (Int × (Int × (Int × Unit)))) ++ x.1)
      else
        (chk (decide ((([] : List (Int × (Int × (Int × Unit)))) ++ x.1).length + ([x.2] : List (Int × (Int × (Int × Unit)))).length ≤ lim))).bind fun _ =>
        some ((([] : List (Int × (Int × (Int × Unit)))) ++ x.1) ++ ([x.2] : List (Int × (Int × (Int × Unit)))))
/-- reticule/reticuleref12.Attend -/
noncomputable def reticuleref12_Attend_L0 : Nat → (Int × (Int × (Int × (Int × Unit))) × (List (((List (List (BitVec 8)) × (List (Int × (List (BitVec 8) × Unit)) × Unit)) × (Bool × (Bool × (Bool × Unit)))) × (Bool × (List (Int × (Int × (Int × Unit))) × ((Int × (Int × (Int × Unit))) × Unit))))) × Int) → Option ((List (((List (List (BitVec 8)) × (List (Int × (List (BitVec 8) × Unit)) × Unit)) × (Bool × (Bool × (Bool × Unit)))) × (Bool × (List (Int × (Int × (Int × Unit))) × ((Int × (Int × (Int × Unit))) × Unit))))) ⊕ (List (((List (List (BitVec 8)) × (List (Int × (List (BitVec 8) × Unit)) × Unit)) × (Bool × (Bool × (Bool × Unit)))) × (Bool × (List (Int × (Int × (Int × Unit))) × ((Int × (Int × (Int × Unit))) × Unit))))))
  | 0, _ => none
  | n + 1, j =>
  bif decide (j.2.2.2 < (j.2.2.1.length : Int)) then
      jn (A := (Int × (Int × (Int × (Int × Unit))) × (List (((List (List (BitVec 8)) × (List (Int × (List (BitVec 8) × Unit)) × Unit)) × (Bool × (Bool × (Bool × Unit)))) × (Bool × (List (Int × (Int × (Int × Unit))) × ((Int × (Int × (Int × Unit))) × Unit))))) × Int)) (R := ((List (((List (List (BitVec 8)) × (List (Int × (List (BitVec 8) × Unit)) × Unit)) × (Bool × (Bool × (Bool × Unit)))) × (Bool × (List (Int × (Int × (Int × Unit))) × ((Int × (Int × (Int × Unit))) × Unit))))) ⊕ (List (((List (List (BitVec 8)) × (List (Int × (List (BitVec 8) × Unit)) × Unit)) × (Bool × (Bool × (Bool × Unit)))) × (Bool × (List (Int × (Int × (Int × Unit))) × ((Int × (Int × (Int × Unit))) × Unit))))))) ((bif decide (j.2.2.2 = j.1) then
            some true
          else
            some (decide (j.1 = (-1))) : Option Bool).bind fun b2 =>
        bif b2 then
          (chk (inLen j.2.2.2 j.2.2.1.length)).bind fun _ =>
          ((j.2.2.1[(j.2.2.2 : Int).toNat]?).bind fun y3 =>
            some y3.2.2.1).bind fun x4 =>
          (reticuleref04_Add (x4, j.2.1)).bind fun r5 =>
          (chk (inLen j.2.2.2 j.2.2.1.length)).bind fun _ =>
          ((j.2.2.1[(j.2.2.2 : Int).toNat]?).bind fun z6 =>
            some (j.2.2.1.set (j.2.2.2 : Int).toNat (z6.1, z6.2.1, r5, z6.2.2.2))).bind fun x7 =>
          some (Sum.inl (j.1, j.2.1, x7, j.2.2.2))
        else
          some (Sum.inl (j.1, j.2.1, j.2.2.1, j.2.2.2))) fun j8 =>
      reticuleref12_Attend_L0 n (j8.1, j8.2.1, j8.2.2.1, w64 (j8.2.2.2 + 1))
    else
      some (Sum.inl j.2.2.1)
noncomputable def reticuleref12_Attend (x : (List (((List (List (BitVec 8)) × (List (Int × (List (BitVec 8) × Unit)) × Unit)) × (Bool × (Bool × (Bool × Unit)))) × (Bool × (List (Int × (Int × (Int × Unit))) × ((Int × (Int × (Int × Unit))) × Unit))))) × Int × (Int × (Int × (Int × Unit)))) : Option (List (((List (List (BitVec 8)) × (List (Int × (List (BitVec 8) × Unit)) × Unit)) × (Bool × (Bool × (Bool × Unit)))) × (Bool × (List (Int × (Int × (Int × Unit))) × ((Int × (Int × (Int × Unit))) × Unit))))) :=
  (reticuleref12_Copy x.1).bind fun r1 =>
  jn (A := (List (((List (List (BitVec 8)) × (List (Int × (List (BitVec 8) × Unit)) × Unit)) × (Bool × (Bool × (Bool × Unit)))) × (Bool × (List (Int × (Int × (Int × Unit))) × ((Int × (Int × (Int × Unit))) × Unit)))))) (R := (List (((List (List (BitVec 8)) × (List (Int × (List (BitVec 8) × Unit)) × Unit)) × (Bool × (Bool × (Bool × Unit)))) × (Bool × (List (Int × (Int × (Int × Unit))) × ((Int × (Int × (Int × Unit))) × Unit)))))) (reticuleref12_Attend_L0 Big (x.2.1, x.2.2, r1, 0)) fun q9 =>
  some q9
/-- reticule/reticuleref24.Do -/
noncomputable def reticuleref24_Do (x : (List (Int × (Int × (List (BitVec 8) × (Int × (List (BitVec 8) × (((Int × (BitVec 64 × (Int × (Int × (Int × Unit))))) × (Int × (Int × (List (BitVec 8) × ((Int × (Int × (Int × Unit))) × Unit))))) × ((Int × (Int × (Int × Unit))) × Unit))))))) × (List (Int × (Int × (List (BitVec 8) × Unit))) × Unit)) × (List (((List (List (BitVec 8)) × (List (Int × (List (BitVec 8) × Unit)) × Unit)) × (Bool × (Bool × (Bool × Unit)))) × (Bool × (List (Int × (Int × (Int × Unit))) × ((Int × (Int × (Int × Unit))) × Unit))))) × (Int × (Int × (Int × (Int × Unit))))) : Option ((List (Int × (Int × (List (BitVec 8) × (Int × (List (BitVec 8) × (((Int × (BitVec 64 × (Int × (Int × (Int × Unit))))) × (Int × (Int × (List (BitVec 8) × ((Int × (Int × (Int × Unit))) × Unit))))) × ((Int × (Int × (Int × Unit))) × Unit))))))) × (List (Int × (Int × (List (BitVec 8) × Unit))) × Unit)) × (List (((List (List (BitVec 8)) × (List (Int × (List (BitVec 8) × Unit)) × Unit)) × (Bool × (Bool × (Bool × Unit)))) × (Bool × (List (Int × (Int × (Int × Unit))) × ((Int × (Int × (Int × Unit))) × Unit))))) × Int) :=
  (reticuleref23_Find (x.1.1, x.2.2.1)).bind fun r1 =>
  bif decide (0 ≤ r1) then
    (reticuleref23_Tags x.1.1).bind fun r2 =>
    (reticuleref24_Drop (x.1, r2)).bind fun r3 =>
    some (r3, x.2.1, 10)
  else
    (bif !decide (x.2.2.2.1 = 1) then
        some (!decide (x.2.2.2.1 = 2))
      else
        some false : Option Bool).bind fun b4 =>
    (bif b4 then
        some (!decide (x.2.2.2.1 = 8))
      else
        some false : Option Bool).bind fun b5 =>
    (bif b5 then
        some (!decide (x.2.2.2.1 = 16))
      else
        some false : Option Bool).bind fun b6 =>
    (bif b6 then
        some (!decide (x.2.2.2.1 = 128))
      else
        some false : Option Bool).bind fun b7 =>
    bif b7 then
      some (x.1, x.2.1, 4)
    else
      (bif !decide (x.2.2.2.1 = 16) then
          (reticuleref12_There (x.2.1, x.2.2.2.2.2.1)).bind fun r8 =>
          some (!r8)
        else
          some false : Option Bool).bind fun b9 =>
      bif b9 then
        some (x.1, x.2.1, 9)
      else
        bif decide (x.2.2.2.1 = 1) then
          (reticuleref24_meant (x.1, x.2.2)).bind fun r10 =>
          bif r10 then
            (reticuleref24_Drop (x.1, ([x.2.2.2.2.1] : List Int))).bind fun r11 =>
            some (r11, x.2.1, 0)
          else
            some (x.1, x.2.1, 0)
        else
          bif decide (x.2.2.2.1 = 2) then
            (reticuleref24_of (x.1.1, x.2.2.2.2.2.1)).bind fun r12 =>
            (reticuleref24_Drop (x.1, r12)).bind fun r13 =>
            some (r13, x.2.1, 0)
          else
            bif decide (x.2.2.2.1 = 8) then
              (reticuleref24_of (x.1.1, x.2.2.2.2.2.1)).bind fun r14 =>
              (reticuleref24_Drop (x.1, r14)).bind fun r15 =>
              (reticuleref04_Of (6, 41, 3)).bind fun r16 =>
              (reticuleref12_Attend (x.2.1, x.2.2.2.2.2.1, r16)).bind fun r17 =>
              some (r15, r17, 0)
            else
              bif decide (x.2.2.2.1 = 16) then
                (reticuleref04_Of (6, 41, 7)).bind fun r18 =>
                (reticuleref12_Attend (x.2.1, (-1), r18)).bind fun r19 =>
                some ((([] : List (Int × (Int × (List (BitVec 8) × (Int × (List (BitVec 8) × (((Int × (BitVec 64 × (Int × (Int × (Int × Unit))))) × (Int × (Int × (List (BitVec 8) × ((Int × (Int × (Int × Unit))) × Unit))))) × ((Int × (Int × (Int × Unit))) × Unit)))))))), ([] : List (Int × (Int × (List (BitVec 8) × Unit)))), ()), r19, 0)
              else
                (reticuleref24_meant (x.1, x.2.2)).bind fun r20 =>
                bif r20 then
                  some (x.1, x.2.1, 8)
                else
                  some (x.1, x.2.1, 0)
/-- reticule/reticuleref10.Same -/
noncomputable def reticuleref10_Same (x : ((Int × (BitVec 64 × (Int × (Int × (Int × Unit))))) × (Int × (Int × (List (BitVec 8) × ((Int × (Int × (Int × Unit))) × Unit))))) × ((Int × (BitVec 64 × (Int × (Int × (Int × Unit))))) × (Int × (Int × (List (BitVec 8) × ((Int × (Int × (Int × Unit))) × Unit)))))) : Option Bool :=
  (bif (decide (x.1.1.1 = x.2.1.1)) && ((decide (x.1.1.2.1 = x.2.1.2.1)) && ((decide (x.1.1.2.2.1 = x.2.1.2.2.1)) && ((decide (x.1.1.2.2.2.1 = x.2.1.2.2.2.1)) && ((decide (x.1.1.2.2.2.2.1 = x.2.1.2.2.2.2.1)) && true)))) then
      some (decide (x.1.2.1 = x.2.2.1))
    else
      some false : Option Bool).bind fun b1 =>
  (bif b1 then
      some (decide (x.1.2.2.1 = x.2.2.2.1))
    else
      some false : Option Bool).bind fun b2 =>
  (bif b2 then
      (chk (decide (x.1.2.2.2.1.length ≤ lim))).bind fun _ =>
      (chk (decide (x.2.2.2.2.1.length ≤ lim))).bind fun _ =>
      some (decide (x.1.2.2.2.1 = x.2.2.2.2.1))
    else
      some false : Option Bool).bind fun b3 =>
  (bif b3 then
      some ((decide (x.1.2.2.2.2.1.1 = x.2.2.2.2.2.1.1)) && ((decide (x.1.2.2.2.2.1.2.1 = x.2.2.2.2.2.1.2.1)) && ((decide (x.1.2.2.2.2.1.2.2.1 = x.2.2.2.2.2.1.2.2.1)) && true)))
    else
      some false : Option Bool).bind fun b4 =>
  some b4
/-- reticule/reticuleref23.One -/
noncomputable def reticuleref23_One (x : (Int × (Int × (List (BitVec 8) × (Int × (List (BitVec 8) × (((Int × (BitVec 64 × (Int × (Int × (Int × Unit))))) × (Int × (Int × (List (BitVec 8) × ((Int × (Int × (Int × Unit))) × Unit))))) × ((Int × (Int × (Int × Unit))) × Unit))))))) × (Int × (Int × (List (BitVec 8) × (Int × (List (BitVec 8) × (((Int × (BitVec 64 × (Int × (Int × (Int × Unit))))) × (Int × (Int × (List (BitVec 8) × ((Int × (Int × (Int × Unit))) × Unit))))) × ((Int × (Int × (Int × Unit))) × Unit)))))))) : Option Bool :=
  (bif decide (x.1.1 = x.2.1) then
      some (decide (x.1.2.1 = x.2.2.1))
    else
      some false : Option Bool).bind fun b1 =>
  (bif b1 then
      some (decide (x.1.2.2.1 = x.2.2.2.1))
    else
      some false : Option Bool).bind fun b2 =>
  (bif b2 then
      some (decide (x.1.2.2.2.1 = x.2.2.2.2.1))
    else
      some false : Option Bool).bind fun b3 =>
  (bif b3 then
      (chk (decide (x.1.2.2.2.2.1.length ≤ lim))).bind fun _ =>
      (chk (decide (x.2.2.2.2.2.1.length ≤ lim))).bind fun _ =>
      some (decide (x.1.2.2.2.2.1 = x.2.2.2.2.2.1))
    else
      some false : Option Bool).bind fun b4 =>
  (bif b4 then
      some ((decide (x.1.2.2.2.2.2.2.1.1 = x.2.2.2.2.2.2.2.1.1)) && ((decide (x.1.2.2.2.2.2.2.1.2.1 = x.2.2.2.2.2.2.2.1.2.1)) && ((decide (x.1.2.2.2.2.2.2.1.2.2.1 = x.2.2.2.2.2.2.2.1.2.2.1)) && true)))
    else
      some false : Option Bool).bind fun b5 =>
  (bif b5 then
      (reticuleref10_Same (x.1.2.2.2.2.2.1, x.2.2.2.2.2.2.1)).bind fun r6 =>
      some r6
    else
      some false : Option Bool).bind fun b7 =>
  some b7
/-- reticule/reticuleref23.Same -/
noncomputable def reticuleref23_Same_L0 : Nat → ((List (Int × (Int × (List (BitVec 8) × (Int × (List (BitVec 8) × (((Int × (BitVec 64 × (Int × (Int × (Int × Unit))))) × (Int × (Int × (List (BitVec 8) × ((Int × (Int × (Int × Unit))) × Unit))))) × ((Int × (Int × (Int × Unit))) × Unit)))))))) × (List (Int × (Int × (List (BitVec 8) × (Int × (List (BitVec 8) × (((Int × (BitVec 64 × (Int × (Int × (Int × Unit))))) × (Int × (Int × (List (BitVec 8) × ((Int × (Int × (Int × Unit))) × Unit))))) × ((Int × (Int × (Int × Unit))) × Unit)))))))) × Int) → Option (Unit ⊕ Bool)
  | 0, _ => none
  | n + 1, j =>
  bif decide (j.2.2 < (j.1.length : Int)) then
      (ix j.1 j.2.2).bind fun x1 =>
      (ix j.2.1 j.2.2).bind fun x2 =>
      (reticuleref23_One (x1, x2)).bind fun r3 =>
      bif !r3 then
        some (Sum.inr false)
      else
        reticuleref23_Same_L0 n (j.1, j.2.1, w64 (j.2.2 + 1))
    else
      some (Sum.inl ())
noncomputable def reticuleref23_Same (x : (List (Int × (Int × (List (BitVec 8) × (Int × (List (BitVec 8) × (((Int × (BitVec 64 × (Int × (Int × (Int × Unit))))) × (Int × (Int × (List (BitVec 8) × ((Int × (Int × (Int × Unit))) × Unit))))) × ((Int × (Int × (Int × Unit))) × Unit)))))))) × (List (Int × (Int × (List (BitVec 8) × (Int × (List (BitVec 8) × (((Int × (BitVec 64 × (Int × (Int × (Int × Unit))))) × (Int × (Int × (List (BitVec 8) × ((Int × (Int × (Int × Unit))) × Unit))))) × ((Int × (Int × (Int × Unit))) × Unit))))))))) : Option Bool :=
  bif !decide ((x.1.length : Int) = (x.2.length : Int)) then
    some false
  else
    jn (A := Unit) (R := Bool) (reticuleref23_Same_L0 Big (x.1, x.2, 0)) fun q4 =>
    some true
/-- reticule/reticuleref22.Same -/
noncomputable def reticuleref22_Same (x : (Int × (Int × (List (BitVec 8) × Unit))) × (Int × (Int × (List (BitVec 8) × Unit)))) : Option Bool :=
  (bif decide (x.1.1 = x.2.1) then
      some (decide (x.1.2.1 = x.2.2.1))
    else
      some false : Option Bool).bind fun b1 =>
  (bif b1 then
      (chk (decide (x.1.2.2.1.length ≤ lim))).bind fun _ =>
      (chk (decide (x.2.2.2.1.length ≤ lim))).bind fun _ =>
      some (decide (x.1.2.2.1 = x.2.2.2.1))
    else
      some false : Option Bool).bind fun b2 =>
  some b2
/-- reticule/reticuleref24.Queues -/
noncomputable def reticuleref24_Queues_L0 : Nat → ((List (Int × (Int × (List (BitVec 8) × Unit)))) × (List (Int × (Int × (List (BitVec 8) × Unit)))) × Int) → Option (Unit ⊕ Bool)
  | 0, _ => none
  | n + 1, j =>
  bif decide (j.2.2 < (j.1.length : Int)) then
      (ix j.1 j.2.2).bind fun x1 =>
      (ix j.2.1 j.2.2).bind fun x2 =>
      (reticuleref22_Same (x1, x2)).bind fun r3 =>
      bif !r3 then
        some (Sum.inr false)
      else
        reticuleref24_Queues_L0 n (j.1, j.2.1, w64 (j.2.2 + 1))
    else
      some (Sum.inl ())
noncomputable def reticuleref24_Queues (x : (List (Int × (Int × (List (BitVec 8) × Unit)))) × (List (Int × (Int × (List (BitVec 8) × Unit))))) : Option Bool :=
  bif !decide ((x.1.length : Int) = (x.2.length : Int)) then
    some false
  else
    jn (A := Unit) (R := Bool) (reticuleref24_Queues_L0 Big (x.1, x.2, 0)) fun q4 =>
    some true
/-- reticule/reticuleref24.Same -/
noncomputable def reticuleref24_Same (x : (List (Int × (Int × (List (BitVec 8) × (Int × (List (BitVec 8) × (((Int × (BitVec 64 × (Int × (Int × (Int × Unit))))) × (Int × (Int × (List (BitVec 8) × ((Int × (Int × (Int × Unit))) × Unit))))) × ((Int × (Int × (Int × Unit))) × Unit))))))) × (List (Int × (Int × (List (BitVec 8) × Unit))) × Unit)) × (List (Int × (Int × (List (BitVec 8) × (Int × (List (BitVec 8) × (((Int × (BitVec 64 × (Int × (Int × (Int × Unit))))) × (Int × (Int × (List (BitVec 8) × ((Int × (Int × (Int × Unit))) × Unit))))) × ((Int × (Int × (Int × Unit))) × Unit))))))) × (List (Int × (Int × (List (BitVec 8) × Unit))) × Unit))) : Option Bool :=
  (reticuleref23_Same (x.1.1, x.2.1)).bind fun r1 =>
  (bif r1 then
      (reticuleref24_Queues (x.1.2.1, x.2.2.1)).bind fun r2 =>
      some r2
    else
      some false : Option Bool).bind fun b3 =>
  some b3
/-- reticule/reticuleref02.Same -/
noncomputable def reticuleref02_Same_L0 : Nat → ((List (List (BitVec 8))) × (List (List (BitVec 8))) × Int) → Option (Unit ⊕ Bool)
  | 0, _ => none
  | n + 1, j =>
  bif decide (j.2.2 < (j.1.length : Int)) then
      (ix j.1 j.2.2).bind fun x1 =>
      (ix j.2.1 j.2.2).bind fun x2 =>
      bif !(decide (x1 = x2)) then
        some (Sum.inr false)
      else
        reticuleref02_Same_L0 n (j.1, j.2.1, w64 (j.2.2 + 1))
    else
      some (Sum.inl ())
noncomputable def reticuleref02_Same (x : (List (List (BitVec 8))) × (List (List (BitVec 8)))) : Option Bool :=
  bif !decide ((x.1.length : Int) = (x.2.length : Int)) then
    some false
  else
    jn (A := Unit) (R := Bool) (reticuleref02_Same_L0 Big (x.1, x.2, 0)) fun q3 =>
    some true
/-- reticule/reticuleref03.Same -/
noncomputable def reticuleref03_Same_L0 : Nat → ((List (List (BitVec 8)) × (List (Int × (List (BitVec 8) × Unit)) × Unit)) × (List (List (BitVec 8)) × (List (Int × (List (BitVec 8) × Unit)) × Unit)) × Int) → Option (Unit ⊕ Bool)
  | 0, _ => none
  | n + 1, j =>
  bif decide (j.2.2 < (j.1.2.1.length : Int)) then
      (ix j.1.2.1 j.2.2).bind fun x3 =>
      (ix j.2.1.2.1 j.2.2).bind fun x4 =>
      bif !((decide (x3.1 = x4.1)) && ((decide (x3.2.1 = x4.2.1)) && true)) then
        some (Sum.inr false)
      else
        reticuleref03_Same_L0 n (j.1, j.2.1, w64 (j.2.2 + 1))
    else
      some (Sum.inl ())
noncomputable def reticuleref03_Same (x : (List (List (BitVec 8)) × (List (Int × (List (BitVec 8) × Unit)) × Unit)) × (List (List (BitVec 8)) × (List (Int × (List (BitVec 8) × Unit)) × Unit))) : Option Bool :=
  (reticuleref02_Same (x.1.1, x.2.1)).bind fun r1 =>
  (bif !r1 then
      some true
    else
      some (!decide ((x.1.2.1.length : Int) = (x.2.2.1.length : Int))) : Option Bool).bind fun b2 =>
  bif b2 then
    some false
  else
    jn (A := Unit) (R := Bool) (reticuleref03_Same_L0 Big (x.1, x.2, 0)) fun q5 =>
    some true
/-- reticule/reticuleref05.Same -/
noncomputable def reticuleref05_Same (x : ((List (List (BitVec 8)) × (List (Int × (List (BitVec 8) × Unit)) × Unit)) × (Bool × (Bool × (Bool × Unit)))) × ((List (List (BitVec 8)) × (List (Int × (List (BitVec 8) × Unit)) × Unit)) × (Bool × (Bool × (Bool × Unit))))) : Option Bool :=
  (bif decide (x.1.2.1 = x.2.2.1) then
      some (decide (x.1.2.2.1 = x.2.2.2.1))
    else
      some false : Option Bool).bind fun b1 =>
  (bif b1 then
      some (decide (x.1.2.2.2.1 = x.2.2.2.2.1))
    else
      some false : Option Bool).bind fun b2 =>
  (bif b2 then
      (reticuleref03_Same (x.1.1, x.2.1)).bind fun r3 =>
      some r3
    else
      some false : Option Bool).bind fun b4 =>
  some b4
/-- reticule/reticuleref04.Same -/
noncomputable def reticuleref04_Same_L0 : Nat → ((List (Int × (Int × (Int × Unit)))) × (List (Int × (Int × (Int × Unit)))) × Int) → Option (Unit ⊕ Bool)
  | 0, _ => none
  | n + 1, j =>
  bif decide (j.2.2 < (j.1.length : Int)) then
      (ix j.1 j.2.2).bind fun x1 =>
      (ix j.2.1 j.2.2).bind fun x2 =>
      bif !((decide (x1.1 = x2.1)) && ((decide (x1.2.1 = x2.2.1)) && ((decide (x1.2.2.1 = x2.2.2.1)) && true))) then
        some (Sum.inr false)
      else
        reticuleref04_Same_L0 n (j.1, j.2.1, w64 (j.2.2 + 1))
    else
      some (Sum.inl ())
noncomputable def reticuleref04_Same (x : (List (Int × (Int × (Int × Unit)))) × (List (Int × (Int × (Int × Unit))))) : Option Bool :=
  bif !decide ((x.1.length : Int) = (x.2.length : Int)) then
    some false
  else
    jn (A := Unit) (R := Bool) (reticuleref04_Same_L0 Big (x.1, x.2, 0)) fun q3 =>
    some true
/-- reticule/reticuleref10.Unit -/
noncomputable def reticuleref10_Unit (x : (((List (List (BitVec 8)) × (List (Int × (List (BitVec 8) × Unit)) × Unit)) × (Bool × (Bool × (Bool × Unit)))) × (Bool × (List (Int × (Int × (Int × Unit))) × ((Int × (Int × (Int × Unit))) × Unit)))) × (((List (List (BitVec 8)) × (List (Int × (List (BitVec 8) × Unit)) × Unit)) × (Bool × (Bool × (Bool × Unit)))) × (Bool × (List (Int × (Int × (Int × Unit))) × ((Int × (Int × (Int × Unit))) × Unit))))) : Option Bool :=
  (reticuleref05_Same (x.1.1, x.2.1)).bind fun r1 =>
  (bif r1 then
      some (decide (x.1.2.1 = x.2.2.1))
    else
      some false : Option Bool).bind fun b2 =>
  (bif b2 then
      some ((decide (x.1.2.2.2.1.1 = x.2.2.2.2.1.1)) && ((decide (x.1.2.2.2.1.2.1 = x.2.2.2.2.1.2.1)) && ((decide (x.1.2.2.2.1.2.2.1 = x.2.2.2.2.1.2.2.1)) && true)))
    else
      some false : Option Bool).bind fun b3 =>
  (bif b3 then
      (reticuleref04_Same (x.1.2.2.1, x.2.2.2.1)).bind fun r4 =>
      some r4
    else
      some false : Option Bool).bind fun b5 =>
  some b5
/-- reticule/reticuleref12.Same -/
noncomputable def reticuleref12_Same_L0 : Nat → ((List (((List (List (BitVec 8)) × (List (Int × (List (BitVec 8) × Unit)) × Unit)) × (Bool × (Bool × (Bool × Unit)))) × (Bool × (List (Int × (Int × (Int × Unit))) × ((Int × (Int × (Int × Unit))) × Unit))))) × (List (((List (List (BitVec 8)) × (List (Int × (List (BitVec 8) × Unit)) × Unit)) × (Bool × (Bool × (Bool × Unit)))) × (Bool × (List (Int × (Int × (Int × Unit))) × ((Int × (Int × (Int × Unit))) × Unit))))) × Int) → Option (Unit ⊕ Bool)
  | 0, _ => none
  | n + 1, j =>
  bif decide (j.2.2 < (j.1.length : Int)) then
      (ix j.1 j.2.2).bind fun x1 =>
      (ix j.2.1 j.2.2).bind fun x2 =>
      (reticuleref10_Unit (x1, x2)).bind fun r3 =>
      bif !r3 then
        some (Sum.inr false)
      else
        reticuleref12_Same_L0 n (j.1, j.2.1, w64 (j.2.2 + 1))
    else
      some (Sum.inl ())
noncomputable def reticuleref12_Same (x : (List (((List (List (BitVec 8)) × (List (Int × (List (BitVec 8) × Unit)) × Unit)) × (Bool × (Bool × (Bool × Unit)))) × (Bool × (List (Int × (Int × (Int × Unit))) × ((Int × (Int × (Int × Unit))) × Unit))))) × (List (((List (List (BitVec 8)) × (List (Int × (List (BitVec 8) × Unit)) × Unit)) × (Bool × (Bool × (Bool × Unit)))) × (Bool × (List (Int × (Int × (Int × Unit))) × ((Int × (Int × (Int × Unit))) × Unit)))))) : Option Bool :=
  bif !decide ((x.1.length : Int) = (x.2.length : Int)) then
    some false
  else
    jn (A := Unit) (R := Bool) (reticuleref12_Same_L0 Big (x.1, x.2, 0)) fun q4 =>
    some true
/-- reticule/reticulelaw24.ManageDoes -/
noncomputable def reticulelaw24_ManageDoes (x : (List (Int × (Int × (List (BitVec 8) × (Int × (List (BitVec 8) × (((Int × (BitVec 64 × (Int × (Int × (Int × Unit))))) × (Int × (Int × (List (BitVec 8) × ((Int × (Int × (Int × Unit))) × Unit))))) × ((Int × (Int × (Int × Unit))) × Unit))))))) × (List (Int × (Int × (List (BitVec 8) × Unit))) × Unit)) × (List (((List (List (BitVec 8)) × (List (Int × (List (BitVec 8) × Unit)) × Unit)) × (Bool × (Bool × (Bool × Unit)))) × (Bool × (List (Int × (Int × (Int × Unit))) × ((Int × (Int × (Int × Unit))) × Unit))))) × (Int × (Int × (Int × (Int × Unit))))) : Option Bool :=
  (reticulelaw24_alive ()).bind fun r1 =>
  bif !r1 then
    some false
  else
    (reticuleref24_Great (x.1, x.2.1)).bind fun r2 =>
    bif r2 then
      some true
    else
      (reticuleref24_Copy x.1).bind fun r3 =>
      (reticuleref12_Copy x.2.1).bind fun r4 =>
      (manage_Do (r3, r4, x.2.2)).bind fun r5 =>
      (reticuleref24_Do (x.1, x.2.1, x.2.2)).bind fun r6 =>
      (reticuleref24_Same (r5.1, r6.1)).bind fun r7 =>
      (bif r7 then
          (reticuleref12_Same (r5.2.1, r6.2.1)).bind fun r8 =>
          some r8
        else
          some false : Option Bool).bind fun b9 =>
      (bif b9 then
          some (decide (r5.2.2 = r6.2.2))
        else
          some false : Option Bool).bind fun b10 =>
      (bif b10 then
          (reticuleref24_Same (r3, x.1)).bind fun r11 =>
          some r11
        else
          some false : Option Bool).bind fun b12 =>
      (bif b12 then
          (reticuleref12_Same (r4, x.2.1)).bind fun r13 =>
          some r13
        else
          some false : Option Bool).bind fun b14 =>
      some b14
/-- reticule/reticulelaw24.ManageDrops -/
noncomputable def reticulelaw24_ManageDrops (x : (List (Int × (Int × (List (BitVec 8) × (Int × (List (BitVec 8) × (((Int × (BitVec 64 × (Int × (Int × (Int × Unit))))) × (Int × (Int × (List (BitVec 8) × ((Int × (Int × (Int × Unit))) × Unit))))) × ((Int × (Int × (Int × Unit))) × Unit))))))) × (List (Int × (Int × (List (BitVec 8) × Unit))) × Unit)) × (List Int)) : Option Bool :=
  (reticulelaw24_alive ()).bind fun r1 =>
  bif !r1 then
    some false
  else
    (reticuleref24_Great (x.1, ([] : List (((List (List (BitVec 8)) × (List (Int × (List (BitVec 8) × Unit)) × Unit)) × (Bool × (Bool × (Bool × Unit)))) × (Bool × (List (Int × (Int × (Int × Unit))) × ((Int × (Int × (Int × Unit))) × Unit))))))).bind fun r2 =>
    (bif r2 then
        some true
      else
        some (decide (50 < (x.2.length : Int))) : Option Bool).bind fun b3 =>
    bif b3 then
      some true
    else
      (reticuleref24_Copy x.1).bind fun r4 =>
      (manage_Drop (r4, x.2)).bind fun r5 =>
      (reticuleref24_Drop (x.1, x.2)).bind fun r6 =>
      (reticuleref24_Same (r5, r6)).bind fun r7 =>
      (bif r7 then
          (reticuleref24_Same (r4, x.1)).bind fun r8 =>
          some r8
        else
          some false : Option Bool).bind fun b9 =>
      some b9
/-- reticule/reticuleref03.Right -/
noncomputable def reticuleref03_Right_L0 : Nat → ((List (List (BitVec 8)) × (List (Int × (List (BitVec 8) × Unit)) × Unit)) × Int) → Option (Unit ⊕ Bool)
  | 0, _ => none
  | n + 1, j =>
  bif decide (j.2 < (j.1.2.1.length : Int)) then
      (ix j.1.2.1 j.2).bind fun x2 =>
      (bif decide (x2.1 < 0) then
          some true
        else
          (ix j.1.2.1 j.2).bind fun x3 =>
          some (decide ((j.1.1.length : Int) ≤ x3.1)) : Option Bool).bind fun b4 =>
      bif b4 then
        some (Sum.inr false)
      else
        reticuleref03_Right_L0 n (j.1, w64 (j.2 + 1))
    else
      some (Sum.inl ())
noncomputable def reticuleref03_Right (x : (List (List (BitVec 8)) × (List (Int × (List (BitVec 8) × Unit)) × Unit))) : Option Bool :=
  (bif decide (64 < (x.1.length : Int)) then
      some true
    else
      some (decide (64 < (x.2.1.length : Int))) : Option Bool).bind fun b1 =>
  bif b1 then
    some false
  else
    jn (A := Unit) (R := Bool) (reticuleref03_Right_L0 Big (x, 0)) fun q5 =>
    some true
/-- reticule/reticuleref03.All -/
noncomputable def reticuleref03_All_L0 : Nat → ((List (List (BitVec 8)) × (List (Int × (List (BitVec 8) × Unit)) × Unit)) × (List (List (BitVec 8))) × Int) → Option ((List (List (BitVec 8))) ⊕ (List (List (BitVec 8))))
  | 0, _ => none
  | n + 1, j =>
  bif decide (j.2.2 < (j.1.2.1.length : Int)) then
      (ix j.1.2.1 j.2.2).bind fun x3 =>
      (ix j.1.2.1 j.2.2).bind fun x4 =>
      (chk (inLen x3.1 j.2.1.length)).bind fun _ =>
      reticuleref03_All_L0 n (j.1, j.2.1.set (x3.1 : Int).toNat x4.2.1, w64 (j.2.2 + 1))
    else
      some (Sum.inl j.2.1)
noncomputable def reticuleref03_All (x : (List (List (BitVec 8)) × (List (Int × (List (BitVec 8) × Unit)) × Unit))) : Option (List (List (BitVec 8))) :=
  (reticuleref03_Right x).bind fun r1 =>
  bif !r1 then
    some ([] : List (List (BitVec 8)))
  else
    (reticuleref02_Copy x.1).bind fun r2 =>
    jn (A := (List (List (BitVec 8)))) (R := (List (List (BitVec 8)))) (reticuleref03_All_L0 Big (x, r2, 0)) fun q5 =>
    some q5
/-- reticule/reticuleref23.Right -/
noncomputable def reticuleref23_Right_L0 : Nat → ((List (Int × (Int × (List (BitVec 8) × (Int × (List (BitVec 8) × (((Int × (BitVec 64 × (Int × (Int × (Int × Unit))))) × (Int × (Int × (List (BitVec 8) × ((Int × (Int × (Int × Unit))) × Unit))))) × ((Int × (Int × (Int × Unit))) × Unit)))))))) × Int) → Option (Unit ⊕ Bool)
  | 0, _ => none
  | n + 1, j =>
  bif decide (j.2 < (j.1.length : Int)) then
      (ix j.1 j.2).bind fun x1 =>
      (bif decide (x1.1 < 1) then
          some true
        else
          (ix j.1 j.2).bind fun x2 =>
          some (decide (65535 < x2.1)) : Option Bool).bind fun b3 =>
      (bif b3 then
          some true
        else
          (ix j.1 j.2).bind fun x4 =>
          (reticuleref23_Find (j.1, x4.1)).bind fun r5 =>
          some (!decide (r5 = j.2)) : Option Bool).bind fun b6 =>
      bif b6 then
        some (Sum.inr false)
      else
        reticuleref23_Right_L0 n (j.1, w64 (j.2 + 1))
    else
      some (Sum.inl ())
noncomputable def reticuleref23_Right (x : (List (Int × (Int × (List (BitVec 8) × (Int × (List (BitVec 8) × (((Int × (BitVec 64 × (Int × (Int × (Int × Unit))))) × (Int × (Int × (List (BitVec 8) × ((Int × (Int × (Int × Unit))) × Unit))))) × ((Int × (Int × (Int × Unit))) × Unit))))))))) : Option Bool :=
  bif decide (8 < (x.length : Int)) then
    some false
  else
    jn (A := Unit) (R := Bool) (reticuleref23_Right_L0 Big (x, 0)) fun q7 =>
    some true
/-- reticule/reticuleref23.Sweep -/
noncomputable def reticuleref23_Sweep_L0 : Nat → ((List (Int × (Int × (List (BitVec 8) × (Int × (List (BitVec 8) × (((Int × (BitVec 64 × (Int × (Int × (Int × Unit))))) × (Int × (Int × (List (BitVec 8) × ((Int × (Int × (Int × Unit))) × Unit))))) × ((Int × (Int × (Int × Unit))) × Unit)))))))) × Int × (List (Int × (Int × (List (BitVec 8) × (Int × (List (BitVec 8) × (((Int × (BitVec 64 × (Int × (Int × (Int × Unit))))) × (Int × (Int × (List (BitVec 8) × ((Int × (Int × (Int × Unit))) × Unit))))) × ((Int × (Int × (Int × Unit))) × Unit)))))))) × Int) → Option ((List (Int × (Int × (List (BitVec 8) × (Int × (List (BitVec 8) × (((Int × (BitVec 64 × (Int × (Int × (Int × Unit))))) × (Int × (Int × (List (BitVec 8) × ((Int × (Int × (Int × Unit))) × Unit))))) × ((Int × (Int × (Int × Unit))) × Unit)))))))) ⊕ (List (Int × (Int × (List (BitVec 8) × (Int × (List (BitVec 8) × (((Int × (BitVec 64 × (Int × (Int × (Int × Unit))))) × (Int × (Int × (List (BitVec 8) × ((Int × (Int × (Int × Unit))) × Unit))))) × ((Int × (Int × (Int × Unit))) × Unit)))))))))
  | 0, _ => none
  | n + 1, j =>
  bif decide (j.2.2.2 < (j.1.length : Int)) then
      jn (A := ((List (Int × (Int × (List (BitVec 8) × (Int × (List (BitVec 8) × (((Int × (BitVec 64 × (Int × (Int × (Int × Unit))))) × (Int × (Int × (List (BitVec 8) × ((Int × (Int × (Int × Unit))) × Unit))))) × ((Int × (Int × (Int × Unit))) × Unit)))))))) × Int × (List (Int × (Int × (List (BitVec 8) × (Int × (List (BitVec 8) × (((Int × (BitVec 64 × (Int × (Int × (Int × Unit))))) × (Int × (Int × (List (BitVec 8) × ((Int × (Int × (Int × Unit))) × Unit))))) × ((Int × (Int × (Int × Unit))) × Unit)))))))) × Int)) (R := ((List (Int × (Int × (List (BitVec 8) × (Int × (List (BitVec 8) × (((Int × (BitVec 64 × (Int × (Int × (Int × Unit))))) × (Int × (Int × (List (BitVec 8) × ((Int × (Int × (Int × Unit))) × Unit))))) × ((Int × (Int × (Int × Unit))) × Unit)))))))) ⊕ (List (Int × (Int × (List (BitVec 8) × (Int × (List (BitVec 8) × (((Int × (BitVec 64 × (Int × (Int × (Int × Unit))))) × (Int × (Int × (List (BitVec 8) × ((Int × (Int × (Int × Unit))) × Unit))))) × ((Int × (Int × (Int × Unit))) × Unit)))))))))) ((bif !decide (j.2.1 = (-1)) then
            (ix j.1 j.2.2.2).bind fun x1 =>
            some (!decide (x1.2.1 = j.2.1))
          else
            some false : Option Bool).bind fun b2 =>
        bif b2 then
          (ix j.1 j.2.2.2).bind fun x3 =>
          (chk (decide (j.2.2.1.length + ([x3] : List (Int × (Int × (List (BitVec 8) × (Int × (List (BitVec 8) × (((Int × (BitVec 64 × (Int × (Int × (Int × Unit))))) × (Int × (Int × (List (BitVec 8) × ((Int × (Int × (Int × Unit))) × Unit))))) × ((Int × (Int × (Int × Unit))) × Unit)))))))).length ≤ lim))).bind fun _ =>
          some (Sum.inl (j.1, j.2.1, j.2.2.1 ++ ([x3] : List (Int × (Int × (List (BitVec 8) × (Int × (List (BitVec 8) × (((Int × (BitVec 64 × (Int × (Int × (Int × Unit))))) × (Int × (Int × (List (BitVec 8) × ((Int × (Int × (Int × Unit))) × Unit))))) × ((Int × (Int × (Int × Unit))) × Unit)))))))), j.2.2.2))
        else
          some (Sum.inl (j.1, j.2.1, j.2.2.1, j.2.2.2))) fun j4 =>
      reticuleref23_Sweep_L0 n (j4.1, j4.2.1, j4.2.2.1, w64 (j4.2.2.2 + 1))
    else
      some (Sum.inl j.2.2.1)
noncomputable def reticuleref23_Sweep (x : (List (Int × (Int × (List (BitVec 8) × (Int × (List (BitVec 8) × (((Int × (BitVec 64 × (Int × (Int × (Int × Unit))))) × (Int × (Int × (List (BitVec 8) × ((Int × (Int × (Int × Unit))) × Unit))))) × ((Int × (Int × (Int × Unit))) × Unit)))))))) × Int) : Option (List (Int × (Int × (List (BitVec 8) × (Int × (List (BitVec 8) × (((Int × (BitVec 64 × (Int × (Int × (Int × Unit))))) × (Int × (Int × (List (BitVec 8) × ((Int × (Int × (Int × Unit))) × Unit))))) × ((Int × (Int × (Int × Unit))) × Unit)))))))) :=
  jn (A := (List (Int × (Int × (List (BitVec 8) × (Int × (List (BitVec 8) × (((Int × (BitVec 64 × (Int × (Int × (Int × Unit))))) × (Int × (Int × (List (BitVec 8) × ((Int × (Int × (Int × Unit))) × Unit))))) × ((Int × (Int × (Int × Unit))) × Unit))))))))) (R := (List (Int × (Int × (List (BitVec 8) × (Int × (List (BitVec 8) × (((Int × (BitVec 64 × (Int × (Int × (Int × Unit))))) × (Int × (Int × (List (BitVec 8) × ((Int × (Int × (Int × Unit))) × Unit))))) × ((Int × (Int × (Int × Unit))) × Unit))))))))) (reticuleref23_Sweep_L0 Big (x.1, x.2, ([] : List (Int × (Int × (List (BitVec 8) × (Int × (List (BitVec 8) × (((Int × (BitVec 64 × (Int × (Int × (Int × Unit))))) × (Int × (Int × (List (BitVec 8) × ((Int × (Int × (Int × Unit))) × Unit))))) × ((Int × (Int × (Int × Unit))) × Unit)))))))), 0)) fun q5 =>
  some q5
/-- reticule/reticulelaw24.ManageAlone -/
noncomputable def reticulelaw24_ManageAlone_L0 : Nat → ((List (((List (List (BitVec 8)) × (List (Int × (List (BitVec 8) × Unit)) × Unit)) × (Bool × (Bool × (Bool × Unit)))) × (Bool × (List (Int × (Int × (Int × Unit))) × ((Int × (Int × (Int × Unit))) × Unit))))) × (List (Int × (Int × (List (BitVec 8) × (Int × (List (BitVec 8) × (((Int × (BitVec 64 × (Int × (Int × (Int × Unit))))) × (Int × (Int × (List (BitVec 8) × ((Int × (Int × (Int × Unit))) × Unit))))) × ((Int × (Int × (Int × Unit))) × Unit))))))) × (List (Int × (Int × (List (BitVec 8) × Unit))) × Unit)) × (Int × (Int × (Int × (Int × Unit)))) × (List (Int × (Int × (List (BitVec 8) × (Int × (List (BitVec 8) × (((Int × (BitVec 64 × (Int × (Int × (Int × Unit))))) × (Int × (Int × (List (BitVec 8) × ((Int × (Int × (Int × Unit))) × Unit))))) × ((Int × (Int × (Int × Unit))) × Unit))))))) × (List (Int × (Int × (List (BitVec 8) × Unit))) × Unit)) × (List (((List (List (BitVec 8)) × (List (Int × (List (BitVec 8) × Unit)) × Unit)) × (Bool × (Bool × (Bool × Unit)))) × (Bool × (List (Int × (Int × (Int × Unit))) × ((Int × (Int × (Int × Unit))) × Unit))))) × Int) → Option (((List (Int × (Int × (List (BitVec 8) × (Int × (List (BitVec 8) × (((Int × (BitVec 64 × (Int × (Int × (Int × Unit))))) × (Int × (Int × (List (BitVec 8) × ((Int × (Int × (Int × Unit))) × Unit))))) × ((Int × (Int × (Int × Unit))) × Unit))))))) × (List (Int × (Int × (List (BitVec 8) × Unit))) × Unit)) × (Int × (Int × (Int × (Int × Unit)))) × (List (Int × (Int × (List (BitVec 8) × (Int × (List (BitVec 8) × (((Int × (BitVec 64 × (Int × (Int × (Int × Unit))))) × (Int × (Int × (List (BitVec 8) × ((Int × (Int × (Int × Unit))) × Unit))))) × ((Int × (Int × (Int × Unit))) × Unit))))))) × (List (Int × (Int × (List (BitVec 8) × Unit))) × Unit))) ⊕ Bool)
  | 0, _ => none
  | n + 1, j =>
  bif decide (j.2.2.2.2.2 < (j.1.length : Int)) then
      (ix j.1 j.2.2.2.2.2).bind fun x4 =>
      (ix j.2.2.2.2.1 j.2.2.2.2.2).bind fun x5 =>
      (reticuleref03_Same (x4.1.1, x5.1.1)).bind fun r6 =>
      (bif !r6 then
          some true
        else
          some (!(decide (x4.1.2.1 = x5.1.2.1))) : Option Bool).bind fun b7 =>
      (bif b7 then
          some true
        else
          some (!(decide (x4.1.2.2.1 = x5.1.2.2.1))) : Option Bool).bind fun b8 =>
      (bif b8 then
          some true
        else
          some (!(decide (x4.1.2.2.2.1 = x5.1.2.2.2.1))) : Option Bool).bind fun b9 =>
      (bif b9 then
          some true
        else
          (reticuleref03_All x4.1.1).bind fun r10 =>
          (reticuleref03_All x5.1.1).bind fun r11 =>
          (reticuleref02_Same (r10, r11)).bind fun r12 =>
          some (!r12) : Option Bool).bind fun b13 =>
      bif b13 then
        some (Sum.inr false)
      else
        reticulelaw24_ManageAlone_L0 n (j.1, j.2.1, j.2.2.1, j.2.2.2.1, j.2.2.2.2.1, w64 (j.2.2.2.2.2 + 1))
    else
      some (Sum.inl (j.2.1, j.2.2.1, j.2.2.2.1))
noncomputable def reticulelaw24_ManageAlone (x : (List (Int × (Int × (List (BitVec 8) × (Int × (List (BitVec 8) × (((Int × (BitVec 64 × (Int × (Int × (Int × Unit))))) × (Int × (Int × (List (BitVec 8) × ((Int × (Int × (Int × Unit))) × Unit))))) × ((Int × (Int × (Int × Unit))) × Unit))))))) × (List (Int × (Int × (List (BitVec 8) × Unit))) × Unit)) × (List (((List (List (BitVec 8)) × (List (Int × (List (BitVec 8) × Unit)) × Unit)) × (Bool × (Bool × (Bool × Unit)))) × (Bool × (List (Int × (Int × (Int × Unit))) × ((Int × (Int × (Int × Unit))) × Unit))))) × (Int × (Int × (Int × (Int × Unit))))) : Option Bool :=
  (reticulelaw24_alive ()).bind fun r1 =>
  bif !r1 then
    some false
  else
    (reticuleref24_Great (x.1, x.2.1)).bind fun r2 =>
    bif r2 then
      some true
    else
      (manage_Do (x.1, x.2.1, x.2.2)).bind fun r3 =>
      bif !decide ((r3.2.1.length : Int) = (x.2.1.length : Int)) then
        some false
      else
        jn (A := ((List (Int × (Int × (List (BitVec 8) × (Int × (List (BitVec 8) × (((Int × (BitVec 64 × (Int × (Int × (Int × Unit))))) × (Int × (Int × (List (BitVec 8) × ((Int × (Int × (Int × Unit))) × Unit))))) × ((Int × (Int × (Int × Unit))) × Unit))))))) × (List (Int × (Int × (List (BitVec 8) × Unit))) × Unit)) × (Int × (Int × (Int × (Int × Unit)))) × (List (Int × (Int × (List (BitVec 8) × (Int × (List (BitVec 8) × (((Int × (BitVec 64 × (Int × (Int × (Int × Unit))))) × (Int × (Int × (List (BitVec 8) × ((Int × (Int × (Int × Unit))) × Unit))))) × ((Int × (Int × (Int × Unit))) × Unit))))))) × (List (Int × (Int × (List (BitVec 8) × Unit))) × Unit)))) (R := Bool) (reticulelaw24_ManageAlone_L0 Big (x.2.1, x.1, x.2.2, r3.1, r3.2.1, 0)) fun q14 =>
        (reticuleref23_Right q14.1.1).bind fun r15 =>
        (bif !r15 then
            some true
          else
            (reticuleref23_Find (q14.1.1, q14.2.1.1)).bind fun r16 =>
            some (decide (0 ≤ r16)) : Option Bool).bind fun b17 =>
        (bif b17 then
            some true
          else
            some (decide (q14.2.1.2.1 = 16)) : Option Bool).bind fun b18 =>
        bif b18 then
          some true
        else
          (reticuleref23_Sweep (q14.2.2.1, q14.2.1.2.2.2.1)).bind fun r19 =>
          (reticuleref23_Sweep (q14.1.1, q14.2.1.2.2.2.1)).bind fun r20 =>
          (reticuleref23_Same (r19, r20)).bind fun r21 =>
          some r21
/-- reticule/reticulelaw24.ManageGone -/
noncomputable def reticulelaw24_ManageGone (x : (List (Int × (Int × (List (BitVec 8) × (Int × (List (BitVec 8) × (((Int × (BitVec 64 × (Int × (Int × (Int × Unit))))) × (Int × (Int × (List (BitVec 8) × ((Int × (Int × (Int × Unit))) × Unit))))) × ((Int × (Int × (Int × Unit))) × Unit))))))) × (List (Int × (Int × (List (BitVec 8) × Unit))) × Unit)) × (List (((List (List (BitVec 8)) × (List (Int × (List (BitVec 8) × Unit)) × Unit)) × (Bool × (Bool × (Bool × Unit)))) × (Bool × (List (Int × (Int × (Int × Unit))) × ((Int × (Int × (Int × Unit))) × Unit))))) × (Int × (Int × (Int × (Int × Unit))))) : Option Bool :=
  (reticulelaw24_alive ()).bind fun r1 =>
  bif !r1 then
    some false
  else
    (reticuleref24_Great (x.1, x.2.1)).bind fun r2 =>
    bif r2 then
      some true
    else
      (manage_Do (x.1, x.2.1, x.2.2.1, 16, x.2.2.2.2)).bind fun r3 =>
      (reticuleref23_Find (x.1.1, x.2.2.1)).bind fun r4 =>
      bif decide (0 ≤ r4) then
        (bif decide (r3.2.2 = 10) then
            some (decide ((r3.1.1.length : Int) = 0))
          else
            some false : Option Bool).bind fun b5 =>
        (bif b5 then
            (reticuleref12_Same (r3.2.1, x.2.1)).bind fun r6 =>
            some r6
          else
            some false : Option Bool).bind fun b7 =>
        some b7
      else
        (bif decide (r3.2.2 = 0) then
            some (decide ((r3.1.1.length : Int) = 0))
          else
            some false : Option Bool).bind fun b8 =>
        (bif b8 then
            some (decide ((r3.1.2.1.length : Int) = 0))
          else
            some false : Option Bool).bind fun b9 =>
        (bif b9 then
            (reticuleref04_Of (6, 41, 7)).bind fun r10 =>
            (reticuleref12_Attend (x.2.1, (-1), r10)).bind fun r11 =>
            (reticuleref12_Same (r3.2.1, r11)).bind fun r12 =>
            some r12
          else
            some false : Option Bool).bind fun b13 =>
        some b13
/-- reticule/reticulelaw24.ManageAsks -/
noncomputable def reticulelaw24_ManageAsks (x : (List (Int × (Int × (List (BitVec 8) × (Int × (List (BitVec 8) × (((Int × (BitVec 64 × (Int × (Int × (Int × Unit))))) × (Int × (Int × (List (BitVec 8) × ((Int × (Int × (Int × Unit))) × Unit))))) × ((Int × (Int × (Int × Unit))) × Unit))))))) × (List (Int × (Int × (List (BitVec 8) × Unit))) × Unit)) × (List (((List (List (BitVec 8)) × (List (Int × (List (BitVec 8) × Unit)) × Unit)) × (Bool × (Bool × (Bool × Unit)))) × (Bool × (List (Int × (Int × (Int × Unit))) × ((Int × (Int × (Int × Unit))) × Unit))))) × (Int × (Int × (Int × (Int × Unit))))) : Option Bool :=
  (reticulelaw24_alive ()).bind fun r1 =>
  bif !r1 then
    some false
  else
    (reticuleref24_Great (x.1, x.2.1)).bind fun r2 =>
    (bif r2 then
        some true
      else
        (reticuleref23_Right x.1.1).bind fun r3 =>
        some (!r3) : Option Bool).bind fun b4 =>
    (bif b4 then
        some true
      else
        (reticuleref23_Find (x.1.1, x.2.2.1)).bind fun r5 =>
        some (decide (0 ≤ r5)) : Option Bool).bind fun b6 =>
    (bif b6 then
        some true
      else
        (reticuleref12_There (x.2.1, x.2.2.2.2.2.1)).bind fun r7 =>
        some (!r7) : Option Bool).bind fun b8 =>
    bif b8 then
      some true
    else
      (manage_Do (x.1, x.2.1, x.2.2.1, 128, x.2.2.2.2)).bind fun r9 =>
      (manage_Do (x.1, x.2.1, x.2.2.1, 1, x.2.2.2.2)).bind fun r10 =>
      (manage_Do (r10.1, x.2.1, x.2.2.1, 128, x.2.2.2.2)).bind fun r11 =>
      (reticuleref23_Find (x.1.1, x.2.2.2.2.1)).bind fun r12 =>
      (bif decide (0 ≤ r12) then
          (ix x.1.1 r12).bind fun x13 =>
          some (decide (x13.2.1 = x.2.2.2.2.2.1))
        else
          some false : Option Bool).bind fun b14 =>
      bif !b14 then
        (bif decide (r9.2.2 = 0) then
            some (decide (r10.2.2 = 0))
          else
            some false : Option Bool).bind fun b15 =>
        (bif b15 then
            some (decide (r11.2.2 = 0))
          else
            some false : Option Bool).bind fun b16 =>
        (bif b16 then
            some (decide ((r10.1.1.length : Int) = (x.1.1.length : Int)))
          else
            some false : Option Bool).bind fun b17 =>
        some b17
      else
        (bif decide (r9.2.2 = 8) then
            some (decide (r10.2.2 = 0))
          else
            some false : Option Bool).bind fun b18 =>
        (bif b18 then
            some (decide (r11.2.2 = 0))
          else
            some false : Option Bool).bind fun b19 =>
        (bif b19 then
            some (decide ((r10.1.1.length : Int) = (w64 ((x.1.1.length : Int) - 1))))
          else
            some false : Option Bool).bind fun b20 =>
        some b20
end Go.Proofs.Ytgceolpeegfkkaa
