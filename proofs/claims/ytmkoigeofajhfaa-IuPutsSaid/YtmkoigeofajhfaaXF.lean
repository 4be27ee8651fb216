/- The program's functions as plain ones. Printed by the session's own program. -/
import Derived.Test.YtmkoigeofajhfaaRfH
namespace Go.Proofs.Ytmkoigeofajhfaa
open Go Go.Re
set_option linter.unusedVariables false
set_option linter.unusedSimpArgs false
/-- reticule/number.PutLittle -/
noncomputable def number_PutLittle_L0 : Nat → ((BitVec 64) × (List (BitVec 8)) × Int × Int) → Option ((List (BitVec 8)) ⊕ (List (BitVec 8)))
  | 0, _ => none
  | n + 1, j =>
  bif decide (j.2.2.2 < j.2.2.1) then
      (chk (decide (j.2.1.length + ([j.1.setWidth 8] : List (BitVec 8)).length ≤ lim))).bind fun _ =>
      number_PutLittle_L0 n (j.1 >>> (((8#64).toNat : Int) : Int).toNat, j.2.1 ++ ([j.1.setWidth 8] : List (BitVec 8)), j.2.2.1, w64 (j.2.2.2 + 1))
    else
      some (Sum.inl j.2.1)
noncomputable def number_PutLittle (x : (BitVec 64) × Int) : Option (List (BitVec 8)) :=
  (bif decide (x.2 < 1) then
      some true
    else
      some (decide (8 < x.2)) : Option Bool).bind fun b1 =>
  bif b1 then
    some ([] : List (BitVec 8))
  else
    jn (A := (List (BitVec 8))) (R := (List (BitVec 8))) (number_PutLittle_L0 Big (x.1, ([] : List (BitVec 8)), x.2, 0)) fun q2 =>
    some q2
/-- slices.Reverse[[]byte,byte] -/
noncomputable def slices_Reverse_byte_L0 : Nat → ((List (BitVec 8)) × Int × Int) → Option ((List (BitVec 8)) ⊕ (List (BitVec 8)))
  | 0, _ => none
  | n + 1, j =>
  bif decide (j.2.1 < j.2.2) then
      (chk (inLen j.2.2 j.1.length)).bind fun _ =>
      ((j.1[(j.2.2 : Int).toNat]?).bind fun y1 =>
        some y1).bind fun x2 =>
      (chk (inLen j.2.1 j.1.length)).bind fun _ =>
      ((j.1[(j.2.1 : Int).toNat]?).bind fun y3 =>
        some y3).bind fun x4 =>
      (chk (inLen j.2.1 j.1.length)).bind fun _ =>
      (chk (inLen j.2.2 (j.1.set (j.2.1 : Int).toNat x2).length)).bind fun _ =>
      slices_Reverse_byte_L0 n ((j.1.set (j.2.1 : Int).toNat x2).set (j.2.2 : Int).toNat x4, w64 (j.2.1 + 1), w64 (j.2.2 - 1))
    else
      some (Sum.inl j.1)
noncomputable def slices_Reverse_byte (x : (List (BitVec 8))) : Option (List (BitVec 8)) :=
  jn (A := (List (BitVec 8))) (R := (List (BitVec 8))) (slices_Reverse_byte_L0 Big (x, 0, w64 ((x.length : Int) - 1))) fun q5 =>
  some q5
/-- reticule/number.PutBig -/
noncomputable def number_PutBig (x : (BitVec 64) × Int) : Option (List (BitVec 8)) :=
  (number_PutLittle (x.1, x.2)).bind fun r1 =>
  (slices_Reverse_byte r1).bind fun r2 =>
  some r2
/-- reticule/iu.put -/
noncomputable def iu_put (x : Int) : Option (List (BitVec 8)) :=
  (number_PutBig ((BitVec.ofInt 16 x).setWidth 64, 2)).bind fun r1 =>
  some r1
/-- slices.Grow[[]byte,byte] -/
noncomputable def slices_Grow_byte (x : Unit × Int) : Option (List (BitVec 8)) :=
  bif decide (x.2 < 0) then
    none
  else
    jn (A := (List (BitVec 8))) (R := (List (BitVec 8))) (bif decide (0 < (w64 (x.2 - (w64 ((0 : Int) - (([] : List (BitVec 8)).length : Int)))))) then
        (chk (decide (0 ≤ (0 : Int)) && decide ((0 : Int) ≤ (0 : Int)))).bind fun _ =>
        (chk ((decide (0 ≤ (w64 (x.2 - (w64 ((0 : Int) - (([] : List (BitVec 8)).length : Int)))) : Int)) && decide ((w64 (x.2 - (w64 ((0 : Int) - (([] : List (BitVec 8)).length : Int)))) : Int) ≤ (lim : Int))) && decide ((List.replicate (w64 (x.2 - (w64 ((0 : Int) - (([] : List (BitVec 8)).length : Int)))) : Int).toNat (0#8)).length ≤ lim))).bind fun _ =>
        (chk (decide (0 ≤ ((([] : List (BitVec 8)).length : Int) : Int)) && decide (((([] : List (BitVec 8)).length : Int) : Int) ≤ ((List.replicate (w64 (x.2 - (w64 ((0 : Int) - (([] : List (BitVec 8)).length : Int)))) : Int).toNat (0#8)).length : Int)))).bind fun _ =>
        some (Sum.inl ((List.replicate (w64 (x.2 - (w64 ((0 : Int) - (([] : List (BitVec 8)).length : Int)))) : Int).toNat (0#8)).take ((([] : List (BitVec 8)).length : Int) : Int).toNat))
      else
        some (Sum.inl ([]))) fun j1 =>
    some j1
/-- slices.Concat[[]byte,byte] -/
noncomputable def slices_Concat_byte_L0 : Nat → ((List (List (BitVec 8))) × Int × (List (List (BitVec 8))) × Int × Int) → Option (((List (List (BitVec 8))) × Int) ⊕ (List (BitVec 8)))
  | 0, _ => none
  | n + 1, j =>
  bif decide (j.2.2.2.2 < j.2.2.2.1) then
      (ix j.2.2.1 j.2.2.2.2).bind fun x1 =>
      bif decide ((w64 (j.2.1 + (x1.length : Int))) < 0) then
        none
      else
        slices_Concat_byte_L0 n (j.1, w64 (j.2.1 + (x1.length : Int)), j.2.2.1, j.2.2.2.1, w64 (j.2.2.2.2 + 1))
    else
      some (Sum.inl (j.1, j.2.1))
noncomputable def slices_Concat_byte_L1 : Nat → ((List (BitVec 8)) × (List (List (BitVec 8))) × Int × Int) → Option ((List (BitVec 8)) ⊕ (List (BitVec 8)))
  | 0, _ => none
  | n + 1, j =>
  bif decide (j.2.2.2 < j.2.2.1) then
      (ix j.2.1 j.2.2.2).bind fun x4 =>
      (chk (decide (j.1.length + x4.length ≤ lim))).bind fun _ =>
      slices_Concat_byte_L1 n (j.1 ++ x4, j.2.1, j.2.2.1, w64 (j.2.2.2 + 1))
    else
      some (Sum.inl j.1)
noncomputable def slices_Concat_byte (x : (List (List (BitVec 8)))) : Option (List (BitVec 8)) :=
  jn (A := ((List (List (BitVec 8))) × Int)) (R := (List (BitVec 8))) (slices_Concat_byte_L0 Big (x, 0, x, (x.length : Int), 0)) fun q2 =>
  (slices_Grow_byte ((), q2.2)).bind fun r3 =>
  jn (A := (List (BitVec 8))) (R := (List (BitVec 8))) (slices_Concat_byte_L1 Big (r3, q2.1, (q2.1.length : Int), 0)) fun q5 =>
  some q5
/-- reticule/iu.head -/
noncomputable def iu_head (x : Int × Int) : Option (List (BitVec 8)) :=
  (iu_put x.2).bind fun r1 =>
  (slices_Concat_byte ([([BitVec.ofInt 8 x.1, 0#8] : List (BitVec 8)), r1] : List (List (BitVec 8)))).bind fun r2 =>
  some r2
/-- reticule/iu.place -/
noncomputable def iu_place (x : Int) : Option (List (BitVec 8)) :=
  some ([0#8, BitVec.ofInt 8 x, 0#8, 0#8, 0#8, 0#8, 0#8, 0#8] : List (BitVec 8))
/-- reticule/iu.PutCommand -/
noncomputable def iu_PutCommand (x : (Int × (Int × (List (BitVec 8) × (Int × (List (BitVec 8) × (((Int × (BitVec 64 × (Int × (Int × (Int × Unit))))) × (Int × (Int × (List (BitVec 8) × ((Int × (Int × (Int × Unit))) × Unit))))) × ((Int × (Int × (Int × Unit))) × Unit)))))))) : Option (List (BitVec 8)) :=
  (iu_head (1, x.1)).bind fun r1 =>
  (chk (decide (0 ≤ 4) && decide (4 ≤ 4) && decide (4 ≤ (lim : Int)))).bind fun _ =>
  (iu_place x.2.1).bind fun r2 =>
  (chk (true)).bind fun _ =>
  (slices_Concat_byte ([r1, List.replicate (4 : Int).toNat (0#8), r2, x.2.2.1] : List (List (BitVec 8)))).bind fun r3 =>
  some r3
/-- reticule/iu.is -/
noncomputable def iu_is (x : (List (BitVec 8)) × Int × Int) : Option Bool :=
  (bif decide ((x.1.length : Int) = x.2.2) then
      (ix x.1 0).bind fun x1 =>
      some (decide ((x1.toNat : Int) = x.2.1))
    else
      some false : Option Bool).bind fun b2 =>
  some b2
/-- reticule/number.cut -/
noncomputable def number_cut (x : (List (BitVec 8)) × Int × Int) : Option ((List (BitVec 8)) × Bool) :=
  (bif decide (x.2.2 < 1) then
      some true
    else
      some (decide (8 < x.2.2)) : Option Bool).bind fun b1 =>
  (bif b1 then
      some true
    else
      some (decide (x.2.1 < 0)) : Option Bool).bind fun b2 =>
  (bif b2 then
      some true
    else
      some (decide ((w64 ((x.1.length : Int) - x.2.2)) < x.2.1)) : Option Bool).bind fun b3 =>
  bif b3 then
    some (([] : List (BitVec 8)), false)
  else
    (chk (decide (0 ≤ (x.2.1 : Int)) && decide ((x.2.1 : Int) ≤ (w64 (x.2.1 + x.2.2) : Int)) && decide ((w64 (x.2.1 + x.2.2) : Int) ≤ (x.1.length : Int)))).bind fun _ =>
    some (slc x.1 (x.2.1 : Int) (w64 (x.2.1 + x.2.2) : Int), true)
/-- reticule/number.Big -/
noncomputable def number_Big_L0 : Nat → ((BitVec 64) × Bool × (List (BitVec 8)) × Int × Int) → Option (((BitVec 64) × Bool) ⊕ ((BitVec 64) × Bool))
  | 0, _ => none
  | n + 1, j =>
  bif decide (j.2.2.2.2 < j.2.2.2.1) then
      (ix j.2.2.1 j.2.2.2.2).bind fun x2 =>
      number_Big_L0 n ((j.1 <<< (((8#64).toNat : Int) : Int).toNat) ||| (x2.setWidth 64), j.2.1, j.2.2.1, j.2.2.2.1, w64 (j.2.2.2.2 + 1))
    else
      some (Sum.inl (j.1, j.2.1))
noncomputable def number_Big (x : (List (BitVec 8)) × Int × Int) : Option ((BitVec 64) × Bool) :=
  (number_cut (x.1, x.2.1, x.2.2)).bind fun r1 =>
  jn (A := ((BitVec 64) × Bool)) (R := ((BitVec 64) × Bool)) (number_Big_L0 Big (0#64, r1.2, r1.1, (r1.1.length : Int), 0)) fun q3 =>
  some (q3.1, q3.2)
/-- reticule/iu.two -/
noncomputable def iu_two (x : (List (BitVec 8)) × Int) : Option Int :=
  (number_Big (x.1, x.2, 2)).bind fun r1 =>
  some (w64 (r1.1.toNat : Int))
/-- reticule/iu.Tag -/
noncomputable def iu_Tag (x : (List (BitVec 8))) : Option Int :=
  (iu_two (x, 2)).bind fun r1 =>
  some r1
/-- slices.Equal[[]byte,byte] -/
noncomputable def slices_Equal_byte_L0 : Nat → ((List (BitVec 8)) × (List (BitVec 8)) × Int × Int) → Option (Unit ⊕ Bool)
  | 0, _ => none
  | n + 1, j =>
  bif decide (j.2.2.2 < j.2.2.1) then
      (ix j.1 j.2.2.2).bind fun x1 =>
      (ix j.2.1 j.2.2.2).bind fun x2 =>
      bif !decide (x1 = x2) then
        some (Sum.inr false)
      else
        slices_Equal_byte_L0 n (j.1, j.2.1, j.2.2.1, w64 (j.2.2.2 + 1))
    else
      some (Sum.inl ())
noncomputable def slices_Equal_byte (x : (List (BitVec 8)) × (List (BitVec 8))) : Option Bool :=
  bif !decide ((x.1.length : Int) = (x.2.length : Int)) then
    some false
  else
    jn (A := Unit) (R := Bool) (slices_Equal_byte_L0 Big (x.1, x.2, (x.1.length : Int), 0)) fun q3 =>
    some true
/-- reticule/iu.Lun -/
noncomputable def iu_Lun (x : (List (BitVec 8))) : Option Int :=
  (bif decide ((x.length : Int) = 8) then
      (ix x 1).bind fun x1 =>
      (iu_place (x1.toNat : Int)).bind fun r2 =>
      (slices_Equal_byte (x, r2)).bind fun r3 =>
      some r3
    else
      some false : Option Bool).bind fun b4 =>
  bif b4 then
    (ix x 1).bind fun x5 =>
    some (x5.toNat : Int)
  else
    some 256
/-- reticule/iu.Command -/
noncomputable def iu_Command (x : (List (BitVec 8))) : Option ((Int × (Int × (List (BitVec 8) × (Int × (List (BitVec 8) × (((Int × (BitVec 64 × (Int × (Int × (Int × Unit))))) × (Int × (Int × (List (BitVec 8) × ((Int × (Int × (Int × Unit))) × Unit))))) × ((Int × (Int × (Int × Unit))) × Unit))))))) × Bool) :=
  (iu_is (x, 1, 32)).bind fun r1 =>
  (bif !r1 then
      some true
    else
      (ix x 6).bind fun x2 =>
      some (!decide (x2 = (0#8))) : Option Bool).bind fun b3 =>
  bif b3 then
    some ((0, 0, List.replicate 16 (0#8), 0, ([] : List (BitVec 8)), ((0, 0#64, 0, 0, 0, ()), 0, 0, ([] : List (BitVec 8)), (0, 0, 0, ()), ()), (0, 0, 0, ()), ()), false)
  else
    (iu_Tag x).bind fun r4 =>
    (chk (decide (0 ≤ (8 : Int)) && decide ((8 : Int) ≤ (16 : Int)) && decide ((16 : Int) ≤ (x.length : Int)))).bind fun _ =>
    (iu_Lun (slc x (8 : Int) (16 : Int))).bind fun r5 =>
    (chk (decide (0 ≤ (16 : Int)) && decide ((16 : Int) ≤ (x.length : Int)))).bind fun _ =>
    (chk (decide (16 ≤ (x.drop (16 : Int).toNat).length))).bind fun _ =>
    some ((r4, r5, (x.drop (16 : Int).toNat).take 16, 0, ([] : List (BitVec 8)), ((0, 0#64, 0, 0, 0, ()), 0, 0, ([] : List (BitVec 8)), (0, 0, 0, ()), ()), (0, 0, 0, ()), ()), true)
/-- reticule/iu.PutManage -/
noncomputable def iu_PutManage (x : (Int × (Int × (Int × (Int × Unit))))) : Option (List (BitVec 8)) :=
  (iu_head (5, x.1)).bind fun r1 =>
  (iu_put x.2.2.1).bind fun r2 =>
  (iu_place x.2.2.2.1).bind fun r3 =>
  (slices_Concat_byte ([r1, ([BitVec.ofInt 8 x.2.1, 0#8] : List (BitVec 8)), r2, r3] : List (List (BitVec 8)))).bind fun r4 =>
  some r4
/-- reticule/iu.Manage -/
noncomputable def iu_Manage (x : (List (BitVec 8))) : Option ((Int × (Int × (Int × (Int × Unit)))) × Bool) :=
  (iu_is (x, 5, 16)).bind fun r1 =>
  bif !r1 then
    some ((0, 0, 0, 0, ()), false)
  else
    (iu_Tag x).bind fun r2 =>
    (ix x 4).bind fun x3 =>
    (iu_two (x, 6)).bind fun r4 =>
    (chk (decide (0 ≤ (8 : Int)) && decide ((8 : Int) ≤ (x.length : Int)))).bind fun _ =>
    (iu_Lun (x.drop (8 : Int).toNat)).bind fun r5 =>
    some ((r2, (x3.toNat : Int), r4, r5, ()), true)
/-- reticule/reticuleref04.Of -/
noncomputable def reticuleref04_Of (x : Int × Int × Int) : Option (Int × (Int × (Int × Unit))) :=
  some (x.1, x.2.1, x.2.2, ())
/-- reticule/sense.Good -/
noncomputable def sense_Good (x : (Int × (Int × (Int × Unit)))) : Option Bool :=
  some ((decide (x.1 = 0)) && ((decide (x.2.1 = 0)) && ((decide (x.2.2.1 = 0)) && true)))
/-- reticule/sense.Bytes -/
noncomputable def sense_Bytes (x : (Int × (Int × (Int × Unit)))) : Option (List (BitVec 8)) :=
  (chk (decide (0 ≤ 18) && decide (18 ≤ 18) && decide (18 ≤ (lim : Int)))).bind fun _ =>
  (chk (inLen 0 (List.replicate (18 : Int).toNat (0#8)).length)).bind fun _ =>
  (chk (inLen 2 ((List.replicate (18 : Int).toNat (0#8)).set (0 : Int).toNat (112#8)).length)).bind fun _ =>
  (chk (inLen 7 (((List.replicate (18 : Int).toNat (0#8)).set (0 : Int).toNat (112#8)).set (2 : Int).toNat (BitVec.ofInt 8 x.1)).length)).bind fun _ =>
  (chk (decide (0 ≤ (12 : Int)) && decide ((12 : Int) ≤ (((((List.replicate (18 : Int).toNat (0#8)).set (0 : Int).toNat (112#8)).set (2 : Int).toNat (BitVec.ofInt 8 x.1)).set (7 : Int).toNat (10#8)).length : Int)))).bind fun _ =>
  (number_PutBig ((((BitVec.ofInt 8 x.2.1).setWidth 64) <<< (((8#64).toNat : Int) : Int).toNat) ||| ((BitVec.ofInt 8 x.2.2.1).setWidth 64), 2)).bind fun r1 =>
  some (overAt (12 : Int).toNat ((((List.replicate (18 : Int).toNat (0#8)).set (0 : Int).toNat (112#8)).set (2 : Int).toNat (BitVec.ofInt 8 x.1)).set (7 : Int).toNat (10#8)) r1)
/-- reticule/iu.info -/
noncomputable def iu_info (x : Int × Int × (List (BitVec 8))) : Option (Int × (Int × (List (BitVec 8) × Unit))) :=
  (iu_head (x.1, x.2.1)).bind fun r1 =>
  (slices_Concat_byte ([r1, x.2.2] : List (List (BitVec 8)))).bind fun r2 =>
  some (x.1, x.2.1, r2, ())
/-- reticule/iu.Status -/
noncomputable def iu_Status (x : Int × Int × (Int × (Int × (Int × Unit)))) : Option (Int × (Int × (List (BitVec 8) × Unit))) :=
  jn (A := (Int × Int × (Int × (Int × (List (BitVec 8) × Unit))) × (List (BitVec 8)))) (R := (Int × (Int × (List (BitVec 8) × Unit)))) ((sense_Good x.2.2).bind fun r1 =>
    bif !r1 then
      (sense_Bytes x.2.2).bind fun r2 =>
      some (Sum.inl (x.1, x.2.1, (0, 0, ([] : List (BitVec 8)), ()), r2))
    else
      some (Sum.inl (x.1, x.2.1, (0, 0, ([] : List (BitVec 8)), ()), ([] : List (BitVec 8))))) fun j3 =>
  (iu_put (j3.2.2.2.length : Int)).bind fun r4 =>
  (slices_Concat_byte ([([0#8, 0#8, BitVec.ofInt 8 j3.2.1, 0#8, 0#8, 0#8, 0#8, 0#8, 0#8, 0#8] : List (BitVec 8)), r4, j3.2.2.2] : List (List (BitVec 8)))).bind fun r5 =>
  (iu_info (3, j3.1, r5)).bind fun r6 =>
  some r6
/-- reticule/iu.Ready -/
noncomputable def iu_Ready (x : Int × Int) : Option (Int × (Int × (List (BitVec 8) × Unit))) :=
  bif decide (x.2 = 1) then
    (iu_info (6, x.1, ([] : List (BitVec 8)))).bind fun r1 =>
    some r1
  else
    (iu_info (7, x.1, ([] : List (BitVec 8)))).bind fun r2 =>
    some r2
/-- reticule/reticuleref22.Same -/
noncomputable def reticuleref22_Same (x : (Int × (Int × (List (BitVec 8) × Unit))) × (Int × (Int × (List (BitVec 8) × Unit)))) : Option Bool :=
  (bif decide (x.1.1 = x.2.1) then
      some (decide (x.1.2.1 = x.2.2.1))
    else
      some false : Option Bool).bind fun b1 =>
  (bif b1 then
      (chk (decide (x.1.2.2.1.length ≤ lim))).bind fun _ =>
      (chk (decide (x.2.2.2.1.length ≤ lim))).bind fun _ =>
      some (decide (x.1.2.2.1 = x.2.2.2.1))
    else
      some false : Option Bool).bind fun b2 =>
  some b2
/-- reticule/iu.Response -/
noncomputable def iu_Response (x : Int × Int) : Option (Int × (Int × (List (BitVec 8) × Unit))) :=
  (iu_info (4, x.1, ([0#8, 0#8, 0#8, BitVec.ofInt 8 x.2] : List (BitVec 8)))).bind fun r1 =>
  some r1
/-- reticule/reticulelaw22.alive -/
noncomputable def reticulelaw22_alive (x : Unit) : Option Bool := some true
/-- reticule/reticuleref22.Tag -/
noncomputable def reticuleref22_Tag (x : (List (BitVec 8))) : Option Int :=
  bif decide ((x.length : Int) < 4) then
    some 0
  else
    (ix x 2).bind fun x1 =>
    (ix x 3).bind fun x2 =>
    some (w64 ((w64 ((256 : Int) * (x1.toNat : Int))) + (x2.toNat : Int)))
/-- reticule/reticuleref22.Lun -/
noncomputable def reticuleref22_Lun_L0 : Nat → ((List (BitVec 8)) × Int) → Option ((List (BitVec 8)) ⊕ Int)
  | 0, _ => none
  | n + 1, j =>
  bif decide (j.2 < 8) then
      (bif !decide (j.2 = 1) then
          (ix j.1 j.2).bind fun x1 =>
          some (!decide (x1 = (0#8)))
        else
          some false : Option Bool).bind fun b2 =>
      bif b2 then
        some (Sum.inr 256)
      else
        reticuleref22_Lun_L0 n (j.1, w64 (j.2 + 1))
    else
      some (Sum.inl j.1)
noncomputable def reticuleref22_Lun (x : (List (BitVec 8))) : Option Int :=
  bif !decide ((x.length : Int) = 8) then
    some 256
  else
    jn (A := (List (BitVec 8))) (R := Int) (reticuleref22_Lun_L0 Big (x, 0)) fun q3 =>
    (ix q3 1).bind fun x4 =>
    some (x4.toNat : Int)
/-- reticule/reticuleref22.Command -/
noncomputable def reticuleref22_Command_L0 : Nat → ((List (BitVec 8)) × (Int × (Int × (List (BitVec 8) × (Int × (List (BitVec 8) × (((Int × (BitVec 64 × (Int × (Int × (Int × Unit))))) × (Int × (Int × (List (BitVec 8) × ((Int × (Int × (Int × Unit))) × Unit))))) × ((Int × (Int × (Int × Unit))) × Unit))))))) × (Int × (Int × (List (BitVec 8) × (Int × (List (BitVec 8) × (((Int × (BitVec 64 × (Int × (Int × (Int × Unit))))) × (Int × (Int × (List (BitVec 8) × ((Int × (Int × (Int × Unit))) × Unit))))) × ((Int × (Int × (Int × Unit))) × Unit))))))) × Int) → Option (((Int × (Int × (List (BitVec 8) × (Int × (List (BitVec 8) × (((Int × (BitVec 64 × (Int × (Int × (Int × Unit))))) × (Int × (Int × (List (BitVec 8) × ((Int × (Int × (Int × Unit))) × Unit))))) × ((Int × (Int × (Int × Unit))) × Unit))))))) × (Int × (Int × (List (BitVec 8) × (Int × (List (BitVec 8) × (((Int × (BitVec 64 × (Int × (Int × (Int × Unit))))) × (Int × (Int × (List (BitVec 8) × ((Int × (Int × (Int × Unit))) × Unit))))) × ((Int × (Int × (Int × Unit))) × Unit)))))))) ⊕ ((Int × (Int × (List (BitVec 8) × (Int × (List (BitVec 8) × (((Int × (BitVec 64 × (Int × (Int × (Int × Unit))))) × (Int × (Int × (List (BitVec 8) × ((Int × (Int × (Int × Unit))) × Unit))))) × ((Int × (Int × (Int × Unit))) × Unit))))))) × Bool))
  | 0, _ => none
  | n + 1, j =>
  bif decide (j.2.2.2 < 16) then
      (ix j.1 (w64 ((16 : Int) + j.2.2.2))).bind fun x7 =>
      (chk (inLen j.2.2.2 16)).bind fun _ =>
      (Option.map (fun u11 => (j.2.2.1.1, u11)) (Option.map (fun u10 => (j.2.2.1.2.1, u10)) (Option.map (fun u9 => (u9, j.2.2.1.2.2.2)) ((j.2.2.1.2.2.1[(j.2.2.2 : Int).toNat]?).bind fun z8 =>
              some (j.2.2.1.2.2.1.set (j.2.2.2 : Int).toNat x7))))).bind fun x12 =>
      reticuleref22_Command_L0 n (j.1, j.2.1, x12, w64 (j.2.2.2 + 1))
    else
      some (Sum.inl (j.2.1, j.2.2.1))
noncomputable def reticuleref22_Command (x : (List (BitVec 8))) : Option ((Int × (Int × (List (BitVec 8) × (Int × (List (BitVec 8) × (((Int × (BitVec 64 × (Int × (Int × (Int × Unit))))) × (Int × (Int × (List (BitVec 8) × ((Int × (Int × (Int × Unit))) × Unit))))) × ((Int × (Int × (Int × Unit))) × Unit))))))) × Bool) :=
  (bif !decide ((x.length : Int) = 32) then
      some true
    else
      (ix x 0).bind fun x1 =>
      some (!decide (x1 = (1#8))) : Option Bool).bind fun b2 =>
  (bif b2 then
      some true
    else
      (ix x 6).bind fun x3 =>
      some (!decide (x3 = (0#8))) : Option Bool).bind fun b4 =>
  bif b4 then
    some ((0, 0, List.replicate 16 (0#8), 0, ([] : List (BitVec 8)), ((0, 0#64, 0, 0, 0, ()), 0, 0, ([] : List (BitVec 8)), (0, 0, 0, ()), ()), (0, 0, 0, ()), ()), false)
  else
    (reticuleref22_Tag x).bind fun r5 =>
    (chk (decide (0 ≤ (8 : Int)) && decide ((8 : Int) ≤ (16 : Int)) && decide ((16 : Int) ≤ (x.length : Int)))).bind fun _ =>
    (reticuleref22_Lun (slc x (8 : Int) (16 : Int))).bind fun r6 =>
    jn (A := ((Int × (Int × (List (BitVec 8) × (Int × (List (BitVec 8) × (((Int × (BitVec 64 × (Int × (Int × (Int × Unit))))) × (Int × (Int × (List (BitVec 8) × ((Int × (Int × (Int × Unit))) × Unit))))) × ((Int × (Int × (Int × Unit))) × Unit))))))) × (Int × (Int × (List (BitVec 8) × (Int × (List (BitVec 8) × (((Int × (BitVec 64 × (Int × (Int × (Int × Unit))))) × (Int × (Int × (List (BitVec 8) × ((Int × (Int × (Int × Unit))) × Unit))))) × ((Int × (Int × (Int × Unit))) × Unit))))))))) (R := ((Int × (Int × (List (BitVec 8) × (Int × (List (BitVec 8) × (((Int × (BitVec 64 × (Int × (Int × (Int × Unit))))) × (Int × (Int × (List (BitVec 8) × ((Int × (Int × (Int × Unit))) × Unit))))) × ((Int × (Int × (Int × Unit))) × Unit))))))) × Bool)) (reticuleref22_Command_L0 Big (x, (0, 0, List.replicate 16 (0#8), 0, ([] : List (BitVec 8)), ((0, 0#64, 0, 0, 0, ()), 0, 0, ([] : List (BitVec 8)), (0, 0, 0, ()), ()), (0, 0, 0, ()), ()), (r5, r6, List.replicate 16 (0#8), 0, ([] : List (BitVec 8)), ((0, 0#64, 0, 0, 0, ()), 0, 0, ([] : List (BitVec 8)), (0, 0, 0, ()), ()), (0, 0, 0, ()), ()), 0)) fun q13 =>
    some (q13.2, true)
/-- reticule/reticuleref22.Manage -/
noncomputable def reticuleref22_Manage (x : (List (BitVec 8))) : Option ((Int × (Int × (Int × (Int × Unit)))) × Bool) :=
  (bif !decide ((x.length : Int) = 16) then
      some true
    else
      (ix x 0).bind fun x1 =>
      some (!decide (x1 = (5#8))) : Option Bool).bind fun b2 =>
  bif b2 then
    some ((0, 0, 0, 0, ()), false)
  else
    (reticuleref22_Tag x).bind fun r3 =>
    (ix x 4).bind fun x4 =>
    (ix x 6).bind fun x5 =>
    (ix x 7).bind fun x6 =>
    (chk (decide (0 ≤ (8 : Int)) && decide ((8 : Int) ≤ (x.length : Int)))).bind fun _ =>
    (reticuleref22_Lun (x.drop (8 : Int).toNat)).bind fun r7 =>
    some ((r3, (x4.toNat : Int), w64 ((w64 ((256 : Int) * (x5.toNat : Int))) + (x6.toNat : Int)), r7, ()), true)
/-- reticule/reticuleref10.Same -/
noncomputable def reticuleref10_Same (x : ((Int × (BitVec 64 × (Int × (Int × (Int × Unit))))) × (Int × (Int × (List (BitVec 8) × ((Int × (Int × (Int × Unit))) × Unit))))) × ((Int × (BitVec 64 × (Int × (Int × (Int × Unit))))) × (Int × (Int × (List (BitVec 8) × ((Int × (Int × (Int × Unit))) × Unit)))))) : Option Bool :=
  (bif (decide (x.1.1.1 = x.2.1.1)) && ((decide (x.1.1.2.1 = x.2.1.2.1)) && ((decide (x.1.1.2.2.1 = x.2.1.2.2.1)) && ((decide (x.1.1.2.2.2.1 = x.2.1.2.2.2.1)) && ((decide (x.1.1.2.2.2.2.1 = x.2.1.2.2.2.2.1)) && true)))) then
      some (decide (x.1.2.1 = x.2.2.1))
    else
      some false : Option Bool).bind fun b1 =>
  (bif b1 then
      some (decide (x.1.2.2.1 = x.2.2.2.1))
    else
      some false : Option Bool).bind fun b2 =>
  (bif b2 then
      (chk (decide (x.1.2.2.2.1.length ≤ lim))).bind fun _ =>
      (chk (decide (x.2.2.2.2.1.length ≤ lim))).bind fun _ =>
      some (decide (x.1.2.2.2.1 = x.2.2.2.2.1))
    else
      some false : Option Bool).bind fun b3 =>
  (bif b3 then
      some ((decide (x.1.2.2.2.2.1.1 = x.2.2.2.2.2.1.1)) && ((decide (x.1.2.2.2.2.1.2.1 = x.2.2.2.2.2.1.2.1)) && ((decide (x.1.2.2.2.2.1.2.2.1 = x.2.2.2.2.2.1.2.2.1)) && true)))
    else
      some false : Option Bool).bind fun b4 =>
  some b4
/-- reticule/reticulelaw22.task -/
noncomputable def reticulelaw22_task (x : (Int × (Int × (List (BitVec 8) × (Int × (List (BitVec 8) × (((Int × (BitVec 64 × (Int × (Int × (Int × Unit))))) × (Int × (Int × (List (BitVec 8) × ((Int × (Int × (Int × Unit))) × Unit))))) × ((Int × (Int × (Int × Unit))) × Unit))))))) × (Int × (Int × (List (BitVec 8) × (Int × (List (BitVec 8) × (((Int × (BitVec 64 × (Int × (Int × (Int × Unit))))) × (Int × (Int × (List (BitVec 8) × ((Int × (Int × (Int × Unit))) × Unit))))) × ((Int × (Int × (Int × Unit))) × Unit)))))))) : Option Bool :=
  (bif decide (x.1.1 = x.2.1) then
      some (decide (x.1.2.1 = x.2.2.1))
    else
      some false : Option Bool).bind fun b1 =>
  (bif b1 then
      some (decide (x.1.2.2.1 = x.2.2.2.1))
    else
      some false : Option Bool).bind fun b2 =>
  (bif b2 then
      some (decide (x.1.2.2.2.1 = x.2.2.2.2.1))
    else
      some false : Option Bool).bind fun b3 =>
  (bif b3 then
      some (decide ((x.1.2.2.2.2.1.length : Int) = (x.2.2.2.2.2.1.length : Int)))
    else
      some false : Option Bool).bind fun b4 =>
  (bif b4 then
      some ((decide (x.1.2.2.2.2.2.2.1.1 = x.2.2.2.2.2.2.2.1.1)) && ((decide (x.1.2.2.2.2.2.2.1.2.1 = x.2.2.2.2.2.2.2.1.2.1)) && ((decide (x.1.2.2.2.2.2.2.1.2.2.1 = x.2.2.2.2.2.2.2.1.2.2.1)) && true)))
    else
      some false : Option Bool).bind fun b5 =>
  (bif b5 then
      (reticuleref10_Same (x.1.2.2.2.2.2.1, x.2.2.2.2.2.2.1)).bind fun r6 =>
      some r6
    else
      some false : Option Bool).bind fun b7 =>
  some b7
/-- reticule/reticulelaw22.IuReads -/
noncomputable def reticulelaw22_IuReads (x : (List (BitVec 8))) : Option Bool :=
  (reticulelaw22_alive ()).bind fun r1 =>
  bif !r1 then
    some false
  else
    bif decide (200 < (x.length : Int)) then
      some true
    else
      (iu_Command x).bind fun r2 =>
      (reticuleref22_Command x).bind fun r3 =>
      (iu_Manage x).bind fun r4 =>
      (reticuleref22_Manage x).bind fun r5 =>
      (reticulelaw22_task (r2.1, r3.1)).bind fun r6 =>
      (bif r6 then
          some (decide (r2.2 = r3.2))
        else
          some false : Option Bool).bind fun b7 =>
      (bif b7 then
          some ((decide (r4.1.1 = r5.1.1)) && ((decide (r4.1.2.1 = r5.1.2.1)) && ((decide (r4.1.2.2.1 = r5.1.2.2.1)) && ((decide (r4.1.2.2.2.1 = r5.1.2.2.2.1)) && true))))
        else
          some false : Option Bool).bind fun b8 =>
      (bif b8 then
          some (decide (r4.2 = r5.2))
        else
          some false : Option Bool).bind fun b9 =>
      (bif b9 then
          (iu_Tag x).bind fun r10 =>
          (reticuleref22_Tag x).bind fun r11 =>
          some (decide (r10 = r11))
        else
          some false : Option Bool).bind fun b12 =>
      (bif b12 then
          (iu_Lun x).bind fun r13 =>
          (reticuleref22_Lun x).bind fun r14 =>
          some (decide (r13 = r14))
        else
          some false : Option Bool).bind fun b15 =>
      some b15
/-- reticule/reticuleref22.two -/
noncomputable def reticuleref22_two (x : Int) : Option (List (BitVec 8)) :=
  some ([BitVec.ofInt 8 (BitVec.toInt (BitVec.ofInt 64 (shrI x (((8#64).toNat : Int) : Int).toNat) &&& BitVec.ofInt 64 255)), BitVec.ofInt 8 (BitVec.toInt (BitVec.ofInt 64 x &&& BitVec.ofInt 64 255))] : List (BitVec 8))
/-- reticule/reticuleref22.head -/
noncomputable def reticuleref22_head (x : (BitVec 8) × Int) : Option (List (BitVec 8)) :=
  (reticuleref22_two x.2).bind fun r1 =>
  (chk (decide (([x.1, 0#8] : List (BitVec 8)).length + r1.length ≤ lim))).bind fun _ =>
  some (([x.1, 0#8] : List (BitVec 8)) ++ r1)
/-- reticule/reticuleref22.lun -/
noncomputable def reticuleref22_lun (x : Int) : Option (List (BitVec 8)) :=
  some ([0#8, BitVec.ofInt 8 (BitVec.toInt (BitVec.ofInt 64 x &&& BitVec.ofInt 64 255)), 0#8, 0#8, 0#8, 0#8, 0#8, 0#8] : List (BitVec 8))
/-- reticule/reticuleref22.PutCommand -/
noncomputable def reticuleref22_PutCommand_L0 : Nat → ((Int × (Int × (List (BitVec 8) × (Int × (List (BitVec 8) × (((Int × (BitVec 64 × (Int × (Int × (Int × Unit))))) × (Int × (Int × (List (BitVec 8) × ((Int × (Int × (Int × Unit))) × Unit))))) × ((Int × (Int × (Int × Unit))) × Unit))))))) × (List (BitVec 8)) × Int) → Option ((List (BitVec 8)) ⊕ (List (BitVec 8)))
  | 0, _ => none
  | n + 1, j =>
  bif decide (j.2.2 < 16) then
      (chk (inLen j.2.2 16)).bind fun _ =>
      ((j.1.2.2.1[(j.2.2 : Int).toNat]?).bind fun y3 =>
        some y3).bind fun x4 =>
      (chk (decide (j.2.1.length + ([x4] : List (BitVec 8)).length ≤ lim))).bind fun _ =>
      reticuleref22_PutCommand_L0 n (j.1, j.2.1 ++ ([x4] : List (BitVec 8)), w64 (j.2.2 + 1))
    else
      some (Sum.inl j.2.1)
noncomputable def reticuleref22_PutCommand (x : (Int × (Int × (List (BitVec 8) × (Int × (List (BitVec 8) × (((Int × (BitVec 64 × (Int × (Int × (Int × Unit))))) × (Int × (Int × (List (BitVec 8) × ((Int × (Int × (Int × Unit))) × Unit))))) × ((Int × (Int × (Int × Unit))) × Unit)))))))) : Option (List (BitVec 8)) :=
  (reticuleref22_head (1#8, x.1)).bind fun r1 =>
  (chk (decide (r1.length + ([0#8, 0#8, 0#8, 0#8] : List (BitVec 8)).length ≤ lim))).bind fun _ =>
  (reticuleref22_lun x.2.1).bind fun r2 =>
  (chk (decide ((r1 ++ ([0#8, 0#8, 0#8, 0#8] : List (BitVec 8))).length + r2.length ≤ lim))).bind fun _ =>
  jn (A := (List (BitVec 8))) (R := (List (BitVec 8))) (reticuleref22_PutCommand_L0 Big (x, (r1 ++ ([0#8, 0#8, 0#8, 0#8] : List (BitVec 8))) ++ r2, 0)) fun q5 =>
  some q5
/-- reticule/reticuleref22.PutManage -/
noncomputable def reticuleref22_PutManage (x : (Int × (Int × (Int × (Int × Unit))))) : Option (List (BitVec 8)) :=
  (reticuleref22_head (5#8, x.1)).bind fun r1 =>
  (chk (decide (r1.length + ([BitVec.ofInt 8 (BitVec.toInt (BitVec.ofInt 64 x.2.1 &&& BitVec.ofInt 64 255)), 0#8] : List (BitVec 8)).length ≤ lim))).bind fun _ =>
  (reticuleref22_two x.2.2.1).bind fun r2 =>
  (chk (decide ((r1 ++ ([BitVec.ofInt 8 (BitVec.toInt (BitVec.ofInt 64 x.2.1 &&& BitVec.ofInt 64 255)), 0#8] : List (BitVec 8))).length + r2.length ≤ lim))).bind fun _ =>
  (reticuleref22_lun x.2.2.2.1).bind fun r3 =>
  (chk (decide (((r1 ++ ([BitVec.ofInt 8 (BitVec.toInt (BitVec.ofInt 64 x.2.1 &&& BitVec.ofInt 64 255)), 0#8] : List (BitVec 8))) ++ r2).length + r3.length ≤ lim))).bind fun _ =>
  some (((r1 ++ ([BitVec.ofInt 8 (BitVec.toInt (BitVec.ofInt 64 x.2.1 &&& BitVec.ofInt 64 255)), 0#8] : List (BitVec 8))) ++ r2) ++ r3)
/-- reticule/reticulelaw22.IuPuts -/
noncomputable def reticulelaw22_IuPuts (x : (Int × (Int × (List (BitVec 8) × (Int × (List (BitVec 8) × (((Int × (BitVec 64 × (Int × (Int × (Int × Unit))))) × (Int × (Int × (List (BitVec 8) × ((Int × (Int × (Int × Unit))) × Unit))))) × ((Int × (Int × (Int × Unit))) × Unit))))))) × (Int × (Int × (Int × (Int × Unit))))) : Option Bool :=
  (reticulelaw22_alive ()).bind fun r1 =>
  bif !r1 then
    some false
  else
    (iu_PutCommand x.1).bind fun r2 =>
    (chk (decide (r2.length ≤ lim))).bind fun _ =>
    (reticuleref22_PutCommand x.1).bind fun r3 =>
    (chk (decide (r3.length ≤ lim))).bind fun _ =>
    (bif decide (r2 = r3) then
        (iu_PutManage x.2).bind fun r4 =>
        (chk (decide (r4.length ≤ lim))).bind fun _ =>
        (reticuleref22_PutManage x.2).bind fun r5 =>
        (chk (decide (r5.length ≤ lim))).bind fun _ =>
        some (decide (r4 = r5))
      else
        some false : Option Bool).bind fun b6 =>
    some b6
/-- reticule/reticuleref04.Bytes -/
noncomputable def reticuleref04_Bytes (x : (Int × (Int × (Int × Unit)))) : Option (List (BitVec 8)) :=
  some ([112#8, 0#8, BitVec.ofInt 8 x.1, 0#8, 0#8, 0#8, 0#8, 10#8, 0#8, 0#8, 0#8, 0#8, BitVec.ofInt 8 x.2.1, BitVec.ofInt 8 x.2.2.1, 0#8, 0#8, 0#8, 0#8] : List (BitVec 8))
/-- reticule/reticuleref22.Status -/
noncomputable def reticuleref22_Status (x : Int × Int × (Int × (Int × (Int × Unit)))) : Option (Int × (Int × (List (BitVec 8) × Unit))) :=
  jn (A := (Int × Int × (Int × (Int × (List (BitVec 8) × Unit))) × (List (BitVec 8)))) (R := (Int × (Int × (List (BitVec 8) × Unit)))) (bif !((decide (x.2.2.1 = 0)) && ((decide (x.2.2.2.1 = 0)) && ((decide (x.2.2.2.2.1 = 0)) && true))) then
      (reticuleref04_Bytes x.2.2).bind fun r1 =>
      some (Sum.inl (x.1, x.2.1, (0, 0, ([] : List (BitVec 8)), ()), r1))
    else
      some (Sum.inl (x.1, x.2.1, (0, 0, ([] : List (BitVec 8)), ()), ([] : List (BitVec 8))))) fun j2 =>
  (reticuleref22_head (3#8, j2.1)).bind fun r3 =>
  (chk (decide (r3.length + ([0#8, 0#8, BitVec.ofInt 8 (BitVec.toInt (BitVec.ofInt 64 j2.2.1 &&& BitVec.ofInt 64 255)), 0#8, 0#8, 0#8, 0#8, 0#8, 0#8, 0#8, 0#8, BitVec.ofInt 8 (j2.2.2.2.length : Int)] : List (BitVec 8)).length ≤ lim))).bind fun _ =>
  (chk (decide ((r3 ++ ([0#8, 0#8, BitVec.ofInt 8 (BitVec.toInt (BitVec.ofInt 64 j2.2.1 &&& BitVec.ofInt 64 255)), 0#8, 0#8, 0#8, 0#8, 0#8, 0#8, 0#8, 0#8, BitVec.ofInt 8 (j2.2.2.2.length : Int)] : List (BitVec 8))).length + j2.2.2.2.length ≤ lim))).bind fun _ =>
  some (3, j2.1, (r3 ++ ([0#8, 0#8, BitVec.ofInt 8 (BitVec.toInt (BitVec.ofInt 64 j2.2.1 &&& BitVec.ofInt 64 255)), 0#8, 0#8, 0#8, 0#8, 0#8, 0#8, 0#8, 0#8, BitVec.ofInt 8 (j2.2.2.2.length : Int)] : List (BitVec 8))) ++ j2.2.2.2, ())
/-- reticule/reticuleref22.Response -/
noncomputable def reticuleref22_Response (x : Int × Int) : Option (Int × (Int × (List (BitVec 8) × Unit))) :=
  (reticuleref22_head (4#8, x.1)).bind fun r1 =>
  (chk (decide (r1.length + ([0#8, 0#8, 0#8, BitVec.ofInt 8 (BitVec.toInt (BitVec.ofInt 64 x.2 &&& BitVec.ofInt 64 255))] : List (BitVec 8)).length ≤ lim))).bind fun _ =>
  some (4, x.1, r1 ++ ([0#8, 0#8, 0#8, BitVec.ofInt 8 (BitVec.toInt (BitVec.ofInt 64 x.2 &&& BitVec.ofInt 64 255))] : List (BitVec 8)), ())
/-- reticule/reticuleref22.Ready -/
noncomputable def reticuleref22_Ready (x : Int × Int) : Option (Int × (Int × (List (BitVec 8) × Unit))) :=
  jn (A := (Int × (Int × (Int × (List (BitVec 8) × Unit))) × Int)) (R := (Int × (Int × (List (BitVec 8) × Unit)))) (bif decide (x.2 = 1) then
      some (Sum.inl (x.1, (0, 0, ([] : List (BitVec 8)), ()), 6))
    else
      some (Sum.inl (x.1, (0, 0, ([] : List (BitVec 8)), ()), 7))) fun j1 =>
  (reticuleref22_head (BitVec.ofInt 8 j1.2.2, j1.1)).bind fun r2 =>
  some (j1.2.2, j1.1, r2, ())
/-- reticule/reticulelaw22.IuTells -/
noncomputable def reticulelaw22_IuTells (x : Int × Int × (Int × (Int × (Int × Unit)))) : Option Bool :=
  (reticulelaw22_alive ()).bind fun r1 =>
  bif !r1 then
    some false
  else
    (iu_Status (x.1, x.2.1, x.2.2)).bind fun r2 =>
    (reticuleref22_Status (x.1, x.2.1, x.2.2)).bind fun r3 =>
    (reticuleref22_Same (r2, r3)).bind fun r4 =>
    (bif r4 then
        (iu_Response (x.1, x.2.1)).bind fun r5 =>
        (reticuleref22_Response (x.1, x.2.1)).bind fun r6 =>
        (reticuleref22_Same (r5, r6)).bind fun r7 =>
        some r7
      else
        some false : Option Bool).bind fun b8 =>
    (bif b8 then
        (iu_Ready (x.1, x.2.1)).bind fun r9 =>
        (reticuleref22_Ready (x.1, x.2.1)).bind fun r10 =>
        (reticuleref22_Same (r9, r10)).bind fun r11 =>
        some r11
      else
        some false : Option Bool).bind fun b12 =>
    some b12
/-- reticule/reticulelaw22.IuBack -/
noncomputable def reticulelaw22_IuBack (x : (BitVec 16) × (BitVec 16) × (BitVec 8 × (BitVec 8 × (List (BitVec 8) × Unit)))) : Option Bool :=
  (reticulelaw22_alive ()).bind fun r1 =>
  bif !r1 then
    some false
  else
    (iu_PutCommand ((x.1.toNat : Int), (x.2.2.1.toNat : Int), x.2.2.2.2.1, 0, ([] : List (BitVec 8)), ((0, 0#64, 0, 0, 0, ()), 0, 0, ([] : List (BitVec 8)), (0, 0, 0, ()), ()), (0, 0, 0, ()), ())).bind fun r2 =>
    (iu_Command r2).bind fun r3 =>
    (iu_PutManage ((x.1.toNat : Int), (x.2.2.2.1.toNat : Int), (x.2.1.toNat : Int), (x.2.2.1.toNat : Int), ())).bind fun r4 =>
    (iu_Manage r4).bind fun r5 =>
    (bif r3.2 then
        some r5.2
      else
        some false : Option Bool).bind fun b6 =>
    (bif b6 then
        (reticulelaw22_task (r3.1, (x.1.toNat : Int), (x.2.2.1.toNat : Int), x.2.2.2.2.1, 0, ([] : List (BitVec 8)), ((0, 0#64, 0, 0, 0, ()), 0, 0, ([] : List (BitVec 8)), (0, 0, 0, ()), ()), (0, 0, 0, ()), ())).bind fun r7 =>
        some r7
      else
        some false : Option Bool).bind fun b8 =>
    (bif b8 then
        some ((decide (r5.1.1 = (x.1.toNat : Int))) && ((decide (r5.1.2.1 = (x.2.2.2.1.toNat : Int))) && ((decide (r5.1.2.2.1 = (x.2.1.toNat : Int))) && ((decide (r5.1.2.2.2.1 = (x.2.2.1.toNat : Int))) && true))))
      else
        some false : Option Bool).bind fun b9 =>
    some b9
/-- reticule/reticulelaw22.IuTurned -/
noncomputable def reticulelaw22_IuTurned (x : (Int × (Int × (List (BitVec 8) × (Int × (List (BitVec 8) × (((Int × (BitVec 64 × (Int × (Int × (Int × Unit))))) × (Int × (Int × (List (BitVec 8) × ((Int × (Int × (Int × Unit))) × Unit))))) × ((Int × (Int × (Int × Unit))) × Unit))))))) × (BitVec 8) × (BitVec 8)) : Option Bool :=
  (reticulelaw22_alive ()).bind fun r1 =>
  bif !r1 then
    some false
  else
    (iu_PutCommand x.1).bind fun r2 =>
    (bif !decide ((r2.length : Int) = 32) then
        some true
      else
        some (decide (x.2.2 = (0#8))) : Option Bool).bind fun b3 =>
    bif b3 then
      some (decide ((r2.length : Int) = 32))
    else
      (iu_Command r2).bind fun r4 =>
      (chk (decide (([] : List (BitVec 8)).length + r2.length ≤ lim))).bind fun _ =>
      (chk (inLen ((x.2.1 % (32#8)).toNat : Int) (([] : List (BitVec 8)) ++ r2).length)).bind fun _ =>
      (((([] : List (BitVec 8)) ++ r2)[(((x.2.1 % (32#8)).toNat : Int) : Int).toNat]?).bind fun y5 =>
        some y5).bind fun x6 =>
      (chk (inLen ((x.2.1 % (32#8)).toNat : Int) (([] : List (BitVec 8)) ++ r2).length)).bind fun _ =>
      (iu_Command ((([] : List (BitVec 8)) ++ r2).set (((x.2.1 % (32#8)).toNat : Int) : Int).toNat (x6 ^^^ x.2.2))).bind fun r7 =>
      (bif decide (((x.2.1 % (32#8)).toNat : Int) = 1) then
          some true
        else
          some (decide (((x.2.1 % (32#8)).toNat : Int) = 4)) : Option Bool).bind fun b8 =>
      (bif b8 then
          some true
        else
          some (decide (((x.2.1 % (32#8)).toNat : Int) = 5)) : Option Bool).bind fun b9 =>
      (bif b9 then
          some true
        else
          some (decide (((x.2.1 % (32#8)).toNat : Int) = 7)) : Option Bool).bind fun b10 =>
      bif b10 then
        (bif r4.2 then
            some r7.2
          else
            some false : Option Bool).bind fun b11 =>
        (bif b11 then
            (reticulelaw22_task (r4.1, r7.1)).bind fun r12 =>
            some r12
          else
            some false : Option Bool).bind fun b13 =>
        some b13
      else
        (bif r4.2 then
            (bif !r7.2 then
                some true
              else
                (reticulelaw22_task (r4.1, r7.1)).bind fun r14 =>
                some (!r14) : Option Bool).bind fun b15 =>
            some b15
          else
            some false : Option Bool).bind fun b16 =>
        some b16
end Go.Proofs.Ytmkoigeofajhfaa
