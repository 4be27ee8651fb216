/- The program's functions as plain ones. Printed by the session's own program. -/
import Derived.Test.YtmkffbacmjgbcaaRfH
namespace Go.Proofs.Ytmkffbacmjgbcaa
open Go Go.Re
set_option linter.unusedVariables false
set_option linter.unusedSimpArgs false
/-- reticule/sense.NotReady -/
noncomputable def sense_NotReady (x : Unit) : Option (Int × (Int × (Int × Unit))) :=
  some (2, 58, 0, ())
/-- reticule/sense.Protected -/
noncomputable def sense_Protected (x : Unit) : Option (Int × (Int × (Int × Unit))) :=
  some (7, 39, 0, ())
/-- reticule/sense.asked -/
noncomputable def sense_asked (x : Int × Int) : Option (Int × (Int × (Int × Unit))) :=
  some (5, x.1, x.2, ())
/-- reticule/sense.Kept -/
noncomputable def sense_Kept (x : Unit) : Option (Int × (Int × (Int × Unit))) :=
  (sense_asked (83, 2)).bind fun r1 =>
  some r1
/-- reticule/sense.Range -/
noncomputable def sense_Range (x : Unit) : Option (Int × (Int × (Int × Unit))) :=
  (sense_asked (33, 0)).bind fun r1 =>
  some r1
/-- reticule/sense.Field -/
noncomputable def sense_Field (x : Unit) : Option (Int × (Int × (Int × Unit))) :=
  (sense_asked (36, 0)).bind fun r1 =>
  some r1
/-- reticule/sense.Unknown -/
noncomputable def sense_Unknown (x : Unit) : Option (Int × (Int × (Int × Unit))) :=
  (sense_asked (32, 0)).bind fun r1 =>
  some r1
/-- reticule/sense.NoUnit -/
noncomputable def sense_NoUnit (x : Unit) : Option (Int × (Int × (Int × Unit))) :=
  (sense_asked (37, 0)).bind fun r1 =>
  some r1
/-- reticule/sense.Parameter -/
noncomputable def sense_Parameter (x : Unit) : Option (Int × (Int × (Int × Unit))) :=
  (sense_asked (38, 0)).bind fun r1 =>
  some r1
/-- reticule/sense.Length -/
noncomputable def sense_Length (x : Unit) : Option (Int × (Int × (Int × Unit))) :=
  (sense_asked (26, 0)).bind fun r1 =>
  some r1
/-- reticule/sense.Saving -/
noncomputable def sense_Saving (x : Unit) : Option (Int × (Int × (Int × Unit))) :=
  (sense_asked (57, 0)).bind fun r1 =>
  some r1
/-- reticule/sense.Differs -/
noncomputable def sense_Differs (x : Unit) : Option (Int × (Int × (Int × Unit))) :=
  some (14, 29, 0, ())
/-- reticule/sense.reset -/
noncomputable def sense_reset (x : Int) : Option (Int × (Int × (Int × Unit))) :=
  some (6, 41, x, ())
/-- reticule/sense.PowerOn -/
noncomputable def sense_PowerOn (x : Unit) : Option (Int × (Int × (Int × Unit))) :=
  (sense_reset 0).bind fun r1 =>
  some r1
/-- reticule/sense.BusReset -/
noncomputable def sense_BusReset (x : Unit) : Option (Int × (Int × (Int × Unit))) :=
  (sense_reset 2).bind fun r1 =>
  some r1
/-- reticule/sense.UnitReset -/
noncomputable def sense_UnitReset (x : Unit) : Option (Int × (Int × (Int × Unit))) :=
  (sense_reset 3).bind fun r1 =>
  some r1
/-- reticule/sense.NexusLoss -/
noncomputable def sense_NexusLoss (x : Unit) : Option (Int × (Int × (Int × Unit))) :=
  (sense_reset 7).bind fun r1 =>
  some r1
/-- reticule/sense.NewMedium -/
noncomputable def sense_NewMedium (x : Unit) : Option (Int × (Int × (Int × Unit))) :=
  some (6, 40, 0, ())
/-- reticule/reticuleref04.Of -/
noncomputable def reticuleref04_Of (x : Int × Int × Int) : Option (Int × (Int × (Int × Unit))) :=
  some (x.1, x.2.1, x.2.2, ())
/-- reticule/sense.Good -/
noncomputable def sense_Good (x : (Int × (Int × (Int × Unit)))) : Option Bool :=
  some ((decide (x.1 = 0)) && ((decide (x.2.1 = 0)) && ((decide (x.2.2.1 = 0)) && true)))
/-- reticule/number.PutLittle -/
noncomputable def number_PutLittle_L0 : Nat → ((BitVec 64) × (List (BitVec 8)) × Int × Int) → Option ((List (BitVec 8)) ⊕ (List (BitVec 8)))
  | 0, _ => none
  | n + 1, j =>
  bif decide (j.2.2.2 < j.2.2.1) then
      (chk (decide (j.2.1.length + ([j.1.setWidth 8] : List (BitVec 8)).length ≤ lim))).bind fun _ =>
      number_PutLittle_L0 n (j.1 >>> (((8#64).toNat : Int) : Int).toNat, j.2.1 ++ ([j.1.setWidth 8] : List (BitVec 8)), j.2.2.1, w64 (j.2.2.2 + 1))
    else
      some (Sum.inl j.2.1)
noncomputable def number_PutLittle (x : (BitVec 64) × Int) : Option (List (BitVec 8)) :=
  (bif decide (x.2 < 1) then
      some true
    else
      some (decide (8 < x.2)) : Option Bool).bind fun b1 =>
  bif b1 then
    some ([] : List (BitVec 8))
  else
    jn (A := (List (BitVec 8))) (R := (List (BitVec 8))) (number_PutLittle_L0 Big (x.1, ([] : List (BitVec 8)), x.2, 0)) fun q2 =>
    some q2
/-- slices.Reverse[[]byte,byte] -/
noncomputable def slices_Reverse_byte_L0 : Nat → ((List (BitVec 8)) × Int × Int) → Option ((List (BitVec 8)) ⊕ (List (BitVec 8)))
  | 0, _ => none
  | n + 1, j =>
  bif decide (j.2.1 < j.2.2) then
      (chk (inLen j.2.2 j.1.length)).bind fun _ =>
      ((j.1[(j.2.2 : Int).toNat]?).bind fun y1 =>
        some y1).bind fun x2 =>
      (chk (inLen j.2.1 j.1.length)).bind fun _ =>
      ((j.1[(j.2.1 : Int).toNat]?).bind fun y3 =>
        some y3).bind fun x4 =>
      (chk (inLen j.2.1 j.1.length)).bind fun _ =>
      (chk (inLen j.2.2 (j.1.set (j.2.1 : Int).toNat x2).length)).bind fun _ =>
      slices_Reverse_byte_L0 n ((j.1.set (j.2.1 : Int).toNat x2).set (j.2.2 : Int).toNat x4, w64 (j.2.1 + 1), w64 (j.2.2 - 1))
    else
      some (Sum.inl j.1)
noncomputable def slices_Reverse_byte (x : (List (BitVec 8))) : Option (List (BitVec 8)) :=
  jn (A := (List (BitVec 8))) (R := (List (BitVec 8))) (slices_Reverse_byte_L0 Big (x, 0, w64 ((x.length : Int) - 1))) fun q5 =>
  some q5
/-- reticule/number.PutBig -/
noncomputable def number_PutBig (x : (BitVec 64) × Int) : Option (List (BitVec 8)) :=
  (number_PutLittle (x.1, x.2)).bind fun r1 =>
  (slices_Reverse_byte r1).bind fun r2 =>
  some r2
/-- reticule/sense.Bytes -/
noncomputable def sense_Bytes (x : (Int × (Int × (Int × Unit)))) : Option (List (BitVec 8)) :=
  (chk (decide (0 ≤ 18) && decide (18 ≤ 18) && decide (18 ≤ (lim : Int)))).bind fun _ =>
  (chk (inLen 0 (List.replicate (18 : Int).toNat (0#8)).length)).bind fun _ =>
  (chk (inLen 2 ((List.replicate (18 : Int).toNat (0#8)).set (0 : Int).toNat (112#8)).length)).bind fun _ =>
  (chk (inLen 7 (((List.replicate (18 : Int).toNat (0#8)).set (0 : Int).toNat (112#8)).set (2 : Int).toNat (BitVec.ofInt 8 x.1)).length)).bind fun _ =>
  (chk (decide (0 ≤ (12 : Int)) && decide ((12 : Int) ≤ (((((List.replicate (18 : Int).toNat (0#8)).set (0 : Int).toNat (112#8)).set (2 : Int).toNat (BitVec.ofInt 8 x.1)).set (7 : Int).toNat (10#8)).length : Int)))).bind fun _ =>
  (number_PutBig ((((BitVec.ofInt 8 x.2.1).setWidth 64) <<< (((8#64).toNat : Int) : Int).toNat) ||| ((BitVec.ofInt 8 x.2.2.1).setWidth 64), 2)).bind fun r1 =>
  some (overAt (12 : Int).toNat ((((List.replicate (18 : Int).toNat (0#8)).set (0 : Int).toNat (112#8)).set (2 : Int).toNat (BitVec.ofInt 8 x.1)).set (7 : Int).toNat (10#8)) r1)
/-- slices.Equal[[]byte,byte] -/
noncomputable def slices_Equal_byte_L0 : Nat → ((List (BitVec 8)) × (List (BitVec 8)) × Int × Int) → Option (Unit ⊕ Bool)
  | 0, _ => none
  | n + 1, j =>
  bif decide (j.2.2.2 < j.2.2.1) then
      (ix j.1 j.2.2.2).bind fun x1 =>
      (ix j.2.1 j.2.2.2).bind fun x2 =>
      bif !decide (x1 = x2) then
        some (Sum.inr false)
      else
        slices_Equal_byte_L0 n (j.1, j.2.1, j.2.2.1, w64 (j.2.2.2 + 1))
    else
      some (Sum.inl ())
noncomputable def slices_Equal_byte (x : (List (BitVec 8)) × (List (BitVec 8))) : Option Bool :=
  bif !decide ((x.1.length : Int) = (x.2.length : Int)) then
    some false
  else
    jn (A := Unit) (R := Bool) (slices_Equal_byte_L0 Big (x.1, x.2, (x.1.length : Int), 0)) fun q3 =>
    some true
/-- reticule/sense.Parse -/
noncomputable def sense_Parse (x : (List (BitVec 8))) : Option ((Int × (Int × (Int × Unit))) × Bool) :=
  bif !decide ((x.length : Int) = 18) then
    some ((0, 0, 0, ()), false)
  else
    (ix x 2).bind fun x1 =>
    (ix x 12).bind fun x2 =>
    (ix x 13).bind fun x3 =>
    (sense_Bytes ((x1.toNat : Int), (x2.toNat : Int), (x3.toNat : Int), ())).bind fun r4 =>
    (slices_Equal_byte (r4, x)).bind fun r5 =>
    bif !r5 then
      some ((0, 0, 0, ()), false)
    else
      some (((x1.toNat : Int), (x2.toNat : Int), (x3.toNat : Int), ()), true)
/-- slices.Index[[]reticule/api.Sense,reticule/api.Sense] -/
noncomputable def slices_Index_api_Sense_L0 : Nat → ((List (Int × (Int × (Int × Unit)))) × (Int × (Int × (Int × Unit))) × Int × Int) → Option (Unit ⊕ Int)
  | 0, _ => none
  | n + 1, j =>
  bif decide (j.2.2.2 < j.2.2.1) then
      (ix j.1 j.2.2.2).bind fun x1 =>
      bif (decide (j.2.1.1 = x1.1)) && ((decide (j.2.1.2.1 = x1.2.1)) && ((decide (j.2.1.2.2.1 = x1.2.2.1)) && true)) then
        some (Sum.inr j.2.2.2)
      else
        slices_Index_api_Sense_L0 n (j.1, j.2.1, j.2.2.1, w64 (j.2.2.2 + 1))
    else
      some (Sum.inl ())
noncomputable def slices_Index_api_Sense (x : (List (Int × (Int × (Int × Unit)))) × (Int × (Int × (Int × Unit)))) : Option Int :=
  jn (A := Unit) (R := Int) (slices_Index_api_Sense_L0 Big (x.1, x.2, (x.1.length : Int), 0)) fun q2 =>
  some (-1)
/-- slices.Contains[[]reticule/api.Sense,reticule/api.Sense] -/
noncomputable def slices_Contains_api_Sense (x : (List (Int × (Int × (Int × Unit)))) × (Int × (Int × (Int × Unit)))) : Option Bool :=
  (slices_Index_api_Sense (x.1, x.2)).bind fun r1 =>
  some (decide (0 ≤ r1))
/-- slices.Clip[[]reticule/api.Sense,reticule/api.Sense] -/
noncomputable def slices_Clip_api_Sense (x : (List (Int × (Int × (Int × Unit))))) : Option (List (Int × (Int × (Int × Unit)))) :=
  (chk ((decide (0 ≤ ((x.length : Int) : Int)) && decide (((x.length : Int) : Int) ≤ (x.length : Int))) && decide (((x.length : Int) : Int) = ((x.length : Int) : Int)))).bind fun _ =>
  some (x.take ((x.length : Int) : Int).toNat)
/-- reticule/sense.Add -/
noncomputable def sense_Add (x : (List (Int × (Int × (Int × Unit)))) × (Int × (Int × (Int × Unit)))) : Option (List (Int × (Int × (Int × Unit)))) :=
  (slices_Contains_api_Sense (x.1, x.2)).bind fun r1 =>
  bif r1 then
    some x.1
  else
    (sense_PowerOn ()).bind fun r2 =>
    bif (decide (x.2.1 = r2.1)) && ((decide (x.2.2.1 = r2.2.1)) && ((decide (x.2.2.2.1 = r2.2.2.1)) && true)) then
      some ([x.2] : List (Int × (Int × (Int × Unit))))
    else
      bif decide (4 ≤ (x.1.length : Int)) then
        some x.1
      else
        (slices_Clip_api_Sense x.1).bind fun r3 =>
        (chk (decide (r3.length + ([x.2] : List (Int × (Int × (Int × Unit)))).length ≤ lim))).bind fun _ =>
        some (r3 ++ ([x.2] : List (Int × (Int × (Int × Unit)))))
/-- reticule/sense.First -/
noncomputable def sense_First (x : (List (Int × (Int × (Int × Unit))))) : Option ((Int × (Int × (Int × Unit))) × (List (Int × (Int × (Int × Unit))))) :=
  bif decide ((x.length : Int) = 0) then
    some ((0, 0, 0, ()), ([] : List (Int × (Int × (Int × Unit)))))
  else
    (ix x 0).bind fun x1 =>
    (chk (decide (0 ≤ (1 : Int)) && decide ((1 : Int) ≤ (x.length : Int)))).bind fun _ =>
    some (x1, x.drop (1 : Int).toNat)
/-- reticule/reticulelaw04.alive -/
noncomputable def reticulelaw04_alive_L0 : Nat → ((List (Int × (Int × (Int × Unit)))) × (List (List Int)) × Int) → Option ((List (Int × (Int × (Int × Unit)))) ⊕ Bool)
  | 0, _ => none
  | n + 1, j =>
  bif decide (j.2.2 < 16) then
      (chk (inLen j.2.2 16)).bind fun _ =>
      ((j.1[(j.2.2 : Int).toNat]?).bind fun y17 =>
        some y17).bind fun x18 =>
      (chk (inLen j.2.2 16)).bind fun _ =>
      (chk (inLen 0 3)).bind fun _ =>
      ((j.2.1[(j.2.2 : Int).toNat]?).bind fun y19 =>
        (y19[(0 : Int).toNat]?).bind fun y20 =>
        some y20).bind fun x21 =>
      (chk (inLen j.2.2 16)).bind fun _ =>
      (chk (inLen 1 3)).bind fun _ =>
      ((j.2.1[(j.2.2 : Int).toNat]?).bind fun y22 =>
        (y22[(1 : Int).toNat]?).bind fun y23 =>
        some y23).bind fun x24 =>
      (chk (inLen j.2.2 16)).bind fun _ =>
      (chk (inLen 2 3)).bind fun _ =>
      ((j.2.1[(j.2.2 : Int).toNat]?).bind fun y25 =>
        (y25[(2 : Int).toNat]?).bind fun y26 =>
        some y26).bind fun x27 =>
      (reticuleref04_Of (x21, x24, x27)).bind fun r28 =>
      (bif !((decide (x18.1 = r28.1)) && ((decide (x18.2.1 = r28.2.1)) && ((decide (x18.2.2.1 = r28.2.2.1)) && true))) then
          some true
        else
          (chk (inLen j.2.2 16)).bind fun _ =>
          ((j.1[(j.2.2 : Int).toNat]?).bind fun y29 =>
            some y29).bind fun x30 =>
          (sense_Good x30).bind fun r31 =>
          some r31 : Option Bool).bind fun b32 =>
      bif b32 then
        some (Sum.inr false)
      else
        reticulelaw04_alive_L0 n (j.1, j.2.1, w64 (j.2.2 + 1))
    else
      some (Sum.inl j.1)
noncomputable def reticulelaw04_alive (x : Unit) : Option Bool := some true
/-- reticule/reticuleref04.Bytes -/
noncomputable def reticuleref04_Bytes (x : (Int × (Int × (Int × Unit)))) : Option (List (BitVec 8)) :=
  some ([112#8, 0#8, BitVec.ofInt 8 x.1, 0#8, 0#8, 0#8, 0#8, 10#8, 0#8, 0#8, 0#8, 0#8, BitVec.ofInt 8 x.2.1, BitVec.ofInt 8 x.2.2.1, 0#8, 0#8, 0#8, 0#8] : List (BitVec 8))
/-- reticule/reticuleref04.Parse -/
noncomputable def reticuleref04_Parse (x : (List (BitVec 8))) : Option ((Int × (Int × (Int × Unit))) × Bool) :=
  bif !decide ((x.length : Int) = 18) then
    some ((0, 0, 0, ()), false)
  else
    (ix x 2).bind fun x1 =>
    (ix x 12).bind fun x2 =>
    (ix x 13).bind fun x3 =>
    (reticuleref04_Of ((x1.toNat : Int), (x2.toNat : Int), (x3.toNat : Int))).bind fun r4 =>
    (reticuleref04_Bytes r4).bind fun r5 =>
    (chk (decide (r5.length ≤ lim))).bind fun _ =>
    (chk (decide (x.length ≤ lim))).bind fun _ =>
    bif !(decide (r5 = x)) then
      some ((0, 0, 0, ()), false)
    else
      some (r4, true)
/-- reticule/reticulelaw04.SenseBytes -/
noncomputable def reticulelaw04_SenseBytes (x : (Int × (Int × (Int × Unit))) × (List (BitVec 8))) : Option Bool :=
  (reticulelaw04_alive ()).bind fun r1 =>
  bif !r1 then
    some false
  else
    bif decide (100 < (x.2.length : Int)) then
      some true
    else
      (sense_Parse x.2).bind fun r2 =>
      (reticuleref04_Parse x.2).bind fun r3 =>
      (sense_Bytes x.1).bind fun r4 =>
      (chk (decide (r4.length ≤ lim))).bind fun _ =>
      (reticuleref04_Bytes x.1).bind fun r5 =>
      (chk (decide (r5.length ≤ lim))).bind fun _ =>
      (bif decide (r4 = r5) then
          some ((decide (r2.1.1 = r3.1.1)) && ((decide (r2.1.2.1 = r3.1.2.1)) && ((decide (r2.1.2.2.1 = r3.1.2.2.1)) && true)))
        else
          some false : Option Bool).bind fun b6 =>
      (bif b6 then
          some (decide (r2.2 = r3.2))
        else
          some false : Option Bool).bind fun b7 =>
      (bif b7 then
          (sense_Good x.1).bind fun r8 =>
          some (decide (r8 = ((decide (x.1.1 = 0)) && ((decide (x.1.2.1 = 0)) && ((decide (x.1.2.2.1 = 0)) && true)))))
        else
          some false : Option Bool).bind fun b9 =>
      some b9
/-- reticule/reticulelaw04.SenseBack -/
noncomputable def reticulelaw04_SenseBack (x : (List (BitVec 8)) × (List (BitVec 8))) : Option Bool :=
  (reticulelaw04_alive ()).bind fun r1 =>
  bif !r1 then
    some false
  else
    bif decide (100 < (x.2.length : Int)) then
      some true
    else
      (chk (inLen 0 3)).bind fun _ =>
      ((x.1[(0 : Int).toNat]?).bind fun y2 =>
        some y2).bind fun x3 =>
      (chk (inLen 1 3)).bind fun _ =>
      ((x.1[(1 : Int).toNat]?).bind fun y4 =>
        some y4).bind fun x5 =>
      (chk (inLen 2 3)).bind fun _ =>
      ((x.1[(2 : Int).toNat]?).bind fun y6 =>
        some y6).bind fun x7 =>
      (reticuleref04_Of ((x3.toNat : Int), (x5.toNat : Int), (x7.toNat : Int))).bind fun r8 =>
      (sense_Bytes r8).bind fun r9 =>
      (sense_Parse r9).bind fun r10 =>
      (sense_Parse x.2).bind fun r11 =>
      (bif r10.2 then
          some ((decide (r10.1.1 = r8.1)) && ((decide (r10.1.2.1 = r8.2.1)) && ((decide (r10.1.2.2.1 = r8.2.2.1)) && true)))
        else
          some false : Option Bool).bind fun b12 =>
      (bif b12 then
          (sense_Bytes r8).bind fun r13 =>
          some (decide ((r13.length : Int) = 18))
        else
          some false : Option Bool).bind fun b14 =>
      (bif b14 then
          (bif !r11.2 then
              (sense_Good r11.1).bind fun r15 =>
              some r15
            else
              some false : Option Bool).bind fun b16 =>
          (bif b16 then
              some true
            else
              (bif r11.2 then
                  (sense_Bytes r11.1).bind fun r17 =>
                  (chk (decide (r17.length ≤ lim))).bind fun _ =>
                  (chk (decide (x.2.length ≤ lim))).bind fun _ =>
                  some (decide (r17 = x.2))
                else
                  some false : Option Bool).bind fun b18 =>
              some b18 : Option Bool).bind fun b19 =>
          some b19
        else
          some false : Option Bool).bind fun b20 =>
      some b20
/-- reticule/reticuleref04.Has -/
noncomputable def reticuleref04_Has_L0 : Nat → ((List (Int × (Int × (Int × Unit)))) × (Int × (Int × (Int × Unit))) × Int) → Option (Unit ⊕ Bool)
  | 0, _ => none
  | n + 1, j =>
  bif decide (j.2.2 < (j.1.length : Int)) then
      (ix j.1 j.2.2).bind fun x1 =>
      bif (decide (x1.1 = j.2.1.1)) && ((decide (x1.2.1 = j.2.1.2.1)) && ((decide (x1.2.2.1 = j.2.1.2.2.1)) && true)) then
        some (Sum.inr true)
      else
        reticuleref04_Has_L0 n (j.1, j.2.1, w64 (j.2.2 + 1))
    else
      some (Sum.inl ())
noncomputable def reticuleref04_Has (x : (List (Int × (Int × (Int × Unit)))) × (Int × (Int × (Int × Unit)))) : Option Bool :=
  jn (A := Unit) (R := Bool) (reticuleref04_Has_L0 Big (x.1, x.2, 0)) fun q2 =>
  some false
/-- reticule/reticuleref04.Add -/
noncomputable def reticuleref04_Add (x : (List (Int × (Int × (Int × Unit)))) × (Int × (Int × (Int × Unit)))) : Option (List (Int × (Int × (Int × Unit)))) :=
  (chk (decide (([] : List (Int × (Int × (Int × Unit)))).length + x.1.length ≤ lim))).bind fun _ =>
  (reticuleref04_Has (x.1, x.2)).bind fun r1 =>
  bif r1 then
    some (([] : List (Int × (Int × (Int × Unit)))) ++ x.1)
  else
    (reticuleref04_Of (6, 41, 0)).bind fun r2 =>
    bif (decide (x.2.1 = r2.1)) && ((decide (x.2.2.1 = r2.2.1)) && ((decide (x.2.2.2.1 = r2.2.2.1)) && true)) then
      some ([x.2] : List (Int × (Int × (Int × Unit))))
    else
      bif decide (4 ≤ (x.1.length : Int)) then
        some (([] : List (Int × (Int × (Int × Unit)))) ++ x.1)
      else
        (chk (decide ((([] : List (Int × (Int × (Int × Unit)))) ++ x.1).length + ([x.2] : List (Int × (Int × (Int × Unit)))).length ≤ lim))).bind fun _ =>
        some ((([] : List (Int × (Int × (Int × Unit)))) ++ x.1) ++ ([x.2] : List (Int × (Int × (Int × Unit)))))
/-- reticule/reticuleref04.First -/
noncomputable def reticuleref04_First (x : (List (Int × (Int × (Int × Unit))))) : Option ((Int × (Int × (Int × Unit))) × (List (Int × (Int × (Int × Unit))))) :=
  bif decide ((x.length : Int) = 0) then
    some ((0, 0, 0, ()), ([] : List (Int × (Int × (Int × Unit)))))
  else
    (ix x 0).bind fun x1 =>
    (chk (decide (0 ≤ (1 : Int)) && decide ((1 : Int) ≤ (x.length : Int)))).bind fun _ =>
    (chk (decide (([] : List (Int × (Int × (Int × Unit)))).length + (x.drop (1 : Int).toNat).length ≤ lim))).bind fun _ =>
    some (x1, ([] : List (Int × (Int × (Int × Unit)))) ++ (x.drop (1 : Int).toNat))
/-- reticule/reticuleref04.Same -/
noncomputable def reticuleref04_Same_L0 : Nat → ((List (Int × (Int × (Int × Unit)))) × (List (Int × (Int × (Int × Unit)))) × Int) → Option (Unit ⊕ Bool)
  | 0, _ => none
  | n + 1, j =>
  bif decide (j.2.2 < (j.1.length : Int)) then
      (ix j.1 j.2.2).bind fun x1 =>
      (ix j.2.1 j.2.2).bind fun x2 =>
      bif !((decide (x1.1 = x2.1)) && ((decide (x1.2.1 = x2.2.1)) && ((decide (x1.2.2.1 = x2.2.2.1)) && true))) then
        some (Sum.inr false)
      else
        reticuleref04_Same_L0 n (j.1, j.2.1, w64 (j.2.2 + 1))
    else
      some (Sum.inl ())
noncomputable def reticuleref04_Same (x : (List (Int × (Int × (Int × Unit)))) × (List (Int × (Int × (Int × Unit))))) : Option Bool :=
  bif !decide ((x.1.length : Int) = (x.2.length : Int)) then
    some false
  else
    jn (A := Unit) (R := Bool) (reticuleref04_Same_L0 Big (x.1, x.2, 0)) fun q3 =>
    some true
/-- reticule/reticulelaw04.SenseAdds -/
noncomputable def reticulelaw04_SenseAdds (x : (List (Int × (Int × (Int × Unit)))) × (Int × (Int × (Int × Unit)))) : Option Bool :=
  (reticulelaw04_alive ()).bind fun r1 =>
  bif !r1 then
    some false
  else
    bif decide (30 < (x.1.length : Int)) then
      some true
    else
      (chk (decide (([] : List (Int × (Int × (Int × Unit)))).length + x.1.length ≤ lim))).bind fun _ =>
      (sense_Add (([] : List (Int × (Int × (Int × Unit)))) ++ x.1, x.2)).bind fun r2 =>
      (reticuleref04_Add (x.1, x.2)).bind fun r3 =>
      (sense_First (([] : List (Int × (Int × (Int × Unit)))) ++ x.1)).bind fun r4 =>
      (reticuleref04_First x.1).bind fun r5 =>
      (reticuleref04_Same (r2, r3)).bind fun r6 =>
      (bif r6 then
          some ((decide (r4.1.1 = r5.1.1)) && ((decide (r4.1.2.1 = r5.1.2.1)) && ((decide (r4.1.2.2.1 = r5.1.2.2.1)) && true)))
        else
          some false : Option Bool).bind fun b7 =>
      (bif b7 then
          (reticuleref04_Same (r4.2, r5.2)).bind fun r8 =>
          some r8
        else
          some false : Option Bool).bind fun b9 =>
      (bif b9 then
          (reticuleref04_Same (([] : List (Int × (Int × (Int × Unit)))) ++ x.1, x.1)).bind fun r10 =>
          some r10
        else
          some false : Option Bool).bind fun b11 =>
      some b11
/-- reticule/reticulelaw04.SenseTurns -/
noncomputable def reticulelaw04_SenseTurns_L0 : Nat → ((List (BitVec 8)) × (List (Int × (Int × (Int × Unit)))) × (List (Int × (Int × (Int × Unit)))) × (List (Int × (Int × (Int × Unit)))) × Int) → Option (((List (Int × (Int × (Int × Unit)))) × (List (Int × (Int × (Int × Unit))))) ⊕ Bool)
  | 0, _ => none
  | n + 1, j =>
  bif decide (j.2.2.2.2 < (j.1.length : Int)) then
      jn (A := ((List (BitVec 8)) × (List (Int × (Int × (Int × Unit)))) × (List (Int × (Int × (Int × Unit)))) × (List (Int × (Int × (Int × Unit)))) × Int)) (R := (((List (Int × (Int × (Int × Unit)))) × (List (Int × (Int × (Int × Unit))))) ⊕ Bool)) ((ix j.1 j.2.2.2.2).bind fun x7 =>
        bif decide (((x7 % (6#8)).toNat : Int) = 5) then
          (sense_First j.2.2.1).bind fun r8 =>
          (bif decide ((j.2.2.2.1.length : Int) = 0) then
              (sense_Good r8.1).bind fun r9 =>
              (bif !r9 then
                  some true
                else
                  some (decide (0 < (r8.2.length : Int))) : Option Bool).bind fun b10 =>
              some b10
            else
              some false : Option Bool).bind fun b11 =>
          (bif b11 then
              some true
            else
              (bif decide (0 < (j.2.2.2.1.length : Int)) then
                  (ix j.2.2.2.1 0).bind fun x12 =>
                  some (!((decide (r8.1.1 = x12.1)) && ((decide (r8.1.2.1 = x12.2.1)) && ((decide (r8.1.2.2.1 = x12.2.2.1)) && true))))
                else
                  some false : Option Bool).bind fun b13 =>
              some b13 : Option Bool).bind fun b14 =>
          bif b14 then
            some (Sum.inr (Sum.inr false))
          else
            jn (A := ((List (BitVec 8)) × (List (Int × (Int × (Int × Unit)))) × (List (Int × (Int × (Int × Unit)))) × Int × (List (Int × (Int × (Int × Unit)))))) (R := (((List (BitVec 8)) × (List (Int × (Int × (Int × Unit)))) × (List (Int × (Int × (Int × Unit)))) × (List (Int × (Int × (Int × Unit)))) × Int) ⊕ (((List (Int × (Int × (Int × Unit)))) × (List (Int × (Int × (Int × Unit))))) ⊕ Bool))) (bif decide (0 < (j.2.2.2.1.length : Int)) then
                (chk (decide (0 ≤ (1 : Int)) && decide ((1 : Int) ≤ (j.2.2.2.1.length : Int)))).bind fun _ =>
                (chk (decide (([] : List (Int × (Int × (Int × Unit)))).length + (j.2.2.2.1.drop (1 : Int).toNat).length ≤ lim))).bind fun _ =>
                some (Sum.inl (j.1, j.2.1, ([] : List (Int × (Int × (Int × Unit)))) ++ (j.2.2.2.1.drop (1 : Int).toNat), j.2.2.2.2, r8.2))
              else
                some (Sum.inl (j.1, j.2.1, j.2.2.2.1, j.2.2.2.2, r8.2))) fun j15 =>
            some (Sum.inl (j15.1, j15.2.1, j15.2.2.2.2, j15.2.2.1, j15.2.2.2.1))
        else
          (chk (inLen ((x7 % (6#8)).toNat : Int) 5)).bind fun _ =>
          ((j.2.1[(((x7 % (6#8)).toNat : Int) : Int).toNat]?).bind fun y16 =>
            some y16).bind fun x17 =>
          (sense_Add (j.2.2.1, x17)).bind fun r18 =>
          jn (A := ((List (BitVec 8)) × (List (Int × (Int × (Int × Unit)))) × (List (Int × (Int × (Int × Unit)))) × (List (Int × (Int × (Int × Unit)))) × Int)) (R := (((List (BitVec 8)) × (List (Int × (Int × (Int × Unit)))) × (List (Int × (Int × (Int × Unit)))) × (List (Int × (Int × (Int × Unit)))) × Int) ⊕ (((List (Int × (Int × (Int × Unit)))) × (List (Int × (Int × (Int × Unit))))) ⊕ Bool))) ((bif decide (((x7 % (6#8)).toNat : Int) = 0) then
                (chk (inLen 0 5)).bind fun _ =>
                ((j.2.1[(0 : Int).toNat]?).bind fun y19 =>
                  some y19).bind fun x20 =>
                (reticuleref04_Has (j.2.2.2.1, x20)).bind fun r21 =>
                some (!r21)
              else
                some false : Option Bool).bind fun b22 =>
            bif b22 then
              (chk (inLen 0 5)).bind fun _ =>
              ((j.2.1[(0 : Int).toNat]?).bind fun y23 =>
                some y23).bind fun x24 =>
              some (Sum.inl (j.1, j.2.1, r18, ([x24] : List (Int × (Int × (Int × Unit)))), j.2.2.2.2))
            else
              (chk (inLen ((x7 % (6#8)).toNat : Int) 5)).bind fun _ =>
              ((j.2.1[(((x7 % (6#8)).toNat : Int) : Int).toNat]?).bind fun y25 =>
                some y25).bind fun x26 =>
              (reticuleref04_Has (j.2.2.2.1, x26)).bind fun r27 =>
              (bif !r27 then
                  some (decide ((j.2.2.2.1.length : Int) < 4))
                else
                  some false : Option Bool).bind fun b28 =>
              bif b28 then
                (chk (inLen ((x7 % (6#8)).toNat : Int) 5)).bind fun _ =>
                ((j.2.1[(((x7 % (6#8)).toNat : Int) : Int).toNat]?).bind fun y29 =>
                  some y29).bind fun x30 =>
                (chk (decide (j.2.2.2.1.length + ([x30] : List (Int × (Int × (Int × Unit)))).length ≤ lim))).bind fun _ =>
                some (Sum.inl (j.1, j.2.1, r18, j.2.2.2.1 ++ ([x30] : List (Int × (Int × (Int × Unit)))), j.2.2.2.2))
              else
                some (Sum.inl (j.1, j.2.1, r18, j.2.2.2.1, j.2.2.2.2))) fun j31 =>
          (reticuleref04_Same (j31.2.2.1, j31.2.2.2.1)).bind fun r32 =>
          (bif !r32 then
              some true
            else
              some (decide (4 < (j31.2.2.1.length : Int))) : Option Bool).bind fun b33 =>
          bif b33 then
            some (Sum.inr (Sum.inr false))
          else
            some (Sum.inl (j31.1, j31.2.1, j31.2.2.1, j31.2.2.2.1, j31.2.2.2.2))) fun j34 =>
      reticulelaw04_SenseTurns_L0 n (j34.1, j34.2.1, j34.2.2.1, j34.2.2.2.1, w64 (j34.2.2.2.2 + 1))
    else
      some (Sum.inl (j.2.2.1, j.2.2.2.1))
noncomputable def reticulelaw04_SenseTurns (x : (List (BitVec 8))) : Option Bool :=
  (reticulelaw04_alive ()).bind fun r1 =>
  bif !r1 then
    some false
  else
    bif decide (100 < (x.length : Int)) then
      some true
    else
      (sense_PowerOn ()).bind fun r2 =>
      (sense_BusReset ()).bind fun r3 =>
      (sense_UnitReset ()).bind fun r4 =>
      (sense_NexusLoss ()).bind fun r5 =>
      (sense_NewMedium ()).bind fun r6 =>
      jn (A := ((List (Int × (Int × (Int × Unit)))) × (List (Int × (Int × (Int × Unit)))))) (R := Bool) (reticulelaw04_SenseTurns_L0 Big (x, ([r2, r3, r4, r5, r6] : List (Int × (Int × (Int × Unit)))), ([] : List (Int × (Int × (Int × Unit)))), ([] : List (Int × (Int × (Int × Unit)))), 0)) fun q35 =>
      (reticuleref04_Same (q35.1, q35.2)).bind fun r36 =>
      some r36
end Go.Proofs.Ytmkffbacmjgbcaa
