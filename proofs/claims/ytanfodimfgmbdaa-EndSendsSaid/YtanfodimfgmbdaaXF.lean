/- The program's functions as plain ones. Printed by the session's own program. -/
import Derived.Test.YtanfodimfgmbdaaRfH
namespace Go.Proofs.Ytanfodimfgmbdaa
open Go Go.Re
set_option linter.unusedVariables false
set_option linter.unusedSimpArgs false
/-- reticule/endpoint.Flush -/
noncomputable def endpoint_Flush (x : (Bool × (Int × (Bool × (Int × (List (BitVec 8) × Unit)))))) : Option (Bool × (Int × (Bool × (Int × (List (BitVec 8) × Unit))))) :=
  some (x.1, x.2.1, false, 0, ([] : List (BitVec 8)), x.2.2.2.2.2)
/-- bytes.Equal -/
noncomputable def bytes_Equal (x : (List (BitVec 8)) × (List (BitVec 8))) : Option Bool :=
  (chk (decide (x.1.length ≤ lim))).bind fun _ =>
  (chk (decide (x.2.length ≤ lim))).bind fun _ =>
  some (decide (x.1 = x.2))
/-- reticule/endpoint.Same -/
noncomputable def endpoint_Same (x : (Bool × (Int × (Bool × (Int × (List (BitVec 8) × Unit))))) × (Bool × (Int × (Bool × (Int × (List (BitVec 8) × Unit)))))) : Option Bool :=
  (bif decide (x.1.1 = x.2.1) then
      some (decide (x.1.2.1 = x.2.2.1))
    else
      some false : Option Bool).bind fun b1 =>
  (bif b1 then
      some (decide (x.1.2.2.1 = x.2.2.2.1))
    else
      some false : Option Bool).bind fun b2 =>
  (bif b2 then
      some (decide (x.1.2.2.2.1 = x.2.2.2.2.1))
    else
      some false : Option Bool).bind fun b3 =>
  (bif b3 then
      (bytes_Equal (x.1.2.2.2.2.1, x.2.2.2.2.2.1)).bind fun r4 =>
      some r4
    else
      some false : Option Bool).bind fun b5 =>
  some b5
/-- reticule/endpoint.Right -/
noncomputable def endpoint_Right (x : (Bool × (Int × (Bool × (Int × (List (BitVec 8) × Unit)))))) : Option Bool :=
  (bif decide (x.2.1 = (BitVec.toInt (BitVec.ofInt 64 x.2.1 &&& BitVec.ofInt 64 1))) then
      some (decide ((x.2.2.2.2.1.length : Int) ≤ 64))
    else
      some false : Option Bool).bind fun b1 =>
  (bif b1 then
      (bif x.2.2.1 then
          some true
        else
          (endpoint_Flush x).bind fun r2 =>
          (endpoint_Same (x, r2)).bind fun r3 =>
          some r3 : Option Bool).bind fun b4 =>
      some b4
    else
      some false : Option Bool).bind fun b5 =>
  some b5
/-- reticule/endpoint.told -/
noncomputable def endpoint_told (x : Int) : Option (Int × (Int × (List (BitVec 8) × Unit))) :=
  some (x, 0, ([] : List (BitVec 8)), ())
/-- bytes.Clone -/
noncomputable def bytes_Clone (x : (List (BitVec 8))) : Option (List (BitVec 8)) :=
  bif List.isEmpty x then
    both (some ([] : List (BitVec 8))) ((chk (decide (([] : List (BitVec 8)).length + x.length ≤ lim))).bind fun _ =>
      some (([] : List (BitVec 8)) ++ x))
  else
    (chk (decide (([] : List (BitVec 8)).length + x.length ≤ lim))).bind fun _ =>
    some (([] : List (BitVec 8)) ++ x)
/-- reticule/endpoint.send -/
noncomputable def endpoint_send (x : (Bool × (Int × (Bool × (Int × (List (BitVec 8) × Unit))))) × Bool) : Option ((Bool × (Int × (Bool × (Int × (List (BitVec 8) × Unit))))) × (Int × (Int × (List (BitVec 8) × Unit)))) :=
  (bytes_Clone x.1.2.2.2.2.1).bind fun r1 =>
  jn (A := ((Bool × (Int × (Bool × (Int × (List (BitVec 8) × Unit))))) × (Bool × (Int × (Bool × (Int × (List (BitVec 8) × Unit))))) × (Int × (Int × (List (BitVec 8) × Unit))) × (Int × (Int × (List (BitVec 8) × Unit))))) (R := ((Bool × (Int × (Bool × (Int × (List (BitVec 8) × Unit))))) × (Int × (Int × (List (BitVec 8) × Unit))))) (bif x.2 then
      (endpoint_Flush x.1).bind fun r2 =>
      some (Sum.inl ((r2.1, BitVec.toInt (BitVec.ofInt 64 r2.2.1 ^^^ BitVec.ofInt 64 1), r2.2.2), (false, 0, false, 0, ([] : List (BitVec 8)), ()), (0, 0, ([] : List (BitVec 8)), ()), 4, x.1.2.1, r1, ()))
    else
      some (Sum.inl (x.1, (false, 0, false, 0, ([] : List (BitVec 8)), ()), (0, 0, ([] : List (BitVec 8)), ()), 4, x.1.2.1, r1, ()))) fun j3 =>
  some (j3.1, j3.2.2.2)
/-- reticule/endpoint.In -/
noncomputable def endpoint_In (x : (Bool × (Int × (Bool × (Int × (List (BitVec 8) × Unit))))) × (Int × (Int × (Int × (Int × (Int × (Bool × (Int × (BitVec 64 × (List (BitVec 8) × Unit))))))))) × (List (BitVec 8)) × Bool) : Option ((Bool × (Int × (Bool × (Int × (List (BitVec 8) × Unit))))) × (Int × (Int × (List (BitVec 8) × Unit))) × Bool) :=
  (endpoint_Right x.1).bind fun r1 =>
  bif !r1 then
    (endpoint_told 0).bind fun r2 =>
    some (x.1, r2, false)
  else
    (bif x.1.2.2.1 then
        some (!decide (x.1.2.2.2.1 = x.2.1.2.2.2.1))
      else
        some false : Option Bool).bind fun b3 =>
    bif b3 then
      (endpoint_told 2).bind fun r4 =>
      some (x.1, r4, false)
    else
      bif x.1.2.2.1 then
        (endpoint_send (x.1, x.2.1.2.2.2.2.2.1)).bind fun r5 =>
        some (r5.1, r5.2, false)
      else
        bif x.1.1 then
          (endpoint_told 3).bind fun r6 =>
          some (x.1, r6, false)
        else
          bif !x.2.2.2 then
            (endpoint_told 2).bind fun r7 =>
            some (x.1, r7, false)
          else
            (chk (decide (0 ≤ (bif decide (64 < (x.2.2.1.length : Int)) then 64 else (x.2.2.1.length : Int) : Int)) && decide ((bif decide (64 < (x.2.2.1.length : Int)) then 64 else (x.2.2.1.length : Int) : Int) ≤ (x.2.2.1.length : Int)))).bind fun _ =>
            (bytes_Clone (x.2.2.1.take (bif decide (64 < (x.2.2.1.length : Int)) then 64 else (x.2.2.1.length : Int) : Int).toNat)).bind fun r8 =>
            (endpoint_send ((x.1.1, x.1.2.1, true, x.2.1.2.2.2.1, r8, x.1.2.2.2.2.2), x.2.1.2.2.2.2.2.1)).bind fun r9 =>
            some (r9.1, r9.2, true)
/-- reticule/reticuleref16.Replies -/
noncomputable def reticuleref16_Replies (x : (Int × (Int × (List (BitVec 8) × Unit))) × (Int × (Int × (List (BitVec 8) × Unit)))) : Option Bool :=
  (bif decide (x.1.1 = x.2.1) then
      some (decide (x.1.2.1 = x.2.2.1))
    else
      some false : Option Bool).bind fun b1 =>
  (bif b1 then
      (chk (decide (x.1.2.2.1.length ≤ lim))).bind fun _ =>
      (chk (decide (x.2.2.2.1.length ≤ lim))).bind fun _ =>
      some (decide (x.1.2.2.1 = x.2.2.2.1))
    else
      some false : Option Bool).bind fun b2 =>
  some b2
/-- reticule/endpoint.Out -/
noncomputable def endpoint_Out (x : (Bool × (Int × (Bool × (Int × (List (BitVec 8) × Unit))))) × (Int × (Int × (Int × (Int × (Int × (Bool × (Int × (BitVec 64 × (List (BitVec 8) × Unit))))))))) × Bool) : Option ((Bool × (Int × (Bool × (Int × (List (BitVec 8) × Unit))))) × (Int × (Int × (List (BitVec 8) × Unit))) × Bool) :=
  (endpoint_Right x.1).bind fun r1 =>
  (bif !r1 then
      some true
    else
      some (decide (64 < (x.2.1.2.2.2.2.2.2.2.2.1.length : Int))) : Option Bool).bind fun b2 =>
  bif b2 then
    (endpoint_told 0).bind fun r3 =>
    some (x.1, r3, false)
  else
    bif x.1.1 then
      (endpoint_told 3).bind fun r4 =>
      some (x.1, r4, false)
    else
      bif !decide (x.2.1.2.2.2.2.1 = x.1.2.1) then
        (endpoint_told 1).bind fun r5 =>
        some (x.1, r5, false)
      else
        bif !x.2.2 then
          (endpoint_told 2).bind fun r6 =>
          some (x.1, r6, false)
        else
          (endpoint_told 1).bind fun r7 =>
          some ((x.1.1, BitVec.toInt (BitVec.ofInt 64 x.1.2.1 ^^^ BitVec.ofInt 64 1), x.1.2.2), r7, true)
/-- reticule/endpoint.Stall -/
noncomputable def endpoint_Stall (x : (Bool × (Int × (Bool × (Int × (List (BitVec 8) × Unit)))))) : Option (Bool × (Int × (Bool × (Int × (List (BitVec 8) × Unit))))) :=
  some (true, x.2)
/-- reticule/endpoint.Halt -/
noncomputable def endpoint_Halt (x : (Bool × (Int × (Bool × (Int × (List (BitVec 8) × Unit)))))) : Option (Bool × (Int × (Bool × (Int × (List (BitVec 8) × Unit))))) :=
  (endpoint_Flush x).bind fun r1 =>
  (endpoint_Stall r1).bind fun r2 =>
  some r2
/-- reticule/reticulelaw16.alive -/
noncomputable def reticulelaw16_alive (x : Unit) : Option Bool :=
  (chk (decide (0 < ([97#8, 98#8] : List (BitVec 8)).length))).bind fun _ =>
  (endpoint_In ((false, 0, false, 0, ([] : List (BitVec 8)), ()), (0, 0, 0, 0, 0, false, 0, 0#64, ([] : List (BitVec 8)), ()), ([97#8, 98#8] : List (BitVec 8)), true)).bind fun r1 =>
  (chk (decide (0 < ([99#8, 100#8] : List (BitVec 8)).length))).bind fun _ =>
  (endpoint_In (r1.1, (0, 0, 0, 0, 0, true, 0, 0#64, ([] : List (BitVec 8)), ()), ([99#8, 100#8] : List (BitVec 8)), true)).bind fun r2 =>
  (bif !r1.2.2 then
      some true
    else
      some r2.2.2 : Option Bool).bind fun b3 =>
  (bif b3 then
      some true
    else
      some (!decide (r1.2.1.1 = 4)) : Option Bool).bind fun b4 =>
  (bif b4 then
      some true
    else
      some (!decide (r1.2.1.2.1 = 0)) : Option Bool).bind fun b5 =>
  (bif b5 then
      some true
    else
      (chk (decide (r1.2.1.2.2.1.length ≤ lim))).bind fun _ =>
      some (!(decide (r1.2.1.2.2.1 = ([97#8, 98#8] : List (BitVec 8))))) : Option Bool).bind fun b6 =>
  (bif b6 then
      some true
    else
      (reticuleref16_Replies (r1.2.1, r2.2.1)).bind fun r7 =>
      some (!r7) : Option Bool).bind fun b8 =>
  (bif b8 then
      some true
    else
      (endpoint_Same (r2.1, false, 1, false, 0, ([] : List (BitVec 8)), ())).bind fun r9 =>
      some (!r9) : Option Bool).bind fun b10 =>
  bif b10 then
    some false
  else
    (endpoint_Out (r2.1, (0, 0, 0, 0, 1, false, 0, 0#64, ([] : List (BitVec 8)), ()), true)).bind fun r11 =>
    (endpoint_Out (r11.1, (0, 0, 0, 0, 1, false, 0, 0#64, ([] : List (BitVec 8)), ()), true)).bind fun r12 =>
    (endpoint_Halt r12.1).bind fun r13 =>
    (endpoint_In (r13, (0, 0, 0, 0, 0, false, 0, 0#64, ([] : List (BitVec 8)), ()), ([] : List (BitVec 8)), true)).bind fun r14 =>
    (bif r11.2.2 then
        some (!r12.2.2)
      else
        some false : Option Bool).bind fun b15 =>
    (bif b15 then
        some (decide (r11.2.1.1 = 1))
      else
        some false : Option Bool).bind fun b16 =>
    (bif b16 then
        some (decide (r12.2.1.1 = 1))
      else
        some false : Option Bool).bind fun b17 =>
    (bif b17 then
        some (decide (r12.1.2.1 = 0))
      else
        some false : Option Bool).bind fun b18 =>
    (bif b18 then
        some (decide (r14.2.1.1 = 3))
      else
        some false : Option Bool).bind fun b19 =>
    (bif b19 then
        (endpoint_Right r12.1).bind fun r20 =>
        some r20
      else
        some false : Option Bool).bind fun b21 =>
    (bif b21 then
        (endpoint_Right (false, 2, false, 0, ([] : List (BitVec 8)), ())).bind fun r22 =>
        some (!r22)
      else
        some false : Option Bool).bind fun b23 =>
    some b23
/-- reticule/reticuleref16.Copy -/
noncomputable def reticuleref16_Copy (x : (Bool × (Int × (Bool × (Int × (List (BitVec 8) × Unit)))))) : Option (Bool × (Int × (Bool × (Int × (List (BitVec 8) × Unit))))) :=
  (chk (decide (([] : List (BitVec 8)).length + x.2.2.2.2.1.length ≤ lim))).bind fun _ =>
  some (x.1, x.2.1, x.2.2.1, x.2.2.2.1, ([] : List (BitVec 8)) ++ x.2.2.2.2.1, x.2.2.2.2.2)
/-- reticule/reticuleref16.Right -/
noncomputable def reticuleref16_Right (x : (Bool × (Int × (Bool × (Int × (List (BitVec 8) × Unit)))))) : Option Bool :=
  (bif decide (x.2.1 = 0) then
      some true
    else
      some (decide (x.2.1 = 1)) : Option Bool).bind fun b1 =>
  (bif b1 then
      some (decide ((x.2.2.2.2.1.length : Int) ≤ 64))
    else
      some false : Option Bool).bind fun b2 =>
  (bif b2 then
      (bif x.2.2.1 then
          some true
        else
          (bif decide ((x.2.2.2.2.1.length : Int) = 0) then
              some (decide (x.2.2.2.1 = 0))
            else
              some false : Option Bool).bind fun b3 =>
          some b3 : Option Bool).bind fun b4 =>
      some b4
    else
      some false : Option Bool).bind fun b5 =>
  some b5
/-- reticule/reticuleref16.Cut -/
noncomputable def reticuleref16_Cut (x : (List (BitVec 8))) : Option (List (BitVec 8)) :=
  bif decide (64 < (x.length : Int)) then
    (chk (decide (0 ≤ (64 : Int)) && decide ((64 : Int) ≤ (x.length : Int)))).bind fun _ =>
    some (x.take (64 : Int).toNat)
  else
    some x
/-- reticule/reticuleref16.In -/
noncomputable def reticuleref16_In (x : (Bool × (Int × (Bool × (Int × (List (BitVec 8) × Unit))))) × (Int × (Int × (Int × (Int × (Int × (Bool × (Int × (BitVec 64 × (List (BitVec 8) × Unit))))))))) × (List (BitVec 8)) × Bool) : Option ((Bool × (Int × (Bool × (Int × (List (BitVec 8) × Unit))))) × (Int × (Int × (List (BitVec 8) × Unit))) × Bool) :=
  (reticuleref16_Right x.1).bind fun r1 =>
  bif !r1 then
    some (x.1, (0, 0, ([] : List (BitVec 8)), ()), false)
  else
    (bif x.1.2.2.1 then
        some (!decide (x.1.2.2.2.1 = x.2.1.2.2.2.1))
      else
        some false : Option Bool).bind fun b2 =>
    bif b2 then
      some (x.1, (2, 0, ([] : List (BitVec 8)), ()), false)
    else
      (bif !x.1.2.2.1 then
          some x.1.1
        else
          some false : Option Bool).bind fun b3 =>
      bif b3 then
        some (x.1, (3, 0, ([] : List (BitVec 8)), ()), false)
      else
        (bif !x.1.2.2.1 then
            some (!x.2.2.2)
          else
            some false : Option Bool).bind fun b4 =>
        bif b4 then
          some (x.1, (2, 0, ([] : List (BitVec 8)), ()), false)
        else
          jn (A := ((Bool × (Int × (Bool × (Int × (List (BitVec 8) × Unit))))) × (Int × (Int × (Int × (Int × (Int × (Bool × (Int × (BitVec 64 × (List (BitVec 8) × Unit))))))))) × (Bool × (Int × (Bool × (Int × (List (BitVec 8) × Unit))))) × (Int × (Int × (List (BitVec 8) × Unit))) × Bool × (Int × (Int × (List (BitVec 8) × Unit))))) (R := ((Bool × (Int × (Bool × (Int × (List (BitVec 8) × Unit))))) × (Int × (Int × (List (BitVec 8) × Unit))) × Bool)) (bif !x.1.2.2.1 then
              (reticuleref16_Cut x.2.2.1).bind fun r5 =>
              some (Sum.inl (x.1, x.2.1, (false, 0, false, 0, ([] : List (BitVec 8)), ()), (0, 0, ([] : List (BitVec 8)), ()), !x.1.2.2.1, 4, x.1.2.1, r5, ()))
            else
              some (Sum.inl (x.1, x.2.1, (false, 0, false, 0, ([] : List (BitVec 8)), ()), (0, 0, ([] : List (BitVec 8)), ()), !x.1.2.2.1, 4, x.1.2.1, x.1.2.2.2.2.1, ()))) fun j6 =>
          bif j6.2.1.2.2.2.2.2.1 then
            some ((j6.1.1, w64 ((1 : Int) - j6.1.2.1), false, 0, ([] : List (BitVec 8)), ()), j6.2.2.2.2.2, j6.2.2.2.2.1)
          else
            some ((j6.1.1, j6.1.2.1, true, j6.2.1.2.2.2.1, j6.2.2.2.2.2.2.2.1, ()), j6.2.2.2.2.2, j6.2.2.2.2.1)
/-- reticule/reticuleref16.Same -/
noncomputable def reticuleref16_Same (x : (Bool × (Int × (Bool × (Int × (List (BitVec 8) × Unit))))) × (Bool × (Int × (Bool × (Int × (List (BitVec 8) × Unit)))))) : Option Bool :=
  (bif decide (x.1.1 = x.2.1) then
      some (decide (x.1.2.1 = x.2.2.1))
    else
      some false : Option Bool).bind fun b1 =>
  (bif b1 then
      some (decide (x.1.2.2.1 = x.2.2.2.1))
    else
      some false : Option Bool).bind fun b2 =>
  (bif b2 then
      some (decide (x.1.2.2.2.1 = x.2.2.2.2.1))
    else
      some false : Option Bool).bind fun b3 =>
  (bif b3 then
      (chk (decide (x.1.2.2.2.2.1.length ≤ lim))).bind fun _ =>
      (chk (decide (x.2.2.2.2.2.1.length ≤ lim))).bind fun _ =>
      some (decide (x.1.2.2.2.2.1 = x.2.2.2.2.2.1))
    else
      some false : Option Bool).bind fun b4 =>
  some b4
/-- reticule/reticulelaw16.EndAsks -/
noncomputable def reticulelaw16_EndAsks_L0 : Nat → ((List (BitVec 8)) × (Bool × (Int × (Bool × (Int × (List (BitVec 8) × Unit))))) × (Int × (Int × (Int × (Int × (Int × (Bool × (Int × (BitVec 64 × (List (BitVec 8) × Unit))))))))) × (Bool × (Int × (Bool × (Int × (List (BitVec 8) × Unit))))) × Int) → Option (((Bool × (Int × (Bool × (Int × (List (BitVec 8) × Unit))))) × (Bool × (Int × (Bool × (Int × (List (BitVec 8) × Unit)))))) ⊕ Bool)
  | 0, _ => none
  | n + 1, j =>
  bif decide (j.2.2.2.2 < 2) then
      (endpoint_In (j.2.2.2.1, j.2.2.1, j.1, decide (j.2.2.2.2 = 0))).bind fun r5 =>
      (reticuleref16_In (j.2.1, j.2.2.1, j.1, decide (j.2.2.2.2 = 0))).bind fun r6 =>
      (reticuleref16_Same (r5.1, r6.1)).bind fun r7 =>
      (bif !r7 then
          some true
        else
          (reticuleref16_Replies (r5.2.1, r6.2.1)).bind fun r8 =>
          some (!r8) : Option Bool).bind fun b9 =>
      (bif b9 then
          some true
        else
          some (!(decide (r5.2.2 = r6.2.2))) : Option Bool).bind fun b10 =>
      bif b10 then
        some (Sum.inr false)
      else
        reticulelaw16_EndAsks_L0 n (j.1, j.2.1, j.2.2.1, j.2.2.2.1, w64 (j.2.2.2.2 + 1))
    else
      some (Sum.inl (j.2.1, j.2.2.2.1))
noncomputable def reticulelaw16_EndAsks (x : (Bool × (Int × (Bool × (Int × (List (BitVec 8) × Unit))))) × (Int × (Int × (Int × (Int × (Int × (Bool × (Int × (BitVec 64 × (List (BitVec 8) × Unit))))))))) × (List (BitVec 8))) : Option Bool :=
  (reticulelaw16_alive ()).bind fun r1 =>
  bif !r1 then
    some false
  else
    (bif decide (100 < (x.1.2.2.2.2.1.length : Int)) then
        some true
      else
        some (decide (100 < (x.2.1.2.2.2.2.2.2.2.2.1.length : Int))) : Option Bool).bind fun b2 =>
    (bif b2 then
        some true
      else
        some (decide (200 < (x.2.2.length : Int))) : Option Bool).bind fun b3 =>
    bif b3 then
      some true
    else
      (reticuleref16_Copy x.1).bind fun r4 =>
      jn (A := ((Bool × (Int × (Bool × (Int × (List (BitVec 8) × Unit))))) × (Bool × (Int × (Bool × (Int × (List (BitVec 8) × Unit))))))) (R := Bool) (reticulelaw16_EndAsks_L0 Big (x.2.2, x.1, x.2.1, r4, 0)) fun q11 =>
      (reticuleref16_Same (q11.2, q11.1)).bind fun r12 =>
      some r12
/-- reticule/reticuleref16.Out -/
noncomputable def reticuleref16_Out (x : (Bool × (Int × (Bool × (Int × (List (BitVec 8) × Unit))))) × (Int × (Int × (Int × (Int × (Int × (Bool × (Int × (BitVec 64 × (List (BitVec 8) × Unit))))))))) × Bool) : Option ((Bool × (Int × (Bool × (Int × (List (BitVec 8) × Unit))))) × (Int × (Int × (List (BitVec 8) × Unit))) × Bool) :=
  (reticuleref16_Right x.1).bind fun r1 =>
  (bif !r1 then
      some true
    else
      some (decide (64 < (x.2.1.2.2.2.2.2.2.2.2.1.length : Int))) : Option Bool).bind fun b2 =>
  bif b2 then
    some (x.1, (0, 0, ([] : List (BitVec 8)), ()), false)
  else
    bif x.1.1 then
      some (x.1, (3, 0, ([] : List (BitVec 8)), ()), false)
    else
      bif !decide (x.2.1.2.2.2.2.1 = x.1.2.1) then
        some (x.1, (1, 0, ([] : List (BitVec 8)), ()), false)
      else
        bif !x.2.2 then
          some (x.1, (2, 0, ([] : List (BitVec 8)), ()), false)
        else
          some ((x.1.1, w64 ((1 : Int) - x.1.2.1), x.1.2.2), (1, 0, ([] : List (BitVec 8)), ()), true)
/-- reticule/reticulelaw16.EndTakes -/
noncomputable def reticulelaw16_EndTakes_L0 : Nat → ((Bool × (Int × (Bool × (Int × (List (BitVec 8) × Unit))))) × (Int × (Int × (Int × (Int × (Int × (Bool × (Int × (BitVec 64 × (List (BitVec 8) × Unit))))))))) × (Bool × (Int × (Bool × (Int × (List (BitVec 8) × Unit))))) × Int) → Option (((Bool × (Int × (Bool × (Int × (List (BitVec 8) × Unit))))) × (Bool × (Int × (Bool × (Int × (List (BitVec 8) × Unit)))))) ⊕ Bool)
  | 0, _ => none
  | n + 1, j =>
  bif decide (j.2.2.2 < 2) then
      (endpoint_Out (j.2.2.1, j.2.1, decide (j.2.2.2 = 0))).bind fun r4 =>
      (reticuleref16_Out (j.1, j.2.1, decide (j.2.2.2 = 0))).bind fun r5 =>
      (reticuleref16_Same (r4.1, r5.1)).bind fun r6 =>
      (bif !r6 then
          some true
        else
          (reticuleref16_Replies (r4.2.1, r5.2.1)).bind fun r7 =>
          some (!r7) : Option Bool).bind fun b8 =>
      (bif b8 then
          some true
        else
          some (!(decide (r4.2.2 = r5.2.2))) : Option Bool).bind fun b9 =>
      bif b9 then
        some (Sum.inr false)
      else
        reticulelaw16_EndTakes_L0 n (j.1, j.2.1, j.2.2.1, w64 (j.2.2.2 + 1))
    else
      some (Sum.inl (j.1, j.2.2.1))
noncomputable def reticulelaw16_EndTakes (x : (Bool × (Int × (Bool × (Int × (List (BitVec 8) × Unit))))) × (Int × (Int × (Int × (Int × (Int × (Bool × (Int × (BitVec 64 × (List (BitVec 8) × Unit)))))))))) : Option Bool :=
  (reticulelaw16_alive ()).bind fun r1 =>
  bif !r1 then
    some false
  else
    (bif decide (100 < (x.1.2.2.2.2.1.length : Int)) then
        some true
      else
        some (decide (200 < (x.2.2.2.2.2.2.2.2.2.1.length : Int))) : Option Bool).bind fun b2 =>
    bif b2 then
      some true
    else
      (reticuleref16_Copy x.1).bind fun r3 =>
      jn (A := ((Bool × (Int × (Bool × (Int × (List (BitVec 8) × Unit))))) × (Bool × (Int × (Bool × (Int × (List (BitVec 8) × Unit))))))) (R := Bool) (reticulelaw16_EndTakes_L0 Big (x.1, x.2, r3, 0)) fun q10 =>
      (reticuleref16_Same (q10.2, q10.1)).bind fun r11 =>
      some r11
/-- reticule/reticulelaw16.great -/
noncomputable def reticulelaw16_great_L0 : Nat → ((List (List (BitVec 8))) × Int) → Option (Unit ⊕ Bool)
  | 0, _ => none
  | n + 1, j =>
  bif decide (j.2 < (j.1.length : Int)) then
      (ix j.1 j.2).bind fun x2 =>
      bif decide (200 < (x2.length : Int)) then
        some (Sum.inr true)
      else
        reticulelaw16_great_L0 n (j.1, w64 (j.2 + 1))
    else
      some (Sum.inl ())
noncomputable def reticulelaw16_great (x : (List (List (BitVec 8))) × (List (Bool × (Bool × (Bool × Unit))))) : Option Bool :=
  (bif decide (30 < (x.1.length : Int)) then
      some true
    else
      some (decide (100 < (x.2.length : Int))) : Option Bool).bind fun b1 =>
  bif b1 then
    some true
  else
    jn (A := Unit) (R := Bool) (reticulelaw16_great_L0 Big (x.1, 0)) fun q3 =>
    some false
/-- reticule/reticulelaw16.begins -/
noncomputable def reticulelaw16_begins_L0 : Nat → ((List (List (BitVec 8))) × (List (List (BitVec 8))) × Int) → Option (Unit ⊕ Bool)
  | 0, _ => none
  | n + 1, j =>
  bif decide (j.2.2 < (j.1.length : Int)) then
      (ix j.1 j.2.2).bind fun x1 =>
      (chk (decide (x1.length ≤ lim))).bind fun _ =>
      (ix j.2.1 j.2.2).bind fun x2 =>
      (reticuleref16_Cut x2).bind fun r3 =>
      (chk (decide (r3.length ≤ lim))).bind fun _ =>
      bif !(decide (x1 = r3)) then
        some (Sum.inr false)
      else
        reticulelaw16_begins_L0 n (j.1, j.2.1, w64 (j.2.2 + 1))
    else
      some (Sum.inl ())
noncomputable def reticulelaw16_begins (x : (List (List (BitVec 8))) × (List (List (BitVec 8)))) : Option Bool :=
  bif decide ((x.2.length : Int) < (x.1.length : Int)) then
    some false
  else
    jn (A := Unit) (R := Bool) (reticulelaw16_begins_L0 Big (x.1, x.2, 0)) fun q4 =>
    some true
/-- reticule/reticulelaw16.EndSends -/
noncomputable def reticulelaw16_EndSends_L0 : Nat → ((List (List (BitVec 8))) × (List (Bool × (Bool × (Bool × Unit)))) × (Bool × (Int × (Bool × (Int × (List (BitVec 8) × Unit))))) × (List (List (BitVec 8))) × Int × Int × Int) → Option (Unit ⊕ Bool)
  | 0, _ => none
  | n + 1, j =>
  bif decide (j.2.2.2.2.2.2 < (j.2.1.length : Int)) then
      jn (A := ((List (List (BitVec 8))) × (List (Bool × (Bool × (Bool × Unit)))) × (Bool × (Int × (Bool × (Int × (List (BitVec 8) × Unit))))) × (List (List (BitVec 8))) × Int × Int × Int × (List (BitVec 8)))) (R := (Unit ⊕ Bool)) (bif decide (j.2.2.2.2.1 < (j.1.length : Int)) then
          (ix j.1 j.2.2.2.2.1).bind fun x3 =>
          some (Sum.inl (j.1, j.2.1, j.2.2.1, j.2.2.2.1, j.2.2.2.2.1, j.2.2.2.2.2.1, j.2.2.2.2.2.2, x3))
        else
          some (Sum.inl (j.1, j.2.1, j.2.2.1, j.2.2.2.1, j.2.2.2.2.1, j.2.2.2.2.2.1, j.2.2.2.2.2.2, ([] : List (BitVec 8))))) fun j4 =>
      (ix j4.2.1 j4.2.2.2.2.2.2.1).bind fun x5 =>
      (bif x5.1 then
          (ix j4.2.1 j4.2.2.2.2.2.2.1).bind fun x6 =>
          some x6.2.1
        else
          some false : Option Bool).bind fun b7 =>
      (endpoint_In (j4.2.2.1, (0, 0, 0, 0, 0, b7, 0, 0#64, ([] : List (BitVec 8)), ()), j4.2.2.2.2.2.2.2, decide (j4.2.2.2.2.1 < (j4.1.length : Int)))).bind fun r8 =>
      jn (A := ((List (List (BitVec 8))) × (List (Bool × (Bool × (Bool × Unit)))) × (Bool × (Int × (Bool × (Int × (List (BitVec 8) × Unit))))) × (List (List (BitVec 8))) × Int × Int × Int × (Int × (Int × (List (BitVec 8) × Unit))))) (R := (Unit ⊕ Bool)) (bif r8.2.2 then
          some (Sum.inl (j4.1, j4.2.1, r8.1, j4.2.2.2.1, w64 (j4.2.2.2.2.1 + 1), j4.2.2.2.2.2.1, j4.2.2.2.2.2.2.1, r8.2.1))
        else
          some (Sum.inl (j4.1, j4.2.1, r8.1, j4.2.2.2.1, j4.2.2.2.2.1, j4.2.2.2.2.2.1, j4.2.2.2.2.2.2.1, r8.2.1))) fun j9 =>
      (bif decide ((j9.1.length : Int) < j9.2.2.2.2.1) then
          some true
        else
          (bif !decide (j9.2.2.2.2.2.2.2.1 = 4) then
              some (!decide (j9.2.2.2.2.2.2.2.1 = 2))
            else
              some false : Option Bool).bind fun b10 =>
          some b10 : Option Bool).bind fun b11 =>
      bif b11 then
        some (Sum.inr false)
      else
        jn (A := ((List (List (BitVec 8))) × (List (Bool × (Bool × (Bool × Unit)))) × (Bool × (Int × (Bool × (Int × (List (BitVec 8) × Unit))))) × (List (List (BitVec 8))) × Int × Int × Int)) (R := (Unit ⊕ Bool)) ((bif decide (j9.2.2.2.2.2.2.2.1 = 4) then
              (ix j9.2.1 j9.2.2.2.2.2.2.1).bind fun x12 =>
              some x12.1
            else
              some false : Option Bool).bind fun b13 =>
          (bif b13 then
              some (decide (j9.2.2.2.2.2.2.2.2.1 = j9.2.2.2.2.2.1))
            else
              some false : Option Bool).bind fun b14 =>
          bif b14 then
            (chk (decide (j9.2.2.2.1.length + ([j9.2.2.2.2.2.2.2.2.2.1] : List (List (BitVec 8))).length ≤ lim))).bind fun _ =>
            some (Sum.inl (j9.1, j9.2.1, j9.2.2.1, j9.2.2.2.1 ++ ([j9.2.2.2.2.2.2.2.2.2.1] : List (List (BitVec 8))), j9.2.2.2.2.1, w64 ((1 : Int) - j9.2.2.2.2.2.1), j9.2.2.2.2.2.2.1))
          else
            some (Sum.inl (j9.1, j9.2.1, j9.2.2.1, j9.2.2.2.1, j9.2.2.2.2.1, j9.2.2.2.2.2.1, j9.2.2.2.2.2.2.1))) fun j15 =>
        (reticulelaw16_begins (j15.2.2.2.1, j15.1)).bind fun r16 =>
        (bif !r16 then
            some true
          else
            some (decide (j15.2.2.2.2.1 < (j15.2.2.2.1.length : Int))) : Option Bool).bind fun b17 =>
        (bif b17 then
            some true
          else
            some (decide ((j15.2.2.2.1.length : Int) < (w64 (j15.2.2.2.2.1 - 1)))) : Option Bool).bind fun b18 =>
        bif b18 then
          some (Sum.inr false)
        else
          reticulelaw16_EndSends_L0 n (j15.1, j15.2.1, j15.2.2.1, j15.2.2.2.1, j15.2.2.2.2.1, j15.2.2.2.2.2.1, w64 (j15.2.2.2.2.2.2 + 1))
    else
      some (Sum.inl ())
noncomputable def reticulelaw16_EndSends (x : (List (List (BitVec 8))) × (List (Bool × (Bool × (Bool × Unit))))) : Option Bool :=
  (reticulelaw16_alive ()).bind fun r1 =>
  bif !r1 then
    some false
  else
    (reticulelaw16_great (x.1, x.2)).bind fun r2 =>
    bif r2 then
      some true
    else
      jn (A := Unit) (R := Bool) (reticulelaw16_EndSends_L0 Big (x.1, x.2, (false, 0, false, 0, ([] : List (BitVec 8)), ()), ([] : List (List (BitVec 8))), 0, 0, 0)) fun q19 =>
      some true
/-- reticule/reticulelaw16.EndHears -/
noncomputable def reticulelaw16_EndHears_L0 : Nat → ((List (List (BitVec 8))) × (List (Bool × (Bool × (Bool × Unit)))) × (Bool × (Int × (Bool × (Int × (List (BitVec 8) × Unit))))) × (List (List (BitVec 8))) × Int × Int) → Option (Unit ⊕ Bool)
  | 0, _ => none
  | n + 1, j =>
  (bif decide (j.2.2.2.2.2 < (j.2.1.length : Int)) then
        some (decide (j.2.2.2.2.1 < (j.1.length : Int)))
      else
        some false : Option Bool).bind fun b3 =>
    bif b3 then
      jn (A := ((List (List (BitVec 8))) × (List (Bool × (Bool × (Bool × Unit)))) × (Bool × (Int × (Bool × (Int × (List (BitVec 8) × Unit))))) × (List (List (BitVec 8))) × Int × Int)) (R := (Unit ⊕ Bool)) ((ix j.2.1 j.2.2.2.2.2).bind fun x4 =>
        bif !x4.1 then
          some (Sum.inl (j.1, j.2.1, j.2.2.1, j.2.2.2.1, j.2.2.2.2.1, j.2.2.2.2.2))
        else
          (ix j.1 j.2.2.2.2.1).bind fun x5 =>
          (reticuleref16_Cut x5).bind fun r6 =>
          (ix j.2.1 j.2.2.2.2.2).bind fun x7 =>
          (endpoint_Out (j.2.2.1, (0, 0, 0, 0, j.2.2.2.2.1.tmod 2, false, 0, 0#64, r6, ()), x7.2.2.1)).bind fun r8 =>
          jn (A := ((List (List (BitVec 8))) × (List (Bool × (Bool × (Bool × Unit)))) × (Bool × (Int × (Bool × (Int × (List (BitVec 8) × Unit))))) × (List (List (BitVec 8))) × Int × Int × (Int × (Int × (List (BitVec 8) × Unit))))) (R := (((List (List (BitVec 8))) × (List (Bool × (Bool × (Bool × Unit)))) × (Bool × (Int × (Bool × (Int × (List (BitVec 8) × Unit))))) × (List (List (BitVec 8))) × Int × Int) ⊕ (Unit ⊕ Bool))) (bif r8.2.2 then
              (chk (decide (j.2.2.2.1.length + ([r6] : List (List (BitVec 8))).length ≤ lim))).bind fun _ =>
              some (Sum.inl (j.1, j.2.1, r8.1, j.2.2.2.1 ++ ([r6] : List (List (BitVec 8))), j.2.2.2.2.1, j.2.2.2.2.2, r8.2.1))
            else
              some (Sum.inl (j.1, j.2.1, r8.1, j.2.2.2.1, j.2.2.2.2.1, j.2.2.2.2.2, r8.2.1))) fun j9 =>
          jn (A := ((List (List (BitVec 8))) × (List (Bool × (Bool × (Bool × Unit)))) × (Bool × (Int × (Bool × (Int × (List (BitVec 8) × Unit))))) × (List (List (BitVec 8))) × Int × Int × (Int × (Int × (List (BitVec 8) × Unit))))) (R := (((List (List (BitVec 8))) × (List (Bool × (Bool × (Bool × Unit)))) × (Bool × (Int × (Bool × (Int × (List (BitVec 8) × Unit))))) × (List (List (BitVec 8))) × Int × Int) ⊕ (Unit ⊕ Bool))) ((bif decide (j9.2.2.2.2.2.2.1 = 1) then
                (ix j9.2.1 j9.2.2.2.2.2.1).bind fun x10 =>
                some x10.2.1
              else
                some false : Option Bool).bind fun b11 =>
            bif b11 then
              some (Sum.inl (j9.1, j9.2.1, j9.2.2.1, j9.2.2.2.1, w64 (j9.2.2.2.2.1 + 1), j9.2.2.2.2.2.1, j9.2.2.2.2.2.2))
            else
              some (Sum.inl (j9.1, j9.2.1, j9.2.2.1, j9.2.2.2.1, j9.2.2.2.2.1, j9.2.2.2.2.2.1, j9.2.2.2.2.2.2))) fun j12 =>
          (reticulelaw16_begins (j12.2.2.2.1, j12.1)).bind fun r13 =>
          (bif !r13 then
              some true
            else
              some (decide ((j12.2.2.2.1.length : Int) < j12.2.2.2.2.1)) : Option Bool).bind fun b14 =>
          (bif b14 then
              some true
            else
              some (decide ((w64 (j12.2.2.2.2.1 + 1)) < (j12.2.2.2.1.length : Int))) : Option Bool).bind fun b15 =>
          (bif b15 then
              some true
            else
              (bif !decide (j12.2.2.2.2.2.2.1 = 1) then
                  some (!decide (j12.2.2.2.2.2.2.1 = 2))
                else
                  some false : Option Bool).bind fun b16 =>
              some b16 : Option Bool).bind fun b17 =>
          bif b17 then
            some (Sum.inr (Sum.inr false))
          else
            some (Sum.inl (j12.1, j12.2.1, j12.2.2.1, j12.2.2.2.1, j12.2.2.2.2.1, j12.2.2.2.2.2.1))) fun j18 =>
      reticulelaw16_EndHears_L0 n (j18.1, j18.2.1, j18.2.2.1, j18.2.2.2.1, j18.2.2.2.2.1, w64 (j18.2.2.2.2.2 + 1))
    else
      some (Sum.inl ())
noncomputable def reticulelaw16_EndHears (x : (List (List (BitVec 8))) × (List (Bool × (Bool × (Bool × Unit))))) : Option Bool :=
  (reticulelaw16_alive ()).bind fun r1 =>
  bif !r1 then
    some false
  else
    (reticulelaw16_great (x.1, x.2)).bind fun r2 =>
    bif r2 then
      some true
    else
      jn (A := Unit) (R := Bool) (reticulelaw16_EndHears_L0 Big (x.1, x.2, (false, 0, false, 0, ([] : List (BitVec 8)), ()), ([] : List (List (BitVec 8))), 0, 0)) fun q19 =>
      some true
/-- reticule/endpoint.Clear -/
noncomputable def endpoint_Clear (x : (Bool × (Int × (Bool × (Int × (List (BitVec 8) × Unit)))))) : Option (Bool × (Int × (Bool × (Int × (List (BitVec 8) × Unit))))) :=
  some (false, 0, false, 0, ([] : List (BitVec 8)), ())
/-- reticule/reticuleref16.Halt -/
noncomputable def reticuleref16_Halt (x : (Bool × (Int × (Bool × (Int × (List (BitVec 8) × Unit)))))) : Option (Bool × (Int × (Bool × (Int × (List (BitVec 8) × Unit))))) :=
  some (true, x.2.1, false, 0, ([] : List (BitVec 8)), ())
/-- reticule/reticuleref16.Stall -/
noncomputable def reticuleref16_Stall (x : (Bool × (Int × (Bool × (Int × (List (BitVec 8) × Unit)))))) : Option (Bool × (Int × (Bool × (Int × (List (BitVec 8) × Unit))))) :=
  some (true, x.2)
/-- reticule/reticuleref16.Flush -/
noncomputable def reticuleref16_Flush (x : (Bool × (Int × (Bool × (Int × (List (BitVec 8) × Unit)))))) : Option (Bool × (Int × (Bool × (Int × (List (BitVec 8) × Unit))))) :=
  some (x.1, x.2.1, false, 0, ([] : List (BitVec 8)), ())
/-- reticule/reticulelaw16.EndTurns -/
noncomputable def reticulelaw16_EndTurns (x : (Bool × (Int × (Bool × (Int × (List (BitVec 8) × Unit))))) × (Bool × (Int × (Bool × (Int × (List (BitVec 8) × Unit)))))) : Option Bool :=
  (reticulelaw16_alive ()).bind fun r1 =>
  bif !r1 then
    some false
  else
    (bif decide (100 < (x.1.2.2.2.2.1.length : Int)) then
        some true
      else
        some (decide (100 < (x.2.2.2.2.2.1.length : Int))) : Option Bool).bind fun b2 =>
    bif b2 then
      some true
    else
      (endpoint_Clear x.1).bind fun r3 =>
      (reticuleref16_Same (r3, false, 0, false, 0, ([] : List (BitVec 8)), ())).bind fun r4 =>
      (bif r4 then
          (endpoint_Halt x.1).bind fun r5 =>
          (reticuleref16_Halt x.1).bind fun r6 =>
          (reticuleref16_Same (r5, r6)).bind fun r7 =>
          some r7
        else
          some false : Option Bool).bind fun b8 =>
      (bif b8 then
          (endpoint_Stall x.1).bind fun r9 =>
          (reticuleref16_Stall x.1).bind fun r10 =>
          (reticuleref16_Same (r9, r10)).bind fun r11 =>
          some r11
        else
          some false : Option Bool).bind fun b12 =>
      (bif b12 then
          (endpoint_Flush x.1).bind fun r13 =>
          (reticuleref16_Flush x.1).bind fun r14 =>
          (reticuleref16_Same (r13, r14)).bind fun r15 =>
          some r15
        else
          some false : Option Bool).bind fun b16 =>
      (bif b16 then
          (endpoint_Right x.1).bind fun r17 =>
          (reticuleref16_Right x.1).bind fun r18 =>
          some (decide (r17 = r18))
        else
          some false : Option Bool).bind fun b19 =>
      (bif b19 then
          (endpoint_Same (x.1, x.2)).bind fun r20 =>
          (reticuleref16_Same (x.1, x.2)).bind fun r21 =>
          some (decide (r20 = r21))
        else
          some false : Option Bool).bind fun b22 =>
      (bif b22 then
          (endpoint_Same (x.1, x.1)).bind fun r23 =>
          some r23
        else
          some false : Option Bool).bind fun b24 =>
      some b24
/-- reticule/reticulelaw16.EndClears -/
noncomputable def reticulelaw16_EndClears (x : (Bool × (Int × (Bool × (Int × (List (BitVec 8) × Unit))))) × (List (BitVec 8)) × Bool) : Option Bool :=
  (reticulelaw16_alive ()).bind fun r1 =>
  bif !r1 then
    some false
  else
    (bif decide (100 < (x.1.2.2.2.2.1.length : Int)) then
        some true
      else
        some (decide (200 < (x.2.1.length : Int))) : Option Bool).bind fun b2 =>
    bif b2 then
      some true
    else
      (endpoint_Stall x.1).bind fun r3 =>
      (endpoint_Clear r3).bind fun r4 =>
      (endpoint_In (r4, (0, 0, 0, 0, 0, x.2.2, 0, 0#64, ([] : List (BitVec 8)), ()), x.2.1, true)).bind fun r5 =>
      (reticuleref16_Cut x.2.1).bind fun r6 =>
      (endpoint_Out (r4, (0, 0, 0, 0, 0, false, 0, 0#64, r6, ()), true)).bind fun r7 =>
      (endpoint_Halt r4).bind fun r8 =>
      (endpoint_In (r8, (0, 0, 0, 0, 0, x.2.2, 0, 0#64, ([] : List (BitVec 8)), ()), x.2.1, true)).bind fun r9 =>
      (bif r5.2.2 then
          some r7.2.2
        else
          some false : Option Bool).bind fun b10 =>
      (bif b10 then
          some (!r9.2.2)
        else
          some false : Option Bool).bind fun b11 =>
      (bif b11 then
          some (decide (r5.2.1.1 = 4))
        else
          some false : Option Bool).bind fun b12 =>
      (bif b12 then
          some (decide (r5.2.1.2.1 = 0))
        else
          some false : Option Bool).bind fun b13 =>
      (bif b13 then
          (chk (decide (r5.2.1.2.2.1.length ≤ lim))).bind fun _ =>
          (reticuleref16_Cut x.2.1).bind fun r14 =>
          (chk (decide (r14.length ≤ lim))).bind fun _ =>
          some (decide (r5.2.1.2.2.1 = r14))
        else
          some false : Option Bool).bind fun b15 =>
      (bif b15 then
          some (decide (r7.2.1.1 = 1))
        else
          some false : Option Bool).bind fun b16 =>
      (bif b16 then
          some (decide (r9.2.1.1 = 3))
        else
          some false : Option Bool).bind fun b17 =>
      some b17
end Go.Proofs.Ytanfodimfgmbdaa
