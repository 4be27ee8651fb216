/- The program's functions as plain ones. Printed by the session's own program. -/
import Derived.Test.YtmlfojdgfimfbaaRfH
namespace Go.Proofs.Ytmlfojdgfimfbaa
open Go Go.Re
set_option linter.unusedVariables false
set_option linter.unusedSimpArgs false
/-- reticule/setup.two -/
noncomputable def setup_two (x : (List (BitVec 8))) : Option Int :=
  (ix x 0).bind fun x1 =>
  (ix x 1).bind fun x2 =>
  some (((x1.setWidth 16) ||| ((x2.setWidth 16) <<< (((8#64).toNat : Int) : Int).toNat)).toNat : Int)
/-- reticule/setup.Parse -/
noncomputable def setup_Parse (x : (List (BitVec 8))) : Option ((Int × (Int × (Int × (Int × (Int × Unit))))) × Bool) :=
  bif !decide ((x.length : Int) = 8) then
    some ((0, 0, 0, 0, 0, ()), false)
  else
    (ix x 0).bind fun x1 =>
    (ix x 1).bind fun x2 =>
    (chk (decide (0 ≤ (2 : Int)) && decide ((2 : Int) ≤ (x.length : Int)))).bind fun _ =>
    (setup_two (x.drop (2 : Int).toNat)).bind fun r3 =>
    (chk (decide (0 ≤ (4 : Int)) && decide ((4 : Int) ≤ (x.length : Int)))).bind fun _ =>
    (setup_two (x.drop (4 : Int).toNat)).bind fun r4 =>
    (chk (decide (0 ≤ (6 : Int)) && decide ((6 : Int) ≤ (x.length : Int)))).bind fun _ =>
    (setup_two (x.drop (6 : Int).toNat)).bind fun r5 =>
    some (((x1.toNat : Int), (x2.toNat : Int), r3, r4, r5, ()), true)
/-- reticule/setup.Right -/
noncomputable def setup_Right (x : (Int × (Int × (Int × (Int × (Int × Unit)))))) : Option Bool :=
  (bif decide (x.1 = ((BitVec.ofInt 8 x.1).toNat : Int)) then
      some (decide (x.2.1 = ((BitVec.ofInt 8 x.2.1).toNat : Int)))
    else
      some false : Option Bool).bind fun b1 =>
  (bif b1 then
      some (decide (x.2.2.1 = ((BitVec.ofInt 16 x.2.2.1).toNat : Int)))
    else
      some false : Option Bool).bind fun b2 =>
  (bif b2 then
      some (decide (x.2.2.2.1 = ((BitVec.ofInt 16 x.2.2.2.1).toNat : Int)))
    else
      some false : Option Bool).bind fun b3 =>
  (bif b3 then
      some (decide (x.2.2.2.2.1 = ((BitVec.ofInt 16 x.2.2.2.2.1).toNat : Int)))
    else
      some false : Option Bool).bind fun b4 =>
  some b4
/-- reticule/number.PutLittle -/
noncomputable def number_PutLittle_L0 : Nat → ((BitVec 64) × (List (BitVec 8)) × Int × Int) → Option ((List (BitVec 8)) ⊕ (List (BitVec 8)))
  | 0, _ => none
  | n + 1, j =>
  bif decide (j.2.2.2 < j.2.2.1) then
      (chk (decide (j.2.1.length + ([j.1.setWidth 8] : List (BitVec 8)).length ≤ lim))).bind fun _ =>
      number_PutLittle_L0 n (j.1 >>> (((8#64).toNat : Int) : Int).toNat, j.2.1 ++ ([j.1.setWidth 8] : List (BitVec 8)), j.2.2.1, w64 (j.2.2.2 + 1))
    else
      some (Sum.inl j.2.1)
noncomputable def number_PutLittle (x : (BitVec 64) × Int) : Option (List (BitVec 8)) :=
  (bif decide (x.2 < 1) then
      some true
    else
      some (decide (8 < x.2)) : Option Bool).bind fun b1 =>
  bif b1 then
    some ([] : List (BitVec 8))
  else
    jn (A := (List (BitVec 8))) (R := (List (BitVec 8))) (number_PutLittle_L0 Big (x.1, ([] : List (BitVec 8)), x.2, 0)) fun q2 =>
    some q2
/-- slices.Grow[[]byte,byte] -/
noncomputable def slices_Grow_byte (x : Unit × Int) : Option (List (BitVec 8)) :=
  bif decide (x.2 < 0) then
    none
  else
    jn (A := (List (BitVec 8))) (R := (List (BitVec 8))) (bif decide (0 < (w64 (x.2 - (w64 ((0 : Int) - (([] : List (BitVec 8)).length : Int)))))) then
        (chk (decide (0 ≤ (0 : Int)) && decide ((0 : Int) ≤ (0 : Int)))).bind fun _ =>
        (chk ((decide (0 ≤ (w64 (x.2 - (w64 ((0 : Int) - (([] : List (BitVec 8)).length : Int)))) : Int)) && decide ((w64 (x.2 - (w64 ((0 : Int) - (([] : List (BitVec 8)).length : Int)))) : Int) ≤ (lim : Int))) && decide ((List.replicate (w64 (x.2 - (w64 ((0 : Int) - (([] : List (BitVec 8)).length : Int)))) : Int).toNat (0#8)).length ≤ lim))).bind fun _ =>
        (chk (decide (0 ≤ ((([] : List (BitVec 8)).length : Int) : Int)) && decide (((([] : List (BitVec 8)).length : Int) : Int) ≤ ((List.replicate (w64 (x.2 - (w64 ((0 : Int) - (([] : List (BitVec 8)).length : Int)))) : Int).toNat (0#8)).length : Int)))).bind fun _ =>
        some (Sum.inl ((List.replicate (w64 (x.2 - (w64 ((0 : Int) - (([] : List (BitVec 8)).length : Int)))) : Int).toNat (0#8)).take ((([] : List (BitVec 8)).length : Int) : Int).toNat))
      else
        some (Sum.inl ([]))) fun j1 =>
    some j1
/-- slices.Concat[[]byte,byte] -/
noncomputable def slices_Concat_byte_L0 : Nat → ((List (List (BitVec 8))) × Int × (List (List (BitVec 8))) × Int × Int) → Option (((List (List (BitVec 8))) × Int) ⊕ (List (BitVec 8)))
  | 0, _ => none
  | n + 1, j =>
  bif decide (j.2.2.2.2 < j.2.2.2.1) then
      (ix j.2.2.1 j.2.2.2.2).bind fun x1 =>
      bif decide ((w64 (j.2.1 + (x1.length : Int))) < 0) then
        none
      else
        slices_Concat_byte_L0 n (j.1, w64 (j.2.1 + (x1.length : Int)), j.2.2.1, j.2.2.2.1, w64 (j.2.2.2.2 + 1))
    else
      some (Sum.inl (j.1, j.2.1))
noncomputable def slices_Concat_byte_L1 : Nat → ((List (BitVec 8)) × (List (List (BitVec 8))) × Int × Int) → Option ((List (BitVec 8)) ⊕ (List (BitVec 8)))
  | 0, _ => none
  | n + 1, j =>
  bif decide (j.2.2.2 < j.2.2.1) then
      (ix j.2.1 j.2.2.2).bind fun x4 =>
      (chk (decide (j.1.length + x4.length ≤ lim))).bind fun _ =>
      slices_Concat_byte_L1 n (j.1 ++ x4, j.2.1, j.2.2.1, w64 (j.2.2.2 + 1))
    else
      some (Sum.inl j.1)
noncomputable def slices_Concat_byte (x : (List (List (BitVec 8)))) : Option (List (BitVec 8)) :=
  jn (A := ((List (List (BitVec 8))) × Int)) (R := (List (BitVec 8))) (slices_Concat_byte_L0 Big (x, 0, x, (x.length : Int), 0)) fun q2 =>
  (slices_Grow_byte ((), q2.2)).bind fun r3 =>
  jn (A := (List (BitVec 8))) (R := (List (BitVec 8))) (slices_Concat_byte_L1 Big (r3, q2.1, (q2.1.length : Int), 0)) fun q5 =>
  some q5
/-- reticule/setup.Bytes -/
noncomputable def setup_Bytes_L0 : Nat → ((List (BitVec 8)) × (List Int) × Int) → Option ((List (BitVec 8)) ⊕ ((List (BitVec 8)) × Bool))
  | 0, _ => none
  | n + 1, j =>
  bif decide (j.2.2 < 3) then
      (ix j.2.1 j.2.2).bind fun x2 =>
      (number_PutLittle (BitVec.ofInt 64 x2, 2)).bind fun r3 =>
      (slices_Concat_byte ([j.1, r3] : List (List (BitVec 8)))).bind fun r4 =>
      setup_Bytes_L0 n (r4, j.2.1, w64 (j.2.2 + 1))
    else
      some (Sum.inl j.1)
noncomputable def setup_Bytes (x : (Int × (Int × (Int × (Int × (Int × Unit)))))) : Option ((List (BitVec 8)) × Bool) :=
  (setup_Right x).bind fun r1 =>
  bif !r1 then
    some (([] : List (BitVec 8)), false)
  else
    jn (A := (List (BitVec 8))) (R := ((List (BitVec 8)) × Bool)) (setup_Bytes_L0 Big (([BitVec.ofInt 8 x.1, BitVec.ofInt 8 x.2.1] : List (BitVec 8)), ([x.2.2.1, x.2.2.2.1, x.2.2.2.2.1] : List Int), 0)) fun q5 =>
    some (q5, true)
/-- reticule/number.mask -/
noncomputable def number_mask (x : Int × Int) : Option (BitVec 64) :=
  (bif decide (x.1 < 0) then
      some true
    else
      some (decide (x.2 < 1)) : Option Bool).bind fun b1 =>
  (bif b1 then
      some true
    else
      some (decide (64 < x.2)) : Option Bool).bind fun b2 =>
  (bif b2 then
      some true
    else
      some (decide ((w64 ((64 : Int) - x.2)) < x.1)) : Option Bool).bind fun b3 =>
  bif b3 then
    some (0#64)
  else
    (bif decide (0 ≤ (w64 ((64 : Int) - x.2) : Int)) then some ((18446744073709551615#64) >>> (w64 ((64 : Int) - x.2) : Int).toNat) else none).bind fun x4 =>
    (bif decide (0 ≤ (x.1 : Int)) then some (x4 <<< (x.1 : Int).toNat) else none).bind fun x5 =>
    some x5
/-- reticule/number.Bits -/
noncomputable def number_Bits (x : (BitVec 64) × Int × Int) : Option (BitVec 64) :=
  (number_mask (x.2.1, x.2.2)).bind fun r1 =>
  bif decide (r1 = (0#64)) then
    some (0#64)
  else
    (bif decide (0 ≤ (x.2.1 : Int)) then some ((x.1 &&& r1) >>> (x.2.1 : Int).toNat) else none).bind fun x2 =>
    some x2
/-- reticule/setup.kind -/
noncomputable def setup_kind (x : (Int × (Int × (Int × (Int × (Int × Unit))))) × Int × Int) : Option Int :=
  (setup_Right x.1).bind fun r1 =>
  bif !r1 then
    some 0
  else
    (number_Bits (BitVec.ofInt 64 x.1.1, x.2.1, x.2.2)).bind fun r2 =>
    some (w64 (r2.toNat : Int))
/-- reticule/setup.Dir -/
noncomputable def setup_Dir (x : (Int × (Int × (Int × (Int × (Int × Unit)))))) : Option Int :=
  (bif decide (x.2.2.2.2.1 = 0) then
      some true
    else
      (setup_Right x).bind fun r1 =>
      some (!r1) : Option Bool).bind fun b2 =>
  bif b2 then
    some 0
  else
    (setup_kind (x, 7, 1)).bind fun r3 =>
    bif decide (r3 = 1) then
      some 1
    else
      some 2
/-- reticule/setup.Class -/
noncomputable def setup_Class (x : (Int × (Int × (Int × (Int × (Int × Unit)))))) : Option Int :=
  (setup_kind (x, 5, 2)).bind fun r1 =>
  some r1
/-- reticule/setup.Whom -/
noncomputable def setup_Whom (x : (Int × (Int × (Int × (Int × (Int × Unit)))))) : Option Int :=
  (setup_kind (x, 0, 5)).bind fun r1 =>
  some r1
/-- reticule/reticulelaw15.alive -/
noncomputable def reticulelaw15_alive (x : Unit) : Option Bool := some true
/-- reticule/reticuleref15.Parse -/
noncomputable def reticuleref15_Parse (x : (List (BitVec 8))) : Option ((Int × (Int × (Int × (Int × (Int × Unit))))) × Bool) :=
  bif !decide ((x.length : Int) = 8) then
    some ((0, 0, 0, 0, 0, ()), false)
  else
    (ix x 0).bind fun x1 =>
    (ix x 1).bind fun x2 =>
    (ix x 2).bind fun x3 =>
    (ix x 3).bind fun x4 =>
    (ix x 4).bind fun x5 =>
    (ix x 5).bind fun x6 =>
    (ix x 6).bind fun x7 =>
    (ix x 7).bind fun x8 =>
    some (((x1.toNat : Int), (x2.toNat : Int), w64 ((x3.toNat : Int) + (w64 ((256 : Int) * (x4.toNat : Int)))), w64 ((x5.toNat : Int) + (w64 ((256 : Int) * (x6.toNat : Int)))), w64 ((x7.toNat : Int) + (w64 ((256 : Int) * (x8.toNat : Int)))), ()), true)
/-- reticule/reticulelaw15.SetupParses -/
noncomputable def reticulelaw15_SetupParses (x : (List (BitVec 8))) : Option Bool :=
  (reticulelaw15_alive ()).bind fun r1 =>
  bif !r1 then
    some false
  else
    bif decide (100 < (x.length : Int)) then
      some true
    else
      (setup_Parse x).bind fun r2 =>
      (reticuleref15_Parse x).bind fun r3 =>
      (bif (decide (r2.1.1 = r3.1.1)) && ((decide (r2.1.2.1 = r3.1.2.1)) && ((decide (r2.1.2.2.1 = r3.1.2.2.1)) && ((decide (r2.1.2.2.2.1 = r3.1.2.2.2.1)) && ((decide (r2.1.2.2.2.2.1 = r3.1.2.2.2.2.1)) && true)))) then
          some (decide (r2.2 = r3.2))
        else
          some false : Option Bool).bind fun b4 =>
      some b4
/-- reticule/reticuleref15.byteful -/
noncomputable def reticuleref15_byteful (x : Int) : Option Bool :=
  (bif decide (0 ≤ x) then
      some (decide (x < 256))
    else
      some false : Option Bool).bind fun b1 =>
  some b1
/-- reticule/reticuleref15.word -/
noncomputable def reticuleref15_word (x : Int) : Option Bool :=
  (bif decide (0 ≤ x) then
      some (decide (x < 65536))
    else
      some false : Option Bool).bind fun b1 =>
  some b1
/-- reticule/reticuleref15.Right -/
noncomputable def reticuleref15_Right (x : (Int × (Int × (Int × (Int × (Int × Unit)))))) : Option Bool :=
  (reticuleref15_byteful x.1).bind fun r1 =>
  (bif r1 then
      (reticuleref15_byteful x.2.1).bind fun r2 =>
      some r2
    else
      some false : Option Bool).bind fun b3 =>
  (bif b3 then
      (reticuleref15_word x.2.2.1).bind fun r4 =>
      some r4
    else
      some false : Option Bool).bind fun b5 =>
  (bif b5 then
      (reticuleref15_word x.2.2.2.1).bind fun r6 =>
      some r6
    else
      some false : Option Bool).bind fun b7 =>
  (bif b7 then
      (reticuleref15_word x.2.2.2.2.1).bind fun r8 =>
      some r8
    else
      some false : Option Bool).bind fun b9 =>
  some b9
/-- reticule/reticuleref15.Bytes -/
noncomputable def reticuleref15_Bytes (x : (Int × (Int × (Int × (Int × (Int × Unit)))))) : Option ((List (BitVec 8)) × Bool) :=
  (reticuleref15_Right x).bind fun r1 =>
  bif !r1 then
    some (([] : List (BitVec 8)), false)
  else
    some (([BitVec.ofInt 8 x.1, BitVec.ofInt 8 x.2.1, BitVec.ofInt 8 (x.2.2.1.tmod 256), BitVec.ofInt 8 (w64 (x.2.2.1.tdiv 256)), BitVec.ofInt 8 (x.2.2.2.1.tmod 256), BitVec.ofInt 8 (w64 (x.2.2.2.1.tdiv 256)), BitVec.ofInt 8 (x.2.2.2.2.1.tmod 256), BitVec.ofInt 8 (w64 (x.2.2.2.2.1.tdiv 256))] : List (BitVec 8)), true)
/-- reticule/reticulelaw15.SetupBytes -/
noncomputable def reticulelaw15_SetupBytes (x : (Int × (Int × (Int × (Int × (Int × Unit)))))) : Option Bool :=
  (reticulelaw15_alive ()).bind fun r1 =>
  bif !r1 then
    some false
  else
    (setup_Bytes x).bind fun r2 =>
    (reticuleref15_Bytes x).bind fun r3 =>
    (chk (decide (r2.1.length ≤ lim))).bind fun _ =>
    (chk (decide (r3.1.length ≤ lim))).bind fun _ =>
    (bif decide (r2.1 = r3.1) then
        some (decide (r2.2 = r3.2))
      else
        some false : Option Bool).bind fun b4 =>
    (bif b4 then
        (setup_Right x).bind fun r5 =>
        some (decide (r5 = r3.2))
      else
        some false : Option Bool).bind fun b6 =>
    some b6
/-- reticule/reticuleref15.Dir -/
noncomputable def reticuleref15_Dir (x : (Int × (Int × (Int × (Int × (Int × Unit)))))) : Option Int :=
  (reticuleref15_Right x).bind fun r1 =>
  (bif !r1 then
      some true
    else
      some (decide (x.2.2.2.2.1 = 0)) : Option Bool).bind fun b2 =>
  bif b2 then
    some 0
  else
    bif decide (128 ≤ x.1) then
      some 1
    else
      some 2
/-- reticule/reticuleref15.Class -/
noncomputable def reticuleref15_Class (x : (Int × (Int × (Int × (Int × (Int × Unit)))))) : Option Int :=
  (reticuleref15_Right x).bind fun r1 =>
  bif !r1 then
    some 0
  else
    some ((w64 (x.1.tdiv 32)).tmod 4)
/-- reticule/reticuleref15.Whom -/
noncomputable def reticuleref15_Whom (x : (Int × (Int × (Int × (Int × (Int × Unit)))))) : Option Int :=
  (reticuleref15_Right x).bind fun r1 =>
  bif !r1 then
    some 0
  else
    some (x.1.tmod 32)
/-- reticule/reticulelaw15.SetupKinds -/
noncomputable def reticulelaw15_SetupKinds (x : (Int × (Int × (Int × (Int × (Int × Unit)))))) : Option Bool :=
  (reticulelaw15_alive ()).bind fun r1 =>
  bif !r1 then
    some false
  else
    (setup_Dir x).bind fun r2 =>
    (reticuleref15_Dir x).bind fun r3 =>
    (bif decide (r2 = r3) then
        (setup_Class x).bind fun r4 =>
        (reticuleref15_Class x).bind fun r5 =>
        some (decide (r4 = r5))
      else
        some false : Option Bool).bind fun b6 =>
    (bif b6 then
        (setup_Whom x).bind fun r7 =>
        (reticuleref15_Whom x).bind fun r8 =>
        some (decide (r7 = r8))
      else
        some false : Option Bool).bind fun b9 =>
    some b9
/-- reticule/reticulelaw15.SetupBack -/
noncomputable def reticulelaw15_SetupBack (x : (Int × (Int × (Int × (Int × (Int × Unit))))) × (List (BitVec 8))) : Option Bool :=
  (reticulelaw15_alive ()).bind fun r1 =>
  bif !r1 then
    some false
  else
    (setup_Bytes x.1).bind fun r2 =>
    jn (A := (List (BitVec 8))) (R := Bool) (bif r2.2 then
        (setup_Parse r2.1).bind fun r3 =>
        (bif !r3.2 then
            some true
          else
            some (!((decide (r3.1.1 = x.1.1)) && ((decide (r3.1.2.1 = x.1.2.1)) && ((decide (r3.1.2.2.1 = x.1.2.2.1)) && ((decide (r3.1.2.2.2.1 = x.1.2.2.2.1)) && ((decide (r3.1.2.2.2.2.1 = x.1.2.2.2.2.1)) && true)))))) : Option Bool).bind fun b4 =>
        (bif b4 then
            some true
          else
            some (!decide ((r2.1.length : Int) = 8)) : Option Bool).bind fun b5 =>
        bif b5 then
          some (Sum.inr false)
        else
          some (Sum.inl x.2)
      else
        some (Sum.inl x.2)) fun j6 =>
    (chk (true)).bind fun _ =>
    (setup_Parse j6).bind fun r7 =>
    (setup_Bytes r7.1).bind fun r8 =>
    (bif r7.2 then
        some r8.2
      else
        some false : Option Bool).bind fun b9 =>
    (bif b9 then
        (chk (decide (r8.1.length ≤ lim))).bind fun _ =>
        (chk (true)).bind fun _ =>
        (chk (decide (j6.length ≤ lim))).bind fun _ =>
        some (decide (r8.1 = j6))
      else
        some false : Option Bool).bind fun b10 =>
    some b10
/-- reticule/reticulelaw15.SetupTurned -/
noncomputable def reticulelaw15_SetupTurned (x : (Int × (Int × (Int × (Int × (Int × Unit))))) × (BitVec 8)) : Option Bool :=
  (reticulelaw15_alive ()).bind fun r1 =>
  bif !r1 then
    some false
  else
    (setup_Bytes x.1).bind fun r2 =>
    (bif !r2.2 then
        some true
      else
        some (!decide ((r2.1.length : Int) = 8)) : Option Bool).bind fun b3 =>
    bif b3 then
      (bif !r2.2 then
          some (decide ((r2.1.length : Int) = 0))
        else
          some false : Option Bool).bind fun b4 =>
      some b4
    else
      (chk (decide (([] : List (BitVec 8)).length + r2.1.length ≤ lim))).bind fun _ =>
      (chk (inLen (((x.2 / (8#8)) % (8#8)).toNat : Int) (([] : List (BitVec 8)) ++ r2.1).length)).bind fun _ =>
      (((([] : List (BitVec 8)) ++ r2.1)[((((x.2 / (8#8)) % (8#8)).toNat : Int) : Int).toNat]?).bind fun y5 =>
        some y5).bind fun x6 =>
      (bif decide (0 ≤ (((x.2 % (8#8)).toNat : Int) : Int)) then some ((1#8) <<< (((x.2 % (8#8)).toNat : Int) : Int).toNat) else none).bind fun x7 =>
      (chk (inLen (((x.2 / (8#8)) % (8#8)).toNat : Int) (([] : List (BitVec 8)) ++ r2.1).length)).bind fun _ =>
      (setup_Parse ((([] : List (BitVec 8)) ++ r2.1).set ((((x.2 / (8#8)) % (8#8)).toNat : Int) : Int).toNat (x6 ^^^ x7))).bind fun r8 =>
      (bif r8.2 then
          some (!((decide (r8.1.1 = x.1.1)) && ((decide (r8.1.2.1 = x.1.2.1)) && ((decide (r8.1.2.2.1 = x.1.2.2.1)) && ((decide (r8.1.2.2.2.1 = x.1.2.2.2.1)) && ((decide (r8.1.2.2.2.2.1 = x.1.2.2.2.2.1)) && true))))))
        else
          some false : Option Bool).bind fun b9 =>
      some b9
end Go.Proofs.Ytmlfojdgfimfbaa
