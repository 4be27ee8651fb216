/- The program's functions as plain ones. Printed by the session's own program. -/
import Derived.Test.YtibfmdehmdploaaRfH
namespace Go.Proofs.Ytibfmdehmdploaa
open Go Go.Re
set_option linter.unusedVariables false
set_option linter.unusedSimpArgs false
/-- reticule/number.cut -/
noncomputable def number_cut (x : (List (BitVec 8)) × Int × Int) : Option ((List (BitVec 8)) × Bool) :=
  (bif decide (x.2.2 < 1) then
      some true
    else
      some (decide (8 < x.2.2)) : Option Bool).bind fun b1 =>
  (bif b1 then
      some true
    else
      some (decide (x.2.1 < 0)) : Option Bool).bind fun b2 =>
  (bif b2 then
      some true
    else
      some (decide ((w64 ((x.1.length : Int) - x.2.2)) < x.2.1)) : Option Bool).bind fun b3 =>
  bif b3 then
    some (([] : List (BitVec 8)), false)
  else
    (chk (decide (0 ≤ (x.2.1 : Int)) && decide ((x.2.1 : Int) ≤ (w64 (x.2.1 + x.2.2) : Int)) && decide ((w64 (x.2.1 + x.2.2) : Int) ≤ (x.1.length : Int)))).bind fun _ =>
    some (slc x.1 (x.2.1 : Int) (w64 (x.2.1 + x.2.2) : Int), true)
/-- reticule/number.Big -/
noncomputable def number_Big_L0 : Nat → ((BitVec 64) × Bool × (List (BitVec 8)) × Int × Int) → Option (((BitVec 64) × Bool) ⊕ ((BitVec 64) × Bool))
  | 0, _ => none
  | n + 1, j =>
  bif decide (j.2.2.2.2 < j.2.2.2.1) then
      (ix j.2.2.1 j.2.2.2.2).bind fun x2 =>
      number_Big_L0 n ((j.1 <<< (((8#64).toNat : Int) : Int).toNat) ||| (x2.setWidth 64), j.2.1, j.2.2.1, j.2.2.2.1, w64 (j.2.2.2.2 + 1))
    else
      some (Sum.inl (j.1, j.2.1))
noncomputable def number_Big (x : (List (BitVec 8)) × Int × Int) : Option ((BitVec 64) × Bool) :=
  (number_cut (x.1, x.2.1, x.2.2)).bind fun r1 =>
  jn (A := ((BitVec 64) × Bool)) (R := ((BitVec 64) × Bool)) (number_Big_L0 Big (0#64, r1.2, r1.1, (r1.1.length : Int), 0)) fun q3 =>
  some (q3.1, q3.2)
/-- reticule/number.Little -/
noncomputable def number_Little_L0 : Nat → ((BitVec 64) × Bool × (List (BitVec 8)) × Int × Int) → Option (((BitVec 64) × Bool) ⊕ ((BitVec 64) × Bool))
  | 0, _ => none
  | n + 1, j =>
  bif decide (j.2.2.2.2 < j.2.2.2.1) then
      (ix j.2.2.1 j.2.2.2.2).bind fun x2 =>
      (bif decide (0 ≤ (w64 ((8 : Int) * j.2.2.2.2) : Int)) then some ((x2.setWidth 64) <<< (w64 ((8 : Int) * j.2.2.2.2) : Int).toNat) else none).bind fun x3 =>
      number_Little_L0 n (j.1 ||| x3, j.2.1, j.2.2.1, j.2.2.2.1, w64 (j.2.2.2.2 + 1))
    else
      some (Sum.inl (j.1, j.2.1))
noncomputable def number_Little (x : (List (BitVec 8)) × Int × Int) : Option ((BitVec 64) × Bool) :=
  (number_cut (x.1, x.2.1, x.2.2)).bind fun r1 =>
  jn (A := ((BitVec 64) × Bool)) (R := ((BitVec 64) × Bool)) (number_Little_L0 Big (0#64, r1.2, r1.1, (r1.1.length : Int), 0)) fun q4 =>
  some (q4.1, q4.2)
/-- reticule/number.PutLittle -/
noncomputable def number_PutLittle_L0 : Nat → ((BitVec 64) × (List (BitVec 8)) × Int × Int) → Option ((List (BitVec 8)) ⊕ (List (BitVec 8)))
  | 0, _ => none
  | n + 1, j =>
  bif decide (j.2.2.2 < j.2.2.1) then
      (chk (decide (j.2.1.length + ([j.1.setWidth 8] : List (BitVec 8)).length ≤ lim))).bind fun _ =>
      number_PutLittle_L0 n (j.1 >>> (((8#64).toNat : Int) : Int).toNat, j.2.1 ++ ([j.1.setWidth 8] : List (BitVec 8)), j.2.2.1, w64 (j.2.2.2 + 1))
    else
      some (Sum.inl j.2.1)
noncomputable def number_PutLittle (x : (BitVec 64) × Int) : Option (List (BitVec 8)) :=
  (bif decide (x.2 < 1) then
      some true
    else
      some (decide (8 < x.2)) : Option Bool).bind fun b1 =>
  bif b1 then
    some ([] : List (BitVec 8))
  else
    jn (A := (List (BitVec 8))) (R := (List (BitVec 8))) (number_PutLittle_L0 Big (x.1, ([] : List (BitVec 8)), x.2, 0)) fun q2 =>
    some q2
/-- slices.Reverse[[]byte,byte] -/
noncomputable def slices_Reverse_byte_L0 : Nat → ((List (BitVec 8)) × Int × Int) → Option ((List (BitVec 8)) ⊕ (List (BitVec 8)))
  | 0, _ => none
  | n + 1, j =>
  bif decide (j.2.1 < j.2.2) then
      (chk (inLen j.2.2 j.1.length)).bind fun _ =>
      ((j.1[(j.2.2 : Int).toNat]?).bind fun y1 =>
        some y1).bind fun x2 =>
      (chk (inLen j.2.1 j.1.length)).bind fun _ =>
      ((j.1[(j.2.1 : Int).toNat]?).bind fun y3 =>
        some y3).bind fun x4 =>
      (chk (inLen j.2.1 j.1.length)).bind fun _ =>
      (chk (inLen j.2.2 (j.1.set (j.2.1 : Int).toNat x2).length)).bind fun _ =>
      slices_Reverse_byte_L0 n ((j.1.set (j.2.1 : Int).toNat x2).set (j.2.2 : Int).toNat x4, w64 (j.2.1 + 1), w64 (j.2.2 - 1))
    else
      some (Sum.inl j.1)
noncomputable def slices_Reverse_byte (x : (List (BitVec 8))) : Option (List (BitVec 8)) :=
  jn (A := (List (BitVec 8))) (R := (List (BitVec 8))) (slices_Reverse_byte_L0 Big (x, 0, w64 ((x.length : Int) - 1))) fun q5 =>
  some q5
/-- reticule/number.PutBig -/
noncomputable def number_PutBig (x : (BitVec 64) × Int) : Option (List (BitVec 8)) :=
  (number_PutLittle (x.1, x.2)).bind fun r1 =>
  (slices_Reverse_byte r1).bind fun r2 =>
  some r2
/-- reticule/number.mask -/
noncomputable def number_mask (x : Int × Int) : Option (BitVec 64) :=
  (bif decide (x.1 < 0) then
      some true
    else
      some (decide (x.2 < 1)) : Option Bool).bind fun b1 =>
  (bif b1 then
      some true
    else
      some (decide (64 < x.2)) : Option Bool).bind fun b2 =>
  (bif b2 then
      some true
    else
      some (decide ((w64 ((64 : Int) - x.2)) < x.1)) : Option Bool).bind fun b3 =>
  bif b3 then
    some (0#64)
  else
    (bif decide (0 ≤ (w64 ((64 : Int) - x.2) : Int)) then some ((18446744073709551615#64) >>> (w64 ((64 : Int) - x.2) : Int).toNat) else none).bind fun x4 =>
    (bif decide (0 ≤ (x.1 : Int)) then some (x4 <<< (x.1 : Int).toNat) else none).bind fun x5 =>
    some x5
/-- reticule/number.Bits -/
noncomputable def number_Bits (x : (BitVec 64) × Int × Int) : Option (BitVec 64) :=
  (number_mask (x.2.1, x.2.2)).bind fun r1 =>
  bif decide (r1 = (0#64)) then
    some (0#64)
  else
    (bif decide (0 ≤ (x.2.1 : Int)) then some ((x.1 &&& r1) >>> (x.2.1 : Int).toNat) else none).bind fun x2 =>
    some x2
/-- reticule/number.Set -/
noncomputable def number_Set (x : (BitVec 64) × Int × Int × (BitVec 64)) : Option (BitVec 64) :=
  (number_mask (x.2.1, x.2.2.1)).bind fun r1 =>
  bif decide (r1 = (0#64)) then
    some x.1
  else
    (bif decide (0 ≤ (x.2.1 : Int)) then some (x.2.2.2 <<< (x.2.1 : Int).toNat) else none).bind fun x2 =>
    some ((x.1 &&& ~~~r1) ||| (x2 &&& r1))
/-- reticule/number.Text -/
noncomputable def number_Text_L0 : Nat → (Int × (List (BitVec 8)) × Int) → Option ((List (BitVec 8)) ⊕ (List (BitVec 8)))
  | 0, _ => none
  | n + 1, j =>
  bif decide (j.2.2 < j.1) then
      (chk (inLen j.2.2 j.2.1.length)).bind fun _ =>
      number_Text_L0 n (j.1, j.2.1.set (j.2.2 : Int).toNat (32#8), w64 (j.2.2 + 1))
    else
      some (Sum.inl j.2.1)
noncomputable def number_Text (x : (List (BitVec 8)) × Int) : Option (List (BitVec 8)) :=
  (bif decide (x.2 < 0) then
      some true
    else
      some (decide (1024 < x.2)) : Option Bool).bind fun b1 =>
  bif b1 then
    some ([] : List (BitVec 8))
  else
    (chk (decide (0 ≤ x.2) && decide (x.2 ≤ x.2) && decide (x.2 ≤ (lim : Int)))).bind fun _ =>
    jn (A := (List (BitVec 8))) (R := (List (BitVec 8))) (number_Text_L0 Big (x.2, over (List.replicate (x.2 : Int).toNat (0#8)) x.1, ((min x.1.length (List.replicate (x.2 : Int).toNat (0#8)).length : Nat) : Int))) fun q2 =>
    some q2
/-- reticule/reticulelaw01.alive -/
noncomputable def reticulelaw01_alive (x : Unit) : Option Bool :=
  (number_Big (([9#8, 0#8, 0#8, 1#8, 2#8] : List (BitVec 8)), 1, 4)).bind fun r1 =>
  (number_Little (([9#8, 0#8, 0#8, 1#8, 2#8] : List (BitVec 8)), 3, 2)).bind fun r2 =>
  (number_Big (([9#8, 0#8, 0#8, 1#8, 2#8] : List (BitVec 8)), 2, 4)).bind fun r3 =>
  (bif decide (r1.1 = (258#64)) then
      some r1.2
    else
      some false : Option Bool).bind fun b4 =>
  (bif b4 then
      some (decide (r2.1 = (513#64)))
    else
      some false : Option Bool).bind fun b5 =>
  (bif b5 then
      some r2.2
    else
      some false : Option Bool).bind fun b6 =>
  (bif b6 then
      some (!r3.2)
    else
      some false : Option Bool).bind fun b7 =>
  (bif b7 then
      (number_PutBig (258#64, 4)).bind fun r8 =>
      (chk (decide (r8.length ≤ lim))).bind fun _ =>
      some (decide (r8 = ([0#8, 0#8, 1#8, 2#8] : List (BitVec 8))))
    else
      some false : Option Bool).bind fun b9 =>
  (bif b9 then
      (number_PutLittle (258#64, 3)).bind fun r10 =>
      (chk (decide (r10.length ≤ lim))).bind fun _ =>
      some (decide (r10 = ([2#8, 1#8, 0#8] : List (BitVec 8))))
    else
      some false : Option Bool).bind fun b11 =>
  (bif b11 then
      (number_Bits (182#64, 1, 3)).bind fun r12 =>
      some (decide (r12 = (3#64)))
    else
      some false : Option Bool).bind fun b13 =>
  (bif b13 then
      (number_Set (255#64, 4, 4, 5#64)).bind fun r14 =>
      some (decide (r14 = (95#64)))
    else
      some false : Option Bool).bind fun b15 =>
  (bif b15 then
      (number_Text (([97#8, 98#8] : List (BitVec 8)), 3)).bind fun r16 =>
      (chk (decide (r16.length ≤ lim))).bind fun _ =>
      some (decide (r16 = ([97#8, 98#8, 32#8] : List (BitVec 8))))
    else
      some false : Option Bool).bind fun b17 =>
  some b17
/-- reticule/reticuleref01.Big -/
noncomputable def reticuleref01_Big_L0 : Nat → ((List (BitVec 8)) × Int × Int × (BitVec 64) × Int) → Option ((BitVec 64) ⊕ ((BitVec 64) × Bool))
  | 0, _ => none
  | n + 1, j =>
  bif decide (j.2.2.2.2 < j.2.2.1) then
      (ix j.1 (w64 (j.2.1 + j.2.2.2.2))).bind fun x5 =>
      reticuleref01_Big_L0 n (j.1, j.2.1, j.2.2.1, (j.2.2.2.1 * (256#64)) + (x5.setWidth 64), w64 (j.2.2.2.2 + 1))
    else
      some (Sum.inl j.2.2.2.1)
noncomputable def reticuleref01_Big (x : (List (BitVec 8)) × Int × Int) : Option ((BitVec 64) × Bool) :=
  (bif decide (x.2.2 < 1) then
      some true
    else
      some (decide (8 < x.2.2)) : Option Bool).bind fun b1 =>
  (bif b1 then
      some true
    else
      some (decide (x.2.1 < 0)) : Option Bool).bind fun b2 =>
  (bif b2 then
      some true
    else
      some (decide ((x.1.length : Int) < x.2.2)) : Option Bool).bind fun b3 =>
  (bif b3 then
      some true
    else
      some (decide ((w64 ((x.1.length : Int) - x.2.2)) < x.2.1)) : Option Bool).bind fun b4 =>
  bif b4 then
    some (0#64, false)
  else
    jn (A := (BitVec 64)) (R := ((BitVec 64) × Bool)) (reticuleref01_Big_L0 Big (x.1, x.2.1, x.2.2, 0#64, 0)) fun q6 =>
    some (q6, true)
/-- reticule/reticuleref01.Little -/
noncomputable def reticuleref01_Little_L0 : Nat → ((List (BitVec 8)) × Int × (BitVec 64) × Int) → Option ((BitVec 64) ⊕ ((BitVec 64) × Bool))
  | 0, _ => none
  | n + 1, j =>
  bif decide (0 ≤ j.2.2.2) then
      (ix j.1 (w64 (j.2.1 + j.2.2.2))).bind fun x5 =>
      reticuleref01_Little_L0 n (j.1, j.2.1, (j.2.2.1 * (256#64)) + (x5.setWidth 64), w64 (j.2.2.2 - 1))
    else
      some (Sum.inl j.2.2.1)
noncomputable def reticuleref01_Little (x : (List (BitVec 8)) × Int × Int) : Option ((BitVec 64) × Bool) :=
  (bif decide (x.2.2 < 1) then
      some true
    else
      some (decide (8 < x.2.2)) : Option Bool).bind fun b1 =>
  (bif b1 then
      some true
    else
      some (decide (x.2.1 < 0)) : Option Bool).bind fun b2 =>
  (bif b2 then
      some true
    else
      some (decide ((x.1.length : Int) < x.2.2)) : Option Bool).bind fun b3 =>
  (bif b3 then
      some true
    else
      some (decide ((w64 ((x.1.length : Int) - x.2.2)) < x.2.1)) : Option Bool).bind fun b4 =>
  bif b4 then
    some (0#64, false)
  else
    jn (A := (BitVec 64)) (R := ((BitVec 64) × Bool)) (reticuleref01_Little_L0 Big (x.1, x.2.1, 0#64, w64 (x.2.2 - 1))) fun q6 =>
    some (q6, true)
/-- reticule/reticulelaw01.NumberReads -/
noncomputable def reticulelaw01_NumberReads (x : (List (BitVec 8)) × Int × Int) : Option Bool :=
  (reticulelaw01_alive ()).bind fun r1 =>
  bif !r1 then
    some false
  else
    bif decide (2000 < (x.1.length : Int)) then
      some true
    else
      (number_Big (x.1, x.2.1, x.2.2)).bind fun r2 =>
      (reticuleref01_Big (x.1, x.2.1, x.2.2)).bind fun r3 =>
      (number_Little (x.1, x.2.1, x.2.2)).bind fun r4 =>
      (reticuleref01_Little (x.1, x.2.1, x.2.2)).bind fun r5 =>
      (bif decide (r2.1 = r3.1) then
          some (decide (r2.2 = r3.2))
        else
          some false : Option Bool).bind fun b6 =>
      (bif b6 then
          some (decide (r4.1 = r5.1))
        else
          some false : Option Bool).bind fun b7 =>
      (bif b7 then
          some (decide (r4.2 = r5.2))
        else
          some false : Option Bool).bind fun b8 =>
      some b8
/-- reticule/reticuleref01.PutBig -/
noncomputable def reticuleref01_PutBig_L0 : Nat → ((BitVec 64) × (List (BitVec 8)) × Int) → Option ((List (BitVec 8)) ⊕ (List (BitVec 8)))
  | 0, _ => none
  | n + 1, j =>
  bif decide (0 ≤ j.2.2) then
      (chk (inLen j.2.2 j.2.1.length)).bind fun _ =>
      reticuleref01_PutBig_L0 n (j.1 / (256#64), j.2.1.set (j.2.2 : Int).toNat ((j.1 % (256#64)).setWidth 8), w64 (j.2.2 - 1))
    else
      some (Sum.inl j.2.1)
noncomputable def reticuleref01_PutBig (x : (BitVec 64) × Int) : Option (List (BitVec 8)) :=
  (bif decide (x.2 < 1) then
      some true
    else
      some (decide (8 < x.2)) : Option Bool).bind fun b1 =>
  bif b1 then
    some ([] : List (BitVec 8))
  else
    (chk (decide (0 ≤ x.2) && decide (x.2 ≤ x.2) && decide (x.2 ≤ (lim : Int)))).bind fun _ =>
    jn (A := (List (BitVec 8))) (R := (List (BitVec 8))) (reticuleref01_PutBig_L0 Big (x.1, List.replicate (x.2 : Int).toNat (0#8), w64 (x.2 - 1))) fun q2 =>
    some q2
/-- reticule/reticuleref01.PutLittle -/
noncomputable def reticuleref01_PutLittle_L0 : Nat → ((BitVec 64) × Int × (List (BitVec 8)) × Int) → Option ((List (BitVec 8)) ⊕ (List (BitVec 8)))
  | 0, _ => none
  | n + 1, j =>
  bif decide (j.2.2.2 < j.2.1) then
      (chk (inLen j.2.2.2 j.2.2.1.length)).bind fun _ =>
      reticuleref01_PutLittle_L0 n (j.1 / (256#64), j.2.1, j.2.2.1.set (j.2.2.2 : Int).toNat ((j.1 % (256#64)).setWidth 8), w64 (j.2.2.2 + 1))
    else
      some (Sum.inl j.2.2.1)
noncomputable def reticuleref01_PutLittle (x : (BitVec 64) × Int) : Option (List (BitVec 8)) :=
  (bif decide (x.2 < 1) then
      some true
    else
      some (decide (8 < x.2)) : Option Bool).bind fun b1 =>
  bif b1 then
    some ([] : List (BitVec 8))
  else
    (chk (decide (0 ≤ x.2) && decide (x.2 ≤ x.2) && decide (x.2 ≤ (lim : Int)))).bind fun _ =>
    jn (A := (List (BitVec 8))) (R := (List (BitVec 8))) (reticuleref01_PutLittle_L0 Big (x.1, x.2, List.replicate (x.2 : Int).toNat (0#8), 0)) fun q2 =>
    some q2
/-- reticule/reticulelaw01.NumberPuts -/
noncomputable def reticulelaw01_NumberPuts (x : (BitVec 64) × Int) : Option Bool :=
  (reticulelaw01_alive ()).bind fun r1 =>
  bif !r1 then
    some false
  else
    (number_PutBig (x.1, x.2)).bind fun r2 =>
    (chk (decide (r2.length ≤ lim))).bind fun _ =>
    (reticuleref01_PutBig (x.1, x.2)).bind fun r3 =>
    (chk (decide (r3.length ≤ lim))).bind fun _ =>
    (bif decide (r2 = r3) then
        (number_PutLittle (x.1, x.2)).bind fun r4 =>
        (chk (decide (r4.length ≤ lim))).bind fun _ =>
        (reticuleref01_PutLittle (x.1, x.2)).bind fun r5 =>
        (chk (decide (r5.length ≤ lim))).bind fun _ =>
        some (decide (r4 = r5))
      else
        some false : Option Bool).bind fun b6 =>
    some b6
/-- reticule/reticuleref01.Right -/
noncomputable def reticuleref01_Right (x : Int × Int) : Option Bool :=
  (bif decide (0 ≤ x.1) then
      some (decide (1 ≤ x.2))
    else
      some false : Option Bool).bind fun b1 =>
  (bif b1 then
      some (decide (x.2 ≤ 64))
    else
      some false : Option Bool).bind fun b2 =>
  (bif b2 then
      some (decide (x.1 ≤ (w64 ((64 : Int) - x.2))))
    else
      some false : Option Bool).bind fun b3 =>
  some b3
/-- reticule/reticuleref01.Bits -/
noncomputable def reticuleref01_Bits_L0 : Nat → ((BitVec 64) × Int × Int × Int) → Option (((BitVec 64) × Int) ⊕ (BitVec 64))
  | 0, _ => none
  | n + 1, j =>
  bif decide (j.2.2.2 < j.2.1) then
      reticuleref01_Bits_L0 n (j.1 / (2#64), j.2.1, j.2.2.1, w64 (j.2.2.2 + 1))
    else
      some (Sum.inl (j.1, j.2.2.1))
noncomputable def reticuleref01_Bits_L1 : Nat → ((BitVec 64) × Int × (BitVec 64) × (BitVec 64) × Int) → Option ((BitVec 64) ⊕ (BitVec 64))
  | 0, _ => none
  | n + 1, j =>
  bif decide (j.2.2.2.2 < j.2.1) then
      reticuleref01_Bits_L1 n (j.1 / (2#64), j.2.1, j.2.2.1 + ((j.1 % (2#64)) * j.2.2.2.1), j.2.2.2.1 * (2#64), w64 (j.2.2.2.2 + 1))
    else
      some (Sum.inl j.2.2.1)
noncomputable def reticuleref01_Bits (x : (BitVec 64) × Int × Int) : Option (BitVec 64) :=
  (reticuleref01_Right (x.2.1, x.2.2)).bind fun r1 =>
  bif !r1 then
    some (0#64)
  else
    jn (A := ((BitVec 64) × Int)) (R := (BitVec 64)) (reticuleref01_Bits_L0 Big (x.1, x.2.1, x.2.2, 0)) fun q2 =>
    jn (A := (BitVec 64)) (R := (BitVec 64)) (reticuleref01_Bits_L1 Big (q2.1, q2.2, 0#64, 1#64, 0)) fun q3 =>
    some q3
/-- reticule/reticuleref01.Set -/
noncomputable def reticuleref01_Set_L0 : Nat → ((BitVec 64) × Int × Int × (BitVec 64) × (BitVec 64) × (BitVec 64) × Int) → Option ((BitVec 64) ⊕ (BitVec 64))
  | 0, _ => none
  | n + 1, j =>
  bif decide (j.2.2.2.2.2.2 < 64) then
      jn (A := ((BitVec 64) × Int × Int × (BitVec 64) × (BitVec 64) × (BitVec 64) × Int × (BitVec 64))) (R := ((BitVec 64) ⊕ (BitVec 64))) ((bif decide (j.2.1 ≤ j.2.2.2.2.2.2) then
            some (decide (j.2.2.2.2.2.2 < (w64 (j.2.1 + j.2.2.1))))
          else
            some false : Option Bool).bind fun b2 =>
        bif b2 then
          some (Sum.inl (j.1, j.2.1, j.2.2.1, j.2.2.2.1 / (2#64), j.2.2.2.2.1, j.2.2.2.2.2.1, j.2.2.2.2.2.2, j.2.2.2.1 % (2#64)))
        else
          some (Sum.inl (j.1, j.2.1, j.2.2.1, j.2.2.2.1, j.2.2.2.2.1, j.2.2.2.2.2.1, j.2.2.2.2.2.2, j.1 % (2#64)))) fun j3 =>
      reticuleref01_Set_L0 n (j3.1 / (2#64), j3.2.1, j3.2.2.1, j3.2.2.2.1, j3.2.2.2.2.1 + (j3.2.2.2.2.2.2.2 * j3.2.2.2.2.2.1), j3.2.2.2.2.2.1 * (2#64), w64 (j3.2.2.2.2.2.2.1 + 1))
    else
      some (Sum.inl j.2.2.2.2.1)
noncomputable def reticuleref01_Set (x : (BitVec 64) × Int × Int × (BitVec 64)) : Option (BitVec 64) :=
  (reticuleref01_Right (x.2.1, x.2.2.1)).bind fun r1 =>
  bif !r1 then
    some x.1
  else
    jn (A := (BitVec 64)) (R := (BitVec 64)) (reticuleref01_Set_L0 Big (x.1, x.2.1, x.2.2.1, x.2.2.2, 0#64, 1#64, 0)) fun q4 =>
    some q4
/-- reticule/reticulelaw01.NumberBits -/
noncomputable def reticulelaw01_NumberBits (x : (BitVec 64) × (BitVec 64) × (List Int)) : Option Bool :=
  (reticulelaw01_alive ()).bind fun r1 =>
  bif !r1 then
    some false
  else
    (chk (inLen 0 2)).bind fun _ =>
    ((x.2.2[(0 : Int).toNat]?).bind fun y2 =>
      some y2).bind fun x3 =>
    (chk (inLen 1 2)).bind fun _ =>
    ((x.2.2[(1 : Int).toNat]?).bind fun y4 =>
      some y4).bind fun x5 =>
    (number_Bits (x.1, x3, x5)).bind fun r6 =>
    (chk (inLen 0 2)).bind fun _ =>
    ((x.2.2[(0 : Int).toNat]?).bind fun y7 =>
      some y7).bind fun x8 =>
    (chk (inLen 1 2)).bind fun _ =>
    ((x.2.2[(1 : Int).toNat]?).bind fun y9 =>
      some y9).bind fun x10 =>
    (reticuleref01_Bits (x.1, x8, x10)).bind fun r11 =>
    (bif decide (r6 = r11) then
        (chk (inLen 0 2)).bind fun _ =>
        ((x.2.2[(0 : Int).toNat]?).bind fun y12 =>
          some y12).bind fun x13 =>
        (chk (inLen 1 2)).bind fun _ =>
        ((x.2.2[(1 : Int).toNat]?).bind fun y14 =>
          some y14).bind fun x15 =>
        (number_Set (x.1, x13, x15, x.2.1)).bind fun r16 =>
        (chk (inLen 0 2)).bind fun _ =>
        ((x.2.2[(0 : Int).toNat]?).bind fun y17 =>
          some y17).bind fun x18 =>
        (chk (inLen 1 2)).bind fun _ =>
        ((x.2.2[(1 : Int).toNat]?).bind fun y19 =>
          some y19).bind fun x20 =>
        (reticuleref01_Set (x.1, x18, x20, x.2.1)).bind fun r21 =>
        some (decide (r16 = r21))
      else
        some false : Option Bool).bind fun b22 =>
    some b22
/-- reticule/reticulelaw01.NumberBack -/
noncomputable def reticulelaw01_NumberBack_L0 : Nat → ((List (BitVec 8)) × (List (BitVec 8)) × (BitVec 64) × Int) → Option (Unit ⊕ Bool)
  | 0, _ => none
  | n + 1, j =>
  bif decide (j.2.2.2 ≤ 8) then
      (number_PutBig (j.2.2.1, j.2.2.2)).bind fun r3 =>
      (number_PutLittle (j.2.2.1, j.2.2.2)).bind fun r4 =>
      (chk (decide (([] : List (BitVec 8)).length + j.1.length ≤ lim))).bind fun _ =>
      (chk (decide ((([] : List (BitVec 8)) ++ j.1).length + r3.length ≤ lim))).bind fun _ =>
      (chk (decide (((([] : List (BitVec 8)) ++ j.1) ++ r3).length + j.2.1.length ≤ lim))).bind fun _ =>
      (number_Big (((([] : List (BitVec 8)) ++ j.1) ++ r3) ++ j.2.1, (j.1.length : Int), j.2.2.2)).bind fun r5 =>
      (chk (decide (([] : List (BitVec 8)).length + j.1.length ≤ lim))).bind fun _ =>
      (chk (decide ((([] : List (BitVec 8)) ++ j.1).length + r4.length ≤ lim))).bind fun _ =>
      (chk (decide (((([] : List (BitVec 8)) ++ j.1) ++ r4).length + j.2.1.length ≤ lim))).bind fun _ =>
      (number_Little (((([] : List (BitVec 8)) ++ j.1) ++ r4) ++ j.2.1, (j.1.length : Int), j.2.2.2)).bind fun r6 =>
      (number_Big (r4, 0, j.2.2.2)).bind fun r7 =>
      (number_Little (r3, 0, j.2.2.2)).bind fun r8 =>
      (bif !decide ((r3.length : Int) = j.2.2.2) then
          some true
        else
          some (!decide ((r4.length : Int) = j.2.2.2)) : Option Bool).bind fun b9 =>
      (bif b9 then
          some true
        else
          some (!r5.2) : Option Bool).bind fun b10 =>
      (bif b10 then
          some true
        else
          some (!r6.2) : Option Bool).bind fun b11 =>
      (bif b11 then
          some true
        else
          some (!r7.2) : Option Bool).bind fun b12 =>
      (bif b12 then
          some true
        else
          some (!r8.2) : Option Bool).bind fun b13 =>
      (bif b13 then
          some true
        else
          (number_Bits (j.2.2.1, 0, w64 ((8 : Int) * j.2.2.2))).bind fun r14 =>
          some (!decide (r5.1 = r14)) : Option Bool).bind fun b15 =>
      (bif b15 then
          some true
        else
          some (!decide (r6.1 = r5.1)) : Option Bool).bind fun b16 =>
      (bif b16 then
          some true
        else
          some (!decide (r7.1 = r8.1)) : Option Bool).bind fun b17 =>
      bif b17 then
        some (Sum.inr false)
      else
        reticulelaw01_NumberBack_L0 n (j.1, j.2.1, j.2.2.1, w64 (j.2.2.2 + 1))
    else
      some (Sum.inl ())
noncomputable def reticulelaw01_NumberBack (x : (List (BitVec 8)) × (List (BitVec 8)) × (BitVec 64)) : Option Bool :=
  (reticulelaw01_alive ()).bind fun r1 =>
  bif !r1 then
    some false
  else
    (bif decide (1000 < (x.1.length : Int)) then
        some true
      else
        some (decide (1000 < (x.2.1.length : Int))) : Option Bool).bind fun b2 =>
    bif b2 then
      some true
    else
      jn (A := Unit) (R := Bool) (reticulelaw01_NumberBack_L0 Big (x.1, x.2.1, x.2.2, 1)) fun q18 =>
      some true
/-- reticule/reticulelaw01.NumberSets -/
noncomputable def reticulelaw01_NumberSets (x : (BitVec 64) × (BitVec 64) × (List (BitVec 8))) : Option Bool :=
  (reticulelaw01_alive ()).bind fun r1 =>
  bif !r1 then
    some false
  else
    (chk (inLen 0 2)).bind fun _ =>
    ((x.2.2[(0 : Int).toNat]?).bind fun y2 =>
      some y2).bind fun x3 =>
    (chk (inLen 1 2)).bind fun _ =>
    ((x.2.2[(1 : Int).toNat]?).bind fun y4 =>
      some y4).bind fun x5 =>
    bif decide (64 < (w64 (((x3 % (64#8)).toNat : Int) + (w64 ((1 : Int) + ((x5 % (64#8)).toNat : Int)))))) then
      some true
    else
      (number_Set (x.1, ((x3 % (64#8)).toNat : Int), w64 ((1 : Int) + ((x5 % (64#8)).toNat : Int)), x.2.1)).bind fun r6 =>
      (bif decide (((x3 % (64#8)).toNat : Int) = 0) then
          some true
        else
          (number_Bits (r6, 0, ((x3 % (64#8)).toNat : Int))).bind fun r7 =>
          (number_Bits (x.1, 0, ((x3 % (64#8)).toNat : Int))).bind fun r8 =>
          some (decide (r7 = r8)) : Option Bool).bind fun b9 =>
      (bif decide ((w64 (((x3 % (64#8)).toNat : Int) + (w64 ((1 : Int) + ((x5 % (64#8)).toNat : Int))))) = 64) then
          some true
        else
          (number_Bits (r6, w64 (((x3 % (64#8)).toNat : Int) + (w64 ((1 : Int) + ((x5 % (64#8)).toNat : Int)))), w64 ((w64 ((64 : Int) - ((x3 % (64#8)).toNat : Int))) - (w64 ((1 : Int) + ((x5 % (64#8)).toNat : Int)))))).bind fun r10 =>
          (number_Bits (x.1, w64 (((x3 % (64#8)).toNat : Int) + (w64 ((1 : Int) + ((x5 % (64#8)).toNat : Int)))), w64 ((w64 ((64 : Int) - ((x3 % (64#8)).toNat : Int))) - (w64 ((1 : Int) + ((x5 % (64#8)).toNat : Int)))))).bind fun r11 =>
          some (decide (r10 = r11)) : Option Bool).bind fun b12 =>
      (number_Bits (r6, ((x3 % (64#8)).toNat : Int), w64 ((1 : Int) + ((x5 % (64#8)).toNat : Int)))).bind fun r13 =>
      (number_Bits (x.2.1, 0, w64 ((1 : Int) + ((x5 % (64#8)).toNat : Int)))).bind fun r14 =>
      (bif decide (r13 = r14) then
          some b9
        else
          some false : Option Bool).bind fun b15 =>
      (bif b15 then
          some b12
        else
          some false : Option Bool).bind fun b16 =>
      (bif b16 then
          (number_Bits (x.1, ((x3 % (64#8)).toNat : Int), w64 ((1 : Int) + ((x5 % (64#8)).toNat : Int)))).bind fun r17 =>
          (number_Set (r6, ((x3 % (64#8)).toNat : Int), w64 ((1 : Int) + ((x5 % (64#8)).toNat : Int)), r17)).bind fun r18 =>
          some (decide (r18 = x.1))
        else
          some false : Option Bool).bind fun b19 =>
      some b19
/-- reticule/reticuleref01.Text -/
noncomputable def reticuleref01_Text_L0 : Nat → ((List (BitVec 8)) × Int × (List (BitVec 8)) × Int) → Option ((List (BitVec 8)) ⊕ (List (BitVec 8)))
  | 0, _ => none
  | n + 1, j =>
  bif decide (j.2.2.2 < j.2.1) then
      jn (A := ((List (BitVec 8)) × Int × (List (BitVec 8)) × Int)) (R := ((List (BitVec 8)) ⊕ (List (BitVec 8)))) (bif decide (j.2.2.2 < (j.1.length : Int)) then
          (ix j.1 j.2.2.2).bind fun x2 =>
          (chk (decide (j.2.2.1.length + ([x2] : List (BitVec 8)).length ≤ lim))).bind fun _ =>
          some (Sum.inl (j.1, j.2.1, j.2.2.1 ++ ([x2] : List (BitVec 8)), j.2.2.2))
        else
          (chk (decide (j.2.2.1.length + ([32#8] : List (BitVec 8)).length ≤ lim))).bind fun _ =>
          some (Sum.inl (j.1, j.2.1, j.2.2.1 ++ ([32#8] : List (BitVec 8)), j.2.2.2))) fun j3 =>
      reticuleref01_Text_L0 n (j3.1, j3.2.1, j3.2.2.1, w64 (j3.2.2.2 + 1))
    else
      some (Sum.inl j.2.2.1)
noncomputable def reticuleref01_Text (x : (List (BitVec 8)) × Int) : Option (List (BitVec 8)) :=
  (bif decide (x.2 < 0) then
      some true
    else
      some (decide (1024 < x.2)) : Option Bool).bind fun b1 =>
  bif b1 then
    some ([] : List (BitVec 8))
  else
    jn (A := (List (BitVec 8))) (R := (List (BitVec 8))) (reticuleref01_Text_L0 Big (x.1, x.2, ([] : List (BitVec 8)), 0)) fun q4 =>
    some q4
/-- reticule/reticulelaw01.NumberTexts -/
noncomputable def reticulelaw01_NumberTexts (x : (List (BitVec 8)) × Int) : Option Bool :=
  (reticulelaw01_alive ()).bind fun r1 =>
  bif !r1 then
    some false
  else
    bif decide (2000 < (x.1.length : Int)) then
      some true
    else
      (number_Text (x.1, x.2)).bind fun r2 =>
      (chk (decide (r2.length ≤ lim))).bind fun _ =>
      (reticuleref01_Text (x.1, x.2)).bind fun r3 =>
      (chk (decide (r3.length ≤ lim))).bind fun _ =>
      (bif decide (r2 = r3) then
          (bif decide (x.2 < 0) then
              some true
            else
              some (decide (1024 < x.2)) : Option Bool).bind fun b4 =>
          (bif b4 then
              some true
            else
              some (decide ((r2.length : Int) = x.2)) : Option Bool).bind fun b5 =>
          some b5
        else
          some false : Option Bool).bind fun b6 =>
      some b6
end Go.Proofs.Ytibfmdehmdploaa
