/- The program's functions as plain ones. Printed by the session's own program. -/
import Derived.Test.YtjaaojlggjlgeaaRfH
namespace Go.Proofs.Ytjaaojlggjlgeaa
open Go Go.Re
set_option linter.unusedVariables false
set_option linter.unusedSimpArgs false
/-- reticule/number.mask -/
noncomputable def number_mask (x : Int × Int) : Option (BitVec 64) :=
  (bif decide (x.1 < 0) then
      some true
    else
      some (decide (x.2 < 1)) : Option Bool).bind fun b1 =>
  (bif b1 then
      some true
    else
      some (decide (64 < x.2)) : Option Bool).bind fun b2 =>
  (bif b2 then
      some true
    else
      some (decide ((w64 ((64 : Int) - x.2)) < x.1)) : Option Bool).bind fun b3 =>
  bif b3 then
    some (0#64)
  else
    (bif decide (0 ≤ (w64 ((64 : Int) - x.2) : Int)) then some ((18446744073709551615#64) >>> (w64 ((64 : Int) - x.2) : Int).toNat) else none).bind fun x4 =>
    (bif decide (0 ≤ (x.1 : Int)) then some (x4 <<< (x.1 : Int).toNat) else none).bind fun x5 =>
    some x5
/-- reticule/number.Bits -/
noncomputable def number_Bits (x : (BitVec 64) × Int × Int) : Option (BitVec 64) :=
  (number_mask (x.2.1, x.2.2)).bind fun r1 =>
  bif decide (r1 = (0#64)) then
    some (0#64)
  else
    (bif decide (0 ≤ (x.2.1 : Int)) then some ((x.1 &&& r1) >>> (x.2.1 : Int).toNat) else none).bind fun x2 =>
    some x2
/-- reticule/inquiry.Serial -/
noncomputable def inquiry_Serial (x : Int) : Option (List (BitVec 8)) :=
  (number_Bits (BitVec.ofInt 64 x, 0, 3)).bind fun r1 =>
  (chk (decide (0 ≤ (w32 ((((48#64) + r1).toNat : Int) : Int) : Int)) && decide ((w32 ((((48#64) + r1).toNat : Int) : Int) : Int) < 128))).bind fun _ =>
  (chk (decide (([82#8, 84#8, 48#8, 48#8, 48#8, 48#8, 48#8] : List (BitVec 8)).length + ([BitVec.ofInt 8 (w32 ((((48#64) + r1).toNat : Int) : Int) : Int)] : List (BitVec 8)).length ≤ lim))).bind fun _ =>
  some (([82#8, 84#8, 48#8, 48#8, 48#8, 48#8, 48#8] : List (BitVec 8)) ++ ([BitVec.ofInt 8 (w32 ((((48#64) + r1).toNat : Int) : Int) : Int)] : List (BitVec 8)))
/-- reticule/number.Text -/
noncomputable def number_Text_L0 : Nat → (Int × (List (BitVec 8)) × Int) → Option ((List (BitVec 8)) ⊕ (List (BitVec 8)))
  | 0, _ => none
  | n + 1, j =>
  bif decide (j.2.2 < j.1) then
      (chk (inLen j.2.2 j.2.1.length)).bind fun _ =>
      number_Text_L0 n (j.1, j.2.1.set (j.2.2 : Int).toNat (32#8), w64 (j.2.2 + 1))
    else
      some (Sum.inl j.2.1)
noncomputable def number_Text (x : (List (BitVec 8)) × Int) : Option (List (BitVec 8)) :=
  (bif decide (x.2 < 0) then
      some true
    else
      some (decide (1024 < x.2)) : Option Bool).bind fun b1 =>
  bif b1 then
    some ([] : List (BitVec 8))
  else
    (chk (decide (0 ≤ x.2) && decide (x.2 ≤ x.2) && decide (x.2 ≤ (lim : Int)))).bind fun _ =>
    jn (A := (List (BitVec 8))) (R := (List (BitVec 8))) (number_Text_L0 Big (x.2, over (List.replicate (x.2 : Int).toNat (0#8)) x.1, ((min x.1.length (List.replicate (x.2 : Int).toNat (0#8)).length : Nat) : Int))) fun q2 =>
    some q2
/-- slices.Grow[[]byte,byte] -/
noncomputable def slices_Grow_byte (x : Unit × Int) : Option (List (BitVec 8)) :=
  bif decide (x.2 < 0) then
    none
  else
    jn (A := (List (BitVec 8))) (R := (List (BitVec 8))) (bif decide (0 < (w64 (x.2 - (w64 ((0 : Int) - (([] : List (BitVec 8)).length : Int)))))) then
        (chk (decide (0 ≤ (0 : Int)) && decide ((0 : Int) ≤ (0 : Int)))).bind fun _ =>
        (chk ((decide (0 ≤ (w64 (x.2 - (w64 ((0 : Int) - (([] : List (BitVec 8)).length : Int)))) : Int)) && decide ((w64 (x.2 - (w64 ((0 : Int) - (([] : List (BitVec 8)).length : Int)))) : Int) ≤ (lim : Int))) && decide ((List.replicate (w64 (x.2 - (w64 ((0 : Int) - (([] : List (BitVec 8)).length : Int)))) : Int).toNat (0#8)).length ≤ lim))).bind fun _ =>
        (chk (decide (0 ≤ ((([] : List (BitVec 8)).length : Int) : Int)) && decide (((([] : List (BitVec 8)).length : Int) : Int) ≤ ((List.replicate (w64 (x.2 - (w64 ((0 : Int) - (([] : List (BitVec 8)).length : Int)))) : Int).toNat (0#8)).length : Int)))).bind fun _ =>
        some (Sum.inl ((List.replicate (w64 (x.2 - (w64 ((0 : Int) - (([] : List (BitVec 8)).length : Int)))) : Int).toNat (0#8)).take ((([] : List (BitVec 8)).length : Int) : Int).toNat))
      else
        some (Sum.inl ([]))) fun j1 =>
    some j1
/-- slices.Concat[[]byte,byte] -/
noncomputable def slices_Concat_byte_L0 : Nat → ((List (List (BitVec 8))) × Int × (List (List (BitVec 8))) × Int × Int) → Option (((List (List (BitVec 8))) × Int) ⊕ (List (BitVec 8)))
  | 0, _ => none
  | n + 1, j =>
  bif decide (j.2.2.2.2 < j.2.2.2.1) then
      (ix j.2.2.1 j.2.2.2.2).bind fun x1 =>
      bif decide ((w64 (j.2.1 + (x1.length : Int))) < 0) then
        none
      else
        slices_Concat_byte_L0 n (j.1, w64 (j.2.1 + (x1.length : Int)), j.2.2.1, j.2.2.2.1, w64 (j.2.2.2.2 + 1))
    else
      some (Sum.inl (j.1, j.2.1))
noncomputable def slices_Concat_byte_L1 : Nat → ((List (BitVec 8)) × (List (List (BitVec 8))) × Int × Int) → Option ((List (BitVec 8)) ⊕ (List (BitVec 8)))
  | 0, _ => none
  | n + 1, j =>
  bif decide (j.2.2.2 < j.2.2.1) then
      (ix j.2.1 j.2.2.2).bind fun x4 =>
      (chk (decide (j.1.length + x4.length ≤ lim))).bind fun _ =>
      slices_Concat_byte_L1 n (j.1 ++ x4, j.2.1, j.2.2.1, w64 (j.2.2.2 + 1))
    else
      some (Sum.inl j.1)
noncomputable def slices_Concat_byte (x : (List (List (BitVec 8)))) : Option (List (BitVec 8)) :=
  jn (A := ((List (List (BitVec 8))) × Int)) (R := (List (BitVec 8))) (slices_Concat_byte_L0 Big (x, 0, x, (x.length : Int), 0)) fun q2 =>
  (slices_Grow_byte ((), q2.2)).bind fun r3 =>
  jn (A := (List (BitVec 8))) (R := (List (BitVec 8))) (slices_Concat_byte_L1 Big (r3, q2.1, (q2.1.length : Int), 0)) fun q5 =>
  some q5
/-- reticule/number.PutLittle -/
noncomputable def number_PutLittle_L0 : Nat → ((BitVec 64) × (List (BitVec 8)) × Int × Int) → Option ((List (BitVec 8)) ⊕ (List (BitVec 8)))
  | 0, _ => none
  | n + 1, j =>
  bif decide (j.2.2.2 < j.2.2.1) then
      (chk (decide (j.2.1.length + ([j.1.setWidth 8] : List (BitVec 8)).length ≤ lim))).bind fun _ =>
      number_PutLittle_L0 n (j.1 >>> (((8#64).toNat : Int) : Int).toNat, j.2.1 ++ ([j.1.setWidth 8] : List (BitVec 8)), j.2.2.1, w64 (j.2.2.2 + 1))
    else
      some (Sum.inl j.2.1)
noncomputable def number_PutLittle (x : (BitVec 64) × Int) : Option (List (BitVec 8)) :=
  (bif decide (x.2 < 1) then
      some true
    else
      some (decide (8 < x.2)) : Option Bool).bind fun b1 =>
  bif b1 then
    some ([] : List (BitVec 8))
  else
    jn (A := (List (BitVec 8))) (R := (List (BitVec 8))) (number_PutLittle_L0 Big (x.1, ([] : List (BitVec 8)), x.2, 0)) fun q2 =>
    some q2
/-- slices.Reverse[[]byte,byte] -/
noncomputable def slices_Reverse_byte_L0 : Nat → ((List (BitVec 8)) × Int × Int) → Option ((List (BitVec 8)) ⊕ (List (BitVec 8)))
  | 0, _ => none
  | n + 1, j =>
  bif decide (j.2.1 < j.2.2) then
      (chk (inLen j.2.2 j.1.length)).bind fun _ =>
      ((j.1[(j.2.2 : Int).toNat]?).bind fun y1 =>
        some y1).bind fun x2 =>
      (chk (inLen j.2.1 j.1.length)).bind fun _ =>
      ((j.1[(j.2.1 : Int).toNat]?).bind fun y3 =>
        some y3).bind fun x4 =>
      (chk (inLen j.2.1 j.1.length)).bind fun _ =>
      (chk (inLen j.2.2 (j.1.set (j.2.1 : Int).toNat x2).length)).bind fun _ =>
      slices_Reverse_byte_L0 n ((j.1.set (j.2.1 : Int).toNat x2).set (j.2.2 : Int).toNat x4, w64 (j.2.1 + 1), w64 (j.2.2 - 1))
    else
      some (Sum.inl j.1)
noncomputable def slices_Reverse_byte (x : (List (BitVec 8))) : Option (List (BitVec 8)) :=
  jn (A := (List (BitVec 8))) (R := (List (BitVec 8))) (slices_Reverse_byte_L0 Big (x, 0, w64 ((x.length : Int) - 1))) fun q5 =>
  some q5
/-- reticule/number.PutBig -/
noncomputable def number_PutBig (x : (BitVec 64) × Int) : Option (List (BitVec 8)) :=
  (number_PutLittle (x.1, x.2)).bind fun r1 =>
  (slices_Reverse_byte r1).bind fun r2 =>
  some r2
/-- reticule/sense.asked -/
noncomputable def sense_asked (x : Int × Int) : Option (Int × (Int × (Int × Unit))) :=
  some (5, x.1, x.2, ())
/-- reticule/sense.Field -/
noncomputable def sense_Field (x : Unit) : Option (Int × (Int × (Int × Unit))) :=
  (sense_asked (36, 0)).bind fun r1 =>
  some r1
/-- reticule/inquiry.kind -/
noncomputable def inquiry_kind (x : Bool) : Option (BitVec 8) :=
  bif x then
    some (0#8)
  else
    some (127#8)
/-- reticule/inquiry.Page -/
noncomputable def inquiry_Page (x : Int × Int × Bool) : Option ((List (BitVec 8)) × (Int × (Int × (Int × Unit)))) :=
  jn (A := (Int × Bool × (Int × (Int × (Int × Unit))) × (List (BitVec 8)))) (R := ((List (BitVec 8)) × (Int × (Int × (Int × Unit))))) (bif decide (x.1 = 0) then
      some (Sum.inl (x.1, x.2.2, (0, 0, 0, ()), ([0#8, 128#8, 131#8, 176#8] : List (BitVec 8))))
    else
      bif decide (x.1 = 128) then
        (inquiry_Serial x.2.1).bind fun r1 =>
        (chk (decide (r1.length ≤ lim))).bind fun _ =>
        some (Sum.inl (x.1, x.2.2, (0, 0, 0, ()), r1))
      else
        bif decide (x.1 = 131) then
          (number_Text (([82#8, 69#8, 84#8, 73#8, 67#8, 85#8, 76#8, 69#8] : List (BitVec 8)), 8)).bind fun r2 =>
          (inquiry_Serial x.2.1).bind fun r3 =>
          (chk (decide (r3.length ≤ lim))).bind fun _ =>
          (slices_Concat_byte ([([2#8, 1#8, 0#8, 16#8] : List (BitVec 8)), r2, r3] : List (List (BitVec 8)))).bind fun r4 =>
          some (Sum.inl (x.1, x.2.2, (0, 0, 0, ()), r4))
        else
          bif decide (x.1 = 176) then
            (number_PutBig (64#64, 8)).bind fun r5 =>
            (chk (decide (0 ≤ 52) && decide (52 ≤ 52) && decide (52 ≤ (lim : Int)))).bind fun _ =>
            (slices_Concat_byte ([r5, List.replicate (52 : Int).toNat (0#8)] : List (List (BitVec 8)))).bind fun r6 =>
            some (Sum.inl (x.1, x.2.2, (0, 0, 0, ()), r6))
          else
            (sense_Field ()).bind fun r7 =>
            some (Sum.inr (([] : List (BitVec 8)), r7))) fun j8 =>
  (inquiry_kind j8.2.1).bind fun r9 =>
  (number_PutBig (BitVec.ofInt 64 (j8.2.2.2.length : Int), 2)).bind fun r10 =>
  (slices_Concat_byte ([([r9, BitVec.ofInt 8 j8.1] : List (BitVec 8)), r10, j8.2.2.2] : List (List (BitVec 8)))).bind fun r11 =>
  some (r11, 0, 0, 0, ())
/-- reticule/inquiry.Standard -/
noncomputable def inquiry_Standard (x : Bool) : Option (List (BitVec 8)) :=
  (inquiry_kind x).bind fun r1 =>
  (number_Text (([82#8, 69#8, 84#8, 73#8, 67#8, 85#8, 76#8, 69#8] : List (BitVec 8)), 8)).bind fun r2 =>
  (number_Text (([71#8, 65#8, 68#8, 71#8, 69#8, 84#8, 32#8, 68#8, 73#8, 83#8, 75#8] : List (BitVec 8)), 16)).bind fun r3 =>
  (number_Text (([48#8, 48#8, 48#8, 49#8] : List (BitVec 8)), 4)).bind fun r4 =>
  (slices_Concat_byte ([([r1, 128#8, 6#8, 2#8, 31#8, 0#8, 0#8, 2#8] : List (BitVec 8)), r2, r3, r4] : List (List (BitVec 8)))).bind fun r5 =>
  some r5
/-- reticule/inquiry.Cut -/
noncomputable def inquiry_Cut (x : (List (BitVec 8)) × Int) : Option (List (BitVec 8)) :=
  bif decide (x.2 < 0) then
    some ([] : List (BitVec 8))
  else
    (chk ((decide (0 ≤ (bif decide ((x.1.length : Int) < x.2) then (x.1.length : Int) else x.2 : Int)) && decide ((bif decide ((x.1.length : Int) < x.2) then (x.1.length : Int) else x.2 : Int) ≤ (x.1.length : Int))) && decide ((bif decide ((x.1.length : Int) < x.2) then (x.1.length : Int) else x.2 : Int) = (bif decide ((x.1.length : Int) < x.2) then (x.1.length : Int) else x.2 : Int)))).bind fun _ =>
    some (x.1.take (bif decide ((x.1.length : Int) < x.2) then (x.1.length : Int) else x.2 : Int).toNat)
/-- reticule/inquiry.Answer -/
noncomputable def inquiry_Answer (x : (Int × (BitVec 64 × (Int × (Int × (Int × Unit))))) × Int × Int) : Option ((List (BitVec 8)) × (Int × (Int × (Int × Unit)))) :=
  (bif decide (0 ≤ x.2.1) then
      some (decide (x.2.1 < x.2.2))
    else
      some false : Option Bool).bind fun b1 =>
  (inquiry_Standard b1).bind fun r2 =>
  jn (A := ((Int × (BitVec 64 × (Int × (Int × (Int × Unit))))) × (Int × (Int × (Int × Unit))) × (List (BitVec 8)) × (Int × (Int × (Int × Unit))))) (R := ((List (BitVec 8)) × (Int × (Int × (Int × Unit))))) (bif !decide (x.1.1 = 18) then
      (sense_Field ()).bind fun r3 =>
      some (Sum.inr (([] : List (BitVec 8)), r3))
    else
      bif decide (x.1.2.2.2.2.1 = 1) then
        (inquiry_Page (x.1.2.2.2.1, x.2.1, b1)).bind fun r4 =>
        some (Sum.inl (x.1, (0, 0, 0, ()), r4.1, r4.2))
      else
        some (Sum.inl (x.1, (0, 0, 0, ()), r2, 0, 0, 0, ()))) fun j5 =>
  (inquiry_Cut (j5.2.2.1, j5.1.2.2.1)).bind fun r6 =>
  some (r6, j5.2.2.2)
/-- reticule/reticuleref04.Of -/
noncomputable def reticuleref04_Of (x : Int × Int × Int) : Option (Int × (Int × (Int × Unit))) :=
  some (x.1, x.2.1, x.2.2, ())
/-- reticule/reticulelaw07.alive -/
noncomputable def reticulelaw07_alive (x : Unit) : Option Bool :=
  (inquiry_Page (128, 2, true)).bind fun r1 =>
  (inquiry_Answer ((18, 0#64, 36, 0, 0, ()), 1, 2)).bind fun r2 =>
  (inquiry_Answer ((18, 0#64, 5, 0, 0, ()), 2, 2)).bind fun r3 =>
  (inquiry_Page (129, 0, true)).bind fun r4 =>
  (bif (decide (r1.2.1 = 0)) && ((decide (r1.2.2.1 = 0)) && ((decide (r1.2.2.2.1 = 0)) && true)) then
      some ((decide (r2.2.1 = r1.2.1)) && ((decide (r2.2.2.1 = r1.2.2.1)) && ((decide (r2.2.2.2.1 = r1.2.2.2.1)) && true)))
    else
      some false : Option Bool).bind fun b5 =>
  (bif b5 then
      some ((decide (r3.2.1 = r1.2.1)) && ((decide (r3.2.2.1 = r1.2.2.1)) && ((decide (r3.2.2.2.1 = r1.2.2.2.1)) && true)))
    else
      some false : Option Bool).bind fun b6 =>
  (bif b6 then
      (reticuleref04_Of (5, 36, 0)).bind fun r7 =>
      some ((decide (r4.2.1 = r7.1)) && ((decide (r4.2.2.1 = r7.2.1)) && ((decide (r4.2.2.2.1 = r7.2.2.1)) && true)))
    else
      some false : Option Bool).bind fun b8 =>
  (bif b8 then
      (chk (decide (r1.1.length ≤ lim))).bind fun _ =>
      some (decide (r1.1 = ([0#8, 128#8, 0#8, 8#8, 82#8, 84#8, 48#8, 48#8, 48#8, 48#8, 48#8, 50#8] : List (BitVec 8))))
    else
      some false : Option Bool).bind fun b9 =>
  (bif b9 then
      (chk (decide (r2.1.length ≤ lim))).bind fun _ =>
      some (decide (r2.1 = ([0#8, 128#8, 6#8, 2#8, 31#8, 0#8, 0#8, 2#8, 82#8, 69#8, 84#8, 73#8, 67#8, 85#8, 76#8, 69#8, 71#8, 65#8, 68#8, 71#8, 69#8, 84#8, 32#8, 68#8, 73#8, 83#8, 75#8, 32#8, 32#8, 32#8, 32#8, 32#8, 48#8, 48#8, 48#8, 49#8] : List (BitVec 8))))
    else
      some false : Option Bool).bind fun b10 =>
  (bif b10 then
      (chk (decide (r3.1.length ≤ lim))).bind fun _ =>
      some (decide (r3.1 = ([127#8, 128#8, 6#8, 2#8, 31#8] : List (BitVec 8))))
    else
      some false : Option Bool).bind fun b11 =>
  (bif b11 then
      (inquiry_Serial 9).bind fun r12 =>
      some (decide (r12 = ([82#8, 84#8, 48#8, 48#8, 48#8, 48#8, 48#8, 49#8] : List (BitVec 8))))
    else
      some false : Option Bool).bind fun b13 =>
  (bif b13 then
      (inquiry_Standard true).bind fun r14 =>
      (chk (decide (r14.length ≤ lim))).bind fun _ =>
      (chk (decide (r2.1.length ≤ lim))).bind fun _ =>
      some (decide (r14 = r2.1))
    else
      some false : Option Bool).bind fun b15 =>
  (bif b15 then
      (inquiry_Cut (r1.1, 2)).bind fun r16 =>
      (chk (decide (r16.length ≤ lim))).bind fun _ =>
      some (decide (r16 = ([0#8, 128#8] : List (BitVec 8))))
    else
      some false : Option Bool).bind fun b17 =>
  some b17
/-- reticule/reticuleref07.first -/
noncomputable def reticuleref07_first (x : Bool) : Option (BitVec 8) :=
  bif x then
    some (0#8)
  else
    some (127#8)
/-- reticule/reticuleref07.Standard -/
noncomputable def reticuleref07_Standard (x : Bool) : Option (List (BitVec 8)) :=
  (reticuleref07_first x).bind fun r1 =>
  (chk (decide (0 < ([82#8, 69#8, 84#8, 73#8, 67#8, 85#8, 76#8, 69#8, 71#8, 65#8, 68#8, 71#8, 69#8, 84#8, 32#8, 68#8, 73#8, 83#8, 75#8, 32#8, 32#8, 32#8, 32#8, 32#8, 48#8, 48#8, 48#8, 49#8] : List (BitVec 8)).length))).bind fun _ =>
  (chk (decide (([r1, 128#8, 6#8, 2#8, 31#8, 0#8, 0#8, 2#8] : List (BitVec 8)).length + ([82#8, 69#8, 84#8, 73#8, 67#8, 85#8, 76#8, 69#8, 71#8, 65#8, 68#8, 71#8, 69#8, 84#8, 32#8, 68#8, 73#8, 83#8, 75#8, 32#8, 32#8, 32#8, 32#8, 32#8, 48#8, 48#8, 48#8, 49#8] : List (BitVec 8)).length ≤ lim))).bind fun _ =>
  some (([r1, 128#8, 6#8, 2#8, 31#8, 0#8, 0#8, 2#8] : List (BitVec 8)) ++ ([82#8, 69#8, 84#8, 73#8, 67#8, 85#8, 76#8, 69#8, 71#8, 65#8, 68#8, 71#8, 69#8, 84#8, 32#8, 68#8, 73#8, 83#8, 75#8, 32#8, 32#8, 32#8, 32#8, 32#8, 48#8, 48#8, 48#8, 49#8] : List (BitVec 8)))
/-- reticule/reticuleref07.Cut -/
noncomputable def reticuleref07_Cut (x : (List (BitVec 8)) × Int) : Option (List (BitVec 8)) :=
  bif decide (x.2 < 0) then
    some ([] : List (BitVec 8))
  else
    jn (A := ((List (BitVec 8)) × Int)) (R := (List (BitVec 8))) (bif decide ((x.1.length : Int) < x.2) then
        some (Sum.inl (x.1, (x.1.length : Int)))
      else
        some (Sum.inl (x.1, x.2))) fun j1 =>
    (chk (decide (0 ≤ (j1.2 : Int)) && decide ((j1.2 : Int) ≤ (j1.1.length : Int)))).bind fun _ =>
    (chk (decide (([] : List (BitVec 8)).length + (j1.1.take (j1.2 : Int).toNat).length ≤ lim))).bind fun _ =>
    some (([] : List (BitVec 8)) ++ (j1.1.take (j1.2 : Int).toNat))
/-- reticule/reticuleref01.Right -/
noncomputable def reticuleref01_Right (x : Int × Int) : Option Bool :=
  (bif decide (0 ≤ x.1) then
      some (decide (1 ≤ x.2))
    else
      some false : Option Bool).bind fun b1 =>
  (bif b1 then
      some (decide (x.2 ≤ 64))
    else
      some false : Option Bool).bind fun b2 =>
  (bif b2 then
      some (decide (x.1 ≤ (w64 ((64 : Int) - x.2))))
    else
      some false : Option Bool).bind fun b3 =>
  some b3
/-- reticule/reticuleref01.Bits -/
noncomputable def reticuleref01_Bits_L0 : Nat → ((BitVec 64) × Int × Int × Int) → Option (((BitVec 64) × Int) ⊕ (BitVec 64))
  | 0, _ => none
  | n + 1, j =>
  bif decide (j.2.2.2 < j.2.1) then
      reticuleref01_Bits_L0 n (j.1 / (2#64), j.2.1, j.2.2.1, w64 (j.2.2.2 + 1))
    else
      some (Sum.inl (j.1, j.2.2.1))
noncomputable def reticuleref01_Bits_L1 : Nat → ((BitVec 64) × Int × (BitVec 64) × (BitVec 64) × Int) → Option ((BitVec 64) ⊕ (BitVec 64))
  | 0, _ => none
  | n + 1, j =>
  bif decide (j.2.2.2.2 < j.2.1) then
      reticuleref01_Bits_L1 n (j.1 / (2#64), j.2.1, j.2.2.1 + ((j.1 % (2#64)) * j.2.2.2.1), j.2.2.2.1 * (2#64), w64 (j.2.2.2.2 + 1))
    else
      some (Sum.inl j.2.2.1)
noncomputable def reticuleref01_Bits (x : (BitVec 64) × Int × Int) : Option (BitVec 64) :=
  (reticuleref01_Right (x.2.1, x.2.2)).bind fun r1 =>
  bif !r1 then
    some (0#64)
  else
    jn (A := ((BitVec 64) × Int)) (R := (BitVec 64)) (reticuleref01_Bits_L0 Big (x.1, x.2.1, x.2.2, 0)) fun q2 =>
    jn (A := (BitVec 64)) (R := (BitVec 64)) (reticuleref01_Bits_L1 Big (q2.1, q2.2, 0#64, 1#64, 0)) fun q3 =>
    some q3
/-- reticule/reticuleref07.Serial -/
noncomputable def reticuleref07_Serial (x : Int) : Option (List (BitVec 8)) :=
  (reticuleref01_Bits (BitVec.ofInt 64 x, 0, 3)).bind fun r1 =>
  (chk (inLen (w64 (r1.toNat : Int)) ([([48#8] : List (BitVec 8)), ([49#8] : List (BitVec 8)), ([50#8] : List (BitVec 8)), ([51#8] : List (BitVec 8)), ([52#8] : List (BitVec 8)), ([53#8] : List (BitVec 8)), ([54#8] : List (BitVec 8)), ([55#8] : List (BitVec 8))] : List (List (BitVec 8))).length)).bind fun _ =>
  ((([([48#8] : List (BitVec 8)), ([49#8] : List (BitVec 8)), ([50#8] : List (BitVec 8)), ([51#8] : List (BitVec 8)), ([52#8] : List (BitVec 8)), ([53#8] : List (BitVec 8)), ([54#8] : List (BitVec 8)), ([55#8] : List (BitVec 8))] : List (List (BitVec 8)))[(w64 (r1.toNat : Int) : Int).toNat]?).bind fun y2 =>
    some y2).bind fun x3 =>
  (chk (decide (([82#8, 84#8, 48#8, 48#8, 48#8, 48#8, 48#8] : List (BitVec 8)).length + x3.length ≤ lim))).bind fun _ =>
  some (([82#8, 84#8, 48#8, 48#8, 48#8, 48#8, 48#8] : List (BitVec 8)) ++ x3)
/-- reticule/reticuleref07.Page -/
noncomputable def reticuleref07_Page (x : Int × Int × Bool) : Option ((List (BitVec 8)) × (Int × (Int × (Int × Unit)))) :=
  (reticuleref07_first x.2.2).bind fun r1 =>
  bif decide (x.1 = 0) then
    (chk (decide (([r1, BitVec.ofInt 8 x.1, 0#8] : List (BitVec 8)).length + ([4#8, 0#8, 128#8, 131#8, 176#8] : List (BitVec 8)).length ≤ lim))).bind fun _ =>
    some (([r1, BitVec.ofInt 8 x.1, 0#8] : List (BitVec 8)) ++ ([4#8, 0#8, 128#8, 131#8, 176#8] : List (BitVec 8)), 0, 0, 0, ())
  else
    bif decide (x.1 = 128) then
      (chk (decide (([r1, BitVec.ofInt 8 x.1, 0#8] : List (BitVec 8)).length + ([8#8] : List (BitVec 8)).length ≤ lim))).bind fun _ =>
      (reticuleref07_Serial x.2.1).bind fun r2 =>
      (chk (decide (r2.length ≤ lim))).bind fun _ =>
      (chk (decide ((([r1, BitVec.ofInt 8 x.1, 0#8] : List (BitVec 8)) ++ ([8#8] : List (BitVec 8))).length + r2.length ≤ lim))).bind fun _ =>
      some ((([r1, BitVec.ofInt 8 x.1, 0#8] : List (BitVec 8)) ++ ([8#8] : List (BitVec 8))) ++ r2, 0, 0, 0, ())
    else
      bif decide (x.1 = 131) then
        (chk (decide (([r1, BitVec.ofInt 8 x.1, 0#8] : List (BitVec 8)).length + ([20#8, 2#8, 1#8, 0#8, 16#8] : List (BitVec 8)).length ≤ lim))).bind fun _ =>
        (reticuleref07_Serial x.2.1).bind fun r3 =>
        (chk (decide (([82#8, 69#8, 84#8, 73#8, 67#8, 85#8, 76#8, 69#8] : List (BitVec 8)).length + r3.length ≤ lim))).bind fun _ =>
        (chk (decide ((([82#8, 69#8, 84#8, 73#8, 67#8, 85#8, 76#8, 69#8] : List (BitVec 8)) ++ r3).length ≤ lim))).bind fun _ =>
        (chk (decide ((([r1, BitVec.ofInt 8 x.1, 0#8] : List (BitVec 8)) ++ ([20#8, 2#8, 1#8, 0#8, 16#8] : List (BitVec 8))).length + (([82#8, 69#8, 84#8, 73#8, 67#8, 85#8, 76#8, 69#8] : List (BitVec 8)) ++ r3).length ≤ lim))).bind fun _ =>
        some ((([r1, BitVec.ofInt 8 x.1, 0#8] : List (BitVec 8)) ++ ([20#8, 2#8, 1#8, 0#8, 16#8] : List (BitVec 8))) ++ (([82#8, 69#8, 84#8, 73#8, 67#8, 85#8, 76#8, 69#8] : List (BitVec 8)) ++ r3), 0, 0, 0, ())
      else
        bif decide (x.1 = 176) then
          (chk (decide (([r1, BitVec.ofInt 8 x.1, 0#8] : List (BitVec 8)).length + ([60#8, 0#8, 0#8, 0#8, 0#8, 0#8, 0#8, 0#8, 64#8] : List (BitVec 8)).length ≤ lim))).bind fun _ =>
          (chk ((decide (0 ≤ (52 : Int)) && decide ((52 : Int) ≤ (lim : Int))) && decide ((([r1, BitVec.ofInt 8 x.1, 0#8] : List (BitVec 8)) ++ ([60#8, 0#8, 0#8, 0#8, 0#8, 0#8, 0#8, 0#8, 64#8] : List (BitVec 8))).length + (List.replicate (52 : Int).toNat (0#8)).length ≤ lim))).bind fun _ =>
          some ((([r1, BitVec.ofInt 8 x.1, 0#8] : List (BitVec 8)) ++ ([60#8, 0#8, 0#8, 0#8, 0#8, 0#8, 0#8, 0#8, 64#8] : List (BitVec 8))) ++ (List.replicate (52 : Int).toNat (0#8)), 0, 0, 0, ())
        else
          (reticuleref04_Of (5, 36, 0)).bind fun r4 =>
          some (([] : List (BitVec 8)), r4)
/-- reticule/reticuleref07.Answer -/
noncomputable def reticuleref07_Answer (x : (Int × (BitVec 64 × (Int × (Int × (Int × Unit))))) × Int × Int) : Option ((List (BitVec 8)) × (Int × (Int × (Int × Unit)))) :=
  bif !decide (x.1.1 = 18) then
    (reticuleref04_Of (5, 36, 0)).bind fun r1 =>
    some (([] : List (BitVec 8)), r1)
  else
    (bif decide (0 ≤ x.2.1) then
        some (decide (x.2.1 < x.2.2))
      else
        some false : Option Bool).bind fun b2 =>
    bif !decide (x.1.2.2.2.2.1 = 1) then
      (reticuleref07_Standard b2).bind fun r3 =>
      (reticuleref07_Cut (r3, x.1.2.2.1)).bind fun r4 =>
      some (r4, 0, 0, 0, ())
    else
      (reticuleref07_Page (x.1.2.2.2.1, x.2.1, b2)).bind fun r5 =>
      (reticuleref07_Cut (r5.1, x.1.2.2.1)).bind fun r6 =>
      some (r6, r5.2)
/-- reticule/reticulelaw07.InquiryAnswers -/
noncomputable def reticulelaw07_InquiryAnswers (x : (Int × (BitVec 64 × (Int × (Int × (Int × Unit))))) × Int × Int) : Option Bool :=
  (reticulelaw07_alive ()).bind fun r1 =>
  bif !r1 then
    some false
  else
    (inquiry_Answer (x.1, x.2.1, x.2.2)).bind fun r2 =>
    (reticuleref07_Answer (x.1, x.2.1, x.2.2)).bind fun r3 =>
    (chk (decide (r2.1.length ≤ lim))).bind fun _ =>
    (chk (decide (r3.1.length ≤ lim))).bind fun _ =>
    (bif decide (r2.1 = r3.1) then
        some ((decide (r2.2.1 = r3.2.1)) && ((decide (r2.2.2.1 = r3.2.2.1)) && ((decide (r2.2.2.2.1 = r3.2.2.2.1)) && true)))
      else
        some false : Option Bool).bind fun b4 =>
    (bif b4 then
        (inquiry_Serial x.2.1).bind fun r5 =>
        (reticuleref07_Serial x.2.1).bind fun r6 =>
        some (decide (r5 = r6))
      else
        some false : Option Bool).bind fun b7 =>
    some b7
/-- reticule/reticuleref01.Big -/
noncomputable def reticuleref01_Big_L0 : Nat → ((List (BitVec 8)) × Int × Int × (BitVec 64) × Int) → Option ((BitVec 64) ⊕ ((BitVec 64) × Bool))
  | 0, _ => none
  | n + 1, j =>
  bif decide (j.2.2.2.2 < j.2.2.1) then
      (ix j.1 (w64 (j.2.1 + j.2.2.2.2))).bind fun x5 =>
      reticuleref01_Big_L0 n (j.1, j.2.1, j.2.2.1, (j.2.2.2.1 * (256#64)) + (x5.setWidth 64), w64 (j.2.2.2.2 + 1))
    else
      some (Sum.inl j.2.2.2.1)
noncomputable def reticuleref01_Big (x : (List (BitVec 8)) × Int × Int) : Option ((BitVec 64) × Bool) :=
  (bif decide (x.2.2 < 1) then
      some true
    else
      some (decide (8 < x.2.2)) : Option Bool).bind fun b1 =>
  (bif b1 then
      some true
    else
      some (decide (x.2.1 < 0)) : Option Bool).bind fun b2 =>
  (bif b2 then
      some true
    else
      some (decide ((x.1.length : Int) < x.2.2)) : Option Bool).bind fun b3 =>
  (bif b3 then
      some true
    else
      some (decide ((w64 ((x.1.length : Int) - x.2.2)) < x.2.1)) : Option Bool).bind fun b4 =>
  bif b4 then
    some (0#64, false)
  else
    jn (A := (BitVec 64)) (R := ((BitVec 64) × Bool)) (reticuleref01_Big_L0 Big (x.1, x.2.1, x.2.2, 0#64, 0)) fun q6 =>
    some (q6, true)
/-- reticule/reticulelaw07.InquiryPages -/
noncomputable def reticulelaw07_InquiryPages_L0 : Nat → (Int × Bool × (List (BitVec 8)) × (BitVec 64) × Bool × (List (BitVec 8)) × Int) → Option (((List (BitVec 8)) × (BitVec 64) × Bool) ⊕ Bool)
  | 0, _ => none
  | n + 1, j =>
  bif decide (j.2.2.2.2.2.2 < (j.2.2.2.2.2.1.length : Int)) then
      (chk (inLen j.2.2.2.2.2.2 j.2.2.2.2.2.1.length)).bind fun _ =>
      ((j.2.2.2.2.2.1[(j.2.2.2.2.2.2 : Int).toNat]?).bind fun y15 =>
        some y15).bind fun x16 =>
      (inquiry_Page ((x16.toNat : Int), j.1, j.2.1)).bind fun r17 =>
      bif !((decide (r17.2.1 = 0)) && ((decide (r17.2.2.1 = 0)) && ((decide (r17.2.2.2.1 = 0)) && true))) then
        some (Sum.inr false)
      else
        reticulelaw07_InquiryPages_L0 n (j.1, j.2.1, j.2.2.1, j.2.2.2.1, j.2.2.2.2.1, j.2.2.2.2.2.1, w64 (j.2.2.2.2.2.2 + 1))
    else
      some (Sum.inl (j.2.2.1, j.2.2.2.1, j.2.2.2.2.1))
noncomputable def reticulelaw07_InquiryPages (x : Int × Int × Bool) : Option Bool :=
  (reticulelaw07_alive ()).bind fun r1 =>
  bif !r1 then
    some false
  else
    (inquiry_Page (x.1, x.2.1, x.2.2)).bind fun r2 =>
    (reticuleref07_Page (x.1, x.2.1, x.2.2)).bind fun r3 =>
    (chk (decide (r2.1.length ≤ lim))).bind fun _ =>
    (chk (decide (r3.1.length ≤ lim))).bind fun _ =>
    (bif !(decide (r2.1 = r3.1)) then
        some true
      else
        some (!((decide (r2.2.1 = r3.2.1)) && ((decide (r2.2.2.1 = r3.2.2.1)) && ((decide (r2.2.2.2.1 = r3.2.2.2.1)) && true)))) : Option Bool).bind fun b4 =>
    (bif b4 then
        some true
      else
        (inquiry_Standard x.2.2).bind fun r5 =>
        (chk (decide (r5.length ≤ lim))).bind fun _ =>
        (reticuleref07_Standard x.2.2).bind fun r6 =>
        (chk (decide (r6.length ≤ lim))).bind fun _ =>
        some (!(decide (r5 = r6))) : Option Bool).bind fun b7 =>
    bif b7 then
      some false
    else
      bif !((decide (r2.2.1 = 0)) && ((decide (r2.2.2.1 = 0)) && ((decide (r2.2.2.2.1 = 0)) && true))) then
        some (decide ((r2.1.length : Int) = 0))
      else
        (reticuleref01_Big (r2.1, 2, 2)).bind fun r8 =>
        (inquiry_Standard x.2.2).bind fun r9 =>
        (inquiry_Page (0, x.2.1, x.2.2)).bind fun r10 =>
        (bif decide ((r10.1.length : Int) < 4) then
            some true
          else
            some (decide ((r9.length : Int) < 5)) : Option Bool).bind fun b11 =>
        (bif b11 then
            some true
          else
            (chk (inLen 4 r9.length)).bind fun _ =>
            ((r9[(4 : Int).toNat]?).bind fun y12 =>
              some y12).bind fun x13 =>
            some (!decide ((r9.length : Int) = (w64 ((x13.toNat : Int) + 5)))) : Option Bool).bind fun b14 =>
        bif b14 then
          some false
        else
          jn (A := ((List (BitVec 8)) × (BitVec 64) × Bool)) (R := Bool) (reticulelaw07_InquiryPages_L0 Big (x.2.1, x.2.2, r2.1, r8.1, r8.2, r10.1, 4)) fun q18 =>
          (bif q18.2.2 then
              some (decide ((w64 (q18.2.1.toNat : Int)) = (w64 ((q18.1.length : Int) - 4))))
            else
              some false : Option Bool).bind fun b19 =>
          some b19
/-- reticule/reticulelaw07.InquiryCuts -/
noncomputable def reticulelaw07_InquiryCuts (x : (List (BitVec 8)) × Int × Int) : Option Bool :=
  (reticulelaw07_alive ()).bind fun r1 =>
  bif !r1 then
    some false
  else
    bif decide (500 < (x.1.length : Int)) then
      some true
    else
      (inquiry_Cut (x.1, x.2.1)).bind fun r2 =>
      (chk (decide (r2.length ≤ lim))).bind fun _ =>
      (reticuleref07_Cut (x.1, x.2.1)).bind fun r3 =>
      (chk (decide (r3.length ≤ lim))).bind fun _ =>
      (bif decide (r2 = r3) then
          (inquiry_Cut (r2, x.2.2)).bind fun r4 =>
          (chk (decide (r4.length ≤ lim))).bind fun _ =>
          (inquiry_Cut (x.1, bif decide (x.2.2 < x.2.1) then x.2.2 else x.2.1)).bind fun r5 =>
          (chk (decide (r5.length ≤ lim))).bind fun _ =>
          some (decide (r4 = r5))
        else
          some false : Option Bool).bind fun b6 =>
      some b6
/-- reticule/reticulelaw07.InquirySerials -/
noncomputable def reticulelaw07_InquirySerials (x : Int × Int) : Option Bool :=
  (reticulelaw07_alive ()).bind fun r1 =>
  bif !r1 then
    some false
  else
    (inquiry_Page (131, x.1, true)).bind fun r2 =>
    (inquiry_Serial x.1).bind fun r3 =>
    (inquiry_Serial x.2).bind fun r4 =>
    (bif !((decide (r2.2.1 = 0)) && ((decide (r2.2.2.1 = 0)) && ((decide (r2.2.2.2.1 = 0)) && true))) then
        some true
      else
        some (decide ((r2.1.length : Int) < 8)) : Option Bool).bind fun b5 =>
    (bif b5 then
        some true
      else
        some (!decide ((r3.length : Int) = 8)) : Option Bool).bind fun b6 =>
    bif b6 then
      some false
    else
      (bif decide ((decide (r3 = r4)) = (decide ((BitVec.toInt (BitVec.ofInt 64 x.1 &&& BitVec.ofInt 64 7)) = (BitVec.toInt (BitVec.ofInt 64 x.2 &&& BitVec.ofInt 64 7))))) then
          (chk (decide (0 ≤ (w64 ((r2.1.length : Int) - 8) : Int)) && decide ((w64 ((r2.1.length : Int) - 8) : Int) ≤ (r2.1.length : Int)))).bind fun _ =>
          (chk (decide ((r2.1.drop (w64 ((r2.1.length : Int) - 8) : Int).toNat).length ≤ lim))).bind fun _ =>
          some (decide ((r2.1.drop (w64 ((r2.1.length : Int) - 8) : Int).toNat) = r3))
        else
          some false : Option Bool).bind fun b7 =>
      some b7
end Go.Proofs.Ytjaaojlggjlgeaa
