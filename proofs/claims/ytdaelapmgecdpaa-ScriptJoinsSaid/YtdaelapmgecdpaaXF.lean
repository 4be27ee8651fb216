/- The program's functions as plain ones. Printed by the session's own program. -/
import Derived.Test.YtdaelapmgecdpaaRfH
namespace Go.Proofs.Ytdaelapmgecdpaa
open Go Go.Re
set_option linter.unusedVariables false
set_option linter.unusedSimpArgs false
/-- reticule/script.within -/
noncomputable def script_within (x : Int × Int) : Option Bool :=
  (bif decide (0 ≤ x.1) then
      some (decide (x.1 ≤ x.2))
    else
      some false : Option Bool).bind fun b1 =>
  some b1
/-- reticule/script.Right -/
noncomputable def script_Right (x : (Int × (Int × (Int × (Int × (Int × (Bool × (Int × (BitVec 64 × (List (BitVec 8) × Unit)))))))))) : Option Bool :=
  (bif decide (1 ≤ x.1) then
      some (decide (x.1 ≤ 8))
    else
      some false : Option Bool).bind fun b1 =>
  (bif b1 then
      (script_within (x.2.1, 127)).bind fun r2 =>
      some r2
    else
      some false : Option Bool).bind fun b3 =>
  (bif b3 then
      (script_within (x.2.2.1, 15)).bind fun r4 =>
      some r4
    else
      some false : Option Bool).bind fun b5 =>
  (bif b5 then
      (script_within (x.2.2.2.1, 65535)).bind fun r6 =>
      some r6
    else
      some false : Option Bool).bind fun b7 =>
  (bif b7 then
      (script_within (x.2.2.2.2.1, 1)).bind fun r8 =>
      some r8
    else
      some false : Option Bool).bind fun b9 =>
  (bif b9 then
      (script_within (x.2.2.2.2.2.2.1, 255)).bind fun r10 =>
      some r10
    else
      some false : Option Bool).bind fun b11 =>
  (bif b11 then
      some (decide ((x.2.2.2.2.2.2.2.2.1.length : Int) ≤ 1024))
    else
      some false : Option Bool).bind fun b12 =>
  some b12
/-- reticule/number.PutLittle -/
noncomputable def number_PutLittle_L0 : Nat → ((BitVec 64) × (List (BitVec 8)) × Int × Int) → Option ((List (BitVec 8)) ⊕ (List (BitVec 8)))
  | 0, _ => none
  | n + 1, j =>
  bif decide (j.2.2.2 < j.2.2.1) then
      (chk (decide (j.2.1.length + ([j.1.setWidth 8] : List (BitVec 8)).length ≤ lim))).bind fun _ =>
      number_PutLittle_L0 n (j.1 >>> (((8#64).toNat : Int) : Int).toNat, j.2.1 ++ ([j.1.setWidth 8] : List (BitVec 8)), j.2.2.1, w64 (j.2.2.2 + 1))
    else
      some (Sum.inl j.2.1)
noncomputable def number_PutLittle (x : (BitVec 64) × Int) : Option (List (BitVec 8)) :=
  (bif decide (x.2 < 1) then
      some true
    else
      some (decide (8 < x.2)) : Option Bool).bind fun b1 =>
  bif b1 then
    some ([] : List (BitVec 8))
  else
    jn (A := (List (BitVec 8))) (R := (List (BitVec 8))) (number_PutLittle_L0 Big (x.1, ([] : List (BitVec 8)), x.2, 0)) fun q2 =>
    some q2
/-- slices.Reverse[[]byte,byte] -/
noncomputable def slices_Reverse_byte_L0 : Nat → ((List (BitVec 8)) × Int × Int) → Option ((List (BitVec 8)) ⊕ (List (BitVec 8)))
  | 0, _ => none
  | n + 1, j =>
  bif decide (j.2.1 < j.2.2) then
      (chk (inLen j.2.2 j.1.length)).bind fun _ =>
      ((j.1[(j.2.2 : Int).toNat]?).bind fun y1 =>
        some y1).bind fun x2 =>
      (chk (inLen j.2.1 j.1.length)).bind fun _ =>
      ((j.1[(j.2.1 : Int).toNat]?).bind fun y3 =>
        some y3).bind fun x4 =>
      (chk (inLen j.2.1 j.1.length)).bind fun _ =>
      (chk (inLen j.2.2 (j.1.set (j.2.1 : Int).toNat x2).length)).bind fun _ =>
      slices_Reverse_byte_L0 n ((j.1.set (j.2.1 : Int).toNat x2).set (j.2.2 : Int).toNat x4, w64 (j.2.1 + 1), w64 (j.2.2 - 1))
    else
      some (Sum.inl j.1)
noncomputable def slices_Reverse_byte (x : (List (BitVec 8))) : Option (List (BitVec 8)) :=
  jn (A := (List (BitVec 8))) (R := (List (BitVec 8))) (slices_Reverse_byte_L0 Big (x, 0, w64 ((x.length : Int) - 1))) fun q5 =>
  some q5
/-- reticule/number.PutBig -/
noncomputable def number_PutBig (x : (BitVec 64) × Int) : Option (List (BitVec 8)) :=
  (number_PutLittle (x.1, x.2)).bind fun r1 =>
  (slices_Reverse_byte r1).bind fun r2 =>
  some r2
/-- slices.Grow[[]byte,byte] -/
noncomputable def slices_Grow_byte (x : Unit × Int) : Option (List (BitVec 8)) :=
  bif decide (x.2 < 0) then
    none
  else
    jn (A := (List (BitVec 8))) (R := (List (BitVec 8))) (bif decide (0 < (w64 (x.2 - (w64 ((0 : Int) - (([] : List (BitVec 8)).length : Int)))))) then
        (chk (decide (0 ≤ (0 : Int)) && decide ((0 : Int) ≤ (0 : Int)))).bind fun _ =>
        (chk ((decide (0 ≤ (w64 (x.2 - (w64 ((0 : Int) - (([] : List (BitVec 8)).length : Int)))) : Int)) && decide ((w64 (x.2 - (w64 ((0 : Int) - (([] : List (BitVec 8)).length : Int)))) : Int) ≤ (lim : Int))) && decide ((List.replicate (w64 (x.2 - (w64 ((0 : Int) - (([] : List (BitVec 8)).length : Int)))) : Int).toNat (0#8)).length ≤ lim))).bind fun _ =>
        (chk (decide (0 ≤ ((([] : List (BitVec 8)).length : Int) : Int)) && decide (((([] : List (BitVec 8)).length : Int) : Int) ≤ ((List.replicate (w64 (x.2 - (w64 ((0 : Int) - (([] : List (BitVec 8)).length : Int)))) : Int).toNat (0#8)).length : Int)))).bind fun _ =>
        some (Sum.inl ((List.replicate (w64 (x.2 - (w64 ((0 : Int) - (([] : List (BitVec 8)).length : Int)))) : Int).toNat (0#8)).take ((([] : List (BitVec 8)).length : Int) : Int).toNat))
      else
        some (Sum.inl ([]))) fun j1 =>
    some j1
/-- slices.Concat[[]byte,byte] -/
noncomputable def slices_Concat_byte_L0 : Nat → ((List (List (BitVec 8))) × Int × (List (List (BitVec 8))) × Int × Int) → Option (((List (List (BitVec 8))) × Int) ⊕ (List (BitVec 8)))
  | 0, _ => none
  | n + 1, j =>
  bif decide (j.2.2.2.2 < j.2.2.2.1) then
      (ix j.2.2.1 j.2.2.2.2).bind fun x1 =>
      bif decide ((w64 (j.2.1 + (x1.length : Int))) < 0) then
        none
      else
        slices_Concat_byte_L0 n (j.1, w64 (j.2.1 + (x1.length : Int)), j.2.2.1, j.2.2.2.1, w64 (j.2.2.2.2 + 1))
    else
      some (Sum.inl (j.1, j.2.1))
noncomputable def slices_Concat_byte_L1 : Nat → ((List (BitVec 8)) × (List (List (BitVec 8))) × Int × Int) → Option ((List (BitVec 8)) ⊕ (List (BitVec 8)))
  | 0, _ => none
  | n + 1, j =>
  bif decide (j.2.2.2 < j.2.2.1) then
      (ix j.2.1 j.2.2.2).bind fun x4 =>
      (chk (decide (j.1.length + x4.length ≤ lim))).bind fun _ =>
      slices_Concat_byte_L1 n (j.1 ++ x4, j.2.1, j.2.2.1, w64 (j.2.2.2 + 1))
    else
      some (Sum.inl j.1)
noncomputable def slices_Concat_byte (x : (List (List (BitVec 8)))) : Option (List (BitVec 8)) :=
  jn (A := ((List (List (BitVec 8))) × Int)) (R := (List (BitVec 8))) (slices_Concat_byte_L0 Big (x, 0, x, (x.length : Int), 0)) fun q2 =>
  (slices_Grow_byte ((), q2.2)).bind fun r3 =>
  jn (A := (List (BitVec 8))) (R := (List (BitVec 8))) (slices_Concat_byte_L1 Big (r3, q2.1, (q2.1.length : Int), 0)) fun q5 =>
  some q5
/-- reticule/script.Append -/
noncomputable def script_Append (x : (List (BitVec 8)) × (Int × (Int × (Int × (Int × (Int × (Bool × (Int × (BitVec 64 × (List (BitVec 8) × Unit)))))))))) : Option ((List (BitVec 8)) × Int) :=
  (script_Right x.2).bind fun r1 =>
  bif !r1 then
    some (([] : List (BitVec 8)), 1)
  else
    jn (A := ((List (BitVec 8)) × (Int × (Int × (Int × (Int × (Int × (Bool × (Int × (BitVec 64 × (List (BitVec 8) × Unit))))))))) × (BitVec 8))) (R := ((List (BitVec 8)) × Int)) (bif x.2.2.2.2.2.2.1 then
        some (Sum.inl (x.1, x.2, (BitVec.ofInt 8 x.2.2.2.2.2.1) ||| (2#8)))
      else
        some (Sum.inl (x.1, x.2, BitVec.ofInt 8 x.2.2.2.2.2.1))) fun j2 =>
    (number_PutBig (BitVec.ofInt 64 j2.2.1.2.2.2.1, 2)).bind fun r3 =>
    (number_PutBig (j2.2.1.2.2.2.2.2.2.2.1, 8)).bind fun r4 =>
    (number_PutBig (BitVec.ofInt 64 (j2.2.1.2.2.2.2.2.2.2.2.1.length : Int), 2)).bind fun r5 =>
    (slices_Concat_byte ([j2.1, ([BitVec.ofInt 8 j2.2.1.1, BitVec.ofInt 8 j2.2.1.2.1, BitVec.ofInt 8 j2.2.1.2.2.1] : List (BitVec 8)), r3, ([j2.2.2, BitVec.ofInt 8 j2.2.1.2.2.2.2.2.2.1] : List (BitVec 8)), r4, r5, j2.2.1.2.2.2.2.2.2.2.2.1] : List (List (BitVec 8)))).bind fun r6 =>
    some (r6, 0)
/-- reticule/script.All -/
noncomputable def script_All_L0 : Nat → ((List (BitVec 8)) × (List (Int × (Int × (Int × (Int × (Int × (Bool × (Int × (BitVec 64 × (List (BitVec 8) × Unit)))))))))) × Int × Int) → Option ((List (BitVec 8)) ⊕ ((List (BitVec 8)) × Int))
  | 0, _ => none
  | n + 1, j =>
  bif decide (j.2.2.2 < j.2.2.1) then
      (ix j.2.1 j.2.2.2).bind fun x1 =>
      (script_Append (j.1, x1)).bind fun r2 =>
      bif !decide (r2.2 = 0) then
        some (Sum.inr (([] : List (BitVec 8)), r2.2))
      else
        script_All_L0 n (r2.1, j.2.1, j.2.2.1, w64 (j.2.2.2 + 1))
    else
      some (Sum.inl j.1)
noncomputable def script_All (x : (List (Int × (Int × (Int × (Int × (Int × (Bool × (Int × (BitVec 64 × (List (BitVec 8) × Unit))))))))))) : Option ((List (BitVec 8)) × Int) :=
  bif decide (2000 < (x.length : Int)) then
    some (([] : List (BitVec 8)), 4)
  else
    jn (A := (List (BitVec 8))) (R := ((List (BitVec 8)) × Int)) (script_All_L0 Big (([] : List (BitVec 8)), x, (x.length : Int), 0)) fun q3 =>
    some (q3, 0)
/-- reticule/number.cut -/
noncomputable def number_cut (x : (List (BitVec 8)) × Int × Int) : Option ((List (BitVec 8)) × Bool) :=
  (bif decide (x.2.2 < 1) then
      some true
    else
      some (decide (8 < x.2.2)) : Option Bool).bind fun b1 =>
  (bif b1 then
      some true
    else
      some (decide (x.2.1 < 0)) : Option Bool).bind fun b2 =>
  (bif b2 then
      some true
    else
      some (decide ((w64 ((x.1.length : Int) - x.2.2)) < x.2.1)) : Option Bool).bind fun b3 =>
  bif b3 then
    some (([] : List (BitVec 8)), false)
  else
    (chk (decide (0 ≤ (x.2.1 : Int)) && decide ((x.2.1 : Int) ≤ (w64 (x.2.1 + x.2.2) : Int)) && decide ((w64 (x.2.1 + x.2.2) : Int) ≤ (x.1.length : Int)))).bind fun _ =>
    some (slc x.1 (x.2.1 : Int) (w64 (x.2.1 + x.2.2) : Int), true)
/-- reticule/number.Big -/
noncomputable def number_Big_L0 : Nat → ((BitVec 64) × Bool × (List (BitVec 8)) × Int × Int) → Option (((BitVec 64) × Bool) ⊕ ((BitVec 64) × Bool))
  | 0, _ => none
  | n + 1, j =>
  bif decide (j.2.2.2.2 < j.2.2.2.1) then
      (ix j.2.2.1 j.2.2.2.2).bind fun x2 =>
      number_Big_L0 n ((j.1 <<< (((8#64).toNat : Int) : Int).toNat) ||| (x2.setWidth 64), j.2.1, j.2.2.1, j.2.2.2.1, w64 (j.2.2.2.2 + 1))
    else
      some (Sum.inl (j.1, j.2.1))
noncomputable def number_Big (x : (List (BitVec 8)) × Int × Int) : Option ((BitVec 64) × Bool) :=
  (number_cut (x.1, x.2.1, x.2.2)).bind fun r1 =>
  jn (A := ((BitVec 64) × Bool)) (R := ((BitVec 64) × Bool)) (number_Big_L0 Big (0#64, r1.2, r1.1, (r1.1.length : Int), 0)) fun q3 =>
  some (q3.1, q3.2)
/-- (*reticule/script.cursor).next -/
noncomputable def script_cursor_next (x : (List (BitVec 8) × Unit) × Int) : Option ((BitVec 64) × (List (BitVec 8) × Unit)) :=
  (number_Big (x.1.1, 0, x.2)).bind fun r1 =>
  (chk (decide (0 ≤ (x.2 : Int)) && decide ((x.2 : Int) ≤ (x.1.1.length : Int)))).bind fun _ =>
  some (r1.1, x.1.1.drop (x.2 : Int).toNat, x.1.2)
/-- slices.Clone[[]byte,byte] -/
noncomputable def slices_Clone_byte (x : (List (BitVec 8))) : Option (List (BitVec 8)) :=
  bif List.isEmpty x then
    both (some ([] : List (BitVec 8))) ((chk (decide (([] : List (BitVec 8)).length + x.length ≤ lim))).bind fun _ =>
      some (([] : List (BitVec 8)) ++ x))
  else
    (chk (decide (([] : List (BitVec 8)).length + x.length ≤ lim))).bind fun _ =>
    some (([] : List (BitVec 8)) ++ x)
/-- reticule/script.Read -/
noncomputable def script_Read (x : (List (BitVec 8)) × Int) : Option ((Int × (Int × (Int × (Int × (Int × (Bool × (Int × (BitVec 64 × (List (BitVec 8) × Unit))))))))) × Int × Int) :=
  (bif decide (x.2 < 0) then
      some true
    else
      some (decide ((x.1.length : Int) < x.2)) : Option Bool).bind fun b1 =>
  bif b1 then
    some ((0, 0, 0, 0, 0, false, 0, 0#64, ([] : List (BitVec 8)), ()), 0, 1)
  else
    bif decide ((w64 ((x.1.length : Int) - x.2)) < 17) then
      some ((0, 0, 0, 0, 0, false, 0, 0#64, ([] : List (BitVec 8)), ()), 0, 2)
    else
      (chk (decide (0 ≤ (x.2 : Int)) && decide ((x.2 : Int) ≤ (x.1.length : Int)))).bind fun _ =>
      (script_cursor_next ((x.1.drop (x.2 : Int).toNat, ()), 1)).bind fun r2 =>
      (script_cursor_next (r2.2, 1)).bind fun r3 =>
      (script_cursor_next (r3.2, 1)).bind fun r4 =>
      (script_cursor_next (r4.2, 2)).bind fun r5 =>
      (script_cursor_next (r5.2, 1)).bind fun r6 =>
      (script_cursor_next (r6.2, 1)).bind fun r7 =>
      (script_cursor_next (r7.2, 8)).bind fun r8 =>
      (script_cursor_next (r8.2, 2)).bind fun r9 =>
      (script_Right (w64 (r2.1.toNat : Int), w64 (r3.1.toNat : Int), w64 (r4.1.toNat : Int), w64 (r5.1.toNat : Int), w64 ((r6.1 &&& (1#64)).toNat : Int), !decide ((r6.1 &&& (2#64)) = (0#64)), w64 (r7.1.toNat : Int), r8.1, ([] : List (BitVec 8)), ())).bind fun r10 =>
      (bif !r10 then
          some true
        else
          some (decide ((3#64) < r6.1)) : Option Bool).bind fun b11 =>
      bif b11 then
        some ((0, 0, 0, 0, 0, false, 0, 0#64, ([] : List (BitVec 8)), ()), 0, 3)
      else
        bif decide (1024 < (w64 (r9.1.toNat : Int))) then
          some ((0, 0, 0, 0, 0, false, 0, 0#64, ([] : List (BitVec 8)), ()), 0, 4)
        else
          bif decide ((r9.2.1.length : Int) < (w64 (r9.1.toNat : Int))) then
            some ((0, 0, 0, 0, 0, false, 0, 0#64, ([] : List (BitVec 8)), ()), 0, 2)
          else
            (chk (decide (0 ≤ (w64 (r9.1.toNat : Int) : Int)) && decide ((w64 (r9.1.toNat : Int) : Int) ≤ (r9.2.1.length : Int)))).bind fun _ =>
            (slices_Clone_byte (r9.2.1.take (w64 (r9.1.toNat : Int) : Int).toNat)).bind fun r12 =>
            some ((w64 (r2.1.toNat : Int), w64 (r3.1.toNat : Int), w64 (r4.1.toNat : Int), w64 (r5.1.toNat : Int), w64 ((r6.1 &&& (1#64)).toNat : Int), !decide ((r6.1 &&& (2#64)) = (0#64)), w64 (r7.1.toNat : Int), r8.1, r12, ()), w64 ((w64 (x.2 + 17)) + (w64 (r9.1.toNat : Int))), 0)
/-- reticule/script.List -/
noncomputable def script_List_L0 : Nat → ((List (BitVec 8)) × (List (Int × (Int × (Int × (Int × (Int × (Bool × (Int × (BitVec 64 × (List (BitVec 8) × Unit)))))))))) × Int) → Option ((List (Int × (Int × (Int × (Int × (Int × (Bool × (Int × (BitVec 64 × (List (BitVec 8) × Unit)))))))))) ⊕ ((List (Int × (Int × (Int × (Int × (Int × (Bool × (Int × (BitVec 64 × (List (BitVec 8) × Unit)))))))))) × Int))
  | 0, _ => none
  | n + 1, j =>
  bif decide (j.2.2 < (j.1.length : Int)) then
      (script_Read (j.1, j.2.2)).bind fun r1 =>
      bif !decide (r1.2.2 = 0) then
        some (Sum.inr (([] : List (Int × (Int × (Int × (Int × (Int × (Bool × (Int × (BitVec 64 × (List (BitVec 8) × Unit)))))))))), r1.2.2))
      else
        bif decide ((j.2.1.length : Int) = 2000) then
          some (Sum.inr (([] : List (Int × (Int × (Int × (Int × (Int × (Bool × (Int × (BitVec 64 × (List (BitVec 8) × Unit)))))))))), 4))
        else
          (chk (decide (j.2.1.length + ([r1.1] : List (Int × (Int × (Int × (Int × (Int × (Bool × (Int × (BitVec 64 × (List (BitVec 8) × Unit)))))))))).length ≤ lim))).bind fun _ =>
          script_List_L0 n (j.1, j.2.1 ++ ([r1.1] : List (Int × (Int × (Int × (Int × (Int × (Bool × (Int × (BitVec 64 × (List (BitVec 8) × Unit)))))))))), r1.2.1)
    else
      some (Sum.inl j.2.1)
noncomputable def script_List (x : (List (BitVec 8))) : Option ((List (Int × (Int × (Int × (Int × (Int × (Bool × (Int × (BitVec 64 × (List (BitVec 8) × Unit)))))))))) × Int) :=
  jn (A := (List (Int × (Int × (Int × (Int × (Int × (Bool × (Int × (BitVec 64 × (List (BitVec 8) × Unit))))))))))) (R := ((List (Int × (Int × (Int × (Int × (Int × (Bool × (Int × (BitVec 64 × (List (BitVec 8) × Unit)))))))))) × Int)) (script_List_L0 Big (x, ([] : List (Int × (Int × (Int × (Int × (Int × (Bool × (Int × (BitVec 64 × (List (BitVec 8) × Unit)))))))))), 0)) fun q2 =>
  some (q2, 0)
/-- reticule/reticuleref13.One -/
noncomputable def reticuleref13_One (x : (Int × (Int × (Int × (Int × (Int × (Bool × (Int × (BitVec 64 × (List (BitVec 8) × Unit))))))))) × (Int × (Int × (Int × (Int × (Int × (Bool × (Int × (BitVec 64 × (List (BitVec 8) × Unit)))))))))) : Option Bool :=
  (bif decide (x.1.1 = x.2.1) then
      some (decide (x.1.2.1 = x.2.2.1))
    else
      some false : Option Bool).bind fun b1 =>
  (bif b1 then
      some (decide (x.1.2.2.1 = x.2.2.2.1))
    else
      some false : Option Bool).bind fun b2 =>
  (bif b2 then
      some (decide (x.1.2.2.2.1 = x.2.2.2.2.1))
    else
      some false : Option Bool).bind fun b3 =>
  (bif b3 then
      some (decide (x.1.2.2.2.2.1 = x.2.2.2.2.2.1))
    else
      some false : Option Bool).bind fun b4 =>
  (bif b4 then
      some (decide (x.1.2.2.2.2.2.1 = x.2.2.2.2.2.2.1))
    else
      some false : Option Bool).bind fun b5 =>
  (bif b5 then
      some (decide (x.1.2.2.2.2.2.2.1 = x.2.2.2.2.2.2.2.1))
    else
      some false : Option Bool).bind fun b6 =>
  (bif b6 then
      some (decide (x.1.2.2.2.2.2.2.2.1 = x.2.2.2.2.2.2.2.2.1))
    else
      some false : Option Bool).bind fun b7 =>
  (bif b7 then
      (chk (decide (x.1.2.2.2.2.2.2.2.2.1.length ≤ lim))).bind fun _ =>
      (chk (decide (x.2.2.2.2.2.2.2.2.2.1.length ≤ lim))).bind fun _ =>
      some (decide (x.1.2.2.2.2.2.2.2.2.1 = x.2.2.2.2.2.2.2.2.2.1))
    else
      some false : Option Bool).bind fun b8 =>
  some b8
/-- reticule/reticuleref13.Same -/
noncomputable def reticuleref13_Same_L0 : Nat → ((List (Int × (Int × (Int × (Int × (Int × (Bool × (Int × (BitVec 64 × (List (BitVec 8) × Unit)))))))))) × (List (Int × (Int × (Int × (Int × (Int × (Bool × (Int × (BitVec 64 × (List (BitVec 8) × Unit)))))))))) × Int) → Option (Unit ⊕ Bool)
  | 0, _ => none
  | n + 1, j =>
  bif decide (j.2.2 < (j.1.length : Int)) then
      (ix j.1 j.2.2).bind fun x1 =>
      (ix j.2.1 j.2.2).bind fun x2 =>
      (reticuleref13_One (x1, x2)).bind fun r3 =>
      bif !r3 then
        some (Sum.inr false)
      else
        reticuleref13_Same_L0 n (j.1, j.2.1, w64 (j.2.2 + 1))
    else
      some (Sum.inl ())
noncomputable def reticuleref13_Same (x : (List (Int × (Int × (Int × (Int × (Int × (Bool × (Int × (BitVec 64 × (List (BitVec 8) × Unit)))))))))) × (List (Int × (Int × (Int × (Int × (Int × (Bool × (Int × (BitVec 64 × (List (BitVec 8) × Unit))))))))))) : Option Bool :=
  bif !decide ((x.1.length : Int) = (x.2.length : Int)) then
    some false
  else
    jn (A := Unit) (R := Bool) (reticuleref13_Same_L0 Big (x.1, x.2, 0)) fun q4 =>
    some true
/-- reticule/reticulelaw13.alive -/
noncomputable def reticulelaw13_alive (x : Unit) : Option Bool :=
  (chk (decide (0 < ([97#8, 98#8] : List (BitVec 8)).length))).bind fun _ =>
  (script_All ([(1, 0, 0, 0, 0, false, 0, 0#64, ([] : List (BitVec 8)), ()), (3, 3, 2, 258, 1, true, 5, 7#64, ([97#8, 98#8] : List (BitVec 8)), ())] : List (Int × (Int × (Int × (Int × (Int × (Bool × (Int × (BitVec 64 × (List (BitVec 8) × Unit))))))))))).bind fun r1 =>
  (script_List r1.1).bind fun r2 =>
  (script_Append (([] : List (BitVec 8)), 0, 0, 0, 0, 0, false, 0, 0#64, ([] : List (BitVec 8)), ())).bind fun r3 =>
  (script_List ([9#8] : List (BitVec 8))).bind fun r4 =>
  (bif decide (r1.2 = 0) then
      some (decide (r2.2 = 0))
    else
      some false : Option Bool).bind fun b5 =>
  (bif b5 then
      some (decide (r3.2 = 1))
    else
      some false : Option Bool).bind fun b6 =>
  (bif b6 then
      some (decide (r4.2 = 2))
    else
      some false : Option Bool).bind fun b7 =>
  (bif b7 then
      some (decide ((r2.1.length : Int) = 2))
    else
      some false : Option Bool).bind fun b8 =>
  (bif b8 then
      (reticuleref13_Same (([(1, 0, 0, 0, 0, false, 0, 0#64, ([] : List (BitVec 8)), ()), (3, 3, 2, 258, 1, true, 5, 7#64, ([97#8, 98#8] : List (BitVec 8)), ())] : List (Int × (Int × (Int × (Int × (Int × (Bool × (Int × (BitVec 64 × (List (BitVec 8) × Unit)))))))))), r2.1)).bind fun r9 =>
      some r9
    else
      some false : Option Bool).bind fun b10 =>
  (bif b10 then
      some (decide ((r1.1.length : Int) = 36))
    else
      some false : Option Bool).bind fun b11 =>
  (bif b11 then
      (chk (decide (0 ≤ (17 : Int)) && decide ((17 : Int) ≤ (r1.1.length : Int)))).bind fun _ =>
      (chk (decide ((r1.1.drop (17 : Int).toNat).length ≤ lim))).bind fun _ =>
      some (decide ((r1.1.drop (17 : Int).toNat) = ([3#8, 3#8, 2#8, 1#8, 2#8, 3#8, 5#8, 0#8, 0#8, 0#8, 0#8, 0#8, 0#8, 0#8, 7#8, 0#8, 2#8, 97#8, 98#8] : List (BitVec 8))))
    else
      some false : Option Bool).bind fun b12 =>
  (bif b12 then
      (ix ([(1, 0, 0, 0, 0, false, 0, 0#64, ([] : List (BitVec 8)), ()), (3, 3, 2, 258, 1, true, 5, 7#64, ([97#8, 98#8] : List (BitVec 8)), ())] : List (Int × (Int × (Int × (Int × (Int × (Bool × (Int × (BitVec 64 × (List (BitVec 8) × Unit)))))))))) 1).bind fun x13 =>
      (script_Right x13).bind fun r14 =>
      some r14
    else
      some false : Option Bool).bind fun b15 =>
  (bif b15 then
      (script_Right (9, 0, 0, 0, 0, false, 0, 0#64, ([] : List (BitVec 8)), ())).bind fun r16 =>
      some (!r16)
    else
      some false : Option Bool).bind fun b17 =>
  some b17
/-- reticule/reticuleref13.Right -/
noncomputable def reticuleref13_Right (x : (Int × (Int × (Int × (Int × (Int × (Bool × (Int × (BitVec 64 × (List (BitVec 8) × Unit)))))))))) : Option Bool :=
  (bif decide (x.1 < 1) then
      some true
    else
      some (decide (8 < x.1)) : Option Bool).bind fun b1 =>
  (bif b1 then
      some true
    else
      some (decide (x.2.1 < 0)) : Option Bool).bind fun b2 =>
  (bif b2 then
      some true
    else
      some (decide (127 < x.2.1)) : Option Bool).bind fun b3 =>
  (bif b3 then
      some true
    else
      some (decide (x.2.2.1 < 0)) : Option Bool).bind fun b4 =>
  (bif b4 then
      some true
    else
      some (decide (15 < x.2.2.1)) : Option Bool).bind fun b5 =>
  (bif b5 then
      some true
    else
      some (decide (x.2.2.2.1 < 0)) : Option Bool).bind fun b6 =>
  (bif b6 then
      some true
    else
      some (decide (65535 < x.2.2.2.1)) : Option Bool).bind fun b7 =>
  bif b7 then
    some false
  else
    (bif decide (x.2.2.2.2.1 = 0) then
        some true
      else
        some (decide (x.2.2.2.2.1 = 1)) : Option Bool).bind fun b8 =>
    (bif b8 then
        some (decide (0 ≤ x.2.2.2.2.2.2.1))
      else
        some false : Option Bool).bind fun b9 =>
    (bif b9 then
        some (decide (x.2.2.2.2.2.2.1 ≤ 255))
      else
        some false : Option Bool).bind fun b10 =>
    (bif b10 then
        some (decide ((x.2.2.2.2.2.2.2.2.1.length : Int) ≤ 1024))
      else
        some false : Option Bool).bind fun b11 =>
    some b11
/-- reticule/reticuleref01.PutBig -/
noncomputable def reticuleref01_PutBig_L0 : Nat → ((BitVec 64) × (List (BitVec 8)) × Int) → Option ((List (BitVec 8)) ⊕ (List (BitVec 8)))
  | 0, _ => none
  | n + 1, j =>
  bif decide (0 ≤ j.2.2) then
      (chk (inLen j.2.2 j.2.1.length)).bind fun _ =>
      reticuleref01_PutBig_L0 n (j.1 / (256#64), j.2.1.set (j.2.2 : Int).toNat ((j.1 % (256#64)).setWidth 8), w64 (j.2.2 - 1))
    else
      some (Sum.inl j.2.1)
noncomputable def reticuleref01_PutBig (x : (BitVec 64) × Int) : Option (List (BitVec 8)) :=
  (bif decide (x.2 < 1) then
      some true
    else
      some (decide (8 < x.2)) : Option Bool).bind fun b1 =>
  bif b1 then
    some ([] : List (BitVec 8))
  else
    (chk (decide (0 ≤ x.2) && decide (x.2 ≤ x.2) && decide (x.2 ≤ (lim : Int)))).bind fun _ =>
    jn (A := (List (BitVec 8))) (R := (List (BitVec 8))) (reticuleref01_PutBig_L0 Big (x.1, List.replicate (x.2 : Int).toNat (0#8), w64 (x.2 - 1))) fun q2 =>
    some q2
/-- reticule/reticuleref13.Append -/
noncomputable def reticuleref13_Append (x : (List (BitVec 8)) × (Int × (Int × (Int × (Int × (Int × (Bool × (Int × (BitVec 64 × (List (BitVec 8) × Unit)))))))))) : Option ((List (BitVec 8)) × Int) :=
  (reticuleref13_Right x.2).bind fun r1 =>
  bif !r1 then
    some (([] : List (BitVec 8)), 1)
  else
    jn (A := ((List (BitVec 8)) × (Int × (Int × (Int × (Int × (Int × (Bool × (Int × (BitVec 64 × (List (BitVec 8) × Unit))))))))) × (BitVec 8))) (R := ((List (BitVec 8)) × Int)) (bif x.2.2.2.2.2.2.1 then
        some (Sum.inl (x.1, x.2, (BitVec.ofInt 8 x.2.2.2.2.2.1) + (2#8)))
      else
        some (Sum.inl (x.1, x.2, BitVec.ofInt 8 x.2.2.2.2.2.1))) fun j2 =>
    (chk (decide (([] : List (BitVec 8)).length + j2.1.length ≤ lim))).bind fun _ =>
    (chk (decide ((([] : List (BitVec 8)) ++ j2.1).length + ([BitVec.ofInt 8 j2.2.1.1, BitVec.ofInt 8 j2.2.1.2.1, BitVec.ofInt 8 j2.2.1.2.2.1, BitVec.ofInt 8 (w64 (j2.2.1.2.2.2.1.tdiv 256)), BitVec.ofInt 8 (j2.2.1.2.2.2.1.tmod 256), j2.2.2, BitVec.ofInt 8 j2.2.1.2.2.2.2.2.2.1] : List (BitVec 8)).length ≤ lim))).bind fun _ =>
    (reticuleref01_PutBig (j2.2.1.2.2.2.2.2.2.2.1, 8)).bind fun r3 =>
    (chk (decide (((([] : List (BitVec 8)) ++ j2.1) ++ ([BitVec.ofInt 8 j2.2.1.1, BitVec.ofInt 8 j2.2.1.2.1, BitVec.ofInt 8 j2.2.1.2.2.1, BitVec.ofInt 8 (w64 (j2.2.1.2.2.2.1.tdiv 256)), BitVec.ofInt 8 (j2.2.1.2.2.2.1.tmod 256), j2.2.2, BitVec.ofInt 8 j2.2.1.2.2.2.2.2.2.1] : List (BitVec 8))).length + r3.length ≤ lim))).bind fun _ =>
    (chk (decide ((((([] : List (BitVec 8)) ++ j2.1) ++ ([BitVec.ofInt 8 j2.2.1.1, BitVec.ofInt 8 j2.2.1.2.1, BitVec.ofInt 8 j2.2.1.2.2.1, BitVec.ofInt 8 (w64 (j2.2.1.2.2.2.1.tdiv 256)), BitVec.ofInt 8 (j2.2.1.2.2.2.1.tmod 256), j2.2.2, BitVec.ofInt 8 j2.2.1.2.2.2.2.2.2.1] : List (BitVec 8))) ++ r3).length + ([BitVec.ofInt 8 (w64 ((j2.2.1.2.2.2.2.2.2.2.2.1.length : Int).tdiv 256)), BitVec.ofInt 8 ((j2.2.1.2.2.2.2.2.2.2.2.1.length : Int).tmod 256)] : List (BitVec 8)).length ≤ lim))).bind fun _ =>
    (chk (decide (((((([] : List (BitVec 8)) ++ j2.1) ++ ([BitVec.ofInt 8 j2.2.1.1, BitVec.ofInt 8 j2.2.1.2.1, BitVec.ofInt 8 j2.2.1.2.2.1, BitVec.ofInt 8 (w64 (j2.2.1.2.2.2.1.tdiv 256)), BitVec.ofInt 8 (j2.2.1.2.2.2.1.tmod 256), j2.2.2, BitVec.ofInt 8 j2.2.1.2.2.2.2.2.2.1] : List (BitVec 8))) ++ r3) ++ ([BitVec.ofInt 8 (w64 ((j2.2.1.2.2.2.2.2.2.2.2.1.length : Int).tdiv 256)), BitVec.ofInt 8 ((j2.2.1.2.2.2.2.2.2.2.2.1.length : Int).tmod 256)] : List (BitVec 8))).length + j2.2.1.2.2.2.2.2.2.2.2.1.length ≤ lim))).bind fun _ =>
    some (((((([] : List (BitVec 8)) ++ j2.1) ++ ([BitVec.ofInt 8 j2.2.1.1, BitVec.ofInt 8 j2.2.1.2.1, BitVec.ofInt 8 j2.2.1.2.2.1, BitVec.ofInt 8 (w64 (j2.2.1.2.2.2.1.tdiv 256)), BitVec.ofInt 8 (j2.2.1.2.2.2.1.tmod 256), j2.2.2, BitVec.ofInt 8 j2.2.1.2.2.2.2.2.2.1] : List (BitVec 8))) ++ r3) ++ ([BitVec.ofInt 8 (w64 ((j2.2.1.2.2.2.2.2.2.2.2.1.length : Int).tdiv 256)), BitVec.ofInt 8 ((j2.2.1.2.2.2.2.2.2.2.2.1.length : Int).tmod 256)] : List (BitVec 8))) ++ j2.2.1.2.2.2.2.2.2.2.2.1, 0)
/-- reticule/reticulelaw13.ScriptAppends -/
noncomputable def reticulelaw13_ScriptAppends (x : (List (BitVec 8)) × (Int × (Int × (Int × (Int × (Int × (Bool × (Int × (BitVec 64 × (List (BitVec 8) × Unit)))))))))) : Option Bool :=
  (reticulelaw13_alive ()).bind fun r1 =>
  bif !r1 then
    some false
  else
    (bif decide (500 < (x.1.length : Int)) then
        some true
      else
        some (decide (1100 < (x.2.2.2.2.2.2.2.2.2.1.length : Int))) : Option Bool).bind fun b2 =>
    bif b2 then
      some true
    else
      (script_Append (x.1, x.2)).bind fun r3 =>
      (reticuleref13_Append (x.1, x.2)).bind fun r4 =>
      (chk (decide (r3.1.length ≤ lim))).bind fun _ =>
      (chk (decide (r4.1.length ≤ lim))).bind fun _ =>
      (bif decide (r3.1 = r4.1) then
          some (decide (r3.2 = r4.2))
        else
          some false : Option Bool).bind fun b5 =>
      (bif b5 then
          (script_Right x.2).bind fun r6 =>
          (reticuleref13_Right x.2).bind fun r7 =>
          some (decide (r6 = r7))
        else
          some false : Option Bool).bind fun b8 =>
      some b8
/-- reticule/reticuleref01.Big -/
noncomputable def reticuleref01_Big_L0 : Nat → ((List (BitVec 8)) × Int × Int × (BitVec 64) × Int) → Option ((BitVec 64) ⊕ ((BitVec 64) × Bool))
  | 0, _ => none
  | n + 1, j =>
  bif decide (j.2.2.2.2 < j.2.2.1) then
      (ix j.1 (w64 (j.2.1 + j.2.2.2.2))).bind fun x5 =>
      reticuleref01_Big_L0 n (j.1, j.2.1, j.2.2.1, (j.2.2.2.1 * (256#64)) + (x5.setWidth 64), w64 (j.2.2.2.2 + 1))
    else
      some (Sum.inl j.2.2.2.1)
noncomputable def reticuleref01_Big (x : (List (BitVec 8)) × Int × Int) : Option ((BitVec 64) × Bool) :=
  (bif decide (x.2.2 < 1) then
      some true
    else
      some (decide (8 < x.2.2)) : Option Bool).bind fun b1 =>
  (bif b1 then
      some true
    else
      some (decide (x.2.1 < 0)) : Option Bool).bind fun b2 =>
  (bif b2 then
      some true
    else
      some (decide ((x.1.length : Int) < x.2.2)) : Option Bool).bind fun b3 =>
  (bif b3 then
      some true
    else
      some (decide ((w64 ((x.1.length : Int) - x.2.2)) < x.2.1)) : Option Bool).bind fun b4 =>
  bif b4 then
    some (0#64, false)
  else
    jn (A := (BitVec 64)) (R := ((BitVec 64) × Bool)) (reticuleref01_Big_L0 Big (x.1, x.2.1, x.2.2, 0#64, 0)) fun q6 =>
    some (q6, true)
/-- reticule/reticuleref13.Read -/
noncomputable def reticuleref13_Read (x : (List (BitVec 8)) × Int) : Option ((Int × (Int × (Int × (Int × (Int × (Bool × (Int × (BitVec 64 × (List (BitVec 8) × Unit))))))))) × Int × Int) :=
  (bif decide (x.2 < 0) then
      some true
    else
      some (decide ((x.1.length : Int) < x.2)) : Option Bool).bind fun b1 =>
  bif b1 then
    some ((0, 0, 0, 0, 0, false, 0, 0#64, ([] : List (BitVec 8)), ()), 0, 1)
  else
    bif decide ((w64 ((x.1.length : Int) - x.2)) < 17) then
      some ((0, 0, 0, 0, 0, false, 0, 0#64, ([] : List (BitVec 8)), ()), 0, 2)
    else
      (chk (decide (0 ≤ (x.2 : Int)) && decide ((x.2 : Int) ≤ (w64 (x.2 + 17) : Int)) && decide ((w64 (x.2 + 17) : Int) ≤ (x.1.length : Int)))).bind fun _ =>
      (ix (slc x.1 (x.2 : Int) (w64 (x.2 + 17) : Int)) 0).bind fun x2 =>
      (bif decide (x2 < (1#8)) then
          some true
        else
          (ix (slc x.1 (x.2 : Int) (w64 (x.2 + 17) : Int)) 0).bind fun x3 =>
          some (decide ((8#8) < x3)) : Option Bool).bind fun b4 =>
      (bif b4 then
          some true
        else
          (ix (slc x.1 (x.2 : Int) (w64 (x.2 + 17) : Int)) 1).bind fun x5 =>
          some (decide ((127#8) < x5)) : Option Bool).bind fun b6 =>
      (bif b6 then
          some true
        else
          (ix (slc x.1 (x.2 : Int) (w64 (x.2 + 17) : Int)) 2).bind fun x7 =>
          some (decide ((15#8) < x7)) : Option Bool).bind fun b8 =>
      (bif b8 then
          some true
        else
          (ix (slc x.1 (x.2 : Int) (w64 (x.2 + 17) : Int)) 5).bind fun x9 =>
          some (decide ((3#8) < x9)) : Option Bool).bind fun b10 =>
      bif b10 then
        some ((0, 0, 0, 0, 0, false, 0, 0#64, ([] : List (BitVec 8)), ()), 0, 3)
      else
        (ix (slc x.1 (x.2 : Int) (w64 (x.2 + 17) : Int)) 15).bind fun x11 =>
        (ix (slc x.1 (x.2 : Int) (w64 (x.2 + 17) : Int)) 16).bind fun x12 =>
        bif decide (1024 < (w64 ((w64 ((x11.toNat : Int) * 256)) + (x12.toNat : Int)))) then
          some ((0, 0, 0, 0, 0, false, 0, 0#64, ([] : List (BitVec 8)), ()), 0, 4)
        else
          bif decide ((w64 ((w64 ((x.1.length : Int) - x.2)) - 17)) < (w64 ((w64 ((x11.toNat : Int) * 256)) + (x12.toNat : Int)))) then
            some ((0, 0, 0, 0, 0, false, 0, 0#64, ([] : List (BitVec 8)), ()), 0, 2)
          else
            (ix (slc x.1 (x.2 : Int) (w64 (x.2 + 17) : Int)) 0).bind fun x13 =>
            (ix (slc x.1 (x.2 : Int) (w64 (x.2 + 17) : Int)) 1).bind fun x14 =>
            (ix (slc x.1 (x.2 : Int) (w64 (x.2 + 17) : Int)) 2).bind fun x15 =>
            (ix (slc x.1 (x.2 : Int) (w64 (x.2 + 17) : Int)) 3).bind fun x16 =>
            (ix (slc x.1 (x.2 : Int) (w64 (x.2 + 17) : Int)) 4).bind fun x17 =>
            (ix (slc x.1 (x.2 : Int) (w64 (x.2 + 17) : Int)) 5).bind fun x18 =>
            (ix (slc x.1 (x.2 : Int) (w64 (x.2 + 17) : Int)) 5).bind fun x19 =>
            (ix (slc x.1 (x.2 : Int) (w64 (x.2 + 17) : Int)) 6).bind fun x20 =>
            (reticuleref01_Big (slc x.1 (x.2 : Int) (w64 (x.2 + 17) : Int), 7, 8)).bind fun r21 =>
            (chk (decide (0 ≤ (w64 (x.2 + 17) : Int)) && decide ((w64 (x.2 + 17) : Int) ≤ (w64 ((w64 (x.2 + 17)) + (w64 ((w64 ((x11.toNat : Int) * 256)) + (x12.toNat : Int)))) : Int)) && decide ((w64 ((w64 (x.2 + 17)) + (w64 ((w64 ((x11.toNat : Int) * 256)) + (x12.toNat : Int)))) : Int) ≤ (x.1.length : Int)))).bind fun _ =>
            (chk (decide (([] : List (BitVec 8)).length + (slc x.1 (w64 (x.2 + 17) : Int) (w64 ((w64 (x.2 + 17)) + (w64 ((w64 ((x11.toNat : Int) * 256)) + (x12.toNat : Int)))) : Int)).length ≤ lim))).bind fun _ =>
            some (((x13.toNat : Int), (x14.toNat : Int), (x15.toNat : Int), w64 ((w64 ((x16.toNat : Int) * 256)) + (x17.toNat : Int)), ((x18 % (2#8)).toNat : Int), decide ((2#8) ≤ x19), (x20.toNat : Int), r21.1, ([] : List (BitVec 8)) ++ (slc x.1 (w64 (x.2 + 17) : Int) (w64 ((w64 (x.2 + 17)) + (w64 ((w64 ((x11.toNat : Int) * 256)) + (x12.toNat : Int)))) : Int)), ()), w64 ((w64 (x.2 + 17)) + (w64 ((w64 ((x11.toNat : Int) * 256)) + (x12.toNat : Int)))), 0)
/-- reticule/reticuleref13.List -/
noncomputable def reticuleref13_List_L0 : Nat → ((List (BitVec 8)) × (List (Int × (Int × (Int × (Int × (Int × (Bool × (Int × (BitVec 64 × (List (BitVec 8) × Unit)))))))))) × Int) → Option ((List (Int × (Int × (Int × (Int × (Int × (Bool × (Int × (BitVec 64 × (List (BitVec 8) × Unit)))))))))) ⊕ ((List (Int × (Int × (Int × (Int × (Int × (Bool × (Int × (BitVec 64 × (List (BitVec 8) × Unit)))))))))) × Int))
  | 0, _ => none
  | n + 1, j =>
  bif decide (j.2.2 < (j.1.length : Int)) then
      (reticuleref13_Read (j.1, j.2.2)).bind fun r1 =>
      bif !decide (r1.2.2 = 0) then
        some (Sum.inr (([] : List (Int × (Int × (Int × (Int × (Int × (Bool × (Int × (BitVec 64 × (List (BitVec 8) × Unit)))))))))), r1.2.2))
      else
        bif decide ((j.2.1.length : Int) = 2000) then
          some (Sum.inr (([] : List (Int × (Int × (Int × (Int × (Int × (Bool × (Int × (BitVec 64 × (List (BitVec 8) × Unit)))))))))), 4))
        else
          (chk (decide (j.2.1.length + ([r1.1] : List (Int × (Int × (Int × (Int × (Int × (Bool × (Int × (BitVec 64 × (List (BitVec 8) × Unit)))))))))).length ≤ lim))).bind fun _ =>
          reticuleref13_List_L0 n (j.1, j.2.1 ++ ([r1.1] : List (Int × (Int × (Int × (Int × (Int × (Bool × (Int × (BitVec 64 × (List (BitVec 8) × Unit)))))))))), r1.2.1)
    else
      some (Sum.inl j.2.1)
noncomputable def reticuleref13_List (x : (List (BitVec 8))) : Option ((List (Int × (Int × (Int × (Int × (Int × (Bool × (Int × (BitVec 64 × (List (BitVec 8) × Unit)))))))))) × Int) :=
  jn (A := (List (Int × (Int × (Int × (Int × (Int × (Bool × (Int × (BitVec 64 × (List (BitVec 8) × Unit))))))))))) (R := ((List (Int × (Int × (Int × (Int × (Int × (Bool × (Int × (BitVec 64 × (List (BitVec 8) × Unit)))))))))) × Int)) (reticuleref13_List_L0 Big (x, ([] : List (Int × (Int × (Int × (Int × (Int × (Bool × (Int × (BitVec 64 × (List (BitVec 8) × Unit)))))))))), 0)) fun q2 =>
  some (q2, 0)
/-- reticule/reticulelaw13.ScriptReads -/
noncomputable def reticulelaw13_ScriptReads (x : (List (BitVec 8)) × Int) : Option Bool :=
  (reticulelaw13_alive ()).bind fun r1 =>
  bif !r1 then
    some false
  else
    bif decide (3000 < (x.1.length : Int)) then
      some true
    else
      (script_Read (x.1, x.2)).bind fun r2 =>
      (reticuleref13_Read (x.1, x.2)).bind fun r3 =>
      (script_List x.1).bind fun r4 =>
      (reticuleref13_List x.1).bind fun r5 =>
      (reticuleref13_One (r2.1, r3.1)).bind fun r6 =>
      (bif r6 then
          some (decide (r2.2.1 = r3.2.1))
        else
          some false : Option Bool).bind fun b7 =>
      (bif b7 then
          some (decide (r2.2.2 = r3.2.2))
        else
          some false : Option Bool).bind fun b8 =>
      (bif b8 then
          (reticuleref13_Same (r4.1, r5.1)).bind fun r9 =>
          some r9
        else
          some false : Option Bool).bind fun b10 =>
      (bif b10 then
          some (decide (r4.2 = r5.2))
        else
          some false : Option Bool).bind fun b11 =>
      some b11
/-- reticule/reticuleref13.Great -/
noncomputable def reticuleref13_Great_L0 : Nat → ((List (Int × (Int × (Int × (Int × (Int × (Bool × (Int × (BitVec 64 × (List (BitVec 8) × Unit)))))))))) × Int) → Option (Unit ⊕ Bool)
  | 0, _ => none
  | n + 1, j =>
  bif decide (j.2 < (j.1.length : Int)) then
      (ix j.1 j.2).bind fun x1 =>
      bif decide (1100 < (x1.2.2.2.2.2.2.2.2.1.length : Int)) then
        some (Sum.inr true)
      else
        reticuleref13_Great_L0 n (j.1, w64 (j.2 + 1))
    else
      some (Sum.inl ())
noncomputable def reticuleref13_Great (x : (List (Int × (Int × (Int × (Int × (Int × (Bool × (Int × (BitVec 64 × (List (BitVec 8) × Unit)))))))))) × Int) : Option Bool :=
  bif decide (x.2 < (x.1.length : Int)) then
    some true
  else
    jn (A := Unit) (R := Bool) (reticuleref13_Great_L0 Big (x.1, 0)) fun q2 =>
    some false
/-- reticule/reticuleref13.All -/
noncomputable def reticuleref13_All_L0 : Nat → ((List (Int × (Int × (Int × (Int × (Int × (Bool × (Int × (BitVec 64 × (List (BitVec 8) × Unit)))))))))) × (List (BitVec 8)) × Int) → Option ((List (BitVec 8)) ⊕ ((List (BitVec 8)) × Int))
  | 0, _ => none
  | n + 1, j =>
  bif decide (j.2.2 < (j.1.length : Int)) then
      (ix j.1 j.2.2).bind fun x1 =>
      (reticuleref13_Append (j.2.1, x1)).bind fun r2 =>
      bif !decide (r2.2 = 0) then
        some (Sum.inr (([] : List (BitVec 8)), r2.2))
      else
        reticuleref13_All_L0 n (j.1, r2.1, w64 (j.2.2 + 1))
    else
      some (Sum.inl j.2.1)
noncomputable def reticuleref13_All (x : (List (Int × (Int × (Int × (Int × (Int × (Bool × (Int × (BitVec 64 × (List (BitVec 8) × Unit))))))))))) : Option ((List (BitVec 8)) × Int) :=
  bif decide (2000 < (x.length : Int)) then
    some (([] : List (BitVec 8)), 4)
  else
    jn (A := (List (BitVec 8))) (R := ((List (BitVec 8)) × Int)) (reticuleref13_All_L0 Big (x, ([] : List (BitVec 8)), 0)) fun q3 =>
    some (q3, 0)
/-- reticule/reticulelaw13.ScriptBack -/
noncomputable def reticulelaw13_ScriptBack (x : (List (Int × (Int × (Int × (Int × (Int × (Bool × (Int × (BitVec 64 × (List (BitVec 8) × Unit)))))))))) × (List (BitVec 8))) : Option Bool :=
  (reticulelaw13_alive ()).bind fun r1 =>
  bif !r1 then
    some false
  else
    (reticuleref13_Great (x.1, 50)).bind fun r2 =>
    (bif r2 then
        some true
      else
        some (decide (3000 < (x.2.length : Int))) : Option Bool).bind fun b3 =>
    bif b3 then
      some true
    else
      (script_All x.1).bind fun r4 =>
      (reticuleref13_All x.1).bind fun r5 =>
      (chk (decide (r4.1.length ≤ lim))).bind fun _ =>
      (chk (decide (r5.1.length ≤ lim))).bind fun _ =>
      (bif !(decide (r4.1 = r5.1)) then
          some true
        else
          some (!decide (r4.2 = r5.2)) : Option Bool).bind fun b6 =>
      bif b6 then
        some false
      else
        jn (A := (List (BitVec 8))) (R := Bool) (bif decide (r4.2 = 0) then
            (script_List r4.1).bind fun r7 =>
            (bif !decide (r7.2 = 0) then
                some true
              else
                (reticuleref13_Same (r7.1, x.1)).bind fun r8 =>
                some (!r8) : Option Bool).bind fun b9 =>
            bif b9 then
              some (Sum.inr false)
            else
              some (Sum.inl x.2)
          else
            some (Sum.inl x.2)) fun j10 =>
        (script_List j10).bind fun r11 =>
        bif !decide (r11.2 = 0) then
          some (decide ((r11.1.length : Int) = 0))
        else
          (script_All r11.1).bind fun r12 =>
          (bif decide (r12.2 = 0) then
              (chk (decide (r12.1.length ≤ lim))).bind fun _ =>
              (chk (decide (j10.length ≤ lim))).bind fun _ =>
              some (decide (r12.1 = j10))
            else
              some false : Option Bool).bind fun b13 =>
          some b13
/-- reticule/reticuleref01.Join -/
noncomputable def reticuleref01_Join (x : (List (BitVec 8)) × (List (BitVec 8))) : Option (List (BitVec 8)) :=
  (chk (decide (([] : List (BitVec 8)).length + x.1.length ≤ lim))).bind fun _ =>
  (chk (decide ((([] : List (BitVec 8)) ++ x.1).length + x.2.length ≤ lim))).bind fun _ =>
  some ((([] : List (BitVec 8)) ++ x.1) ++ x.2)
/-- reticule/reticulelaw13.ScriptCuts -/
noncomputable def reticulelaw13_ScriptCuts (x : (List (Int × (Int × (Int × (Int × (Int × (Bool × (Int × (BitVec 64 × (List (BitVec 8) × Unit)))))))))) × (BitVec 16)) : Option Bool :=
  (reticulelaw13_alive ()).bind fun r1 =>
  bif !r1 then
    some false
  else
    (reticuleref13_Great (x.1, 20)).bind fun r2 =>
    bif r2 then
      some true
    else
      (script_All x.1).bind fun r3 =>
      (bif !decide (r3.2 = 0) then
          some true
        else
          some (decide ((r3.1.length : Int) = 0)) : Option Bool).bind fun b4 =>
      bif b4 then
        some true
      else
        (bif (r3.1.length : Int) == 0 then none else some ((x.2.toNat : Int).tmod (r3.1.length : Int))).bind fun x5 =>
        (chk (decide (0 ≤ (x5 : Int)) && decide ((x5 : Int) ≤ (r3.1.length : Int)))).bind fun _ =>
        (script_List (r3.1.take (x5 : Int).toNat)).bind fun r6 =>
        bif !decide (r6.2 = 0) then
          (bif decide (r6.2 = 2) then
              some (decide ((r6.1.length : Int) = 0))
            else
              some false : Option Bool).bind fun b7 =>
          some b7
        else
          (script_All r6.1).bind fun r8 =>
          (bif decide (r8.2 = 0) then
              (chk (decide (r8.1.length ≤ lim))).bind fun _ =>
              (chk (decide (0 ≤ (x5 : Int)) && decide ((x5 : Int) ≤ (r3.1.length : Int)))).bind fun _ =>
              (chk (decide ((r3.1.take (x5 : Int).toNat).length ≤ lim))).bind fun _ =>
              some (decide (r8.1 = (r3.1.take (x5 : Int).toNat)))
            else
              some false : Option Bool).bind fun b9 =>
          (bif b9 then
              some (decide ((r6.1.length : Int) < (x.1.length : Int)))
            else
              some false : Option Bool).bind fun b10 =>
          (bif b10 then
              (chk (decide (0 ≤ ((r6.1.length : Int) : Int)) && decide (((r6.1.length : Int) : Int) ≤ (x.1.length : Int)))).bind fun _ =>
              (reticuleref13_Same (r6.1, x.1.take ((r6.1.length : Int) : Int).toNat)).bind fun r11 =>
              some r11
            else
              some false : Option Bool).bind fun b12 =>
          (bif b12 then
              (chk (decide (0 ≤ (x5 : Int)) && decide ((x5 : Int) ≤ (r3.1.length : Int)))).bind fun _ =>
              (reticuleref01_Join (r8.1, r3.1.drop (x5 : Int).toNat)).bind fun r13 =>
              some (decide ((r13.length : Int) = (r3.1.length : Int)))
            else
              some false : Option Bool).bind fun b14 =>
          some b14
/-- reticule/reticulelaw13.ScriptJoins -/
noncomputable def reticulelaw13_ScriptJoins (x : (List (Int × (Int × (Int × (Int × (Int × (Bool × (Int × (BitVec 64 × (List (BitVec 8) × Unit)))))))))) × (List (Int × (Int × (Int × (Int × (Int × (Bool × (Int × (BitVec 64 × (List (BitVec 8) × Unit))))))))))) : Option Bool :=
  (reticulelaw13_alive ()).bind fun r1 =>
  bif !r1 then
    some false
  else
    (reticuleref13_Great (x.1, 50)).bind fun r2 =>
    (bif r2 then
        some true
      else
        (reticuleref13_Great (x.2, 50)).bind fun r3 =>
        some r3 : Option Bool).bind fun b4 =>
    bif b4 then
      some true
    else
      (script_All x.1).bind fun r5 =>
      (script_All x.2).bind fun r6 =>
      (chk (decide (([] : List (Int × (Int × (Int × (Int × (Int × (Bool × (Int × (BitVec 64 × (List (BitVec 8) × Unit)))))))))).length + x.1.length ≤ lim))).bind fun _ =>
      (chk (decide ((([] : List (Int × (Int × (Int × (Int × (Int × (Bool × (Int × (BitVec 64 × (List (BitVec 8) × Unit)))))))))) ++ x.1).length + x.2.length ≤ lim))).bind fun _ =>
      (script_All ((([] : List (Int × (Int × (Int × (Int × (Int × (Bool × (Int × (BitVec 64 × (List (BitVec 8) × Unit)))))))))) ++ x.1) ++ x.2)).bind fun r7 =>
      (bif !decide (r5.2 = 0) then
          some true
        else
          some (!decide (r6.2 = 0)) : Option Bool).bind fun b8 =>
      bif b8 then
        (bif !decide (r7.2 = 0) then
            some (decide ((r7.1.length : Int) = 0))
          else
            some false : Option Bool).bind fun b9 =>
        some b9
      else
        (reticuleref01_Join (r5.1, r6.1)).bind fun r10 =>
        (script_List r10).bind fun r11 =>
        (bif decide (r7.2 = 0) then
            some (decide (r11.2 = 0))
          else
            some false : Option Bool).bind fun b12 =>
        (bif b12 then
            (chk (decide (r7.1.length ≤ lim))).bind fun _ =>
            (reticuleref01_Join (r5.1, r6.1)).bind fun r13 =>
            (chk (decide (r13.length ≤ lim))).bind fun _ =>
            some (decide (r7.1 = r13))
          else
            some false : Option Bool).bind fun b14 =>
        (bif b14 then
            (reticuleref13_Same (r11.1, (([] : List (Int × (Int × (Int × (Int × (Int × (Bool × (Int × (BitVec 64 × (List (BitVec 8) × Unit)))))))))) ++ x.1) ++ x.2)).bind fun r15 =>
            some r15
          else
            some false : Option Bool).bind fun b16 =>
        some b16
end Go.Proofs.Ytdaelapmgecdpaa
