/- The program's functions as plain ones. Printed by the session's own program. -/
import Derived.Test.YtgonclhpilkpmaaRfH
namespace Go.Proofs.Ytgonclhpilkpmaa
open Go Go.Re
set_option linter.unusedVariables false
set_option linter.unusedSimpArgs false
/-- reticule/number.PutLittle -/
noncomputable def number_PutLittle_L0 : Nat → ((BitVec 64) × (List (BitVec 8)) × Int × Int) → Option ((List (BitVec 8)) ⊕ (List (BitVec 8)))
  | 0, _ => none
  | n + 1, j =>
  bif decide (j.2.2.2 < j.2.2.1) then
      (chk (decide (j.2.1.length + ([j.1.setWidth 8] : List (BitVec 8)).length ≤ lim))).bind fun _ =>
      number_PutLittle_L0 n (j.1 >>> (((8#64).toNat : Int) : Int).toNat, j.2.1 ++ ([j.1.setWidth 8] : List (BitVec 8)), j.2.2.1, w64 (j.2.2.2 + 1))
    else
      some (Sum.inl j.2.1)
noncomputable def number_PutLittle (x : (BitVec 64) × Int) : Option (List (BitVec 8)) :=
  (bif decide (x.2 < 1) then
      some true
    else
      some (decide (8 < x.2)) : Option Bool).bind fun b1 =>
  bif b1 then
    some ([] : List (BitVec 8))
  else
    jn (A := (List (BitVec 8))) (R := (List (BitVec 8))) (number_PutLittle_L0 Big (x.1, ([] : List (BitVec 8)), x.2, 0)) fun q2 =>
    some q2
/-- slices.Reverse[[]byte,byte] -/
noncomputable def slices_Reverse_byte_L0 : Nat → ((List (BitVec 8)) × Int × Int) → Option ((List (BitVec 8)) ⊕ (List (BitVec 8)))
  | 0, _ => none
  | n + 1, j =>
  bif decide (j.2.1 < j.2.2) then
      (chk (inLen j.2.2 j.1.length)).bind fun _ =>
      ((j.1[(j.2.2 : Int).toNat]?).bind fun y1 =>
        some y1).bind fun x2 =>
      (chk (inLen j.2.1 j.1.length)).bind fun _ =>
      ((j.1[(j.2.1 : Int).toNat]?).bind fun y3 =>
        some y3).bind fun x4 =>
      (chk (inLen j.2.1 j.1.length)).bind fun _ =>
      (chk (inLen j.2.2 (j.1.set (j.2.1 : Int).toNat x2).length)).bind fun _ =>
      slices_Reverse_byte_L0 n ((j.1.set (j.2.1 : Int).toNat x2).set (j.2.2 : Int).toNat x4, w64 (j.2.1 + 1), w64 (j.2.2 - 1))
    else
      some (Sum.inl j.1)
noncomputable def slices_Reverse_byte (x : (List (BitVec 8))) : Option (List (BitVec 8)) :=
  jn (A := (List (BitVec 8))) (R := (List (BitVec 8))) (slices_Reverse_byte_L0 Big (x, 0, w64 ((x.length : Int) - 1))) fun q5 =>
  some q5
/-- reticule/number.PutBig -/
noncomputable def number_PutBig (x : (BitVec 64) × Int) : Option (List (BitVec 8)) :=
  (number_PutLittle (x.1, x.2)).bind fun r1 =>
  (slices_Reverse_byte r1).bind fun r2 =>
  some r2
/-- slices.Grow[[]byte,byte] -/
noncomputable def slices_Grow_byte (x : Unit × Int) : Option (List (BitVec 8)) :=
  bif decide (x.2 < 0) then
    none
  else
    jn (A := (List (BitVec 8))) (R := (List (BitVec 8))) (bif decide (0 < (w64 (x.2 - (w64 ((0 : Int) - (([] : List (BitVec 8)).length : Int)))))) then
        (chk (decide (0 ≤ (0 : Int)) && decide ((0 : Int) ≤ (0 : Int)))).bind fun _ =>
        (chk ((decide (0 ≤ (w64 (x.2 - (w64 ((0 : Int) - (([] : List (BitVec 8)).length : Int)))) : Int)) && decide ((w64 (x.2 - (w64 ((0 : Int) - (([] : List (BitVec 8)).length : Int)))) : Int) ≤ (lim : Int))) && decide ((List.replicate (w64 (x.2 - (w64 ((0 : Int) - (([] : List (BitVec 8)).length : Int)))) : Int).toNat (0#8)).length ≤ lim))).bind fun _ =>
        (chk (decide (0 ≤ ((([] : List (BitVec 8)).length : Int) : Int)) && decide (((([] : List (BitVec 8)).length : Int) : Int) ≤ ((List.replicate (w64 (x.2 - (w64 ((0 : Int) - (([] : List (BitVec 8)).length : Int)))) : Int).toNat (0#8)).length : Int)))).bind fun _ =>
        some (Sum.inl ((List.replicate (w64 (x.2 - (w64 ((0 : Int) - (([] : List (BitVec 8)).length : Int)))) : Int).toNat (0#8)).take ((([] : List (BitVec 8)).length : Int) : Int).toNat))
      else
        some (Sum.inl ([]))) fun j1 =>
    some j1
/-- slices.Concat[[]byte,byte] -/
noncomputable def slices_Concat_byte_L0 : Nat → ((List (List (BitVec 8))) × Int × (List (List (BitVec 8))) × Int × Int) → Option (((List (List (BitVec 8))) × Int) ⊕ (List (BitVec 8)))
  | 0, _ => none
  | n + 1, j =>
  bif decide (j.2.2.2.2 < j.2.2.2.1) then
      (ix j.2.2.1 j.2.2.2.2).bind fun x1 =>
      bif decide ((w64 (j.2.1 + (x1.length : Int))) < 0) then
        none
      else
        slices_Concat_byte_L0 n (j.1, w64 (j.2.1 + (x1.length : Int)), j.2.2.1, j.2.2.2.1, w64 (j.2.2.2.2 + 1))
    else
      some (Sum.inl (j.1, j.2.1))
noncomputable def slices_Concat_byte_L1 : Nat → ((List (BitVec 8)) × (List (List (BitVec 8))) × Int × Int) → Option ((List (BitVec 8)) ⊕ (List (BitVec 8)))
  | 0, _ => none
  | n + 1, j =>
  bif decide (j.2.2.2 < j.2.2.1) then
      (ix j.2.1 j.2.2.2).bind fun x4 =>
      (chk (decide (j.1.length + x4.length ≤ lim))).bind fun _ =>
      slices_Concat_byte_L1 n (j.1 ++ x4, j.2.1, j.2.2.1, w64 (j.2.2.2 + 1))
    else
      some (Sum.inl j.1)
noncomputable def slices_Concat_byte (x : (List (List (BitVec 8)))) : Option (List (BitVec 8)) :=
  jn (A := ((List (List (BitVec 8))) × Int)) (R := (List (BitVec 8))) (slices_Concat_byte_L0 Big (x, 0, x, (x.length : Int), 0)) fun q2 =>
  (slices_Grow_byte ((), q2.2)).bind fun r3 =>
  jn (A := (List (BitVec 8))) (R := (List (BitVec 8))) (slices_Concat_byte_L1 Big (r3, q2.1, (q2.1.length : Int), 0)) fun q5 =>
  some q5
/-- reticule/capacity.told -/
noncomputable def capacity_told (x : Int × Int) : Option (List (BitVec 8)) :=
  (number_PutBig ((BitVec.ofInt 64 x.1) - (1#64), x.2)).bind fun r1 =>
  (number_PutBig (64#64, 4)).bind fun r2 =>
  (slices_Concat_byte ([r1, r2] : List (List (BitVec 8)))).bind fun r3 =>
  some r3
/-- reticule/capacity.Ten -/
noncomputable def capacity_Ten (x : Int) : Option (List (BitVec 8)) :=
  (capacity_told (x, 4)).bind fun r1 =>
  some r1
/-- reticule/inquiry.Cut -/
noncomputable def inquiry_Cut (x : (List (BitVec 8)) × Int) : Option (List (BitVec 8)) :=
  bif decide (x.2 < 0) then
    some ([] : List (BitVec 8))
  else
    (chk ((decide (0 ≤ (bif decide ((x.1.length : Int) < x.2) then (x.1.length : Int) else x.2 : Int)) && decide ((bif decide ((x.1.length : Int) < x.2) then (x.1.length : Int) else x.2 : Int) ≤ (x.1.length : Int))) && decide ((bif decide ((x.1.length : Int) < x.2) then (x.1.length : Int) else x.2 : Int) = (bif decide ((x.1.length : Int) < x.2) then (x.1.length : Int) else x.2 : Int)))).bind fun _ =>
    some (x.1.take (bif decide ((x.1.length : Int) < x.2) then (x.1.length : Int) else x.2 : Int).toNat)
/-- reticule/capacity.Sixteen -/
noncomputable def capacity_Sixteen (x : Int × Int) : Option (List (BitVec 8)) :=
  (capacity_told (x.1, 8)).bind fun r1 =>
  (chk (decide (0 ≤ 20) && decide (20 ≤ 20) && decide (20 ≤ (lim : Int)))).bind fun _ =>
  (slices_Concat_byte ([r1, List.replicate (20 : Int).toNat (0#8)] : List (List (BitVec 8)))).bind fun r2 =>
  (inquiry_Cut (r2, x.2)).bind fun r3 =>
  some r3
/-- reticule/capacity.Luns -/
noncomputable def capacity_Luns_L0 : Nat → (Int × (List (BitVec 8)) × Int × Int) → Option ((Int × (List (BitVec 8))) ⊕ (List (BitVec 8)))
  | 0, _ => none
  | n + 1, j =>
  bif decide (j.2.2.2 < j.2.2.1) then
      (chk (inLen (w64 ((w64 ((8 : Int) * (w64 ((1 : Int) + j.2.2.2)))) + 1)) j.2.1.length)).bind fun _ =>
      capacity_Luns_L0 n (j.1, j.2.1.set (w64 ((w64 ((8 : Int) * (w64 ((1 : Int) + j.2.2.2)))) + 1) : Int).toNat (BitVec.ofInt 8 j.2.2.2), j.2.2.1, w64 (j.2.2.2 + 1))
    else
      some (Sum.inl (j.1, j.2.1))
noncomputable def capacity_Luns (x : Int × Int) : Option (List (BitVec 8)) :=
  (chk (decide (0 ≤ (w64 ((8 : Int) * (w64 ((1 : Int) + (bif decide (0 < (bif decide (4 < x.1) then 4 else x.1)) then (bif decide (4 < x.1) then 4 else x.1) else 0)))))) && decide ((w64 ((8 : Int) * (w64 ((1 : Int) + (bif decide (0 < (bif decide (4 < x.1) then 4 else x.1)) then (bif decide (4 < x.1) then 4 else x.1) else 0))))) ≤ (w64 ((8 : Int) * (w64 ((1 : Int) + (bif decide (0 < (bif decide (4 < x.1) then 4 else x.1)) then (bif decide (4 < x.1) then 4 else x.1) else 0)))))) && decide ((w64 ((8 : Int) * (w64 ((1 : Int) + (bif decide (0 < (bif decide (4 < x.1) then 4 else x.1)) then (bif decide (4 < x.1) then 4 else x.1) else 0))))) ≤ (lim : Int)))).bind fun _ =>
  (number_PutBig (BitVec.ofInt 64 (w64 ((8 : Int) * (bif decide (0 < (bif decide (4 < x.1) then 4 else x.1)) then (bif decide (4 < x.1) then 4 else x.1) else 0))), 4)).bind fun r1 =>
  jn (A := (Int × (List (BitVec 8)))) (R := (List (BitVec 8))) (capacity_Luns_L0 Big (x.2, over (List.replicate (w64 ((8 : Int) * (w64 ((1 : Int) + (bif decide (0 < (bif decide (4 < x.1) then 4 else x.1)) then (bif decide (4 < x.1) then 4 else x.1) else 0))))).toNat (0#8)) r1, bif decide (0 < (bif decide (4 < x.1) then 4 else x.1)) then (bif decide (4 < x.1) then 4 else x.1) else 0, 0)) fun q2 =>
  (inquiry_Cut (q2.2, q2.1)).bind fun r3 =>
  some r3
/-- reticule/reticulelaw09.alive -/
noncomputable def reticulelaw09_alive (x : Unit) : Option Bool :=
  (capacity_Ten 16).bind fun r1 =>
  (chk (decide (r1.length ≤ lim))).bind fun _ =>
  (bif decide (r1 = ([0#8, 0#8, 0#8, 15#8, 0#8, 0#8, 0#8, 64#8] : List (BitVec 8))) then
      (capacity_Sixteen (258, 13)).bind fun r2 =>
      (chk (decide (r2.length ≤ lim))).bind fun _ =>
      some (decide (r2 = ([0#8, 0#8, 0#8, 0#8, 0#8, 0#8, 1#8, 1#8, 0#8, 0#8, 0#8, 64#8, 0#8] : List (BitVec 8))))
    else
      some false : Option Bool).bind fun b3 =>
  (bif b3 then
      (capacity_Luns (2, 100)).bind fun r4 =>
      (chk (decide (r4.length ≤ lim))).bind fun _ =>
      some (decide (r4 = ([0#8, 0#8, 0#8, 16#8, 0#8, 0#8, 0#8, 0#8, 0#8, 0#8, 0#8, 0#8, 0#8, 0#8, 0#8, 0#8, 0#8, 1#8, 0#8, 0#8, 0#8, 0#8, 0#8, 0#8] : List (BitVec 8))))
    else
      some false : Option Bool).bind fun b5 =>
  some b5
/-- reticule/reticuleref01.PutBig -/
noncomputable def reticuleref01_PutBig_L0 : Nat → ((BitVec 64) × (List (BitVec 8)) × Int) → Option ((List (BitVec 8)) ⊕ (List (BitVec 8)))
  | 0, _ => none
  | n + 1, j =>
  bif decide (0 ≤ j.2.2) then
      (chk (inLen j.2.2 j.2.1.length)).bind fun _ =>
      reticuleref01_PutBig_L0 n (j.1 / (256#64), j.2.1.set (j.2.2 : Int).toNat ((j.1 % (256#64)).setWidth 8), w64 (j.2.2 - 1))
    else
      some (Sum.inl j.2.1)
noncomputable def reticuleref01_PutBig (x : (BitVec 64) × Int) : Option (List (BitVec 8)) :=
  (bif decide (x.2 < 1) then
      some true
    else
      some (decide (8 < x.2)) : Option Bool).bind fun b1 =>
  bif b1 then
    some ([] : List (BitVec 8))
  else
    (chk (decide (0 ≤ x.2) && decide (x.2 ≤ x.2) && decide (x.2 ≤ (lim : Int)))).bind fun _ =>
    jn (A := (List (BitVec 8))) (R := (List (BitVec 8))) (reticuleref01_PutBig_L0 Big (x.1, List.replicate (x.2 : Int).toNat (0#8), w64 (x.2 - 1))) fun q2 =>
    some q2
/-- reticule/reticuleref09.Ten -/
noncomputable def reticuleref09_Ten (x : Int) : Option (List (BitVec 8)) :=
  (reticuleref01_PutBig ((BitVec.ofInt 64 x) - (1#64), 4)).bind fun r1 =>
  (chk (decide (r1.length + ([0#8, 0#8, 0#8, 64#8] : List (BitVec 8)).length ≤ lim))).bind fun _ =>
  some (r1 ++ ([0#8, 0#8, 0#8, 64#8] : List (BitVec 8)))
/-- reticule/reticuleref07.Cut -/
noncomputable def reticuleref07_Cut (x : (List (BitVec 8)) × Int) : Option (List (BitVec 8)) :=
  bif decide (x.2 < 0) then
    some ([] : List (BitVec 8))
  else
    jn (A := ((List (BitVec 8)) × Int)) (R := (List (BitVec 8))) (bif decide ((x.1.length : Int) < x.2) then
        some (Sum.inl (x.1, (x.1.length : Int)))
      else
        some (Sum.inl (x.1, x.2))) fun j1 =>
    (chk (decide (0 ≤ (j1.2 : Int)) && decide ((j1.2 : Int) ≤ (j1.1.length : Int)))).bind fun _ =>
    (chk (decide (([] : List (BitVec 8)).length + (j1.1.take (j1.2 : Int).toNat).length ≤ lim))).bind fun _ =>
    some (([] : List (BitVec 8)) ++ (j1.1.take (j1.2 : Int).toNat))
/-- reticule/reticuleref09.Sixteen -/
noncomputable def reticuleref09_Sixteen (x : Int × Int) : Option (List (BitVec 8)) :=
  (reticuleref01_PutBig ((BitVec.ofInt 64 x.1) - (1#64), 8)).bind fun r1 =>
  (chk (decide (r1.length + ([0#8, 0#8, 0#8, 64#8] : List (BitVec 8)).length ≤ lim))).bind fun _ =>
  (chk ((decide (0 ≤ (20 : Int)) && decide ((20 : Int) ≤ (lim : Int))) && decide ((r1 ++ ([0#8, 0#8, 0#8, 64#8] : List (BitVec 8))).length + (List.replicate (20 : Int).toNat (0#8)).length ≤ lim))).bind fun _ =>
  (reticuleref07_Cut ((r1 ++ ([0#8, 0#8, 0#8, 64#8] : List (BitVec 8))) ++ (List.replicate (20 : Int).toNat (0#8)), x.2)).bind fun r2 =>
  some r2
/-- reticule/reticuleref09.Luns -/
noncomputable def reticuleref09_Luns_L0 : Nat → (Int × Int × (List (BitVec 8)) × Int) → Option ((Int × (List (BitVec 8))) ⊕ (List (BitVec 8)))
  | 0, _ => none
  | n + 1, j =>
  bif decide (j.2.2.2 < j.1) then
      (chk (decide (j.2.2.1.length + ([0#8, BitVec.ofInt 8 j.2.2.2, 0#8, 0#8, 0#8, 0#8, 0#8, 0#8] : List (BitVec 8)).length ≤ lim))).bind fun _ =>
      reticuleref09_Luns_L0 n (j.1, j.2.1, j.2.2.1 ++ ([0#8, BitVec.ofInt 8 j.2.2.2, 0#8, 0#8, 0#8, 0#8, 0#8, 0#8] : List (BitVec 8)), w64 (j.2.2.2 + 1))
    else
      some (Sum.inl (j.2.1, j.2.2.1))
noncomputable def reticuleref09_Luns (x : Int × Int) : Option (List (BitVec 8)) :=
  jn (A := (Int × Int)) (R := (List (BitVec 8))) (bif decide (4 < x.1) then
      some (Sum.inl (4, x.2))
    else
      some (Sum.inl (x.1, x.2))) fun j1 =>
  jn (A := (Int × Int)) (R := (List (BitVec 8))) (bif decide (j1.1 < 0) then
      some (Sum.inl (0, j1.2))
    else
      some (Sum.inl (j1.1, j1.2))) fun j2 =>
  jn (A := (Int × (List (BitVec 8)))) (R := (List (BitVec 8))) (reticuleref09_Luns_L0 Big (j2.1, j2.2, ([0#8, 0#8, 0#8, BitVec.ofInt 8 (w64 (j2.1 * 8)), 0#8, 0#8, 0#8, 0#8] : List (BitVec 8)), 0)) fun q3 =>
  (reticuleref07_Cut (q3.2, q3.1)).bind fun r4 =>
  some r4
/-- reticule/reticulelaw09.CapacityTells -/
noncomputable def reticulelaw09_CapacityTells (x : Int × Int × Int) : Option Bool :=
  (reticulelaw09_alive ()).bind fun r1 =>
  bif !r1 then
    some false
  else
    (capacity_Ten x.1).bind fun r2 =>
    (chk (decide (r2.length ≤ lim))).bind fun _ =>
    (reticuleref09_Ten x.1).bind fun r3 =>
    (chk (decide (r3.length ≤ lim))).bind fun _ =>
    (bif decide (r2 = r3) then
        (capacity_Sixteen (x.1, x.2.2)).bind fun r4 =>
        (chk (decide (r4.length ≤ lim))).bind fun _ =>
        (reticuleref09_Sixteen (x.1, x.2.2)).bind fun r5 =>
        (chk (decide (r5.length ≤ lim))).bind fun _ =>
        some (decide (r4 = r5))
      else
        some false : Option Bool).bind fun b6 =>
    (bif b6 then
        (capacity_Luns (x.2.1, x.2.2)).bind fun r7 =>
        (chk (decide (r7.length ≤ lim))).bind fun _ =>
        (reticuleref09_Luns (x.2.1, x.2.2)).bind fun r8 =>
        (chk (decide (r8.length ≤ lim))).bind fun _ =>
        some (decide (r7 = r8))
      else
        some false : Option Bool).bind fun b9 =>
    some b9
/-- reticule/reticuleref01.Big -/
noncomputable def reticuleref01_Big_L0 : Nat → ((List (BitVec 8)) × Int × Int × (BitVec 64) × Int) → Option ((BitVec 64) ⊕ ((BitVec 64) × Bool))
  | 0, _ => none
  | n + 1, j =>
  bif decide (j.2.2.2.2 < j.2.2.1) then
      (ix j.1 (w64 (j.2.1 + j.2.2.2.2))).bind fun x5 =>
      reticuleref01_Big_L0 n (j.1, j.2.1, j.2.2.1, (j.2.2.2.1 * (256#64)) + (x5.setWidth 64), w64 (j.2.2.2.2 + 1))
    else
      some (Sum.inl j.2.2.2.1)
noncomputable def reticuleref01_Big (x : (List (BitVec 8)) × Int × Int) : Option ((BitVec 64) × Bool) :=
  (bif decide (x.2.2 < 1) then
      some true
    else
      some (decide (8 < x.2.2)) : Option Bool).bind fun b1 =>
  (bif b1 then
      some true
    else
      some (decide (x.2.1 < 0)) : Option Bool).bind fun b2 =>
  (bif b2 then
      some true
    else
      some (decide ((x.1.length : Int) < x.2.2)) : Option Bool).bind fun b3 =>
  (bif b3 then
      some true
    else
      some (decide ((w64 ((x.1.length : Int) - x.2.2)) < x.2.1)) : Option Bool).bind fun b4 =>
  bif b4 then
    some (0#64, false)
  else
    jn (A := (BitVec 64)) (R := ((BitVec 64) × Bool)) (reticuleref01_Big_L0 Big (x.1, x.2.1, x.2.2, 0#64, 0)) fun q6 =>
    some (q6, true)
/-- reticule/reticulelaw09.CapacityBack -/
noncomputable def reticulelaw09_CapacityBack_L0 : Nat → (Int × (List (BitVec 8)) × Int) → Option (Unit ⊕ Bool)
  | 0, _ => none
  | n + 1, j =>
  bif decide (j.2.2 < j.1) then
      (ix j.2.1 (w64 ((w64 ((8 : Int) + (w64 ((8 : Int) * j.2.2)))) + 1))).bind fun x14 =>
      bif !decide (x14 = (BitVec.ofInt 8 j.2.2)) then
        some (Sum.inr false)
      else
        reticulelaw09_CapacityBack_L0 n (j.1, j.2.1, w64 (j.2.2 + 1))
    else
      some (Sum.inl ())
noncomputable def reticulelaw09_CapacityBack (x : (BitVec 16) × (BitVec 8)) : Option Bool :=
  (reticulelaw09_alive ()).bind fun r1 =>
  bif !r1 then
    some false
  else
    (capacity_Ten (w64 ((1 : Int) + (x.1.toNat : Int)))).bind fun r2 =>
    (reticuleref01_Big (r2, 0, 4)).bind fun r3 =>
    (capacity_Sixteen (w64 ((1 : Int) + (x.1.toNat : Int)), 32)).bind fun r4 =>
    (reticuleref01_Big (r4, 0, 8)).bind fun r5 =>
    (capacity_Luns (((x.2 % (5#8)).toNat : Int), 100)).bind fun r6 =>
    (reticuleref01_Big (r6, 0, 4)).bind fun r7 =>
    (bif !r3.2 then
        some true
      else
        some (!r5.2) : Option Bool).bind fun b8 =>
    (bif b8 then
        some true
      else
        some (!r7.2) : Option Bool).bind fun b9 =>
    (bif b9 then
        some true
      else
        some (!decide ((w64 (r3.1.toNat : Int)) = (w64 ((w64 ((1 : Int) + (x.1.toNat : Int))) - 1)))) : Option Bool).bind fun b10 =>
    (bif b10 then
        some true
      else
        some (!decide ((w64 (r5.1.toNat : Int)) = (w64 ((w64 ((1 : Int) + (x.1.toNat : Int))) - 1)))) : Option Bool).bind fun b11 =>
    (bif b11 then
        some true
      else
        some (!decide ((w64 (r7.1.toNat : Int)) = (w64 ((8 : Int) * ((x.2 % (5#8)).toNat : Int))))) : Option Bool).bind fun b12 =>
    (bif b12 then
        some true
      else
        some (!decide ((r6.length : Int) = (w64 ((8 : Int) + (w64 ((8 : Int) * ((x.2 % (5#8)).toNat : Int))))))) : Option Bool).bind fun b13 =>
    bif b13 then
      some false
    else
      jn (A := Unit) (R := Bool) (reticulelaw09_CapacityBack_L0 Big (((x.2 % (5#8)).toNat : Int), r6, 0)) fun q15 =>
      some true
/-- reticule/reticulelaw09.CapacityCuts -/
noncomputable def reticulelaw09_CapacityCuts (x : Int × Int × Int) : Option Bool :=
  (reticulelaw09_alive ()).bind fun r1 =>
  bif !r1 then
    some false
  else
    (capacity_Sixteen (x.1, x.2.2)).bind fun r2 =>
    (capacity_Sixteen (x.1, 1000)).bind fun r3 =>
    (capacity_Luns (x.2.1, x.2.2)).bind fun r4 =>
    (capacity_Luns (x.2.1, 1000)).bind fun r5 =>
    (bif decide ((r3.length : Int) < (r2.length : Int)) then
        some true
      else
        some (decide ((r5.length : Int) < (r4.length : Int))) : Option Bool).bind fun b6 =>
    (bif b6 then
        some true
      else
        some (!decide ((r3.length : Int) = 32)) : Option Bool).bind fun b7 =>
    bif b7 then
      some false
    else
      (chk (decide (r2.length ≤ lim))).bind fun _ =>
      (chk (decide (0 ≤ ((r2.length : Int) : Int)) && decide (((r2.length : Int) : Int) ≤ (r3.length : Int)))).bind fun _ =>
      (chk (decide ((r3.take ((r2.length : Int) : Int).toNat).length ≤ lim))).bind fun _ =>
      (bif decide (r2 = (r3.take ((r2.length : Int) : Int).toNat)) then
          (chk (decide (r4.length ≤ lim))).bind fun _ =>
          (chk (decide (0 ≤ ((r4.length : Int) : Int)) && decide (((r4.length : Int) : Int) ≤ (r5.length : Int)))).bind fun _ =>
          (chk (decide ((r5.take ((r4.length : Int) : Int).toNat).length ≤ lim))).bind fun _ =>
          some (decide (r4 = (r5.take ((r4.length : Int) : Int).toNat)))
        else
          some false : Option Bool).bind fun b8 =>
      (bif b8 then
          some (decide ((r2.length : Int) = (bif decide (32 < (bif decide (x.2.2 < 0) then 0 else x.2.2)) then 32 else (bif decide (x.2.2 < 0) then 0 else x.2.2))))
        else
          some false : Option Bool).bind fun b9 =>
      (bif b9 then
          some (decide ((r4.length : Int) = (bif decide ((r5.length : Int) < (bif decide (x.2.2 < 0) then 0 else x.2.2)) then (r5.length : Int) else (bif decide (x.2.2 < 0) then 0 else x.2.2))))
        else
          some false : Option Bool).bind fun b10 =>
      some b10
end Go.Proofs.Ytgonclhpilkpmaa
