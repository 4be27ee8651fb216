/- The program's functions as plain ones. Printed by the session's own program. -/
import Derived.Test.YtkceolaolmfeaaaRfH
namespace Go.Proofs.Ytkceolaolmfeaaa
open Go Go.Re
set_option linter.unusedVariables false
set_option linter.unusedSimpArgs false
/-- reticule/number.PutLittle -/
noncomputable def number_PutLittle_L0 : Nat → ((BitVec 64) × (List (BitVec 8)) × Int × Int) → Option ((List (BitVec 8)) ⊕ (List (BitVec 8)))
  | 0, _ => none
  | n + 1, j =>
  bif decide (j.2.2.2 < j.2.2.1) then
      (chk (decide (j.2.1.length + ([j.1.setWidth 8] : List (BitVec 8)).length ≤ lim))).bind fun _ =>
      number_PutLittle_L0 n (j.1 >>> (((8#64).toNat : Int) : Int).toNat, j.2.1 ++ ([j.1.setWidth 8] : List (BitVec 8)), j.2.2.1, w64 (j.2.2.2 + 1))
    else
      some (Sum.inl j.2.1)
noncomputable def number_PutLittle (x : (BitVec 64) × Int) : Option (List (BitVec 8)) :=
  (bif decide (x.2 < 1) then
      some true
    else
      some (decide (8 < x.2)) : Option Bool).bind fun b1 =>
  bif b1 then
    some ([] : List (BitVec 8))
  else
    jn (A := (List (BitVec 8))) (R := (List (BitVec 8))) (number_PutLittle_L0 Big (x.1, ([] : List (BitVec 8)), x.2, 0)) fun q2 =>
    some q2
/-- reticule/cbw.put -/
noncomputable def cbw_put (x : (BitVec 32)) : Option (List (BitVec 8)) :=
  (number_PutLittle (x.setWidth 64, 4)).bind fun r1 =>
  some r1
/-- slices.Grow[[]byte,byte] -/
noncomputable def slices_Grow_byte (x : Unit × Int) : Option (List (BitVec 8)) :=
  bif decide (x.2 < 0) then
    none
  else
    jn (A := (List (BitVec 8))) (R := (List (BitVec 8))) (bif decide (0 < (w64 (x.2 - (w64 ((0 : Int) - (([] : List (BitVec 8)).length : Int)))))) then
        (chk (decide (0 ≤ (0 : Int)) && decide ((0 : Int) ≤ (0 : Int)))).bind fun _ =>
        (chk ((decide (0 ≤ (w64 (x.2 - (w64 ((0 : Int) - (([] : List (BitVec 8)).length : Int)))) : Int)) && decide ((w64 (x.2 - (w64 ((0 : Int) - (([] : List (BitVec 8)).length : Int)))) : Int) ≤ (lim : Int))) && decide ((List.replicate (w64 (x.2 - (w64 ((0 : Int) - (([] : List (BitVec 8)).length : Int)))) : Int).toNat (0#8)).length ≤ lim))).bind fun _ =>
        (chk (decide (0 ≤ ((([] : List (BitVec 8)).length : Int) : Int)) && decide (((([] : List (BitVec 8)).length : Int) : Int) ≤ ((List.replicate (w64 (x.2 - (w64 ((0 : Int) - (([] : List (BitVec 8)).length : Int)))) : Int).toNat (0#8)).length : Int)))).bind fun _ =>
        some (Sum.inl ((List.replicate (w64 (x.2 - (w64 ((0 : Int) - (([] : List (BitVec 8)).length : Int)))) : Int).toNat (0#8)).take ((([] : List (BitVec 8)).length : Int) : Int).toNat))
      else
        some (Sum.inl ([]))) fun j1 =>
    some j1
/-- slices.Concat[[]byte,byte] -/
noncomputable def slices_Concat_byte_L0 : Nat → ((List (List (BitVec 8))) × Int × (List (List (BitVec 8))) × Int × Int) → Option (((List (List (BitVec 8))) × Int) ⊕ (List (BitVec 8)))
  | 0, _ => none
  | n + 1, j =>
  bif decide (j.2.2.2.2 < j.2.2.2.1) then
      (ix j.2.2.1 j.2.2.2.2).bind fun x1 =>
      bif decide ((w64 (j.2.1 + (x1.length : Int))) < 0) then
        none
      else
        slices_Concat_byte_L0 n (j.1, w64 (j.2.1 + (x1.length : Int)), j.2.2.1, j.2.2.2.1, w64 (j.2.2.2.2 + 1))
    else
      some (Sum.inl (j.1, j.2.1))
noncomputable def slices_Concat_byte_L1 : Nat → ((List (BitVec 8)) × (List (List (BitVec 8))) × Int × Int) → Option ((List (BitVec 8)) ⊕ (List (BitVec 8)))
  | 0, _ => none
  | n + 1, j =>
  bif decide (j.2.2.2 < j.2.2.1) then
      (ix j.2.1 j.2.2.2).bind fun x4 =>
      (chk (decide (j.1.length + x4.length ≤ lim))).bind fun _ =>
      slices_Concat_byte_L1 n (j.1 ++ x4, j.2.1, j.2.2.1, w64 (j.2.2.2 + 1))
    else
      some (Sum.inl j.1)
noncomputable def slices_Concat_byte (x : (List (List (BitVec 8)))) : Option (List (BitVec 8)) :=
  jn (A := ((List (List (BitVec 8))) × Int)) (R := (List (BitVec 8))) (slices_Concat_byte_L0 Big (x, 0, x, (x.length : Int), 0)) fun q2 =>
  (slices_Grow_byte ((), q2.2)).bind fun r3 =>
  jn (A := (List (BitVec 8))) (R := (List (BitVec 8))) (slices_Concat_byte_L1 Big (r3, q2.1, (q2.1.length : Int), 0)) fun q5 =>
  some q5
/-- reticule/cbw.Bytes -/
noncomputable def cbw_Bytes (x : (BitVec 32 × (BitVec 32 × (Bool × (Int × (List (BitVec 8) × Unit)))))) : Option ((List (BitVec 8)) × Bool) :=
  (bif decide (x.2.2.2.1 < 0) then
      some true
    else
      some (!decide ((shrI x.2.2.2.1 (((4#64).toNat : Int) : Int).toNat) = 0)) : Option Bool).bind fun b1 =>
  (bif b1 then
      some true
    else
      some (decide ((x.2.2.2.2.1.length : Int) < 1)) : Option Bool).bind fun b2 =>
  (bif b2 then
      some true
    else
      some (decide (16 < (x.2.2.2.2.1.length : Int))) : Option Bool).bind fun b3 =>
  bif b3 then
    some (([] : List (BitVec 8)), false)
  else
    jn (A := ((BitVec 32 × (BitVec 32 × (Bool × (Int × (List (BitVec 8) × Unit))))) × (List (BitVec 8)))) (R := ((List (BitVec 8)) × Bool)) (bif x.2.2.1 then
        (chk (inLen 0 3)).bind fun _ =>
        ((([0#8, BitVec.ofInt 8 x.2.2.2.1, BitVec.ofInt 8 (x.2.2.2.2.1.length : Int)] : List (BitVec 8))[(0 : Int).toNat]?).bind fun z4 =>
          some (([0#8, BitVec.ofInt 8 x.2.2.2.1, BitVec.ofInt 8 (x.2.2.2.2.1.length : Int)] : List (BitVec 8)).set (0 : Int).toNat (128#8))).bind fun x5 =>
        some (Sum.inl (x, x5))
      else
        some (Sum.inl (x, ([0#8, BitVec.ofInt 8 x.2.2.2.1, BitVec.ofInt 8 (x.2.2.2.2.1.length : Int)] : List (BitVec 8))))) fun j6 =>
    (cbw_put (1128420181#32)).bind fun r7 =>
    (cbw_put j6.1.1).bind fun r8 =>
    (cbw_put j6.1.2.1).bind fun r9 =>
    (chk (true)).bind fun _ =>
    (chk (decide (0 ≤ (w64 ((16 : Int) - (j6.1.2.2.2.2.1.length : Int)))) && decide ((w64 ((16 : Int) - (j6.1.2.2.2.2.1.length : Int))) ≤ (w64 ((16 : Int) - (j6.1.2.2.2.2.1.length : Int)))) && decide ((w64 ((16 : Int) - (j6.1.2.2.2.2.1.length : Int))) ≤ (lim : Int)))).bind fun _ =>
    (slices_Concat_byte ([r7, r8, r9, j6.2, j6.1.2.2.2.2.1, List.replicate (w64 ((16 : Int) - (j6.1.2.2.2.2.1.length : Int))).toNat (0#8)] : List (List (BitVec 8)))).bind fun r10 =>
    some (r10, true)
/-- reticule/number.cut -/
noncomputable def number_cut (x : (List (BitVec 8)) × Int × Int) : Option ((List (BitVec 8)) × Bool) :=
  (bif decide (x.2.2 < 1) then
      some true
    else
      some (decide (8 < x.2.2)) : Option Bool).bind fun b1 =>
  (bif b1 then
      some true
    else
      some (decide (x.2.1 < 0)) : Option Bool).bind fun b2 =>
  (bif b2 then
      some true
    else
      some (decide ((w64 ((x.1.length : Int) - x.2.2)) < x.2.1)) : Option Bool).bind fun b3 =>
  bif b3 then
    some (([] : List (BitVec 8)), false)
  else
    (chk (decide (0 ≤ (x.2.1 : Int)) && decide ((x.2.1 : Int) ≤ (w64 (x.2.1 + x.2.2) : Int)) && decide ((w64 (x.2.1 + x.2.2) : Int) ≤ (x.1.length : Int)))).bind fun _ =>
    some (slc x.1 (x.2.1 : Int) (w64 (x.2.1 + x.2.2) : Int), true)
/-- reticule/number.Little -/
noncomputable def number_Little_L0 : Nat → ((BitVec 64) × Bool × (List (BitVec 8)) × Int × Int) → Option (((BitVec 64) × Bool) ⊕ ((BitVec 64) × Bool))
  | 0, _ => none
  | n + 1, j =>
  bif decide (j.2.2.2.2 < j.2.2.2.1) then
      (ix j.2.2.1 j.2.2.2.2).bind fun x2 =>
      (bif decide (0 ≤ (w64 ((8 : Int) * j.2.2.2.2) : Int)) then some ((x2.setWidth 64) <<< (w64 ((8 : Int) * j.2.2.2.2) : Int).toNat) else none).bind fun x3 =>
      number_Little_L0 n (j.1 ||| x3, j.2.1, j.2.2.1, j.2.2.2.1, w64 (j.2.2.2.2 + 1))
    else
      some (Sum.inl (j.1, j.2.1))
noncomputable def number_Little (x : (List (BitVec 8)) × Int × Int) : Option ((BitVec 64) × Bool) :=
  (number_cut (x.1, x.2.1, x.2.2)).bind fun r1 =>
  jn (A := ((BitVec 64) × Bool)) (R := ((BitVec 64) × Bool)) (number_Little_L0 Big (0#64, r1.2, r1.1, (r1.1.length : Int), 0)) fun q4 =>
  some (q4.1, q4.2)
/-- reticule/cbw.begins -/
noncomputable def cbw_begins (x : (List (BitVec 8)) × Int × (BitVec 64)) : Option Bool :=
  (number_Little (x.1, 0, 4)).bind fun r1 =>
  (bif r1.2 then
      some (decide ((x.1.length : Int) = x.2.1))
    else
      some false : Option Bool).bind fun b2 =>
  (bif b2 then
      some (decide (r1.1 = x.2.2))
    else
      some false : Option Bool).bind fun b3 =>
  some b3
/-- reticule/cbw.Valid -/
noncomputable def cbw_Valid (x : (List (BitVec 8))) : Option Bool :=
  (cbw_begins (x, 31, 1128420181#64)).bind fun r1 =>
  some r1
/-- reticule/cbw.word -/
noncomputable def cbw_word (x : (List (BitVec 8)) × Int) : Option (BitVec 32) :=
  (number_Little (x.1, x.2, 4)).bind fun r1 =>
  some (r1.1.setWidth 32)
/-- bytes.Clone -/
noncomputable def bytes_Clone (x : (List (BitVec 8))) : Option (List (BitVec 8)) :=
  bif List.isEmpty x then
    both (some ([] : List (BitVec 8))) ((chk (decide (([] : List (BitVec 8)).length + x.length ≤ lim))).bind fun _ =>
      some (([] : List (BitVec 8)) ++ x))
  else
    (chk (decide (([] : List (BitVec 8)).length + x.length ≤ lim))).bind fun _ =>
    some (([] : List (BitVec 8)) ++ x)
/-- reticule/cbw.Read -/
noncomputable def cbw_Read (x : (List (BitVec 8)) × Int) : Option ((BitVec 32 × (BitVec 32 × (Bool × (Int × (List (BitVec 8) × Unit))))) × Bool) :=
  (cbw_Valid x.1).bind fun r1 =>
  bif !r1 then
    some ((0#32, 0#32, false, 0, ([] : List (BitVec 8)), ()), false)
  else
    (ix x.1 12).bind fun x2 =>
    (ix x.1 13).bind fun x3 =>
    (ix x.1 14).bind fun x4 =>
    (bif !decide ((x2 &&& ~~~(128#8)) = (0#8)) then
        some true
      else
        some (!decide ((shrI (x3.toNat : Int) (((4#64).toNat : Int) : Int).toNat) = 0)) : Option Bool).bind fun b5 =>
    (bif b5 then
        some true
      else
        some (decide (x.2 ≤ (x3.toNat : Int))) : Option Bool).bind fun b6 =>
    (bif b6 then
        some true
      else
        some (decide ((x4.toNat : Int) < 1)) : Option Bool).bind fun b7 =>
    (bif b7 then
        some true
      else
        some (decide (16 < (x4.toNat : Int))) : Option Bool).bind fun b8 =>
    bif b8 then
      some ((0#32, 0#32, false, 0, ([] : List (BitVec 8)), ()), false)
    else
      (cbw_word (x.1, 4)).bind fun r9 =>
      (cbw_word (x.1, 8)).bind fun r10 =>
      (chk (decide (0 ≤ (15 : Int)) && decide ((15 : Int) ≤ (w64 ((15 : Int) + (x4.toNat : Int)) : Int)) && decide ((w64 ((15 : Int) + (x4.toNat : Int)) : Int) ≤ (x.1.length : Int)))).bind fun _ =>
      (bytes_Clone (slc x.1 (15 : Int) (w64 ((15 : Int) + (x4.toNat : Int)) : Int))).bind fun r11 =>
      some ((r9, r10, decide (x2 = (128#8)), (x3.toNat : Int), r11, ()), true)
/-- reticule/cbw.Status -/
noncomputable def cbw_Status (x : (BitVec 32 × (BitVec 32 × (Int × Unit)))) : Option (List (BitVec 8)) :=
  (cbw_put (1396855637#32)).bind fun r1 =>
  (cbw_put x.1).bind fun r2 =>
  (cbw_put x.2.1).bind fun r3 =>
  (slices_Concat_byte ([r1, r2, r3, ([BitVec.ofInt 8 x.2.2.1] : List (BitVec 8))] : List (List (BitVec 8)))).bind fun r4 =>
  some r4
/-- reticule/cbw.ReadStatus -/
noncomputable def cbw_ReadStatus (x : (List (BitVec 8))) : Option ((BitVec 32 × (BitVec 32 × (Int × Unit))) × Bool) :=
  (cbw_begins (x, 13, 1396855637#64)).bind fun r1 =>
  (bif !r1 then
      some true
    else
      (ix x 12).bind fun x2 =>
      some (decide ((2#8) < x2)) : Option Bool).bind fun b3 =>
  bif b3 then
    some ((0#32, 0#32, 0, ()), false)
  else
    (cbw_word (x, 4)).bind fun r4 =>
    (cbw_word (x, 8)).bind fun r5 =>
    (ix x 12).bind fun x6 =>
    some ((r4, r5, (x6.toNat : Int), ()), true)
/-- bytes.Equal -/
noncomputable def bytes_Equal (x : (List (BitVec 8)) × (List (BitVec 8))) : Option Bool :=
  (chk (decide (x.1.length ≤ lim))).bind fun _ =>
  (chk (decide (x.2.length ≤ lim))).bind fun _ =>
  some (decide (x.1 = x.2))
/-- reticule/cbw.Same -/
noncomputable def cbw_Same (x : (BitVec 32 × (BitVec 32 × (Bool × (Int × (List (BitVec 8) × Unit))))) × (BitVec 32 × (BitVec 32 × (Bool × (Int × (List (BitVec 8) × Unit)))))) : Option Bool :=
  (bif decide (x.1.1 = x.2.1) then
      some (decide (x.1.2.1 = x.2.2.1))
    else
      some false : Option Bool).bind fun b1 =>
  (bif b1 then
      some (decide (x.1.2.2.1 = x.2.2.2.1))
    else
      some false : Option Bool).bind fun b2 =>
  (bif b2 then
      some (decide (x.1.2.2.2.1 = x.2.2.2.2.1))
    else
      some false : Option Bool).bind fun b3 =>
  (bif b3 then
      (bytes_Equal (x.1.2.2.2.2.1, x.2.2.2.2.2.1)).bind fun r4 =>
      some r4
    else
      some false : Option Bool).bind fun b5 =>
  some b5
/-- reticule/reticuleref19.Same -/
noncomputable def reticuleref19_Same (x : (BitVec 32 × (BitVec 32 × (Bool × (Int × (List (BitVec 8) × Unit))))) × (BitVec 32 × (BitVec 32 × (Bool × (Int × (List (BitVec 8) × Unit)))))) : Option Bool :=
  (bif decide (x.1.1 = x.2.1) then
      some (decide (x.1.2.1 = x.2.2.1))
    else
      some false : Option Bool).bind fun b1 =>
  (bif b1 then
      some (decide (x.1.2.2.1 = x.2.2.2.1))
    else
      some false : Option Bool).bind fun b2 =>
  (bif b2 then
      some (decide (x.1.2.2.2.1 = x.2.2.2.2.1))
    else
      some false : Option Bool).bind fun b3 =>
  (bif b3 then
      (chk (decide (x.1.2.2.2.2.1.length ≤ lim))).bind fun _ =>
      (chk (decide (x.2.2.2.2.2.1.length ≤ lim))).bind fun _ =>
      some (decide (x.1.2.2.2.2.1 = x.2.2.2.2.2.1))
    else
      some false : Option Bool).bind fun b4 =>
  some b4
/-- reticule/reticulelaw19.alive -/
noncomputable def reticulelaw19_alive (x : Unit) : Option Bool :=
  (cbw_Bytes (258#32, 36#32, true, 1, ([18#8, 0#8, 0#8, 0#8, 36#8, 0#8] : List (BitVec 8)), ())).bind fun r1 =>
  (cbw_Read (r1.1, 2)).bind fun r2 =>
  (cbw_Read (r1.1, 1)).bind fun r3 =>
  (cbw_Status (258#32, 7#32, 1, ())).bind fun r4 =>
  (cbw_ReadStatus r4).bind fun r5 =>
  (chk (decide (0 ≤ (w64 ((r4.length : Int).tdiv 2) : Int)) && decide ((w64 ((r4.length : Int).tdiv 2) : Int) ≤ (r4.length : Int)))).bind fun _ =>
  (cbw_ReadStatus (r4.take (w64 ((r4.length : Int).tdiv 2) : Int).toNat)).bind fun r6 =>
  (bif !r1.2 then
      some true
    else
      some (!r2.2) : Option Bool).bind fun b7 =>
  (bif b7 then
      some true
    else
      some r3.2 : Option Bool).bind fun b8 =>
  (bif b8 then
      some true
    else
      some r6.2 : Option Bool).bind fun b9 =>
  (bif b9 then
      some true
    else
      some (!r5.2) : Option Bool).bind fun b10 =>
  (bif b10 then
      some true
    else
      some (!decide ((r1.1.length : Int) = 31)) : Option Bool).bind fun b11 =>
  (bif b11 then
      some true
    else
      some (!decide ((r4.length : Int) = 13)) : Option Bool).bind fun b12 =>
  bif b12 then
    some false
  else
    (cbw_Valid r1.1).bind fun r13 =>
    (bif r13 then
        (cbw_Valid r4).bind fun r14 =>
        some (!r14)
      else
        some false : Option Bool).bind fun b15 =>
    (bif b15 then
        (cbw_Same ((258#32, 36#32, true, 1, ([18#8, 0#8, 0#8, 0#8, 36#8, 0#8] : List (BitVec 8)), ()), r2.1)).bind fun r16 =>
        some r16
      else
        some false : Option Bool).bind fun b17 =>
    (bif b17 then
        (reticuleref19_Same ((258#32, 36#32, true, 1, ([18#8, 0#8, 0#8, 0#8, 36#8, 0#8] : List (BitVec 8)), ()), r2.1)).bind fun r18 =>
        some r18
      else
        some false : Option Bool).bind fun b19 =>
    (bif b19 then
        (ix r1.1 4).bind fun x20 =>
        some (decide (x20 = (2#8)))
      else
        some false : Option Bool).bind fun b21 =>
    (bif b21 then
        (ix r1.1 5).bind fun x22 =>
        some (decide (x22 = (1#8)))
      else
        some false : Option Bool).bind fun b23 =>
    (bif b23 then
        (ix r1.1 14).bind fun x24 =>
        some (decide (x24 = (6#8)))
      else
        some false : Option Bool).bind fun b25 =>
    (bif b25 then
        (chk (decide (0 ≤ (4 : Int)) && decide ((4 : Int) ≤ (r4.length : Int)))).bind fun _ =>
        (chk (decide ((r4.take (4 : Int).toNat).length ≤ lim))).bind fun _ =>
        some (decide ((r4.take (4 : Int).toNat) = ([85#8, 83#8, 66#8, 83#8] : List (BitVec 8))))
      else
        some false : Option Bool).bind fun b26 =>
    (bif b26 then
        some ((decide (r5.1.1 = (258#32))) && ((decide (r5.1.2.1 = (7#32))) && ((decide (r5.1.2.2.1 = 1)) && true)))
      else
        some false : Option Bool).bind fun b27 =>
    some b27
/-- reticule/reticuleref19.Valid -/
noncomputable def reticuleref19_Valid (x : (List (BitVec 8))) : Option Bool :=
  (bif decide ((x.length : Int) = 31) then
      (chk (decide (0 ≤ (4 : Int)) && decide ((4 : Int) ≤ (x.length : Int)))).bind fun _ =>
      (chk (decide ((x.take (4 : Int).toNat).length ≤ lim))).bind fun _ =>
      some (decide ((x.take (4 : Int).toNat) = ([85#8, 83#8, 66#8, 67#8] : List (BitVec 8))))
    else
      some false : Option Bool).bind fun b1 =>
  some b1
/-- reticule/reticuleref01.Little -/
noncomputable def reticuleref01_Little_L0 : Nat → ((List (BitVec 8)) × Int × (BitVec 64) × Int) → Option ((BitVec 64) ⊕ ((BitVec 64) × Bool))
  | 0, _ => none
  | n + 1, j =>
  bif decide (0 ≤ j.2.2.2) then
      (ix j.1 (w64 (j.2.1 + j.2.2.2))).bind fun x5 =>
      reticuleref01_Little_L0 n (j.1, j.2.1, (j.2.2.1 * (256#64)) + (x5.setWidth 64), w64 (j.2.2.2 - 1))
    else
      some (Sum.inl j.2.2.1)
noncomputable def reticuleref01_Little (x : (List (BitVec 8)) × Int × Int) : Option ((BitVec 64) × Bool) :=
  (bif decide (x.2.2 < 1) then
      some true
    else
      some (decide (8 < x.2.2)) : Option Bool).bind fun b1 =>
  (bif b1 then
      some true
    else
      some (decide (x.2.1 < 0)) : Option Bool).bind fun b2 =>
  (bif b2 then
      some true
    else
      some (decide ((x.1.length : Int) < x.2.2)) : Option Bool).bind fun b3 =>
  (bif b3 then
      some true
    else
      some (decide ((w64 ((x.1.length : Int) - x.2.2)) < x.2.1)) : Option Bool).bind fun b4 =>
  bif b4 then
    some (0#64, false)
  else
    jn (A := (BitVec 64)) (R := ((BitVec 64) × Bool)) (reticuleref01_Little_L0 Big (x.1, x.2.1, 0#64, w64 (x.2.2 - 1))) fun q6 =>
    some (q6, true)
/-- reticule/reticuleref19.four -/
noncomputable def reticuleref19_four (x : (List (BitVec 8)) × Int) : Option (BitVec 32) :=
  (reticuleref01_Little (x.1, x.2, 4)).bind fun r1 =>
  some (r1.1.setWidth 32)
/-- reticule/reticuleref19.Read -/
noncomputable def reticuleref19_Read (x : (List (BitVec 8)) × Int) : Option ((BitVec 32 × (BitVec 32 × (Bool × (Int × (List (BitVec 8) × Unit))))) × Bool) :=
  (reticuleref19_Valid x.1).bind fun r1 =>
  (bif !r1 then
      some true
    else
      (ix x.1 12).bind fun x2 =>
      (bif !decide (x2 = (0#8)) then
          (ix x.1 12).bind fun x3 =>
          some (!decide (x3 = (128#8)))
        else
          some false : Option Bool).bind fun b4 =>
      some b4 : Option Bool).bind fun b5 =>
  (bif b5 then
      some true
    else
      (ix x.1 13).bind fun x6 =>
      some (decide ((15#8) < x6)) : Option Bool).bind fun b7 =>
  (bif b7 then
      some true
    else
      (ix x.1 13).bind fun x8 =>
      some (decide (x.2 ≤ (x8.toNat : Int))) : Option Bool).bind fun b9 =>
  (bif b9 then
      some true
    else
      (ix x.1 14).bind fun x10 =>
      some (decide (x10 < (1#8))) : Option Bool).bind fun b11 =>
  (bif b11 then
      some true
    else
      (ix x.1 14).bind fun x12 =>
      some (decide ((16#8) < x12)) : Option Bool).bind fun b13 =>
  bif b13 then
    some ((0#32, 0#32, false, 0, ([] : List (BitVec 8)), ()), false)
  else
    (reticuleref19_four (x.1, 4)).bind fun r14 =>
    (reticuleref19_four (x.1, 8)).bind fun r15 =>
    (ix x.1 12).bind fun x16 =>
    (ix x.1 13).bind fun x17 =>
    (ix x.1 14).bind fun x18 =>
    (chk (decide (0 ≤ (15 : Int)) && decide ((15 : Int) ≤ (w64 ((15 : Int) + (x18.toNat : Int)) : Int)) && decide ((w64 ((15 : Int) + (x18.toNat : Int)) : Int) ≤ (x.1.length : Int)))).bind fun _ =>
    (chk (decide (([] : List (BitVec 8)).length + (slc x.1 (15 : Int) (w64 ((15 : Int) + (x18.toNat : Int)) : Int)).length ≤ lim))).bind fun _ =>
    some ((r14, r15, decide (x16 = (128#8)), (x17.toNat : Int), ([] : List (BitVec 8)) ++ (slc x.1 (15 : Int) (w64 ((15 : Int) + (x18.toNat : Int)) : Int)), ()), true)
/-- reticule/reticulelaw19.CbwReads -/
noncomputable def reticulelaw19_CbwReads (x : (List (BitVec 8)) × Int) : Option Bool :=
  (reticulelaw19_alive ()).bind fun r1 =>
  bif !r1 then
    some false
  else
    bif decide (200 < (x.1.length : Int)) then
      some true
    else
      (cbw_Read (x.1, x.2)).bind fun r2 =>
      (reticuleref19_Read (x.1, x.2)).bind fun r3 =>
      (reticuleref19_Same (r2.1, r3.1)).bind fun r4 =>
      (bif r4 then
          some (decide (r2.2 = r3.2))
        else
          some false : Option Bool).bind fun b5 =>
      (bif b5 then
          (cbw_Valid x.1).bind fun r6 =>
          (reticuleref19_Valid x.1).bind fun r7 =>
          some (decide (r6 = r7))
        else
          some false : Option Bool).bind fun b8 =>
      some b8
/-- reticule/reticuleref01.PutLittle -/
noncomputable def reticuleref01_PutLittle_L0 : Nat → ((BitVec 64) × Int × (List (BitVec 8)) × Int) → Option ((List (BitVec 8)) ⊕ (List (BitVec 8)))
  | 0, _ => none
  | n + 1, j =>
  bif decide (j.2.2.2 < j.2.1) then
      (chk (inLen j.2.2.2 j.2.2.1.length)).bind fun _ =>
      reticuleref01_PutLittle_L0 n (j.1 / (256#64), j.2.1, j.2.2.1.set (j.2.2.2 : Int).toNat ((j.1 % (256#64)).setWidth 8), w64 (j.2.2.2 + 1))
    else
      some (Sum.inl j.2.2.1)
noncomputable def reticuleref01_PutLittle (x : (BitVec 64) × Int) : Option (List (BitVec 8)) :=
  (bif decide (x.2 < 1) then
      some true
    else
      some (decide (8 < x.2)) : Option Bool).bind fun b1 =>
  bif b1 then
    some ([] : List (BitVec 8))
  else
    (chk (decide (0 ≤ x.2) && decide (x.2 ≤ x.2) && decide (x.2 ≤ (lim : Int)))).bind fun _ =>
    jn (A := (List (BitVec 8))) (R := (List (BitVec 8))) (reticuleref01_PutLittle_L0 Big (x.1, x.2, List.replicate (x.2 : Int).toNat (0#8), 0)) fun q2 =>
    some q2
/-- reticule/reticuleref19.Bytes -/
noncomputable def reticuleref19_Bytes_L0 : Nat → ((List (BitVec 8)) × Int) → Option ((List (BitVec 8)) ⊕ ((List (BitVec 8)) × Bool))
  | 0, _ => none
  | n + 1, j =>
  (bif decide (j.2 < 16) then
        some (decide ((j.1.length : Int) < 31))
      else
        some false : Option Bool).bind fun b7 =>
    bif b7 then
      (chk (decide (j.1.length + ([0#8] : List (BitVec 8)).length ≤ lim))).bind fun _ =>
      reticuleref19_Bytes_L0 n (j.1 ++ ([0#8] : List (BitVec 8)), w64 (j.2 + 1))
    else
      some (Sum.inl j.1)
noncomputable def reticuleref19_Bytes (x : (BitVec 32 × (BitVec 32 × (Bool × (Int × (List (BitVec 8) × Unit)))))) : Option ((List (BitVec 8)) × Bool) :=
  (bif decide (x.2.2.2.1 < 0) then
      some true
    else
      some (decide (15 < x.2.2.2.1)) : Option Bool).bind fun b1 =>
  (bif b1 then
      some true
    else
      some (decide ((x.2.2.2.2.1.length : Int) < 1)) : Option Bool).bind fun b2 =>
  (bif b2 then
      some true
    else
      some (decide (16 < (x.2.2.2.2.1.length : Int))) : Option Bool).bind fun b3 =>
  bif b3 then
    some (([] : List (BitVec 8)), false)
  else
    (chk (decide (0 < ([85#8, 83#8, 66#8, 67#8] : List (BitVec 8)).length))).bind fun _ =>
    (reticuleref01_PutLittle (x.1.setWidth 64, 4)).bind fun r4 =>
    (chk (decide (([85#8, 83#8, 66#8, 67#8] : List (BitVec 8)).length + r4.length ≤ lim))).bind fun _ =>
    (reticuleref01_PutLittle (x.2.1.setWidth 64, 4)).bind fun r5 =>
    (chk (decide ((([85#8, 83#8, 66#8, 67#8] : List (BitVec 8)) ++ r4).length + r5.length ≤ lim))).bind fun _ =>
    jn (A := ((BitVec 32 × (BitVec 32 × (Bool × (Int × (List (BitVec 8) × Unit))))) × (List (BitVec 8)) × (BitVec 8))) (R := ((List (BitVec 8)) × Bool)) (bif x.2.2.1 then
        some (Sum.inl (x, (([85#8, 83#8, 66#8, 67#8] : List (BitVec 8)) ++ r4) ++ r5, 128#8))
      else
        some (Sum.inl (x, (([85#8, 83#8, 66#8, 67#8] : List (BitVec 8)) ++ r4) ++ r5, 0#8))) fun j6 =>
    (chk (decide (j6.2.1.length + ([j6.2.2, BitVec.ofInt 8 j6.1.2.2.2.1, BitVec.ofInt 8 (j6.1.2.2.2.2.1.length : Int)] : List (BitVec 8)).length ≤ lim))).bind fun _ =>
    (chk (decide ((j6.2.1 ++ ([j6.2.2, BitVec.ofInt 8 j6.1.2.2.2.1, BitVec.ofInt 8 (j6.1.2.2.2.2.1.length : Int)] : List (BitVec 8))).length + j6.1.2.2.2.2.1.length ≤ lim))).bind fun _ =>
    jn (A := (List (BitVec 8))) (R := ((List (BitVec 8)) × Bool)) (reticuleref19_Bytes_L0 Big ((j6.2.1 ++ ([j6.2.2, BitVec.ofInt 8 j6.1.2.2.2.1, BitVec.ofInt 8 (j6.1.2.2.2.2.1.length : Int)] : List (BitVec 8))) ++ j6.1.2.2.2.2.1, 0)) fun q8 =>
    some (q8, true)
/-- reticule/reticulelaw19.CbwWrites -/
noncomputable def reticulelaw19_CbwWrites (x : (BitVec 32 × (BitVec 32 × (Bool × (Int × (List (BitVec 8) × Unit))))) × (BitVec 32 × (BitVec 32 × (Bool × (Int × (List (BitVec 8) × Unit)))))) : Option Bool :=
  (reticulelaw19_alive ()).bind fun r1 =>
  bif !r1 then
    some false
  else
    (bif decide (100 < (x.1.2.2.2.2.1.length : Int)) then
        some true
      else
        some (decide (100 < (x.2.2.2.2.2.1.length : Int))) : Option Bool).bind fun b2 =>
    bif b2 then
      some true
    else
      (cbw_Bytes x.1).bind fun r3 =>
      (reticuleref19_Bytes x.1).bind fun r4 =>
      (chk (decide (r3.1.length ≤ lim))).bind fun _ =>
      (chk (decide (r4.1.length ≤ lim))).bind fun _ =>
      (bif decide (r3.1 = r4.1) then
          some (decide (r3.2 = r4.2))
        else
          some false : Option Bool).bind fun b5 =>
      (bif b5 then
          (cbw_Same (x.1, x.2)).bind fun r6 =>
          (reticuleref19_Same (x.1, x.2)).bind fun r7 =>
          some (decide (r6 = r7))
        else
          some false : Option Bool).bind fun b8 =>
      (bif b8 then
          (cbw_Same (x.1, x.1)).bind fun r9 =>
          some r9
        else
          some false : Option Bool).bind fun b10 =>
      some b10
/-- reticule/reticuleref19.ReadStatus -/
noncomputable def reticuleref19_ReadStatus (x : (List (BitVec 8))) : Option ((BitVec 32 × (BitVec 32 × (Int × Unit))) × Bool) :=
  (bif !decide ((x.length : Int) = 13) then
      some true
    else
      (chk (decide (0 ≤ (4 : Int)) && decide ((4 : Int) ≤ (x.length : Int)))).bind fun _ =>
      (chk (decide ((x.take (4 : Int).toNat).length ≤ lim))).bind fun _ =>
      some (!(decide ((x.take (4 : Int).toNat) = ([85#8, 83#8, 66#8, 83#8] : List (BitVec 8))))) : Option Bool).bind fun b1 =>
  (bif b1 then
      some true
    else
      (ix x 12).bind fun x2 =>
      some (decide ((2#8) < x2)) : Option Bool).bind fun b3 =>
  bif b3 then
    some ((0#32, 0#32, 0, ()), false)
  else
    (reticuleref19_four (x, 4)).bind fun r4 =>
    (reticuleref19_four (x, 8)).bind fun r5 =>
    (ix x 12).bind fun x6 =>
    some ((r4, r5, (x6.toNat : Int), ()), true)
/-- reticule/reticuleref19.Status -/
noncomputable def reticuleref19_Status (x : (BitVec 32 × (BitVec 32 × (Int × Unit)))) : Option (List (BitVec 8)) :=
  (chk (decide (0 < ([85#8, 83#8, 66#8, 83#8] : List (BitVec 8)).length))).bind fun _ =>
  (reticuleref01_PutLittle (x.1.setWidth 64, 4)).bind fun r1 =>
  (chk (decide (([85#8, 83#8, 66#8, 83#8] : List (BitVec 8)).length + r1.length ≤ lim))).bind fun _ =>
  (reticuleref01_PutLittle (x.2.1.setWidth 64, 4)).bind fun r2 =>
  (chk (decide ((([85#8, 83#8, 66#8, 83#8] : List (BitVec 8)) ++ r1).length + r2.length ≤ lim))).bind fun _ =>
  (chk (decide (((([85#8, 83#8, 66#8, 83#8] : List (BitVec 8)) ++ r1) ++ r2).length + ([BitVec.ofInt 8 (BitVec.toInt (BitVec.ofInt 64 x.2.2.1 &&& BitVec.ofInt 64 255))] : List (BitVec 8)).length ≤ lim))).bind fun _ =>
  some (((([85#8, 83#8, 66#8, 83#8] : List (BitVec 8)) ++ r1) ++ r2) ++ ([BitVec.ofInt 8 (BitVec.toInt (BitVec.ofInt 64 x.2.2.1 &&& BitVec.ofInt 64 255))] : List (BitVec 8)))
/-- reticule/reticulelaw19.CbwStatus -/
noncomputable def reticulelaw19_CbwStatus (x : (BitVec 32 × (BitVec 32 × (Int × Unit))) × (List (BitVec 8))) : Option Bool :=
  (reticulelaw19_alive ()).bind fun r1 =>
  bif !r1 then
    some false
  else
    bif decide (200 < (x.2.length : Int)) then
      some true
    else
      (cbw_ReadStatus x.2).bind fun r2 =>
      (reticuleref19_ReadStatus x.2).bind fun r3 =>
      (cbw_Status x.1).bind fun r4 =>
      (chk (decide (r4.length ≤ lim))).bind fun _ =>
      (reticuleref19_Status x.1).bind fun r5 =>
      (chk (decide (r5.length ≤ lim))).bind fun _ =>
      (bif decide (r4 = r5) then
          some ((decide (r2.1.1 = r3.1.1)) && ((decide (r2.1.2.1 = r3.1.2.1)) && ((decide (r2.1.2.2.1 = r3.1.2.2.1)) && true)))
        else
          some false : Option Bool).bind fun b6 =>
      (bif b6 then
          some (decide (r2.2 = r3.2))
        else
          some false : Option Bool).bind fun b7 =>
      some b7
/-- reticule/reticulelaw19.CbwBack -/
noncomputable def reticulelaw19_CbwBack (x : (BitVec 32 × (BitVec 32 × (Bool × (Int × (List (BitVec 8) × Unit))))) × (BitVec 32 × (BitVec 32 × (Int × Unit))) × Int) : Option Bool :=
  (reticulelaw19_alive ()).bind fun r1 =>
  bif !r1 then
    some false
  else
    bif decide (100 < (x.1.2.2.2.2.1.length : Int)) then
      some true
    else
      (cbw_Bytes x.1).bind fun r2 =>
      jn (A := (BitVec 32 × (BitVec 32 × (Int × Unit)))) (R := Bool) (bif r2.2 then
          (cbw_Read (r2.1, x.2.2)).bind fun r3 =>
          (bif !(decide (r3.2 = (decide (x.1.2.2.2.1 < x.2.2)))) then
              some true
            else
              (bif r3.2 then
                  (reticuleref19_Same (x.1, r3.1)).bind fun r4 =>
                  some (!r4)
                else
                  some false : Option Bool).bind fun b5 =>
              some b5 : Option Bool).bind fun b6 =>
          bif b6 then
            some (Sum.inr false)
          else
            some (Sum.inl x.2.1)
        else
          some (Sum.inl x.2.1)) fun j7 =>
      (cbw_Status j7).bind fun r8 =>
      (cbw_ReadStatus r8).bind fun r9 =>
      (bif decide (0 ≤ j7.2.2.1) then
          some (decide (j7.2.2.1 ≤ 2))
        else
          some false : Option Bool).bind fun b10 =>
      bif b10 then
        (bif r9.2 then
            some ((decide (r9.1.1 = j7.1)) && ((decide (r9.1.2.1 = j7.2.1)) && ((decide (r9.1.2.2.1 = j7.2.2.1)) && true)))
          else
            some false : Option Bool).bind fun b11 =>
        some b11
      else
        (bif !r9.2 then
            some true
          else
            (bif decide (r9.1.1 = j7.1) then
                some (decide (r9.1.2.1 = j7.2.1))
              else
                some false : Option Bool).bind fun b12 =>
            (bif b12 then
                some (decide (r9.1.2.2.1 = (BitVec.toInt (BitVec.ofInt 64 j7.2.2.1 &&& BitVec.ofInt 64 255))))
              else
                some false : Option Bool).bind fun b13 =>
            some b13 : Option Bool).bind fun b14 =>
        some b14
/-- reticule/reticuleref01.Join -/
noncomputable def reticuleref01_Join (x : (List (BitVec 8)) × (List (BitVec 8))) : Option (List (BitVec 8)) :=
  (chk (decide (([] : List (BitVec 8)).length + x.1.length ≤ lim))).bind fun _ =>
  (chk (decide ((([] : List (BitVec 8)) ++ x.1).length + x.2.length ≤ lim))).bind fun _ =>
  some ((([] : List (BitVec 8)) ++ x.1) ++ x.2)
/-- reticule/reticulelaw19.CbwTurned -/
noncomputable def reticulelaw19_CbwTurned (x : (BitVec 32 × (BitVec 32 × (Bool × (Int × (List (BitVec 8) × Unit))))) × (BitVec 8) × (BitVec 8)) : Option Bool :=
  (reticulelaw19_alive ()).bind fun r1 =>
  bif !r1 then
    some false
  else
    (bif decide (100 < (x.1.2.2.2.2.1.length : Int)) then
        some true
      else
        some (decide (x.2.2 = (0#8))) : Option Bool).bind fun b2 =>
    bif b2 then
      some true
    else
      (cbw_Bytes x.1).bind fun r3 =>
      (bif !r3.2 then
          some true
        else
          some (!decide ((r3.1.length : Int) = 31)) : Option Bool).bind fun b4 =>
      bif b4 then
        (bif !r3.2 then
            some (decide ((r3.1.length : Int) = 0))
          else
            some false : Option Bool).bind fun b5 =>
        some b5
      else
        (reticuleref01_Join (r3.1, ([] : List (BitVec 8)))).bind fun r6 =>
        (chk (inLen ((x.2.1.toNat : Int).tmod 31) r6.length)).bind fun _ =>
        ((r6[((x.2.1.toNat : Int).tmod 31 : Int).toNat]?).bind fun y7 =>
          some y7).bind fun x8 =>
        (chk (inLen ((x.2.1.toNat : Int).tmod 31) r6.length)).bind fun _ =>
        (cbw_Read (r6.set ((x.2.1.toNat : Int).tmod 31 : Int).toNat (x8 ^^^ x.2.2), 16)).bind fun r9 =>
        bif decide ((w64 ((15 : Int) + (x.1.2.2.2.2.1.length : Int))) ≤ ((x.2.1.toNat : Int).tmod 31)) then
          (bif r9.2 then
              (reticuleref19_Same (x.1, r9.1)).bind fun r10 =>
              some r10
            else
              some false : Option Bool).bind fun b11 =>
          some b11
        else
          (bif !r9.2 then
              some true
            else
              (reticuleref19_Same (x.1, r9.1)).bind fun r12 =>
              some (!r12) : Option Bool).bind fun b13 =>
          some b13
end Go.Proofs.Ytkceolaolmfeaaa
