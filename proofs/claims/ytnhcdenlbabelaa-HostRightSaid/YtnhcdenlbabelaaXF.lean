/- The program's functions as plain ones. Printed by the session's own program. -/
import Derived.Test.YtnhcdenlbabelaaRfH
namespace Go.Proofs.Ytnhcdenlbabelaa
open Go Go.Re
set_option linter.unusedVariables false
set_option linter.unusedSimpArgs false
/-- reticule/setup.Right -/
noncomputable def setup_Right (x : (Int × (Int × (Int × (Int × (Int × Unit)))))) : Option Bool :=
  (bif decide (x.1 = ((BitVec.ofInt 8 x.1).toNat : Int)) then
      some (decide (x.2.1 = ((BitVec.ofInt 8 x.2.1).toNat : Int)))
    else
      some false : Option Bool).bind fun b1 =>
  (bif b1 then
      some (decide (x.2.2.1 = ((BitVec.ofInt 16 x.2.2.1).toNat : Int)))
    else
      some false : Option Bool).bind fun b2 =>
  (bif b2 then
      some (decide (x.2.2.2.1 = ((BitVec.ofInt 16 x.2.2.2.1).toNat : Int)))
    else
      some false : Option Bool).bind fun b3 =>
  (bif b3 then
      some (decide (x.2.2.2.2.1 = ((BitVec.ofInt 16 x.2.2.2.2.1).toNat : Int)))
    else
      some false : Option Bool).bind fun b4 =>
  some b4
/-- reticule/number.PutLittle -/
noncomputable def number_PutLittle_L0 : Nat → ((BitVec 64) × (List (BitVec 8)) × Int × Int) → Option ((List (BitVec 8)) ⊕ (List (BitVec 8)))
  | 0, _ => none
  | n + 1, j =>
  bif decide (j.2.2.2 < j.2.2.1) then
      (chk (decide (j.2.1.length + ([j.1.setWidth 8] : List (BitVec 8)).length ≤ lim))).bind fun _ =>
      number_PutLittle_L0 n (j.1 >>> (((8#64).toNat : Int) : Int).toNat, j.2.1 ++ ([j.1.setWidth 8] : List (BitVec 8)), j.2.2.1, w64 (j.2.2.2 + 1))
    else
      some (Sum.inl j.2.1)
noncomputable def number_PutLittle (x : (BitVec 64) × Int) : Option (List (BitVec 8)) :=
  (bif decide (x.2 < 1) then
      some true
    else
      some (decide (8 < x.2)) : Option Bool).bind fun b1 =>
  bif b1 then
    some ([] : List (BitVec 8))
  else
    jn (A := (List (BitVec 8))) (R := (List (BitVec 8))) (number_PutLittle_L0 Big (x.1, ([] : List (BitVec 8)), x.2, 0)) fun q2 =>
    some q2
/-- slices.Grow[[]byte,byte] -/
noncomputable def slices_Grow_byte (x : Unit × Int) : Option (List (BitVec 8)) :=
  bif decide (x.2 < 0) then
    none
  else
    jn (A := (List (BitVec 8))) (R := (List (BitVec 8))) (bif decide (0 < (w64 (x.2 - (w64 ((0 : Int) - (([] : List (BitVec 8)).length : Int)))))) then
        (chk (decide (0 ≤ (0 : Int)) && decide ((0 : Int) ≤ (0 : Int)))).bind fun _ =>
        (chk ((decide (0 ≤ (w64 (x.2 - (w64 ((0 : Int) - (([] : List (BitVec 8)).length : Int)))) : Int)) && decide ((w64 (x.2 - (w64 ((0 : Int) - (([] : List (BitVec 8)).length : Int)))) : Int) ≤ (lim : Int))) && decide ((List.replicate (w64 (x.2 - (w64 ((0 : Int) - (([] : List (BitVec 8)).length : Int)))) : Int).toNat (0#8)).length ≤ lim))).bind fun _ =>
        (chk (decide (0 ≤ ((([] : List (BitVec 8)).length : Int) : Int)) && decide (((([] : List (BitVec 8)).length : Int) : Int) ≤ ((List.replicate (w64 (x.2 - (w64 ((0 : Int) - (([] : List (BitVec 8)).length : Int)))) : Int).toNat (0#8)).length : Int)))).bind fun _ =>
        some (Sum.inl ((List.replicate (w64 (x.2 - (w64 ((0 : Int) - (([] : List (BitVec 8)).length : Int)))) : Int).toNat (0#8)).take ((([] : List (BitVec 8)).length : Int) : Int).toNat))
      else
        some (Sum.inl ([]))) fun j1 =>
    some j1
/-- slices.Concat[[]byte,byte] -/
noncomputable def slices_Concat_byte_L0 : Nat → ((List (List (BitVec 8))) × Int × (List (List (BitVec 8))) × Int × Int) → Option (((List (List (BitVec 8))) × Int) ⊕ (List (BitVec 8)))
  | 0, _ => none
  | n + 1, j =>
  bif decide (j.2.2.2.2 < j.2.2.2.1) then
      (ix j.2.2.1 j.2.2.2.2).bind fun x1 =>
      bif decide ((w64 (j.2.1 + (x1.length : Int))) < 0) then
        none
      else
        slices_Concat_byte_L0 n (j.1, w64 (j.2.1 + (x1.length : Int)), j.2.2.1, j.2.2.2.1, w64 (j.2.2.2.2 + 1))
    else
      some (Sum.inl (j.1, j.2.1))
noncomputable def slices_Concat_byte_L1 : Nat → ((List (BitVec 8)) × (List (List (BitVec 8))) × Int × Int) → Option ((List (BitVec 8)) ⊕ (List (BitVec 8)))
  | 0, _ => none
  | n + 1, j =>
  bif decide (j.2.2.2 < j.2.2.1) then
      (ix j.2.1 j.2.2.2).bind fun x4 =>
      (chk (decide (j.1.length + x4.length ≤ lim))).bind fun _ =>
      slices_Concat_byte_L1 n (j.1 ++ x4, j.2.1, j.2.2.1, w64 (j.2.2.2 + 1))
    else
      some (Sum.inl j.1)
noncomputable def slices_Concat_byte (x : (List (List (BitVec 8)))) : Option (List (BitVec 8)) :=
  jn (A := ((List (List (BitVec 8))) × Int)) (R := (List (BitVec 8))) (slices_Concat_byte_L0 Big (x, 0, x, (x.length : Int), 0)) fun q2 =>
  (slices_Grow_byte ((), q2.2)).bind fun r3 =>
  jn (A := (List (BitVec 8))) (R := (List (BitVec 8))) (slices_Concat_byte_L1 Big (r3, q2.1, (q2.1.length : Int), 0)) fun q5 =>
  some q5
/-- reticule/setup.Bytes -/
noncomputable def setup_Bytes_L0 : Nat → ((List (BitVec 8)) × (List Int) × Int) → Option ((List (BitVec 8)) ⊕ ((List (BitVec 8)) × Bool))
  | 0, _ => none
  | n + 1, j =>
  bif decide (j.2.2 < 3) then
      (ix j.2.1 j.2.2).bind fun x2 =>
      (number_PutLittle (BitVec.ofInt 64 x2, 2)).bind fun r3 =>
      (slices_Concat_byte ([j.1, r3] : List (List (BitVec 8)))).bind fun r4 =>
      setup_Bytes_L0 n (r4, j.2.1, w64 (j.2.2 + 1))
    else
      some (Sum.inl j.1)
noncomputable def setup_Bytes (x : (Int × (Int × (Int × (Int × (Int × Unit)))))) : Option ((List (BitVec 8)) × Bool) :=
  (setup_Right x).bind fun r1 =>
  bif !r1 then
    some (([] : List (BitVec 8)), false)
  else
    jn (A := (List (BitVec 8))) (R := ((List (BitVec 8)) × Bool)) (setup_Bytes_L0 Big (([BitVec.ofInt 8 x.1, BitVec.ofInt 8 x.2.1] : List (BitVec 8)), ([x.2.2.1, x.2.2.2.1, x.2.2.2.2.1] : List Int), 0)) fun q5 =>
    some (q5, true)
/-- reticule/number.mask -/
noncomputable def number_mask (x : Int × Int) : Option (BitVec 64) :=
  (bif decide (x.1 < 0) then
      some true
    else
      some (decide (x.2 < 1)) : Option Bool).bind fun b1 =>
  (bif b1 then
      some true
    else
      some (decide (64 < x.2)) : Option Bool).bind fun b2 =>
  (bif b2 then
      some true
    else
      some (decide ((w64 ((64 : Int) - x.2)) < x.1)) : Option Bool).bind fun b3 =>
  bif b3 then
    some (0#64)
  else
    (bif decide (0 ≤ (w64 ((64 : Int) - x.2) : Int)) then some ((18446744073709551615#64) >>> (w64 ((64 : Int) - x.2) : Int).toNat) else none).bind fun x4 =>
    (bif decide (0 ≤ (x.1 : Int)) then some (x4 <<< (x.1 : Int).toNat) else none).bind fun x5 =>
    some x5
/-- reticule/number.Bits -/
noncomputable def number_Bits (x : (BitVec 64) × Int × Int) : Option (BitVec 64) :=
  (number_mask (x.2.1, x.2.2)).bind fun r1 =>
  bif decide (r1 = (0#64)) then
    some (0#64)
  else
    (bif decide (0 ≤ (x.2.1 : Int)) then some ((x.1 &&& r1) >>> (x.2.1 : Int).toNat) else none).bind fun x2 =>
    some x2
/-- reticule/setup.kind -/
noncomputable def setup_kind (x : (Int × (Int × (Int × (Int × (Int × Unit))))) × Int × Int) : Option Int :=
  (setup_Right x.1).bind fun r1 =>
  bif !r1 then
    some 0
  else
    (number_Bits (BitVec.ofInt 64 x.1.1, x.2.1, x.2.2)).bind fun r2 =>
    some (w64 (r2.toNat : Int))
/-- reticule/setup.Dir -/
noncomputable def setup_Dir (x : (Int × (Int × (Int × (Int × (Int × Unit)))))) : Option Int :=
  (bif decide (x.2.2.2.2.1 = 0) then
      some true
    else
      (setup_Right x).bind fun r1 =>
      some (!r1) : Option Bool).bind fun b2 =>
  bif b2 then
    some 0
  else
    (setup_kind (x, 7, 1)).bind fun r3 =>
    bif decide (r3 = 1) then
      some 1
    else
      some 2
/-- reticule/host.Ask -/
noncomputable def host_Ask (x : Int × Int × Int) : Option (Int × (Int × (Int × (Int × (Int × (Bool × (Int × (BitVec 64 × (List (BitVec 8) × Unit))))))))) :=
  some (4, x.1, x.2.1, x.2.2, 0, true, 0, 0#64, ([] : List (BitVec 8)), ())
/-- reticule/host.packets -/
noncomputable def host_packets (x : Int) : Option Int :=
  some (w64 ((w64 ((w64 (x + 64)) - 1)).tdiv 64))
/-- math/bits.Mul32 -/
noncomputable def math_bits_Mul32 (x : (BitVec 32) × (BitVec 32)) : Option ((BitVec 32) × (BitVec 32)) :=
  some ((((x.1.setWidth 64) * (x.2.setWidth 64)) >>> (((32#64).toNat : Int) : Int).toNat).setWidth 32, ((x.1.setWidth 64) * (x.2.setWidth 64)).setWidth 32)
/-- math/bits.Mul64 -/
noncomputable def math_bits_Mul64 (x : (BitVec 64) × (BitVec 64)) : Option ((BitVec 64) × (BitVec 64)) :=
  some ((((x.1 >>> (((32#64).toNat : Int) : Int).toNat) * (x.2 >>> (((32#64).toNat : Int) : Int).toNat)) + ((((x.1 >>> (((32#64).toNat : Int) : Int).toNat) * (x.2 &&& (4294967295#64))) + (((x.1 &&& (4294967295#64)) * (x.2 &&& (4294967295#64))) >>> (((32#64).toNat : Int) : Int).toNat)) >>> (((32#64).toNat : Int) : Int).toNat)) + ((((((x.1 >>> (((32#64).toNat : Int) : Int).toNat) * (x.2 &&& (4294967295#64))) + (((x.1 &&& (4294967295#64)) * (x.2 &&& (4294967295#64))) >>> (((32#64).toNat : Int) : Int).toNat)) &&& (4294967295#64)) + ((x.1 &&& (4294967295#64)) * (x.2 >>> (((32#64).toNat : Int) : Int).toNat))) >>> (((32#64).toNat : Int) : Int).toNat), x.1 * x.2)
/-- math/bits.Mul -/
noncomputable def math_bits_Mul (x : (BitVec 64) × (BitVec 64)) : Option ((BitVec 64) × (BitVec 64)) :=
  (math_bits_Mul64 (x.1, x.2)).bind fun r1 =>
  some (r1.1, r1.2)
/-- slices.Repeat[[]reticule/api.Event,reticule/api.Event] -/
noncomputable def slices_Repeat_api_Event_L0 : Nat → ((List (Int × (Int × (Int × (Int × (Int × (Bool × (Int × (BitVec 64 × (List (BitVec 8) × Unit)))))))))) × Int) → Option ((List (Int × (Int × (Int × (Int × (Int × (Bool × (Int × (BitVec 64 × (List (BitVec 8) × Unit)))))))))) ⊕ (List (Int × (Int × (Int × (Int × (Int × (Bool × (Int × (BitVec 64 × (List (BitVec 8) × Unit)))))))))))
  | 0, _ => none
  | n + 1, j =>
  bif decide (j.2 < (j.1.length : Int)) then
      (chk (decide (0 ≤ (j.2 : Int)) && decide ((j.2 : Int) ≤ (j.1.length : Int)))).bind fun _ =>
      (chk (decide (0 ≤ (j.2 : Int)) && decide ((j.2 : Int) ≤ (j.1.length : Int)))).bind fun _ =>
      slices_Repeat_api_Event_L0 n (overAt (j.2 : Int).toNat j.1 (j.1.take (j.2 : Int).toNat), w64 (j.2 + ((min (j.1.take (j.2 : Int).toNat).length (j.1.length - (j.2 : Int).toNat) : Nat) : Int)))
    else
      some (Sum.inl j.1)
noncomputable def slices_Repeat_api_Event (x : (List (Int × (Int × (Int × (Int × (Int × (Bool × (Int × (BitVec 64 × (List (BitVec 8) × Unit)))))))))) × Int) : Option (List (Int × (Int × (Int × (Int × (Int × (Bool × (Int × (BitVec 64 × (List (BitVec 8) × Unit)))))))))) :=
  bif decide (x.2 < 0) then
    none
  else
    (math_bits_Mul (BitVec.ofInt 64 (x.1.length : Int), BitVec.ofInt 64 x.2)).bind fun r1 =>
    (bif decide ((0#64) < r1.1) then
        some true
      else
        some (decide ((9223372036854775807#64) < r1.2)) : Option Bool).bind fun b2 =>
    bif b2 then
      none
    else
      (chk (decide (0 ≤ (w64 (r1.2.toNat : Int))) && decide ((w64 (r1.2.toNat : Int)) ≤ (w64 (r1.2.toNat : Int))) && decide ((w64 (r1.2.toNat : Int)) ≤ (lim : Int)))).bind fun _ =>
      jn (A := (List (Int × (Int × (Int × (Int × (Int × (Bool × (Int × (BitVec 64 × (List (BitVec 8) × Unit))))))))))) (R := (List (Int × (Int × (Int × (Int × (Int × (Bool × (Int × (BitVec 64 × (List (BitVec 8) × Unit))))))))))) (slices_Repeat_api_Event_L0 Big (over (List.replicate (w64 (r1.2.toNat : Int)).toNat ((0, 0, 0, 0, 0, false, 0, 0#64, ([] : List (BitVec 8)), ()) : (Int × (Int × (Int × (Int × (Int × (Bool × (Int × (BitVec 64 × (List (BitVec 8) × Unit))))))))))) x.1, ((min x.1.length (List.replicate (w64 (r1.2.toNat : Int)).toNat ((0, 0, 0, 0, 0, false, 0, 0#64, ([] : List (BitVec 8)), ()) : (Int × (Int × (Int × (Int × (Int × (Bool × (Int × (BitVec 64 × (List (BitVec 8) × Unit))))))))))).length : Nat) : Int))) fun q3 =>
      some q3
/-- reticule/host.send -/
noncomputable def host_send (x : Int × Int × Int × (List (BitVec 8))) : Option (Int × (Int × (Int × (Int × (Int × (Bool × (Int × (BitVec 64 × (List (BitVec 8) × Unit))))))))) :=
  some (3, x.1, x.2.1, 0, x.2.2.1, false, 0, 0#64, x.2.2.2, ())
/-- reticule/host.Transfer -/
noncomputable def host_Transfer (x : Int × (Int × (Int × (Int × (Int × (Int × Unit)))))) : Option (List (Int × (Int × (Int × (Int × (Int × (Bool × (Int × (BitVec 64 × (List (BitVec 8) × Unit)))))))))) :=
  (setup_Bytes x.2).bind fun r1 =>
  bif !r1.2 then
    some ([] : List (Int × (Int × (Int × (Int × (Int × (Bool × (Int × (BitVec 64 × (List (BitVec 8) × Unit))))))))))
  else
    jn (A := (List (Int × (Int × (Int × (Int × (Int × (Bool × (Int × (BitVec 64 × (List (BitVec 8) × Unit))))))))))) (R := (List (Int × (Int × (Int × (Int × (Int × (Bool × (Int × (BitVec 64 × (List (BitVec 8) × Unit))))))))))) ((setup_Dir x.2).bind fun r2 =>
      bif decide (r2 = 0) then
        (host_Ask (x.1, 0, 0)).bind fun r3 =>
        (chk (decide (([(2, x.1, 0, 0, 0, false, 0, 0#64, r1.1, ())] : List (Int × (Int × (Int × (Int × (Int × (Bool × (Int × (BitVec 64 × (List (BitVec 8) × Unit)))))))))).length + ([r3] : List (Int × (Int × (Int × (Int × (Int × (Bool × (Int × (BitVec 64 × (List (BitVec 8) × Unit)))))))))).length ≤ lim))).bind fun _ =>
        some (Sum.inl (([(2, x.1, 0, 0, 0, false, 0, 0#64, r1.1, ())] : List (Int × (Int × (Int × (Int × (Int × (Bool × (Int × (BitVec 64 × (List (BitVec 8) × Unit)))))))))) ++ ([r3] : List (Int × (Int × (Int × (Int × (Int × (Bool × (Int × (BitVec 64 × (List (BitVec 8) × Unit))))))))))))
      else
        bif decide (r2 = 1) then
          (host_Ask (x.1, 0, 0)).bind fun r4 =>
          (host_packets x.2.2.2.2.2.1).bind fun r5 =>
          (slices_Repeat_api_Event (([r4] : List (Int × (Int × (Int × (Int × (Int × (Bool × (Int × (BitVec 64 × (List (BitVec 8) × Unit)))))))))), r5)).bind fun r6 =>
          (chk (decide (([(2, x.1, 0, 0, 0, false, 0, 0#64, r1.1, ())] : List (Int × (Int × (Int × (Int × (Int × (Bool × (Int × (BitVec 64 × (List (BitVec 8) × Unit)))))))))).length + r6.length ≤ lim))).bind fun _ =>
          (host_send (x.1, 0, 1, ([] : List (BitVec 8)))).bind fun r7 =>
          (chk (decide ((([(2, x.1, 0, 0, 0, false, 0, 0#64, r1.1, ())] : List (Int × (Int × (Int × (Int × (Int × (Bool × (Int × (BitVec 64 × (List (BitVec 8) × Unit)))))))))) ++ r6).length + ([r7] : List (Int × (Int × (Int × (Int × (Int × (Bool × (Int × (BitVec 64 × (List (BitVec 8) × Unit)))))))))).length ≤ lim))).bind fun _ =>
          some (Sum.inl ((([(2, x.1, 0, 0, 0, false, 0, 0#64, r1.1, ())] : List (Int × (Int × (Int × (Int × (Int × (Bool × (Int × (BitVec 64 × (List (BitVec 8) × Unit)))))))))) ++ r6) ++ ([r7] : List (Int × (Int × (Int × (Int × (Int × (Bool × (Int × (BitVec 64 × (List (BitVec 8) × Unit))))))))))))
        else
          some (Sum.inl ([(2, x.1, 0, 0, 0, false, 0, 0#64, r1.1, ())] : List (Int × (Int × (Int × (Int × (Int × (Bool × (Int × (BitVec 64 × (List (BitVec 8) × Unit)))))))))))) fun j8 =>
    some j8
/-- reticule/cbw.put -/
noncomputable def cbw_put (x : (BitVec 32)) : Option (List (BitVec 8)) :=
  (number_PutLittle (x.setWidth 64, 4)).bind fun r1 =>
  some r1
/-- reticule/cbw.Bytes -/
noncomputable def cbw_Bytes (x : (BitVec 32 × (BitVec 32 × (Bool × (Int × (List (BitVec 8) × Unit)))))) : Option ((List (BitVec 8)) × Bool) :=
  (bif decide (x.2.2.2.1 < 0) then
      some true
    else
      some (!decide ((shrI x.2.2.2.1 (((4#64).toNat : Int) : Int).toNat) = 0)) : Option Bool).bind fun b1 =>
  (bif b1 then
      some true
    else
      some (decide ((x.2.2.2.2.1.length : Int) < 1)) : Option Bool).bind fun b2 =>
  (bif b2 then
      some true
    else
      some (decide (16 < (x.2.2.2.2.1.length : Int))) : Option Bool).bind fun b3 =>
  bif b3 then
    some (([] : List (BitVec 8)), false)
  else
    jn (A := ((BitVec 32 × (BitVec 32 × (Bool × (Int × (List (BitVec 8) × Unit))))) × (List (BitVec 8)))) (R := ((List (BitVec 8)) × Bool)) (bif x.2.2.1 then
        (chk (inLen 0 3)).bind fun _ =>
        ((([0#8, BitVec.ofInt 8 x.2.2.2.1, BitVec.ofInt 8 (x.2.2.2.2.1.length : Int)] : List (BitVec 8))[(0 : Int).toNat]?).bind fun z4 =>
          some (([0#8, BitVec.ofInt 8 x.2.2.2.1, BitVec.ofInt 8 (x.2.2.2.2.1.length : Int)] : List (BitVec 8)).set (0 : Int).toNat (128#8))).bind fun x5 =>
        some (Sum.inl (x, x5))
      else
        some (Sum.inl (x, ([0#8, BitVec.ofInt 8 x.2.2.2.1, BitVec.ofInt 8 (x.2.2.2.2.1.length : Int)] : List (BitVec 8))))) fun j6 =>
    (cbw_put (1128420181#32)).bind fun r7 =>
    (cbw_put j6.1.1).bind fun r8 =>
    (cbw_put j6.1.2.1).bind fun r9 =>
    (chk (true)).bind fun _ =>
    (chk (decide (0 ≤ (w64 ((16 : Int) - (j6.1.2.2.2.2.1.length : Int)))) && decide ((w64 ((16 : Int) - (j6.1.2.2.2.2.1.length : Int))) ≤ (w64 ((16 : Int) - (j6.1.2.2.2.2.1.length : Int)))) && decide ((w64 ((16 : Int) - (j6.1.2.2.2.2.1.length : Int))) ≤ (lim : Int)))).bind fun _ =>
    (slices_Concat_byte ([r7, r8, r9, j6.2, j6.1.2.2.2.2.1, List.replicate (w64 ((16 : Int) - (j6.1.2.2.2.2.1.length : Int))).toNat (0#8)] : List (List (BitVec 8)))).bind fun r10 =>
    some (r10, true)
/-- reticule/host.Wrapper -/
noncomputable def host_Wrapper (x : Int × Int × (BitVec 32 × (BitVec 32 × (Bool × (Int × (List (BitVec 8) × Unit)))))) : Option ((Int × (Int × (Int × (Int × (Int × (Bool × (Int × (BitVec 64 × (List (BitVec 8) × Unit))))))))) × Bool) :=
  (cbw_Bytes x.2.2).bind fun r1 =>
  bif !r1.2 then
    some ((0, 0, 0, 0, 0, false, 0, 0#64, ([] : List (BitVec 8)), ()), false)
  else
    (host_send (x.1, 2, x.2.1, r1.1)).bind fun r2 =>
    some (r2, true)
/-- reticule/host.all -/
noncomputable def host_all_L0 : Nat → (Int × (List (Int × (Int × (Int × (Int × (Int × (Bool × (Int × (BitVec 64 × (List (BitVec 8) × Unit)))))))))) × (List (Int × (Int × (Int × (Int × (Int × Unit)))))) × Int × Int) → Option ((List (Int × (Int × (Int × (Int × (Int × (Bool × (Int × (BitVec 64 × (List (BitVec 8) × Unit)))))))))) ⊕ (List (Int × (Int × (Int × (Int × (Int × (Bool × (Int × (BitVec 64 × (List (BitVec 8) × Unit)))))))))))
  | 0, _ => none
  | n + 1, j =>
  bif decide (j.2.2.2.2 < j.2.2.2.1) then
      (ix j.2.2.1 j.2.2.2.2).bind fun x1 =>
      (host_Transfer (j.1, x1)).bind fun r2 =>
      (chk (decide (j.2.1.length + r2.length ≤ lim))).bind fun _ =>
      host_all_L0 n (j.1, j.2.1 ++ r2, j.2.2.1, j.2.2.2.1, w64 (j.2.2.2.2 + 1))
    else
      some (Sum.inl j.2.1)
noncomputable def host_all (x : Int × (List (Int × (Int × (Int × (Int × (Int × Unit))))))) : Option (List (Int × (Int × (Int × (Int × (Int × (Bool × (Int × (BitVec 64 × (List (BitVec 8) × Unit)))))))))) :=
  jn (A := (List (Int × (Int × (Int × (Int × (Int × (Bool × (Int × (BitVec 64 × (List (BitVec 8) × Unit))))))))))) (R := (List (Int × (Int × (Int × (Int × (Int × (Bool × (Int × (BitVec 64 × (List (BitVec 8) × Unit))))))))))) (host_all_L0 Big (x.1, ([] : List (Int × (Int × (Int × (Int × (Int × (Bool × (Int × (BitVec 64 × (List (BitVec 8) × Unit)))))))))), x.2, (x.2.length : Int), 0)) fun q3 =>
  some q3
/-- slices.Grow[[]reticule/api.Event,reticule/api.Event] -/
noncomputable def slices_Grow_api_Event (x : Unit × Int) : Option (List (Int × (Int × (Int × (Int × (Int × (Bool × (Int × (BitVec 64 × (List (BitVec 8) × Unit)))))))))) :=
  bif decide (x.2 < 0) then
    none
  else
    jn (A := (List (Int × (Int × (Int × (Int × (Int × (Bool × (Int × (BitVec 64 × (List (BitVec 8) × Unit))))))))))) (R := (List (Int × (Int × (Int × (Int × (Int × (Bool × (Int × (BitVec 64 × (List (BitVec 8) × Unit))))))))))) (bif decide (0 < (w64 (x.2 - (w64 ((0 : Int) - (([] : List (Int × (Int × (Int × (Int × (Int × (Bool × (Int × (BitVec 64 × (List (BitVec 8) × Unit)))))))))).length : Int)))))) then
        (chk (decide (0 ≤ (0 : Int)) && decide ((0 : Int) ≤ (0 : Int)))).bind fun _ =>
        (chk ((decide (0 ≤ (w64 (x.2 - (w64 ((0 : Int) - (([] : List (Int × (Int × (Int × (Int × (Int × (Bool × (Int × (BitVec 64 × (List (BitVec 8) × Unit)))))))))).length : Int)))) : Int)) && decide ((w64 (x.2 - (w64 ((0 : Int) - (([] : List (Int × (Int × (Int × (Int × (Int × (Bool × (Int × (BitVec 64 × (List (BitVec 8) × Unit)))))))))).length : Int)))) : Int) ≤ (lim : Int))) && decide ((List.replicate (w64 (x.2 - (w64 ((0 : Int) - (([] : List (Int × (Int × (Int × (Int × (Int × (Bool × (Int × (BitVec 64 × (List (BitVec 8) × Unit)))))))))).length : Int)))) : Int).toNat ((0, 0, 0, 0, 0, false, 0, 0#64, ([] : List (BitVec 8)), ()) : (Int × (Int × (Int × (Int × (Int × (Bool × (Int × (BitVec 64 × (List (BitVec 8) × Unit))))))))))).length ≤ lim))).bind fun _ =>
        (chk (decide (0 ≤ ((([] : List (Int × (Int × (Int × (Int × (Int × (Bool × (Int × (BitVec 64 × (List (BitVec 8) × Unit)))))))))).length : Int) : Int)) && decide (((([] : List (Int × (Int × (Int × (Int × (Int × (Bool × (Int × (BitVec 64 × (List (BitVec 8) × Unit)))))))))).length : Int) : Int) ≤ ((List.replicate (w64 (x.2 - (w64 ((0 : Int) - (([] : List (Int × (Int × (Int × (Int × (Int × (Bool × (Int × (BitVec 64 × (List (BitVec 8) × Unit)))))))))).length : Int)))) : Int).toNat ((0, 0, 0, 0, 0, false, 0, 0#64, ([] : List (BitVec 8)), ()) : (Int × (Int × (Int × (Int × (Int × (Bool × (Int × (BitVec 64 × (List (BitVec 8) × Unit))))))))))).length : Int)))).bind fun _ =>
        some (Sum.inl ((List.replicate (w64 (x.2 - (w64 ((0 : Int) - (([] : List (Int × (Int × (Int × (Int × (Int × (Bool × (Int × (BitVec 64 × (List (BitVec 8) × Unit)))))))))).length : Int)))) : Int).toNat ((0, 0, 0, 0, 0, false, 0, 0#64, ([] : List (BitVec 8)), ()) : (Int × (Int × (Int × (Int × (Int × (Bool × (Int × (BitVec 64 × (List (BitVec 8) × Unit))))))))))).take ((([] : List (Int × (Int × (Int × (Int × (Int × (Bool × (Int × (BitVec 64 × (List (BitVec 8) × Unit)))))))))).length : Int) : Int).toNat))
      else
        some (Sum.inl ([]))) fun j1 =>
    some j1
/-- slices.Concat[[]reticule/api.Event,reticule/api.Event] -/
noncomputable def slices_Concat_api_Event_L0 : Nat → ((List (List (Int × (Int × (Int × (Int × (Int × (Bool × (Int × (BitVec 64 × (List (BitVec 8) × Unit))))))))))) × Int × (List (List (Int × (Int × (Int × (Int × (Int × (Bool × (Int × (BitVec 64 × (List (BitVec 8) × Unit))))))))))) × Int × Int) → Option (((List (List (Int × (Int × (Int × (Int × (Int × (Bool × (Int × (BitVec 64 × (List (BitVec 8) × Unit))))))))))) × Int) ⊕ (List (Int × (Int × (Int × (Int × (Int × (Bool × (Int × (BitVec 64 × (List (BitVec 8) × Unit)))))))))))
  | 0, _ => none
  | n + 1, j =>
  bif decide (j.2.2.2.2 < j.2.2.2.1) then
      (ix j.2.2.1 j.2.2.2.2).bind fun x1 =>
      bif decide ((w64 (j.2.1 + (x1.length : Int))) < 0) then
        none
      else
        slices_Concat_api_Event_L0 n (j.1, w64 (j.2.1 + (x1.length : Int)), j.2.2.1, j.2.2.2.1, w64 (j.2.2.2.2 + 1))
    else
      some (Sum.inl (j.1, j.2.1))
noncomputable def slices_Concat_api_Event_L1 : Nat → ((List (Int × (Int × (Int × (Int × (Int × (Bool × (Int × (BitVec 64 × (List (BitVec 8) × Unit)))))))))) × (List (List (Int × (Int × (Int × (Int × (Int × (Bool × (Int × (BitVec 64 × (List (BitVec 8) × Unit))))))))))) × Int × Int) → Option ((List (Int × (Int × (Int × (Int × (Int × (Bool × (Int × (BitVec 64 × (List (BitVec 8) × Unit)))))))))) ⊕ (List (Int × (Int × (Int × (Int × (Int × (Bool × (Int × (BitVec 64 × (List (BitVec 8) × Unit)))))))))))
  | 0, _ => none
  | n + 1, j =>
  bif decide (j.2.2.2 < j.2.2.1) then
      (ix j.2.1 j.2.2.2).bind fun x4 =>
      (chk (decide (j.1.length + x4.length ≤ lim))).bind fun _ =>
      slices_Concat_api_Event_L1 n (j.1 ++ x4, j.2.1, j.2.2.1, w64 (j.2.2.2 + 1))
    else
      some (Sum.inl j.1)
noncomputable def slices_Concat_api_Event (x : (List (List (Int × (Int × (Int × (Int × (Int × (Bool × (Int × (BitVec 64 × (List (BitVec 8) × Unit)))))))))))) : Option (List (Int × (Int × (Int × (Int × (Int × (Bool × (Int × (BitVec 64 × (List (BitVec 8) × Unit)))))))))) :=
  jn (A := ((List (List (Int × (Int × (Int × (Int × (Int × (Bool × (Int × (BitVec 64 × (List (BitVec 8) × Unit))))))))))) × Int)) (R := (List (Int × (Int × (Int × (Int × (Int × (Bool × (Int × (BitVec 64 × (List (BitVec 8) × Unit))))))))))) (slices_Concat_api_Event_L0 Big (x, 0, x, (x.length : Int), 0)) fun q2 =>
  (slices_Grow_api_Event ((), q2.2)).bind fun r3 =>
  jn (A := (List (Int × (Int × (Int × (Int × (Int × (Bool × (Int × (BitVec 64 × (List (BitVec 8) × Unit))))))))))) (R := (List (Int × (Int × (Int × (Int × (Int × (Bool × (Int × (BitVec 64 × (List (BitVec 8) × Unit))))))))))) (slices_Concat_api_Event_L1 Big (r3, q2.1, (q2.1.length : Int), 0)) fun q5 =>
  some q5
/-- reticule/host.Enumerate -/
noncomputable def host_Enumerate (x : Int × Int) : Option (List (Int × (Int × (Int × (Int × (Int × (Bool × (Int × (BitVec 64 × (List (BitVec 8) × Unit)))))))))) :=
  (host_all (0, ([(0, 5, x.1, 0, 0, ())] : List (Int × (Int × (Int × (Int × (Int × Unit)))))))).bind fun r1 =>
  (host_all (x.1, ([(0, 9, 1, 0, 0, ())] : List (Int × (Int × (Int × (Int × (Int × Unit)))))))).bind fun r2 =>
  (slices_Concat_api_Event ([([(1, 0, 0, 0, 0, false, 0, 0#64, ([] : List (BitVec 8)), ())] : List (Int × (Int × (Int × (Int × (Int × (Bool × (Int × (BitVec 64 × (List (BitVec 8) × Unit)))))))))), r1, r2] : List (List (Int × (Int × (Int × (Int × (Int × (Bool × (Int × (BitVec 64 × (List (BitVec 8) × Unit)))))))))))).bind fun r3 =>
  bif decide (x.2 = 0) then
    some r3
  else
    (host_all (x.1, ([(1, 11, x.2, 0, 0, ())] : List (Int × (Int × (Int × (Int × (Int × Unit)))))))).bind fun r4 =>
    (chk (decide (r3.length + r4.length ≤ lim))).bind fun _ =>
    some (r3 ++ r4)
/-- reticule/host.Recover -/
noncomputable def host_Recover (x : Int) : Option (List (Int × (Int × (Int × (Int × (Int × (Bool × (Int × (BitVec 64 × (List (BitVec 8) × Unit)))))))))) :=
  (host_all (x, ([(33, 255, 0, 0, 0, ()), (2, 1, 0, 129, 0, ()), (2, 1, 0, 2, 0, ())] : List (Int × (Int × (Int × (Int × (Int × Unit)))))))).bind fun r1 =>
  some r1
/-- slices.Reverse[[]byte,byte] -/
noncomputable def slices_Reverse_byte_L0 : Nat → ((List (BitVec 8)) × Int × Int) → Option ((List (BitVec 8)) ⊕ (List (BitVec 8)))
  | 0, _ => none
  | n + 1, j =>
  bif decide (j.2.1 < j.2.2) then
      (chk (inLen j.2.2 j.1.length)).bind fun _ =>
      ((j.1[(j.2.2 : Int).toNat]?).bind fun y1 =>
        some y1).bind fun x2 =>
      (chk (inLen j.2.1 j.1.length)).bind fun _ =>
      ((j.1[(j.2.1 : Int).toNat]?).bind fun y3 =>
        some y3).bind fun x4 =>
      (chk (inLen j.2.1 j.1.length)).bind fun _ =>
      (chk (inLen j.2.2 (j.1.set (j.2.1 : Int).toNat x2).length)).bind fun _ =>
      slices_Reverse_byte_L0 n ((j.1.set (j.2.1 : Int).toNat x2).set (j.2.2 : Int).toNat x4, w64 (j.2.1 + 1), w64 (j.2.2 - 1))
    else
      some (Sum.inl j.1)
noncomputable def slices_Reverse_byte (x : (List (BitVec 8))) : Option (List (BitVec 8)) :=
  jn (A := (List (BitVec 8))) (R := (List (BitVec 8))) (slices_Reverse_byte_L0 Big (x, 0, w64 ((x.length : Int) - 1))) fun q5 =>
  some q5
/-- reticule/number.PutBig -/
noncomputable def number_PutBig (x : (BitVec 64) × Int) : Option (List (BitVec 8)) :=
  (number_PutLittle (x.1, x.2)).bind fun r1 =>
  (slices_Reverse_byte r1).bind fun r2 =>
  some r2
/-- reticule/iu.put -/
noncomputable def iu_put (x : Int) : Option (List (BitVec 8)) :=
  (number_PutBig ((BitVec.ofInt 16 x).setWidth 64, 2)).bind fun r1 =>
  some r1
/-- reticule/iu.head -/
noncomputable def iu_head (x : Int × Int) : Option (List (BitVec 8)) :=
  (iu_put x.2).bind fun r1 =>
  (slices_Concat_byte ([([BitVec.ofInt 8 x.1, 0#8] : List (BitVec 8)), r1] : List (List (BitVec 8)))).bind fun r2 =>
  some r2
/-- reticule/iu.place -/
noncomputable def iu_place (x : Int) : Option (List (BitVec 8)) :=
  some ([0#8, BitVec.ofInt 8 x, 0#8, 0#8, 0#8, 0#8, 0#8, 0#8] : List (BitVec 8))
/-- reticule/iu.PutCommand -/
noncomputable def iu_PutCommand (x : (Int × (Int × (List (BitVec 8) × (Int × (List (BitVec 8) × (((Int × (BitVec 64 × (Int × (Int × (Int × Unit))))) × (Int × (Int × (List (BitVec 8) × ((Int × (Int × (Int × Unit))) × Unit))))) × ((Int × (Int × (Int × Unit))) × Unit)))))))) : Option (List (BitVec 8)) :=
  (iu_head (1, x.1)).bind fun r1 =>
  (chk (decide (0 ≤ 4) && decide (4 ≤ 4) && decide (4 ≤ (lim : Int)))).bind fun _ =>
  (iu_place x.2.1).bind fun r2 =>
  (chk (true)).bind fun _ =>
  (slices_Concat_byte ([r1, List.replicate (4 : Int).toNat (0#8), r2, x.2.2.1] : List (List (BitVec 8)))).bind fun r3 =>
  some r3
/-- reticule/host.Command -/
noncomputable def host_Command (x : Int × Int × (Int × (Int × (List (BitVec 8) × (Int × (List (BitVec 8) × (((Int × (BitVec 64 × (Int × (Int × (Int × Unit))))) × (Int × (Int × (List (BitVec 8) × ((Int × (Int × (Int × Unit))) × Unit))))) × ((Int × (Int × (Int × Unit))) × Unit)))))))) : Option (Int × (Int × (Int × (Int × (Int × (Bool × (Int × (BitVec 64 × (List (BitVec 8) × Unit))))))))) :=
  (iu_PutCommand x.2.2).bind fun r1 =>
  (host_send (x.1, 4, x.2.1, r1)).bind fun r2 =>
  some r2
/-- reticule/iu.PutManage -/
noncomputable def iu_PutManage (x : (Int × (Int × (Int × (Int × Unit))))) : Option (List (BitVec 8)) :=
  (iu_head (5, x.1)).bind fun r1 =>
  (iu_put x.2.2.1).bind fun r2 =>
  (iu_place x.2.2.2.1).bind fun r3 =>
  (slices_Concat_byte ([r1, ([BitVec.ofInt 8 x.2.1, 0#8] : List (BitVec 8)), r2, r3] : List (List (BitVec 8)))).bind fun r4 =>
  some r4
/-- reticule/host.Manage -/
noncomputable def host_Manage (x : Int × Int × (Int × (Int × (Int × (Int × Unit))))) : Option (Int × (Int × (Int × (Int × (Int × (Bool × (Int × (BitVec 64 × (List (BitVec 8) × Unit))))))))) :=
  (iu_PutManage x.2.2).bind fun r1 =>
  (host_send (x.1, 4, x.2.1, r1)).bind fun r2 =>
  some r2
/-- reticule/reticulelaw27.alive -/
noncomputable def reticulelaw27_alive (x : Unit) : Option Bool := some true
/-- reticule/reticuleref15.byteful -/
noncomputable def reticuleref15_byteful (x : Int) : Option Bool :=
  (bif decide (0 ≤ x) then
      some (decide (x < 256))
    else
      some false : Option Bool).bind fun b1 =>
  some b1
/-- reticule/reticuleref15.word -/
noncomputable def reticuleref15_word (x : Int) : Option Bool :=
  (bif decide (0 ≤ x) then
      some (decide (x < 65536))
    else
      some false : Option Bool).bind fun b1 =>
  some b1
/-- reticule/reticuleref15.Right -/
noncomputable def reticuleref15_Right (x : (Int × (Int × (Int × (Int × (Int × Unit)))))) : Option Bool :=
  (reticuleref15_byteful x.1).bind fun r1 =>
  (bif r1 then
      (reticuleref15_byteful x.2.1).bind fun r2 =>
      some r2
    else
      some false : Option Bool).bind fun b3 =>
  (bif b3 then
      (reticuleref15_word x.2.2.1).bind fun r4 =>
      some r4
    else
      some false : Option Bool).bind fun b5 =>
  (bif b5 then
      (reticuleref15_word x.2.2.2.1).bind fun r6 =>
      some r6
    else
      some false : Option Bool).bind fun b7 =>
  (bif b7 then
      (reticuleref15_word x.2.2.2.2.1).bind fun r8 =>
      some r8
    else
      some false : Option Bool).bind fun b9 =>
  some b9
/-- reticule/reticuleref15.Bytes -/
noncomputable def reticuleref15_Bytes (x : (Int × (Int × (Int × (Int × (Int × Unit)))))) : Option ((List (BitVec 8)) × Bool) :=
  (reticuleref15_Right x).bind fun r1 =>
  bif !r1 then
    some (([] : List (BitVec 8)), false)
  else
    some (([BitVec.ofInt 8 x.1, BitVec.ofInt 8 x.2.1, BitVec.ofInt 8 (x.2.2.1.tmod 256), BitVec.ofInt 8 (w64 (x.2.2.1.tdiv 256)), BitVec.ofInt 8 (x.2.2.2.1.tmod 256), BitVec.ofInt 8 (w64 (x.2.2.2.1.tdiv 256)), BitVec.ofInt 8 (x.2.2.2.2.1.tmod 256), BitVec.ofInt 8 (w64 (x.2.2.2.2.1.tdiv 256))] : List (BitVec 8)), true)
/-- reticule/reticuleref15.Dir -/
noncomputable def reticuleref15_Dir (x : (Int × (Int × (Int × (Int × (Int × Unit)))))) : Option Int :=
  (reticuleref15_Right x).bind fun r1 =>
  (bif !r1 then
      some true
    else
      some (decide (x.2.2.2.2.1 = 0)) : Option Bool).bind fun b2 =>
  bif b2 then
    some 0
  else
    bif decide (128 ≤ x.1) then
      some 1
    else
      some 2
/-- reticule/reticuleref27.Ask -/
noncomputable def reticuleref27_Ask (x : Int × Int × Int) : Option (Int × (Int × (Int × (Int × (Int × (Bool × (Int × (BitVec 64 × (List (BitVec 8) × Unit))))))))) :=
  some (4, x.1, x.2.1, x.2.2, 0, true, 0, 0#64, ([] : List (BitVec 8)), ())
/-- reticule/reticuleref27.Transfer -/
noncomputable def reticuleref27_Transfer_L0 : Nat → (Int × (Int × (Int × (Int × (Int × (Int × Unit))))) × (List (Int × (Int × (Int × (Int × (Int × (Bool × (Int × (BitVec 64 × (List (BitVec 8) × Unit)))))))))) × Int) → Option ((Int × (List (Int × (Int × (Int × (Int × (Int × (Bool × (Int × (BitVec 64 × (List (BitVec 8) × Unit))))))))))) ⊕ (List (Int × (Int × (Int × (Int × (Int × (Bool × (Int × (BitVec 64 × (List (BitVec 8) × Unit)))))))))))
  | 0, _ => none
  | n + 1, j =>
  bif decide (j.2.2.2 < j.2.1.2.2.2.2.1) then
      (reticuleref27_Ask (j.1, 0, 0)).bind fun r4 =>
      (chk (decide (j.2.2.1.length + ([r4] : List (Int × (Int × (Int × (Int × (Int × (Bool × (Int × (BitVec 64 × (List (BitVec 8) × Unit)))))))))).length ≤ lim))).bind fun _ =>
      reticuleref27_Transfer_L0 n (j.1, j.2.1, j.2.2.1 ++ ([r4] : List (Int × (Int × (Int × (Int × (Int × (Bool × (Int × (BitVec 64 × (List (BitVec 8) × Unit)))))))))), w64 (j.2.2.2 + 64))
    else
      some (Sum.inl (j.1, j.2.2.1))
noncomputable def reticuleref27_Transfer (x : Int × (Int × (Int × (Int × (Int × (Int × Unit)))))) : Option (List (Int × (Int × (Int × (Int × (Int × (Bool × (Int × (BitVec 64 × (List (BitVec 8) × Unit)))))))))) :=
  (reticuleref15_Bytes x.2).bind fun r1 =>
  bif !r1.2 then
    some ([] : List (Int × (Int × (Int × (Int × (Int × (Bool × (Int × (BitVec 64 × (List (BitVec 8) × Unit))))))))))
  else
    (reticuleref15_Dir x.2).bind fun r2 =>
    bif decide (r2 = 0) then
      (reticuleref27_Ask (x.1, 0, 0)).bind fun r3 =>
      (chk (decide (([(2, x.1, 0, 0, 0, false, 0, 0#64, r1.1, ())] : List (Int × (Int × (Int × (Int × (Int × (Bool × (Int × (BitVec 64 × (List (BitVec 8) × Unit)))))))))).length + ([r3] : List (Int × (Int × (Int × (Int × (Int × (Bool × (Int × (BitVec 64 × (List (BitVec 8) × Unit)))))))))).length ≤ lim))).bind fun _ =>
      some (([(2, x.1, 0, 0, 0, false, 0, 0#64, r1.1, ())] : List (Int × (Int × (Int × (Int × (Int × (Bool × (Int × (BitVec 64 × (List (BitVec 8) × Unit)))))))))) ++ ([r3] : List (Int × (Int × (Int × (Int × (Int × (Bool × (Int × (BitVec 64 × (List (BitVec 8) × Unit)))))))))))
    else
      bif decide (r2 = 2) then
        some ([(2, x.1, 0, 0, 0, false, 0, 0#64, r1.1, ())] : List (Int × (Int × (Int × (Int × (Int × (Bool × (Int × (BitVec 64 × (List (BitVec 8) × Unit))))))))))
      else
        jn (A := (Int × (List (Int × (Int × (Int × (Int × (Int × (Bool × (Int × (BitVec 64 × (List (BitVec 8) × Unit)))))))))))) (R := (List (Int × (Int × (Int × (Int × (Int × (Bool × (Int × (BitVec 64 × (List (BitVec 8) × Unit))))))))))) (reticuleref27_Transfer_L0 Big (x.1, x.2, ([(2, x.1, 0, 0, 0, false, 0, 0#64, r1.1, ())] : List (Int × (Int × (Int × (Int × (Int × (Bool × (Int × (BitVec 64 × (List (BitVec 8) × Unit)))))))))), 0)) fun q5 =>
        (chk (decide (q5.2.length + ([(3, q5.1, 0, 0, 1, false, 0, 0#64, ([] : List (BitVec 8)), ())] : List (Int × (Int × (Int × (Int × (Int × (Bool × (Int × (BitVec 64 × (List (BitVec 8) × Unit)))))))))).length ≤ lim))).bind fun _ =>
        some (q5.2 ++ ([(3, q5.1, 0, 0, 1, false, 0, 0#64, ([] : List (BitVec 8)), ())] : List (Int × (Int × (Int × (Int × (Int × (Bool × (Int × (BitVec 64 × (List (BitVec 8) × Unit)))))))))))
/-- reticule/reticuleref13.One -/
noncomputable def reticuleref13_One (x : (Int × (Int × (Int × (Int × (Int × (Bool × (Int × (BitVec 64 × (List (BitVec 8) × Unit))))))))) × (Int × (Int × (Int × (Int × (Int × (Bool × (Int × (BitVec 64 × (List (BitVec 8) × Unit)))))))))) : Option Bool :=
  (bif decide (x.1.1 = x.2.1) then
      some (decide (x.1.2.1 = x.2.2.1))
    else
      some false : Option Bool).bind fun b1 =>
  (bif b1 then
      some (decide (x.1.2.2.1 = x.2.2.2.1))
    else
      some false : Option Bool).bind fun b2 =>
  (bif b2 then
      some (decide (x.1.2.2.2.1 = x.2.2.2.2.1))
    else
      some false : Option Bool).bind fun b3 =>
  (bif b3 then
      some (decide (x.1.2.2.2.2.1 = x.2.2.2.2.2.1))
    else
      some false : Option Bool).bind fun b4 =>
  (bif b4 then
      some (decide (x.1.2.2.2.2.2.1 = x.2.2.2.2.2.2.1))
    else
      some false : Option Bool).bind fun b5 =>
  (bif b5 then
      some (decide (x.1.2.2.2.2.2.2.1 = x.2.2.2.2.2.2.2.1))
    else
      some false : Option Bool).bind fun b6 =>
  (bif b6 then
      some (decide (x.1.2.2.2.2.2.2.2.1 = x.2.2.2.2.2.2.2.2.1))
    else
      some false : Option Bool).bind fun b7 =>
  (bif b7 then
      (chk (decide (x.1.2.2.2.2.2.2.2.2.1.length ≤ lim))).bind fun _ =>
      (chk (decide (x.2.2.2.2.2.2.2.2.2.1.length ≤ lim))).bind fun _ =>
      some (decide (x.1.2.2.2.2.2.2.2.2.1 = x.2.2.2.2.2.2.2.2.2.1))
    else
      some false : Option Bool).bind fun b8 =>
  some b8
/-- reticule/reticuleref13.Same -/
noncomputable def reticuleref13_Same_L0 : Nat → ((List (Int × (Int × (Int × (Int × (Int × (Bool × (Int × (BitVec 64 × (List (BitVec 8) × Unit)))))))))) × (List (Int × (Int × (Int × (Int × (Int × (Bool × (Int × (BitVec 64 × (List (BitVec 8) × Unit)))))))))) × Int) → Option (Unit ⊕ Bool)
  | 0, _ => none
  | n + 1, j =>
  bif decide (j.2.2 < (j.1.length : Int)) then
      (ix j.1 j.2.2).bind fun x1 =>
      (ix j.2.1 j.2.2).bind fun x2 =>
      (reticuleref13_One (x1, x2)).bind fun r3 =>
      bif !r3 then
        some (Sum.inr false)
      else
        reticuleref13_Same_L0 n (j.1, j.2.1, w64 (j.2.2 + 1))
    else
      some (Sum.inl ())
noncomputable def reticuleref13_Same (x : (List (Int × (Int × (Int × (Int × (Int × (Bool × (Int × (BitVec 64 × (List (BitVec 8) × Unit)))))))))) × (List (Int × (Int × (Int × (Int × (Int × (Bool × (Int × (BitVec 64 × (List (BitVec 8) × Unit))))))))))) : Option Bool :=
  bif !decide ((x.1.length : Int) = (x.2.length : Int)) then
    some false
  else
    jn (A := Unit) (R := Bool) (reticuleref13_Same_L0 Big (x.1, x.2, 0)) fun q4 =>
    some true
/-- reticule/reticulelaw27.HostTransfers -/
noncomputable def reticulelaw27_HostTransfers (x : Int × (Int × (Int × (Int × (Int × (Int × Unit)))))) : Option Bool :=
  (reticulelaw27_alive ()).bind fun r1 =>
  bif !r1 then
    some false
  else
    (host_Transfer (x.1, x.2)).bind fun r2 =>
    (reticuleref27_Transfer (x.1, x.2)).bind fun r3 =>
    (reticuleref13_Same (r2, r3)).bind fun r4 =>
    some r4
/-- reticule/reticuleref27.Enumerate -/
noncomputable def reticuleref27_Enumerate (x : Int × Int) : Option (List (Int × (Int × (Int × (Int × (Int × (Bool × (Int × (BitVec 64 × (List (BitVec 8) × Unit)))))))))) :=
  (reticuleref27_Transfer (0, 0, 5, x.1, 0, 0, ())).bind fun r1 =>
  (chk (decide (([(1, 0, 0, 0, 0, false, 0, 0#64, ([] : List (BitVec 8)), ())] : List (Int × (Int × (Int × (Int × (Int × (Bool × (Int × (BitVec 64 × (List (BitVec 8) × Unit)))))))))).length + r1.length ≤ lim))).bind fun _ =>
  (reticuleref27_Transfer (x.1, 0, 9, 1, 0, 0, ())).bind fun r2 =>
  (chk (decide ((([(1, 0, 0, 0, 0, false, 0, 0#64, ([] : List (BitVec 8)), ())] : List (Int × (Int × (Int × (Int × (Int × (Bool × (Int × (BitVec 64 × (List (BitVec 8) × Unit)))))))))) ++ r1).length + r2.length ≤ lim))).bind fun _ =>
  jn (A := (List (Int × (Int × (Int × (Int × (Int × (Bool × (Int × (BitVec 64 × (List (BitVec 8) × Unit))))))))))) (R := (List (Int × (Int × (Int × (Int × (Int × (Bool × (Int × (BitVec 64 × (List (BitVec 8) × Unit))))))))))) (bif !decide (x.2 = 0) then
      (reticuleref27_Transfer (x.1, 1, 11, x.2, 0, 0, ())).bind fun r3 =>
      (chk (decide (((([(1, 0, 0, 0, 0, false, 0, 0#64, ([] : List (BitVec 8)), ())] : List (Int × (Int × (Int × (Int × (Int × (Bool × (Int × (BitVec 64 × (List (BitVec 8) × Unit)))))))))) ++ r1) ++ r2).length + r3.length ≤ lim))).bind fun _ =>
      some (Sum.inl (((([(1, 0, 0, 0, 0, false, 0, 0#64, ([] : List (BitVec 8)), ())] : List (Int × (Int × (Int × (Int × (Int × (Bool × (Int × (BitVec 64 × (List (BitVec 8) × Unit)))))))))) ++ r1) ++ r2) ++ r3))
    else
      some (Sum.inl ((([(1, 0, 0, 0, 0, false, 0, 0#64, ([] : List (BitVec 8)), ())] : List (Int × (Int × (Int × (Int × (Int × (Bool × (Int × (BitVec 64 × (List (BitVec 8) × Unit)))))))))) ++ r1) ++ r2))) fun j4 =>
  some j4
/-- reticule/reticuleref27.Recover -/
noncomputable def reticuleref27_Recover (x : Int) : Option (List (Int × (Int × (Int × (Int × (Int × (Bool × (Int × (BitVec 64 × (List (BitVec 8) × Unit)))))))))) :=
  (reticuleref27_Transfer (x, 33, 255, 0, 0, 0, ())).bind fun r1 =>
  (reticuleref27_Transfer (x, 2, 1, 0, 129, 0, ())).bind fun r2 =>
  (chk (decide (r1.length + r2.length ≤ lim))).bind fun _ =>
  (reticuleref27_Transfer (x, 2, 1, 0, 2, 0, ())).bind fun r3 =>
  (chk (decide ((r1 ++ r2).length + r3.length ≤ lim))).bind fun _ =>
  some ((r1 ++ r2) ++ r3)
/-- reticule/reticulelaw27.HostBegins -/
noncomputable def reticulelaw27_HostBegins (x : Int × Int) : Option Bool :=
  (reticulelaw27_alive ()).bind fun r1 =>
  bif !r1 then
    some false
  else
    (host_Enumerate (x.1, x.2)).bind fun r2 =>
    (reticuleref27_Enumerate (x.1, x.2)).bind fun r3 =>
    (reticuleref13_Same (r2, r3)).bind fun r4 =>
    (bif r4 then
        (host_Recover x.1).bind fun r5 =>
        (reticuleref27_Recover x.1).bind fun r6 =>
        (reticuleref13_Same (r5, r6)).bind fun r7 =>
        some r7
      else
        some false : Option Bool).bind fun b8 =>
    some b8
/-- reticule/reticuleref01.PutLittle -/
noncomputable def reticuleref01_PutLittle_L0 : Nat → ((BitVec 64) × Int × (List (BitVec 8)) × Int) → Option ((List (BitVec 8)) ⊕ (List (BitVec 8)))
  | 0, _ => none
  | n + 1, j =>
  bif decide (j.2.2.2 < j.2.1) then
      (chk (inLen j.2.2.2 j.2.2.1.length)).bind fun _ =>
      reticuleref01_PutLittle_L0 n (j.1 / (256#64), j.2.1, j.2.2.1.set (j.2.2.2 : Int).toNat ((j.1 % (256#64)).setWidth 8), w64 (j.2.2.2 + 1))
    else
      some (Sum.inl j.2.2.1)
noncomputable def reticuleref01_PutLittle (x : (BitVec 64) × Int) : Option (List (BitVec 8)) :=
  (bif decide (x.2 < 1) then
      some true
    else
      some (decide (8 < x.2)) : Option Bool).bind fun b1 =>
  bif b1 then
    some ([] : List (BitVec 8))
  else
    (chk (decide (0 ≤ x.2) && decide (x.2 ≤ x.2) && decide (x.2 ≤ (lim : Int)))).bind fun _ =>
    jn (A := (List (BitVec 8))) (R := (List (BitVec 8))) (reticuleref01_PutLittle_L0 Big (x.1, x.2, List.replicate (x.2 : Int).toNat (0#8), 0)) fun q2 =>
    some q2
/-- reticule/reticuleref19.Bytes -/
noncomputable def reticuleref19_Bytes_L0 : Nat → ((List (BitVec 8)) × Int) → Option ((List (BitVec 8)) ⊕ ((List (BitVec 8)) × Bool))
  | 0, _ => none
  | n + 1, j =>
  (bif decide (j.2 < 16) then
        some (decide ((j.1.length : Int) < 31))
      else
        some false : Option Bool).bind fun b7 =>
    bif b7 then
      (chk (decide (j.1.length + ([0#8] : List (BitVec 8)).length ≤ lim))).bind fun _ =>
      reticuleref19_Bytes_L0 n (j.1 ++ ([0#8] : List (BitVec 8)), w64 (j.2 + 1))
    else
      some (Sum.inl j.1)
noncomputable def reticuleref19_Bytes (x : (BitVec 32 × (BitVec 32 × (Bool × (Int × (List (BitVec 8) × Unit)))))) : Option ((List (BitVec 8)) × Bool) :=
  (bif decide (x.2.2.2.1 < 0) then
      some true
    else
      some (decide (15 < x.2.2.2.1)) : Option Bool).bind fun b1 =>
  (bif b1 then
      some true
    else
      some (decide ((x.2.2.2.2.1.length : Int) < 1)) : Option Bool).bind fun b2 =>
  (bif b2 then
      some true
    else
      some (decide (16 < (x.2.2.2.2.1.length : Int))) : Option Bool).bind fun b3 =>
  bif b3 then
    some (([] : List (BitVec 8)), false)
  else
    (chk (decide (0 < ([85#8, 83#8, 66#8, 67#8] : List (BitVec 8)).length))).bind fun _ =>
    (reticuleref01_PutLittle (x.1.setWidth 64, 4)).bind fun r4 =>
    (chk (decide (([85#8, 83#8, 66#8, 67#8] : List (BitVec 8)).length + r4.length ≤ lim))).bind fun _ =>
    (reticuleref01_PutLittle (x.2.1.setWidth 64, 4)).bind fun r5 =>
    (chk (decide ((([85#8, 83#8, 66#8, 67#8] : List (BitVec 8)) ++ r4).length + r5.length ≤ lim))).bind fun _ =>
    jn (A := ((BitVec 32 × (BitVec 32 × (Bool × (Int × (List (BitVec 8) × Unit))))) × (List (BitVec 8)) × (BitVec 8))) (R := ((List (BitVec 8)) × Bool)) (bif x.2.2.1 then
        some (Sum.inl (x, (([85#8, 83#8, 66#8, 67#8] : List (BitVec 8)) ++ r4) ++ r5, 128#8))
      else
        some (Sum.inl (x, (([85#8, 83#8, 66#8, 67#8] : List (BitVec 8)) ++ r4) ++ r5, 0#8))) fun j6 =>
    (chk (decide (j6.2.1.length + ([j6.2.2, BitVec.ofInt 8 j6.1.2.2.2.1, BitVec.ofInt 8 (j6.1.2.2.2.2.1.length : Int)] : List (BitVec 8)).length ≤ lim))).bind fun _ =>
    (chk (decide ((j6.2.1 ++ ([j6.2.2, BitVec.ofInt 8 j6.1.2.2.2.1, BitVec.ofInt 8 (j6.1.2.2.2.2.1.length : Int)] : List (BitVec 8))).length + j6.1.2.2.2.2.1.length ≤ lim))).bind fun _ =>
    jn (A := (List (BitVec 8))) (R := ((List (BitVec 8)) × Bool)) (reticuleref19_Bytes_L0 Big ((j6.2.1 ++ ([j6.2.2, BitVec.ofInt 8 j6.1.2.2.2.1, BitVec.ofInt 8 (j6.1.2.2.2.2.1.length : Int)] : List (BitVec 8))) ++ j6.1.2.2.2.2.1, 0)) fun q8 =>
    some (q8, true)
/-- reticule/reticuleref27.Wrapper -/
noncomputable def reticuleref27_Wrapper (x : Int × Int × (BitVec 32 × (BitVec 32 × (Bool × (Int × (List (BitVec 8) × Unit)))))) : Option ((Int × (Int × (Int × (Int × (Int × (Bool × (Int × (BitVec 64 × (List (BitVec 8) × Unit))))))))) × Bool) :=
  (reticuleref19_Bytes x.2.2).bind fun r1 =>
  bif !r1.2 then
    some ((0, 0, 0, 0, 0, false, 0, 0#64, ([] : List (BitVec 8)), ()), false)
  else
    some ((3, x.1, 2, 0, x.2.1, false, 0, 0#64, r1.1, ()), true)
/-- reticule/reticuleref22.two -/
noncomputable def reticuleref22_two (x : Int) : Option (List (BitVec 8)) :=
  some ([BitVec.ofInt 8 (BitVec.toInt (BitVec.ofInt 64 (shrI x (((8#64).toNat : Int) : Int).toNat) &&& BitVec.ofInt 64 255)), BitVec.ofInt 8 (BitVec.toInt (BitVec.ofInt 64 x &&& BitVec.ofInt 64 255))] : List (BitVec 8))
/-- reticule/reticuleref22.head -/
noncomputable def reticuleref22_head (x : (BitVec 8) × Int) : Option (List (BitVec 8)) :=
  (reticuleref22_two x.2).bind fun r1 =>
  (chk (decide (([x.1, 0#8] : List (BitVec 8)).length + r1.length ≤ lim))).bind fun _ =>
  some (([x.1, 0#8] : List (BitVec 8)) ++ r1)
/-- reticule/reticuleref22.lun -/
noncomputable def reticuleref22_lun (x : Int) : Option (List (BitVec 8)) :=
  some ([0#8, BitVec.ofInt 8 (BitVec.toInt (BitVec.ofInt 64 x &&& BitVec.ofInt 64 255)), 0#8, 0#8, 0#8, 0#8, 0#8, 0#8] : List (BitVec 8))
/-- reticule/reticuleref22.PutCommand -/
noncomputable def reticuleref22_PutCommand_L0 : Nat → ((Int × (Int × (List (BitVec 8) × (Int × (List (BitVec 8) × (((Int × (BitVec 64 × (Int × (Int × (Int × Unit))))) × (Int × (Int × (List (BitVec 8) × ((Int × (Int × (Int × Unit))) × Unit))))) × ((Int × (Int × (Int × Unit))) × Unit))))))) × (List (BitVec 8)) × Int) → Option ((List (BitVec 8)) ⊕ (List (BitVec 8)))
  | 0, _ => none
  | n + 1, j =>
  bif decide (j.2.2 < 16) then
      (chk (inLen j.2.2 16)).bind fun _ =>
      ((j.1.2.2.1[(j.2.2 : Int).toNat]?).bind fun y3 =>
        some y3).bind fun x4 =>
      (chk (decide (j.2.1.length + ([x4] : List (BitVec 8)).length ≤ lim))).bind fun _ =>
      reticuleref22_PutCommand_L0 n (j.1, j.2.1 ++ ([x4] : List (BitVec 8)), w64 (j.2.2 + 1))
    else
      some (Sum.inl j.2.1)
noncomputable def reticuleref22_PutCommand (x : (Int × (Int × (List (BitVec 8) × (Int × (List (BitVec 8) × (((Int × (BitVec 64 × (Int × (Int × (Int × Unit))))) × (Int × (Int × (List (BitVec 8) × ((Int × (Int × (Int × Unit))) × Unit))))) × ((Int × (Int × (Int × Unit))) × Unit)))))))) : Option (List (BitVec 8)) :=
  (reticuleref22_head (1#8, x.1)).bind fun r1 =>
  (chk (decide (r1.length + ([0#8, 0#8, 0#8, 0#8] : List (BitVec 8)).length ≤ lim))).bind fun _ =>
  (reticuleref22_lun x.2.1).bind fun r2 =>
  (chk (decide ((r1 ++ ([0#8, 0#8, 0#8, 0#8] : List (BitVec 8))).length + r2.length ≤ lim))).bind fun _ =>
  jn (A := (List (BitVec 8))) (R := (List (BitVec 8))) (reticuleref22_PutCommand_L0 Big (x, (r1 ++ ([0#8, 0#8, 0#8, 0#8] : List (BitVec 8))) ++ r2, 0)) fun q5 =>
  some q5
/-- reticule/reticuleref27.Command -/
noncomputable def reticuleref27_Command (x : Int × Int × (Int × (Int × (List (BitVec 8) × (Int × (List (BitVec 8) × (((Int × (BitVec 64 × (Int × (Int × (Int × Unit))))) × (Int × (Int × (List (BitVec 8) × ((Int × (Int × (Int × Unit))) × Unit))))) × ((Int × (Int × (Int × Unit))) × Unit)))))))) : Option (Int × (Int × (Int × (Int × (Int × (Bool × (Int × (BitVec 64 × (List (BitVec 8) × Unit))))))))) :=
  (reticuleref22_PutCommand x.2.2).bind fun r1 =>
  some (3, x.1, 4, 0, x.2.1, false, 0, 0#64, r1, ())
/-- reticule/reticuleref22.PutManage -/
noncomputable def reticuleref22_PutManage (x : (Int × (Int × (Int × (Int × Unit))))) : Option (List (BitVec 8)) :=
  (reticuleref22_head (5#8, x.1)).bind fun r1 =>
  (chk (decide (r1.length + ([BitVec.ofInt 8 (BitVec.toInt (BitVec.ofInt 64 x.2.1 &&& BitVec.ofInt 64 255)), 0#8] : List (BitVec 8)).length ≤ lim))).bind fun _ =>
  (reticuleref22_two x.2.2.1).bind fun r2 =>
  (chk (decide ((r1 ++ ([BitVec.ofInt 8 (BitVec.toInt (BitVec.ofInt 64 x.2.1 &&& BitVec.ofInt 64 255)), 0#8] : List (BitVec 8))).length + r2.length ≤ lim))).bind fun _ =>
  (reticuleref22_lun x.2.2.2.1).bind fun r3 =>
  (chk (decide (((r1 ++ ([BitVec.ofInt 8 (BitVec.toInt (BitVec.ofInt 64 x.2.1 &&& BitVec.ofInt 64 255)), 0#8] : List (BitVec 8))) ++ r2).length + r3.length ≤ lim))).bind fun _ =>
  some (((r1 ++ ([BitVec.ofInt 8 (BitVec.toInt (BitVec.ofInt 64 x.2.1 &&& BitVec.ofInt 64 255)), 0#8] : List (BitVec 8))) ++ r2) ++ r3)
/-- reticule/reticuleref27.Manage -/
noncomputable def reticuleref27_Manage (x : Int × Int × (Int × (Int × (Int × (Int × Unit))))) : Option (Int × (Int × (Int × (Int × (Int × (Bool × (Int × (BitVec 64 × (List (BitVec 8) × Unit))))))))) :=
  (reticuleref22_PutManage x.2.2).bind fun r1 =>
  some (3, x.1, 4, 0, x.2.1, false, 0, 0#64, r1, ())
/-- reticule/reticulelaw27.HostAsks -/
noncomputable def reticulelaw27_HostAsks_L0 : Nat → ((BitVec 32 × (BitVec 32 × (Bool × (Int × (List (BitVec 8) × Unit))))) × (Int × (Int × (Int × (Int × Unit)))) × (Int × (Int × (Int × (Int × Unit)))) × (Int × (Int × (Int × (Int × (Int × (Bool × (Int × (BitVec 64 × (List (BitVec 8) × Unit))))))))) × Bool × (Int × (Int × (Int × (Int × (Int × (Bool × (Int × (BitVec 64 × (List (BitVec 8) × Unit))))))))) × Bool × (Int × (Int × (List (BitVec 8) × (Int × (List (BitVec 8) × (((Int × (BitVec 64 × (Int × (Int × (Int × Unit))))) × (Int × (Int × (List (BitVec 8) × ((Int × (Int × (Int × Unit))) × Unit))))) × ((Int × (Int × (Int × Unit))) × Unit))))))) × Int) → Option (((Int × (Int × (Int × (Int × Unit)))) × (Int × (Int × (Int × (Int × Unit)))) × (Int × (Int × (Int × (Int × (Int × (Bool × (Int × (BitVec 64 × (List (BitVec 8) × Unit))))))))) × Bool × (Int × (Int × (Int × (Int × (Int × (Bool × (Int × (BitVec 64 × (List (BitVec 8) × Unit))))))))) × Bool × (Int × (Int × (List (BitVec 8) × (Int × (List (BitVec 8) × (((Int × (BitVec 64 × (Int × (Int × (Int × Unit))))) × (Int × (Int × (List (BitVec 8) × ((Int × (Int × (Int × Unit))) × Unit))))) × ((Int × (Int × (Int × Unit))) × Unit)))))))) ⊕ Bool)
  | 0, _ => none
  | n + 1, j =>
  (bif decide (j.2.2.2.2.2.2.2.2 < 16) then
        some (decide (j.2.2.2.2.2.2.2.2 < (j.1.2.2.2.2.1.length : Int)))
      else
        some false : Option Bool).bind fun b4 =>
    bif b4 then
      (ix j.1.2.2.2.2.1 j.2.2.2.2.2.2.2.2).bind fun x5 =>
      (chk (inLen j.2.2.2.2.2.2.2.2 16)).bind fun _ =>
      (Option.map (fun u9 => (j.2.2.2.2.2.2.2.1.1, u9)) (Option.map (fun u8 => (j.2.2.2.2.2.2.2.1.2.1, u8)) (Option.map (fun u7 => (u7, j.2.2.2.2.2.2.2.1.2.2.2)) ((j.2.2.2.2.2.2.2.1.2.2.1[(j.2.2.2.2.2.2.2.2 : Int).toNat]?).bind fun z6 =>
              some (j.2.2.2.2.2.2.2.1.2.2.1.set (j.2.2.2.2.2.2.2.2 : Int).toNat x5))))).bind fun x10 =>
      reticulelaw27_HostAsks_L0 n (j.1, j.2.1, j.2.2.1, j.2.2.2.1, j.2.2.2.2.1, j.2.2.2.2.2.1, j.2.2.2.2.2.2.1, x10, w64 (j.2.2.2.2.2.2.2.2 + 1))
    else
      some (Sum.inl (j.2.1, j.2.2.1, j.2.2.2.1, j.2.2.2.2.1, j.2.2.2.2.2.1, j.2.2.2.2.2.2.1, j.2.2.2.2.2.2.2.1))
noncomputable def reticulelaw27_HostAsks (x : (BitVec 32 × (BitVec 32 × (Bool × (Int × (List (BitVec 8) × Unit))))) × (Int × (Int × (Int × (Int × Unit)))) × (Int × (Int × (Int × (Int × Unit))))) : Option Bool :=
  (reticulelaw27_alive ()).bind fun r1 =>
  bif !r1 then
    some false
  else
    bif decide (100 < (x.1.2.2.2.2.1.length : Int)) then
      some true
    else
      (host_Wrapper (x.2.1.1, x.2.1.2.1, x.1)).bind fun r2 =>
      (reticuleref27_Wrapper (x.2.1.1, x.2.1.2.1, x.1)).bind fun r3 =>
      jn (A := ((Int × (Int × (Int × (Int × Unit)))) × (Int × (Int × (Int × (Int × Unit)))) × (Int × (Int × (Int × (Int × (Int × (Bool × (Int × (BitVec 64 × (List (BitVec 8) × Unit))))))))) × Bool × (Int × (Int × (Int × (Int × (Int × (Bool × (Int × (BitVec 64 × (List (BitVec 8) × Unit))))))))) × Bool × (Int × (Int × (List (BitVec 8) × (Int × (List (BitVec 8) × (((Int × (BitVec 64 × (Int × (Int × (Int × Unit))))) × (Int × (Int × (List (BitVec 8) × ((Int × (Int × (Int × Unit))) × Unit))))) × ((Int × (Int × (Int × Unit))) × Unit))))))))) (R := Bool) (reticulelaw27_HostAsks_L0 Big (x.1, x.2.1, x.2.2, r2.1, r2.2, r3.1, r3.2, (x.2.2.1, x.2.2.2.2.2.1, List.replicate 16 (0#8), 0, ([] : List (BitVec 8)), ((0, 0#64, 0, 0, 0, ()), 0, 0, ([] : List (BitVec 8)), (0, 0, 0, ()), ()), (0, 0, 0, ()), ()), 0)) fun q11 =>
      (reticuleref13_One (q11.2.2.1, q11.2.2.2.2.1)).bind fun r12 =>
      (bif !r12 then
          some true
        else
          some (!(decide (q11.2.2.2.1 = q11.2.2.2.2.2.1))) : Option Bool).bind fun b13 =>
      (bif b13 then
          some true
        else
          (host_Command (q11.1.1, q11.1.2.1, q11.2.2.2.2.2.2)).bind fun r14 =>
          (reticuleref27_Command (q11.1.1, q11.1.2.1, q11.2.2.2.2.2.2)).bind fun r15 =>
          (reticuleref13_One (r14, r15)).bind fun r16 =>
          some (!r16) : Option Bool).bind fun b17 =>
      bif b17 then
        some false
      else
        (host_Manage (q11.1.1, q11.1.2.1, q11.2.1)).bind fun r18 =>
        (reticuleref27_Manage (q11.1.1, q11.1.2.1, q11.2.1)).bind fun r19 =>
        (reticuleref13_One (r18, r19)).bind fun r20 =>
        (bif r20 then
            (host_Ask (q11.1.1, q11.1.2.2.1, q11.1.2.2.2.1)).bind fun r21 =>
            (reticuleref27_Ask (q11.1.1, q11.1.2.2.1, q11.1.2.2.2.1)).bind fun r22 =>
            (reticuleref13_One (r21, r22)).bind fun r23 =>
            some r23
          else
            some false : Option Bool).bind fun b24 =>
        some b24
/-- reticule/reticulelaw27.HostPackets -/
noncomputable def reticulelaw27_HostPackets_L0 : Nat → ((BitVec 16) × (List (Int × (Int × (Int × (Int × (Int × (Bool × (Int × (BitVec 64 × (List (BitVec 8) × Unit)))))))))) × Int × Int) → Option (((BitVec 16) × (List (Int × (Int × (Int × (Int × (Int × (Bool × (Int × (BitVec 64 × (List (BitVec 8) × Unit)))))))))) × Int) ⊕ Bool)
  | 0, _ => none
  | n + 1, j =>
  bif decide (j.2.2.2 < (j.2.1.length : Int)) then
      jn (A := ((BitVec 16) × (List (Int × (Int × (Int × (Int × (Int × (Bool × (Int × (BitVec 64 × (List (BitVec 8) × Unit)))))))))) × Int × Int)) (R := (((BitVec 16) × (List (Int × (Int × (Int × (Int × (Int × (Bool × (Int × (BitVec 64 × (List (BitVec 8) × Unit)))))))))) × Int) ⊕ Bool)) ((chk (inLen j.2.2.2 j.2.1.length)).bind fun _ =>
        ((j.2.1[(j.2.2.2 : Int).toNat]?).bind fun y3 =>
          some y3.1).bind fun x4 =>
        bif decide (x4 = 4) then
          some (Sum.inl (j.1, j.2.1, w64 (j.2.2.1 + 1), j.2.2.2))
        else
          some (Sum.inl (j.1, j.2.1, j.2.2.1, j.2.2.2))) fun j5 =>
      reticulelaw27_HostPackets_L0 n (j5.1, j5.2.1, j5.2.2.1, w64 (j5.2.2.2 + 1))
    else
      some (Sum.inl (j.1, j.2.1, j.2.2.1))
noncomputable def reticulelaw27_HostPackets (x : (BitVec 8) × (BitVec 16)) : Option Bool :=
  (reticulelaw27_alive ()).bind fun r1 =>
  bif !r1 then
    some false
  else
    (host_Transfer ((x.1.toNat : Int), 128, 6, 0, 0, (x.2.toNat : Int), ())).bind fun r2 =>
    jn (A := ((BitVec 16) × (List (Int × (Int × (Int × (Int × (Int × (Bool × (Int × (BitVec 64 × (List (BitVec 8) × Unit)))))))))) × Int)) (R := Bool) (reticulelaw27_HostPackets_L0 Big (x.2, r2, 0, 0)) fun q6 =>
    bif decide (q6.1 = (0#16)) then
      (bif decide (q6.2.2 = 1) then
          some (decide ((q6.2.1.length : Int) = 2))
        else
          some false : Option Bool).bind fun b7 =>
      some b7
    else
      (bif decide ((q6.2.1.length : Int) = (w64 (q6.2.2 + 2))) then
          some (decide ((q6.1.toNat : Int) ≤ (w64 ((64 : Int) * q6.2.2))))
        else
          some false : Option Bool).bind fun b8 =>
      (bif b8 then
          some (decide ((w64 ((64 : Int) * q6.2.2)) < (w64 ((q6.1.toNat : Int) + 64))))
        else
          some false : Option Bool).bind fun b9 =>
      some b9
/-- reticule/reticuleref13.Right -/
noncomputable def reticuleref13_Right (x : (Int × (Int × (Int × (Int × (Int × (Bool × (Int × (BitVec 64 × (List (BitVec 8) × Unit)))))))))) : Option Bool :=
  (bif decide (x.1 < 1) then
      some true
    else
      some (decide (8 < x.1)) : Option Bool).bind fun b1 =>
  (bif b1 then
      some true
    else
      some (decide (x.2.1 < 0)) : Option Bool).bind fun b2 =>
  (bif b2 then
      some true
    else
      some (decide (127 < x.2.1)) : Option Bool).bind fun b3 =>
  (bif b3 then
      some true
    else
      some (decide (x.2.2.1 < 0)) : Option Bool).bind fun b4 =>
  (bif b4 then
      some true
    else
      some (decide (15 < x.2.2.1)) : Option Bool).bind fun b5 =>
  (bif b5 then
      some true
    else
      some (decide (x.2.2.2.1 < 0)) : Option Bool).bind fun b6 =>
  (bif b6 then
      some true
    else
      some (decide (65535 < x.2.2.2.1)) : Option Bool).bind fun b7 =>
  bif b7 then
    some false
  else
    (bif decide (x.2.2.2.2.1 = 0) then
        some true
      else
        some (decide (x.2.2.2.2.1 = 1)) : Option Bool).bind fun b8 =>
    (bif b8 then
        some (decide (0 ≤ x.2.2.2.2.2.2.1))
      else
        some false : Option Bool).bind fun b9 =>
    (bif b9 then
        some (decide (x.2.2.2.2.2.2.1 ≤ 255))
      else
        some false : Option Bool).bind fun b10 =>
    (bif b10 then
        some (decide ((x.2.2.2.2.2.2.2.2.1.length : Int) ≤ 1024))
      else
        some false : Option Bool).bind fun b11 =>
    some b11
/-- reticule/reticulelaw27.HostRight -/
noncomputable def reticulelaw27_HostRight_L0 : Nat → ((List (Int × (Int × (Int × (Int × (Int × (Bool × (Int × (BitVec 64 × (List (BitVec 8) × Unit)))))))))) × Int) → Option ((List (Int × (Int × (Int × (Int × (Int × (Bool × (Int × (BitVec 64 × (List (BitVec 8) × Unit)))))))))) ⊕ Bool)
  | 0, _ => none
  | n + 1, j =>
  bif decide (j.2 < (j.1.length : Int)) then
      (chk (inLen j.2 j.1.length)).bind fun _ =>
      ((j.1[(j.2 : Int).toNat]?).bind fun y5 =>
        some y5).bind fun x6 =>
      (reticuleref13_Right x6).bind fun r7 =>
      bif !r7 then
        some (Sum.inr false)
      else
        reticulelaw27_HostRight_L0 n (j.1, w64 (j.2 + 1))
    else
      some (Sum.inl j.1)
noncomputable def reticulelaw27_HostRight (x : (BitVec 8) × (BitVec 8) × (Int × (Int × (Int × (Int × (Int × Unit)))))) : Option Bool :=
  (reticulelaw27_alive ()).bind fun r1 =>
  bif !r1 then
    some false
  else
    (host_Transfer ((x.1.toNat : Int).tmod 128, x.2.2)).bind fun r2 =>
    (chk (decide (([] : List (Int × (Int × (Int × (Int × (Int × (Bool × (Int × (BitVec 64 × (List (BitVec 8) × Unit)))))))))).length + r2.length ≤ lim))).bind fun _ =>
    (host_Enumerate ((x.1.toNat : Int).tmod 128, (x.2.1.toNat : Int).tmod 2)).bind fun r3 =>
    (chk (decide ((([] : List (Int × (Int × (Int × (Int × (Int × (Bool × (Int × (BitVec 64 × (List (BitVec 8) × Unit)))))))))) ++ r2).length + r3.length ≤ lim))).bind fun _ =>
    (host_Recover ((x.1.toNat : Int).tmod 128)).bind fun r4 =>
    (chk (decide (((([] : List (Int × (Int × (Int × (Int × (Int × (Bool × (Int × (BitVec 64 × (List (BitVec 8) × Unit)))))))))) ++ r2) ++ r3).length + r4.length ≤ lim))).bind fun _ =>
    jn (A := (List (Int × (Int × (Int × (Int × (Int × (Bool × (Int × (BitVec 64 × (List (BitVec 8) × Unit))))))))))) (R := Bool) (reticulelaw27_HostRight_L0 Big (((([] : List (Int × (Int × (Int × (Int × (Int × (Bool × (Int × (BitVec 64 × (List (BitVec 8) × Unit)))))))))) ++ r2) ++ r3) ++ r4, 0)) fun q8 =>
    some (decide (11 ≤ (q8.length : Int)))
end Go.Proofs.Ytnhcdenlbabelaa
