/- The program's functions as plain ones. Printed by the session's own program. -/
import Derived.Test.YtnhmeldgpgidiaaLib4
namespace Go.Proofs.Ytnhmeldgpgidiaa
open Go Go.Re
set_option linter.unusedVariables false
set_option linter.unusedSimpArgs false
/-- reticule/cdb.Class -/
noncomputable def cdb_Class (x : Int) : Option Int :=
  jn (A := (Int × Bool)) (R := Int) (bif decide (x = 8) then
      some (Sum.inl (x, decide (x = 8)))
    else
      bif decide (x = 40) then
        some (Sum.inl (x, decide (x = 40)))
      else
        bif decide (x = 168) then
          some (Sum.inl (x, decide (x = 168)))
        else
          some (Sum.inl (x, decide (x = 136)))) fun j1 =>
  bif j1.2 then
    some 1
  else
    jn (A := (Int × Bool)) (R := Int) (bif decide (j1.1 = 10) then
        some (Sum.inl (j1.1, decide (j1.1 = 10)))
      else
        bif decide (j1.1 = 42) then
          some (Sum.inl (j1.1, decide (j1.1 = 42)))
        else
          bif decide (j1.1 = 170) then
            some (Sum.inl (j1.1, decide (j1.1 = 170)))
          else
            some (Sum.inl (j1.1, decide (j1.1 = 138)))) fun j2 =>
    bif j2.2 then
      some 2
    else
      jn (A := (Int × Bool)) (R := Int) (bif decide (j2.1 = 47) then
          some (Sum.inl (j2.1, decide (j2.1 = 47)))
        else
          bif decide (j2.1 = 175) then
            some (Sum.inl (j2.1, decide (j2.1 = 175)))
          else
            some (Sum.inl (j2.1, decide (j2.1 = 143)))) fun j3 =>
      bif j3.2 then
        some 3
      else
        jn (A := Bool) (R := Int) (bif decide (j3.1 = 53) then
            some (Sum.inl (decide (j3.1 = 53)))
          else
            some (Sum.inl (decide (j3.1 = 145)))) fun j4 =>
        bif j4 then
          some 4
        else
          some 0
/-- reticule/cdb.Known -/
noncomputable def cdb_Known (x : Int) : Option Bool :=
  jn (A := (Int × Bool)) (R := Bool) (bif decide (x = 0) then
      some (Sum.inl (x, decide (x = 0)))
    else
      bif decide (x = 3) then
        some (Sum.inl (x, decide (x = 3)))
      else
        bif decide (x = 18) then
          some (Sum.inl (x, decide (x = 18)))
        else
          bif decide (x = 21) then
            some (Sum.inl (x, decide (x = 21)))
          else
            bif decide (x = 85) then
              some (Sum.inl (x, decide (x = 85)))
            else
              bif decide (x = 26) then
                some (Sum.inl (x, decide (x = 26)))
              else
                bif decide (x = 90) then
                  some (Sum.inl (x, decide (x = 90)))
                else
                  bif decide (x = 27) then
                    some (Sum.inl (x, decide (x = 27)))
                  else
                    bif decide (x = 30) then
                      some (Sum.inl (x, decide (x = 30)))
                    else
                      bif decide (x = 37) then
                        some (Sum.inl (x, decide (x = 37)))
                      else
                        bif decide (x = 158) then
                          some (Sum.inl (x, decide (x = 158)))
                        else
                          some (Sum.inl (x, decide (x = 160)))) fun j1 =>
  bif j1.2 then
    some true
  else
    (cdb_Class j1.1).bind fun r2 =>
    some (!decide (r2 = 0))
/-- reticule/sense.asked -/
noncomputable def sense_asked (x : Int × Int) : Option (Int × (Int × (Int × Unit))) :=
  some (5, x.1, x.2, ())
/-- reticule/sense.Unknown -/
noncomputable def sense_Unknown (x : Unit) : Option (Int × (Int × (Int × Unit))) :=
  (sense_asked (32, 0)).bind fun r1 =>
  some r1
/-- reticule/cdb.Size -/
noncomputable def cdb_Size (x : Int) : Option Int :=
  (cdb_Known x).bind fun r1 =>
  bif !r1 then
    some 0
  else
    bif decide ((shrI x (((5#64).toNat : Int) : Int).toNat) = 0) then
      some 6
    else
      bif decide ((shrI x (((5#64).toNat : Int) : Int).toNat) = 4) then
        some 16
      else
        bif decide ((shrI x (((5#64).toNat : Int) : Int).toNat) = 5) then
          some 12
        else
          some 10
/-- reticule/cdb.whole -/
noncomputable def cdb_whole (x : Int × Int) : Option (Int × (Int × (Int × (Int × Unit)))) :=
  some (x.1, x.2, 0, 0, ())
/-- reticule/cdb.one -/
noncomputable def cdb_one (x : Int × Int × Int) : Option (Int × (Int × (Int × (Int × Unit)))) :=
  some (x.1, 1, x.2.1, x.2.2, ())
/-- reticule/cdb.blocks -/
noncomputable def cdb_blocks (x : Int) : Option ((Int × (Int × (Int × (Int × Unit)))) × ((Int × (Int × (Int × (Int × Unit)))) × ((Int × (Int × (Int × (Int × Unit)))) × ((Int × (Int × (Int × (Int × Unit)))) × (List ((Int × (Int × (Int × (Int × Unit)))) × BitVec 64) × Unit))))) :=
  jn (A := (Int × ((Int × (Int × (Int × (Int × Unit)))) × ((Int × (Int × (Int × (Int × Unit)))) × ((Int × (Int × (Int × (Int × Unit)))) × ((Int × (Int × (Int × (Int × Unit)))) × (List ((Int × (Int × (Int × (Int × Unit)))) × BitVec 64) × Unit))))))) (R := ((Int × (Int × (Int × (Int × Unit)))) × ((Int × (Int × (Int × (Int × Unit)))) × ((Int × (Int × (Int × (Int × Unit)))) × ((Int × (Int × (Int × (Int × Unit)))) × (List ((Int × (Int × (Int × (Int × Unit)))) × BitVec 64) × Unit)))))) ((cdb_Size x).bind fun r1 =>
    bif decide (r1 = 6) then
      (cdb_whole (4, 1)).bind fun r2 =>
      some (Sum.inr ((1, 3, 0, 21, ()), r2, (0, 0, 0, 0, ()), (0, 0, 0, 0, ()), ([] : List ((Int × (Int × (Int × (Int × Unit)))) × BitVec 64)), ()))
    else
      bif decide (r1 = 10) then
        (cdb_whole (2, 4)).bind fun r3 =>
        (cdb_whole (7, 2)).bind fun r4 =>
        some (Sum.inl (x, r3, r4, (0, 0, 0, 0, ()), (0, 0, 0, 0, ()), ([] : List ((Int × (Int × (Int × (Int × Unit)))) × BitVec 64)), ()))
      else
        bif decide (r1 = 12) then
          (cdb_whole (2, 4)).bind fun r5 =>
          (cdb_whole (6, 4)).bind fun r6 =>
          some (Sum.inl (x, r5, r6, (0, 0, 0, 0, ()), (0, 0, 0, 0, ()), ([] : List ((Int × (Int × (Int × (Int × Unit)))) × BitVec 64)), ()))
        else
          (cdb_whole (2, 8)).bind fun r7 =>
          (cdb_whole (10, 4)).bind fun r8 =>
          some (Sum.inl (x, r7, r8, (0, 0, 0, 0, ()), (0, 0, 0, 0, ()), ([] : List ((Int × (Int × (Int × (Int × Unit)))) × BitVec 64)), ()))) fun j9 =>
  jn (A := ((Int × (Int × (Int × (Int × Unit)))) × ((Int × (Int × (Int × (Int × Unit)))) × ((Int × (Int × (Int × (Int × Unit)))) × ((Int × (Int × (Int × (Int × Unit)))) × (List ((Int × (Int × (Int × (Int × Unit)))) × BitVec 64) × Unit)))))) (R := ((Int × (Int × (Int × (Int × Unit)))) × ((Int × (Int × (Int × (Int × Unit)))) × ((Int × (Int × (Int × (Int × Unit)))) × ((Int × (Int × (Int × (Int × Unit)))) × (List ((Int × (Int × (Int × (Int × Unit)))) × BitVec 64) × Unit)))))) ((cdb_Class j9.1).bind fun r10 =>
    jn (A := (((Int × (Int × (Int × (Int × Unit)))) × ((Int × (Int × (Int × (Int × Unit)))) × ((Int × (Int × (Int × (Int × Unit)))) × ((Int × (Int × (Int × (Int × Unit)))) × (List ((Int × (Int × (Int × (Int × Unit)))) × BitVec 64) × Unit))))) × Int × Bool)) (R := (((Int × (Int × (Int × (Int × Unit)))) × ((Int × (Int × (Int × (Int × Unit)))) × ((Int × (Int × (Int × (Int × Unit)))) × ((Int × (Int × (Int × (Int × Unit)))) × (List ((Int × (Int × (Int × (Int × Unit)))) × BitVec 64) × Unit))))) ⊕ ((Int × (Int × (Int × (Int × Unit)))) × ((Int × (Int × (Int × (Int × Unit)))) × ((Int × (Int × (Int × (Int × Unit)))) × ((Int × (Int × (Int × (Int × Unit)))) × (List ((Int × (Int × (Int × (Int × Unit)))) × BitVec 64) × Unit))))))) (bif decide (r10 = 1) then
        some (Sum.inl (j9.2, r10, decide (r10 = 1)))
      else
        some (Sum.inl (j9.2, r10, decide (r10 = 2)))) fun j11 =>
    bif j11.2.2 then
      (cdb_one (1, 3, 1)).bind fun r12 =>
      some (Sum.inl (j11.1.1, j11.1.2.1, j11.1.2.2.1, r12, j11.1.2.2.2.2))
    else
      bif decide (j11.2.1 = 3) then
        (cdb_one (1, 1, 1)).bind fun r13 =>
        (cdb_one (1, 2, 1)).bind fun r14 =>
        some (Sum.inl (j11.1.1, j11.1.2.1, j11.1.2.2.1, r13, ([] : List ((Int × (Int × (Int × (Int × Unit)))) × BitVec 64)) ++ [(r14, 0#64)], j11.1.2.2.2.2.2))
      else
        some (Sum.inl j11.1)) fun j15 =>
  some j15
/-- reticule/cdb.of -/
noncomputable def cdb_of (x : Int) : Option ((Int × (Int × (Int × (Int × Unit)))) × ((Int × (Int × (Int × (Int × Unit)))) × ((Int × (Int × (Int × (Int × Unit)))) × ((Int × (Int × (Int × (Int × Unit)))) × (List ((Int × (Int × (Int × (Int × Unit)))) × BitVec 64) × Unit))))) :=
  bif decide (x = 3) then
    (cdb_whole (4, 1)).bind fun r1 =>
    (cdb_one (1, 0, 1)).bind fun r2 =>
    some ((0, 0, 0, 0, ()), r1, (0, 0, 0, 0, ()), (0, 0, 0, 0, ()), ([] : List ((Int × (Int × (Int × (Int × Unit)))) × BitVec 64)) ++ [(r2, 0#64)], ())
  else
    bif decide (x = 18) then
      (cdb_whole (3, 2)).bind fun r3 =>
      (cdb_whole (2, 1)).bind fun r4 =>
      (cdb_one (1, 0, 1)).bind fun r5 =>
      some ((0, 0, 0, 0, ()), r3, r4, r5, ([] : List ((Int × (Int × (Int × (Int × Unit)))) × BitVec 64)), ())
    else
      bif decide (x = 21) then
        (cdb_whole (4, 1)).bind fun r6 =>
        (cdb_one (1, 4, 1)).bind fun r7 =>
        (cdb_one (1, 0, 1)).bind fun r8 =>
        some ((0, 0, 0, 0, ()), r6, (0, 0, 0, 0, ()), (0, 0, 0, 0, ()), (([] : List ((Int × (Int × (Int × (Int × Unit)))) × BitVec 64)) ++ [(r7, 1#64)]) ++ [(r8, 0#64)], ())
      else
        bif decide (x = 85) then
          (cdb_whole (7, 2)).bind fun r9 =>
          (cdb_one (1, 4, 1)).bind fun r10 =>
          (cdb_one (1, 0, 1)).bind fun r11 =>
          some ((0, 0, 0, 0, ()), r9, (0, 0, 0, 0, ()), (0, 0, 0, 0, ()), (([] : List ((Int × (Int × (Int × (Int × Unit)))) × BitVec 64)) ++ [(r10, 1#64)]) ++ [(r11, 0#64)], ())
        else
          bif decide (x = 26) then
            (cdb_whole (4, 1)).bind fun r12 =>
            (cdb_one (2, 0, 6)).bind fun r13 =>
            (cdb_one (2, 6, 2)).bind fun r14 =>
            (cdb_whole (3, 1)).bind fun r15 =>
            some ((0, 0, 0, 0, ()), r12, r13, r14, ([] : List ((Int × (Int × (Int × (Int × Unit)))) × BitVec 64)) ++ [(r15, 0#64)], ())
          else
            bif decide (x = 90) then
              (cdb_whole (7, 2)).bind fun r16 =>
              (cdb_one (2, 0, 6)).bind fun r17 =>
              (cdb_one (2, 6, 2)).bind fun r18 =>
              (cdb_whole (3, 1)).bind fun r19 =>
              some ((0, 0, 0, 0, ()), r16, r17, r18, ([] : List ((Int × (Int × (Int × (Int × Unit)))) × BitVec 64)) ++ [(r19, 0#64)], ())
            else
              bif decide (x = 27) then
                (cdb_one (4, 0, 2)).bind fun r20 =>
                (cdb_one (4, 4, 4)).bind fun r21 =>
                some ((0, 0, 0, 0, ()), (0, 0, 0, 0, ()), (0, 0, 0, 0, ()), r20, ([] : List ((Int × (Int × (Int × (Int × Unit)))) × BitVec 64)) ++ [(r21, 0#64)], ())
              else
                bif decide (x = 30) then
                  (cdb_one (4, 0, 2)).bind fun r22 =>
                  some ((0, 0, 0, 0, ()), (0, 0, 0, 0, ()), (0, 0, 0, 0, ()), r22, ([] : List ((Int × (Int × (Int × (Int × Unit)))) × BitVec 64)), ())
                else
                  bif decide (x = 37) then
                    (cdb_whole (2, 4)).bind fun r23 =>
                    (cdb_one (8, 0, 1)).bind fun r24 =>
                    some ((0, 0, 0, 0, ()), (0, 0, 0, 0, ()), (0, 0, 0, 0, ()), (0, 0, 0, 0, ()), (([] : List ((Int × (Int × (Int × (Int × Unit)))) × BitVec 64)) ++ [(r23, 0#64)]) ++ [(r24, 0#64)], ())
                  else
                    bif decide (x = 158) then
                      (cdb_whole (10, 4)).bind fun r25 =>
                      (cdb_one (1, 0, 5)).bind fun r26 =>
                      some ((0, 0, 0, 0, ()), r25, (0, 0, 0, 0, ()), (0, 0, 0, 0, ()), ([] : List ((Int × (Int × (Int × (Int × Unit)))) × BitVec 64)) ++ [(r26, 16#64)], ())
                    else
                      bif decide (x = 160) then
                        (cdb_whole (6, 4)).bind fun r27 =>
                        some ((0, 0, 0, 0, ()), r27, (0, 0, 0, 0, ()), (0, 0, 0, 0, ()), ([] : List ((Int × (Int × (Int × (Int × Unit)))) × BitVec 64)), ())
                      else
                        (cdb_Class x).bind fun r28 =>
                        bif !decide (r28 = 0) then
                          (cdb_blocks x).bind fun r29 =>
                          some r29
                        else
                          some ((0, 0, 0, 0, ()), (0, 0, 0, 0, ()), (0, 0, 0, 0, ()), (0, 0, 0, 0, ()), ([] : List ((Int × (Int × (Int × (Int × Unit)))) × BitVec 64)), ())
/-- reticule/sense.Field -/
noncomputable def sense_Field (x : Unit) : Option (Int × (Int × (Int × Unit))) :=
  (sense_asked (36, 0)).bind fun r1 =>
  some r1
/-- reticule/number.cut -/
noncomputable def number_cut (x : (List (BitVec 8)) × Int × Int) : Option ((List (BitVec 8)) × Bool) :=
  (bif decide (x.2.2 < 1) then
      some true
    else
      some (decide (8 < x.2.2)) : Option Bool).bind fun b1 =>
  (bif b1 then
      some true
    else
      some (decide (x.2.1 < 0)) : Option Bool).bind fun b2 =>
  (bif b2 then
      some true
    else
      some (decide ((w64 ((x.1.length : Int) - x.2.2)) < x.2.1)) : Option Bool).bind fun b3 =>
  bif b3 then
    some (([] : List (BitVec 8)), false)
  else
    (chk (decide (0 ≤ (x.2.1 : Int)) && decide ((x.2.1 : Int) ≤ (w64 (x.2.1 + x.2.2) : Int)) && decide ((w64 (x.2.1 + x.2.2) : Int) ≤ (x.1.length : Int)))).bind fun _ =>
    some (slc x.1 (x.2.1 : Int) (w64 (x.2.1 + x.2.2) : Int), true)
/-- reticule/number.Big -/
noncomputable def number_Big_L0 : Nat → ((BitVec 64) × Bool × (List (BitVec 8)) × Int × Int) → Option (((BitVec 64) × Bool) ⊕ ((BitVec 64) × Bool))
  | 0, _ => none
  | n + 1, j =>
  bif decide (j.2.2.2.2 < j.2.2.2.1) then
      (ix j.2.2.1 j.2.2.2.2).bind fun x2 =>
      number_Big_L0 n ((j.1 <<< (((8#64).toNat : Int) : Int).toNat) ||| (x2.setWidth 64), j.2.1, j.2.2.1, j.2.2.2.1, w64 (j.2.2.2.2 + 1))
    else
      some (Sum.inl (j.1, j.2.1))
noncomputable def number_Big (x : (List (BitVec 8)) × Int × Int) : Option ((BitVec 64) × Bool) :=
  (number_cut (x.1, x.2.1, x.2.2)).bind fun r1 =>
  jn (A := ((BitVec 64) × Bool)) (R := ((BitVec 64) × Bool)) (number_Big_L0 Big (0#64, r1.2, r1.1, (r1.1.length : Int), 0)) fun q3 =>
  some (q3.1, q3.2)
/-- reticule/number.mask -/
noncomputable def number_mask (x : Int × Int) : Option (BitVec 64) :=
  (bif decide (x.1 < 0) then
      some true
    else
      some (decide (x.2 < 1)) : Option Bool).bind fun b1 =>
  (bif b1 then
      some true
    else
      some (decide (64 < x.2)) : Option Bool).bind fun b2 =>
  (bif b2 then
      some true
    else
      some (decide ((w64 ((64 : Int) - x.2)) < x.1)) : Option Bool).bind fun b3 =>
  bif b3 then
    some (0#64)
  else
    (bif decide (0 ≤ (w64 ((64 : Int) - x.2) : Int)) then some ((18446744073709551615#64) >>> (w64 ((64 : Int) - x.2) : Int).toNat) else none).bind fun x4 =>
    (bif decide (0 ≤ (x.1 : Int)) then some (x4 <<< (x.1 : Int).toNat) else none).bind fun x5 =>
    some x5
/-- reticule/number.Bits -/
noncomputable def number_Bits (x : (BitVec 64) × Int × Int) : Option (BitVec 64) :=
  (number_mask (x.2.1, x.2.2)).bind fun r1 =>
  bif decide (r1 = (0#64)) then
    some (0#64)
  else
    (bif decide (0 ≤ (x.2.1 : Int)) then some ((x.1 &&& r1) >>> (x.2.1 : Int).toNat) else none).bind fun x2 =>
    some x2
/-- (reticule/cdb.span).get -/
noncomputable def cdb_span_get (x : (Int × (Int × (Int × (Int × Unit)))) × (List (BitVec 8))) : Option (BitVec 64) :=
  (number_Big (x.2, x.1.1, x.1.2.1)).bind fun r1 =>
  jn (A := (BitVec 64)) (R := (BitVec 64)) (bif decide (0 < x.1.2.2.2.1) then
      (number_Bits (r1.1, x.1.2.2.1, x.1.2.2.2.1)).bind fun r2 =>
      some (Sum.inl r2)
    else
      some (Sum.inl r1.1)) fun j3 =>
  some j3
/-- reticule/cdb.fine -/
noncomputable def cdb_fine (x : (Int × (BitVec 64 × (Int × (Int × (Int × Unit))))) × (List (BitVec 8))) : Option Bool :=
  bif decide (x.1.1 = 18) then
    (bif decide (x.1.2.2.2.1 = 0) then
        some true
      else
        some (decide (x.1.2.2.2.2.1 = 1)) : Option Bool).bind fun b1 =>
    some b1
  else
    bif decide (x.1.1 = 30) then
      some (decide (x.1.2.2.2.2.1 < 2))
    else
      bif decide (x.1.1 = 160) then
        (ix x.2 2).bind fun x2 =>
        (bif decide (x2 ≤ (2#8)) then
            some (decide (16 ≤ x.1.2.2.1))
          else
            some false : Option Bool).bind fun b3 =>
        some b3
      else
        some true
/-- reticule/cdb.Parse -/
noncomputable def cdb_Parse_L0 : Nat → ((List (BitVec 8)) × (Int × (BitVec 64 × (Int × (Int × (Int × Unit))))) × (Int × (Int × (Int × Unit))) × Int × Int × ((Int × (Int × (Int × (Int × Unit)))) × ((Int × (Int × (Int × (Int × Unit)))) × ((Int × (Int × (Int × (Int × Unit)))) × ((Int × (Int × (Int × (Int × Unit)))) × (List ((Int × (Int × (Int × (Int × Unit)))) × BitVec 64) × Unit))))) × (List ((Int × (Int × (Int × (Int × Unit)))) × BitVec 64))) → Option (((List (BitVec 8)) × (Int × (BitVec 64 × (Int × (Int × (Int × Unit))))) × (Int × (Int × (Int × Unit))) × Int × Int × ((Int × (Int × (Int × (Int × Unit)))) × ((Int × (Int × (Int × (Int × Unit)))) × ((Int × (Int × (Int × (Int × Unit)))) × ((Int × (Int × (Int × (Int × Unit)))) × (List ((Int × (Int × (Int × (Int × Unit)))) × BitVec 64) × Unit)))))) ⊕ ((Int × (BitVec 64 × (Int × (Int × (Int × Unit))))) × (Int × (Int × (Int × Unit)))))
  | 0, _ => none
  | n + 1, j =>
  bif List.isEmpty j.2.2.2.2.2.2.tail then
      some (Sum.inl (j.1, j.2.1, j.2.2.1, j.2.2.2.1, j.2.2.2.2.1, j.2.2.2.2.2.1))
    else
      agreeL j.2.2.2.2.2.2.tail fun p11 =>
      (cdb_span_get (p11.1, j.1)).bind fun r12 =>
      bif !decide (r12 = p11.2) then
        (sense_Field ()).bind fun r13 =>
        some (Sum.inr ((0, 0#64, 0, 0, 0, ()), r13))
      else
        cdb_Parse_L0 n (j.1, j.2.1, j.2.2.1, j.2.2.2.1, j.2.2.2.2.1, j.2.2.2.2.2.1, p11 :: j.2.2.2.2.2.2.tail.filter fun q => !((decide (q.1.1 = p11.1.1)) && ((decide (q.1.2.1 = p11.1.2.1)) && ((decide (q.1.2.2.1 = p11.1.2.2.1)) && ((decide (q.1.2.2.2.1 = p11.1.2.2.2.1)) && true)))))
noncomputable def cdb_Parse (x : (List (BitVec 8))) : Option ((Int × (BitVec 64 × (Int × (Int × (Int × Unit))))) × (Int × (Int × (Int × Unit)))) :=
  (bif decide ((x.length : Int) = 0) then
      some true
    else
      (ix x 0).bind fun x1 =>
      (cdb_Known (x1.toNat : Int)).bind fun r2 =>
      some (!r2) : Option Bool).bind fun b3 =>
  bif b3 then
    (sense_Unknown ()).bind fun r4 =>
    some ((0, 0#64, 0, 0, 0, ()), r4)
  else
    (ix x 0).bind fun x5 =>
    (cdb_Size (x5.toNat : Int)).bind fun r6 =>
    (cdb_of (x5.toNat : Int)).bind fun r7 =>
    (bif decide ((x.length : Int) < r6) then
        some true
      else
        (ix x (w64 (r6 - 1))).bind fun x8 =>
        some (!decide (x8 = (0#8))) : Option Bool).bind fun b9 =>
    bif b9 then
      (sense_Field ()).bind fun r10 =>
      some ((0, 0#64, 0, 0, 0, ()), r10)
    else
      jn (A := ((List (BitVec 8)) × (Int × (BitVec 64 × (Int × (Int × (Int × Unit))))) × (Int × (Int × (Int × Unit))) × Int × Int × ((Int × (Int × (Int × (Int × Unit)))) × ((Int × (Int × (Int × (Int × Unit)))) × ((Int × (Int × (Int × (Int × Unit)))) × ((Int × (Int × (Int × (Int × Unit)))) × (List ((Int × (Int × (Int × (Int × Unit)))) × BitVec 64) × Unit))))))) (R := ((Int × (BitVec 64 × (Int × (Int × (Int × Unit))))) × (Int × (Int × (Int × Unit))))) (cdb_Parse_L0 Big (x, (0, 0#64, 0, 0, 0, ()), (0, 0, 0, ()), (x5.toNat : Int), r6, r7, (((0, 0, 0, 0, ()), 0#64) : (Int × (Int × (Int × (Int × Unit)))) × BitVec 64) :: r7.2.2.2.2.1)) fun q14 =>
      (cdb_span_get (q14.2.2.2.2.2.1, q14.1)).bind fun r15 =>
      (cdb_span_get (q14.2.2.2.2.2.2.1, q14.1)).bind fun r16 =>
      (cdb_span_get (q14.2.2.2.2.2.2.2.1, q14.1)).bind fun r17 =>
      (cdb_span_get (q14.2.2.2.2.2.2.2.2.1, q14.1)).bind fun r18 =>
      jn (A := ((List (BitVec 8)) × (Int × (BitVec 64 × (Int × (Int × (Int × Unit))))) × (Int × (Int × (Int × Unit))) × (Int × (BitVec 64 × (Int × (Int × (Int × Unit))))))) (R := ((Int × (BitVec 64 × (Int × (Int × (Int × Unit))))) × (Int × (Int × (Int × Unit))))) ((bif decide (q14.2.2.2.2.1 = 6) then
            (cdb_Class q14.2.2.2.1).bind fun r19 =>
            some (!decide (r19 = 0))
          else
            some false : Option Bool).bind fun b20 =>
        (bif b20 then
            some (decide ((w64 (r16.toNat : Int)) = 0))
          else
            some false : Option Bool).bind fun b21 =>
        bif b21 then
          some (Sum.inl (q14.1, q14.2.1, q14.2.2.1, q14.2.2.2.1, r15, 256, w64 (r17.toNat : Int), w64 (r18.toNat : Int), ()))
        else
          some (Sum.inl (q14.1, q14.2.1, q14.2.2.1, q14.2.2.2.1, r15, w64 (r16.toNat : Int), w64 (r17.toNat : Int), w64 (r18.toNat : Int), ()))) fun j22 =>
      (cdb_fine (j22.2.2.2, j22.1)).bind fun r23 =>
      bif !r23 then
        (sense_Field ()).bind fun r24 =>
        some ((0, 0#64, 0, 0, 0, ()), r24)
      else
        some (j22.2.2.2, 0, 0, 0, ())
/-- reticule/number.Set -/
noncomputable def number_Set (x : (BitVec 64) × Int × Int × (BitVec 64)) : Option (BitVec 64) :=
  (number_mask (x.2.1, x.2.2.1)).bind fun r1 =>
  bif decide (r1 = (0#64)) then
    some x.1
  else
    (bif decide (0 ≤ (x.2.1 : Int)) then some (x.2.2.2 <<< (x.2.1 : Int).toNat) else none).bind fun x2 =>
    some ((x.1 &&& ~~~r1) ||| (x2 &&& r1))
/-- reticule/number.PutLittle -/
noncomputable def number_PutLittle_L0 : Nat → ((BitVec 64) × (List (BitVec 8)) × Int × Int) → Option ((List (BitVec 8)) ⊕ (List (BitVec 8)))
  | 0, _ => none
  | n + 1, j =>
  bif decide (j.2.2.2 < j.2.2.1) then
      (chk (decide (j.2.1.length + ([j.1.setWidth 8] : List (BitVec 8)).length ≤ lim))).bind fun _ =>
      number_PutLittle_L0 n (j.1 >>> (((8#64).toNat : Int) : Int).toNat, j.2.1 ++ ([j.1.setWidth 8] : List (BitVec 8)), j.2.2.1, w64 (j.2.2.2 + 1))
    else
      some (Sum.inl j.2.1)
noncomputable def number_PutLittle (x : (BitVec 64) × Int) : Option (List (BitVec 8)) :=
  (bif decide (x.2 < 1) then
      some true
    else
      some (decide (8 < x.2)) : Option Bool).bind fun b1 =>
  bif b1 then
    some ([] : List (BitVec 8))
  else
    jn (A := (List (BitVec 8))) (R := (List (BitVec 8))) (number_PutLittle_L0 Big (x.1, ([] : List (BitVec 8)), x.2, 0)) fun q2 =>
    some q2
/-- slices.Reverse[[]byte,byte] -/
noncomputable def slices_Reverse_byte_L0 : Nat → ((List (BitVec 8)) × Int × Int) → Option ((List (BitVec 8)) ⊕ (List (BitVec 8)))
  | 0, _ => none
  | n + 1, j =>
  bif decide (j.2.1 < j.2.2) then
      (chk (inLen j.2.2 j.1.length)).bind fun _ =>
      ((j.1[(j.2.2 : Int).toNat]?).bind fun y1 =>
        some y1).bind fun x2 =>
      (chk (inLen j.2.1 j.1.length)).bind fun _ =>
      ((j.1[(j.2.1 : Int).toNat]?).bind fun y3 =>
        some y3).bind fun x4 =>
      (chk (inLen j.2.1 j.1.length)).bind fun _ =>
      (chk (inLen j.2.2 (j.1.set (j.2.1 : Int).toNat x2).length)).bind fun _ =>
      slices_Reverse_byte_L0 n ((j.1.set (j.2.1 : Int).toNat x2).set (j.2.2 : Int).toNat x4, w64 (j.2.1 + 1), w64 (j.2.2 - 1))
    else
      some (Sum.inl j.1)
noncomputable def slices_Reverse_byte (x : (List (BitVec 8))) : Option (List (BitVec 8)) :=
  jn (A := (List (BitVec 8))) (R := (List (BitVec 8))) (slices_Reverse_byte_L0 Big (x, 0, w64 ((x.length : Int) - 1))) fun q5 =>
  some q5
/-- reticule/number.PutBig -/
noncomputable def number_PutBig (x : (BitVec 64) × Int) : Option (List (BitVec 8)) :=
  (number_PutLittle (x.1, x.2)).bind fun r1 =>
  (slices_Reverse_byte r1).bind fun r2 =>
  some r2
/-- (reticule/cdb.span).put -/
noncomputable def cdb_span_put (x : (Int × (Int × (Int × (Int × Unit)))) × (List (BitVec 8)) × (BitVec 64)) : Option (List (BitVec 8)) :=
  (number_Big (x.2.1, x.1.1, x.1.2.1)).bind fun r1 =>
  jn (A := ((List (BitVec 8)) × (BitVec 64) × (Int × (Int × (Int × (Int × Unit)))) × (BitVec 64) × Int)) (R := (List (BitVec 8))) (bif decide (x.1.2.2.2.1 = 0) then
      some (Sum.inl (x.2.1, x.2.2, x.1, r1.1, w64 ((8 : Int) * x.1.2.1)))
    else
      some (Sum.inl (x.2.1, x.2.2, x.1, r1.1, x.1.2.2.2.1))) fun j2 =>
  (chk (decide (0 ≤ (j2.2.2.1.1 : Int)) && decide ((j2.2.2.1.1 : Int) ≤ (j2.1.length : Int)))).bind fun _ =>
  (number_Set (j2.2.2.2.1, j2.2.2.1.2.2.1, j2.2.2.2.2, j2.2.1)).bind fun r3 =>
  (number_PutBig (r3, j2.2.2.1.2.1)).bind fun r4 =>
  some (overAt (j2.2.2.1.1 : Int).toNat j2.1 r4)
/-- reticule/sense.Good -/
noncomputable def sense_Good (x : (Int × (Int × (Int × Unit)))) : Option Bool :=
  some ((decide (x.1 = 0)) && ((decide (x.2.1 = 0)) && ((decide (x.2.2.1 = 0)) && true)))
/-- reticule/cdb.Bytes -/
noncomputable def cdb_Bytes_L0 : Nat → ((Int × (BitVec 64 × (Int × (Int × (Int × Unit))))) × (List (BitVec 8)) × (List ((Int × (Int × (Int × (Int × Unit)))) × BitVec 64)) × (List ((Int × (Int × (Int × (Int × Unit)))) × BitVec 64))) → Option (((Int × (BitVec 64 × (Int × (Int × (Int × Unit))))) × (List (BitVec 8)) × (List ((Int × (Int × (Int × (Int × Unit)))) × BitVec 64))) ⊕ ((List (BitVec 8)) × Bool))
  | 0, _ => none
  | n + 1, j =>
  bif List.isEmpty j.2.2.2.tail then
      some (Sum.inl (j.1, j.2.1, srtD (.pair (.st (.pair (.int .i64) (.pair (.int .i64) (.pair (.int .i64) (.pair (.int .i64) .unit))))) (.int .u64)) j.2.2.1))
    else
      agreeL j.2.2.2.tail fun p4 =>
      cdb_Bytes_L0 n (j.1, j.2.1, srtD (.pair (.st (.pair (.int .i64) (.pair (.int .i64) (.pair (.int .i64) (.pair (.int .i64) .unit))))) (.int .u64)) (j.2.2.1 ++ [(p4.1, p4.2)]), p4 :: j.2.2.2.tail.filter fun q => !((decide (q.1.1 = p4.1.1)) && ((decide (q.1.2.1 = p4.1.2.1)) && ((decide (q.1.2.2.1 = p4.1.2.2.1)) && ((decide (q.1.2.2.2.1 = p4.1.2.2.2.1)) && true)))))
noncomputable def cdb_Bytes_L1 : Nat → ((Int × (BitVec 64 × (Int × (Int × (Int × Unit))))) × (List (BitVec 8)) × (List ((Int × (Int × (Int × (Int × Unit)))) × BitVec 64))) → Option (((Int × (BitVec 64 × (Int × (Int × (Int × Unit))))) × (List (BitVec 8))) ⊕ ((List (BitVec 8)) × Bool))
  | 0, _ => none
  | n + 1, j =>
  bif List.isEmpty j.2.2.tail then
      some (Sum.inl (j.1, j.2.1))
    else
      agreeL j.2.2.tail fun p6 =>
      bif decide (0 < p6.1.2.1) then
        (cdb_span_put (p6.1, j.2.1, p6.2)).bind fun r7 =>
        cdb_Bytes_L1 n (j.1, r7, p6 :: j.2.2.tail.filter fun q => !((decide (q.1.1 = p6.1.1)) && ((decide (q.1.2.1 = p6.1.2.1)) && ((decide (q.1.2.2.1 = p6.1.2.2.1)) && ((decide (q.1.2.2.2.1 = p6.1.2.2.2.1)) && true)))))
      else
        cdb_Bytes_L1 n (j.1, j.2.1, p6 :: j.2.2.tail.filter fun q => !((decide (q.1.1 = p6.1.1)) && ((decide (q.1.2.1 = p6.1.2.1)) && ((decide (q.1.2.2.1 = p6.1.2.2.1)) && ((decide (q.1.2.2.2.1 = p6.1.2.2.2.1)) && true)))))
noncomputable def cdb_Bytes (x : (Int × (BitVec 64 × (Int × (Int × (Int × Unit)))))) : Option ((List (BitVec 8)) × Bool) :=
  (cdb_Known x.1).bind fun r1 =>
  bif !r1 then
    some (([] : List (BitVec 8)), false)
  else
    (cdb_Size x.1).bind fun r2 =>
    (chk (decide (0 ≤ r2) && decide (r2 ≤ r2) && decide (r2 ≤ (lim : Int)))).bind fun _ =>
    (cdb_of x.1).bind fun r3 =>
    (chk (inLen 0 (List.replicate (r2 : Int).toNat (0#8)).length)).bind fun _ =>
    jn (A := ((Int × (BitVec 64 × (Int × (Int × (Int × Unit))))) × (List (BitVec 8)) × (List ((Int × (Int × (Int × (Int × Unit)))) × BitVec 64)))) (R := ((List (BitVec 8)) × Bool)) (cdb_Bytes_L0 Big (x, (List.replicate (r2 : Int).toNat (0#8)).set (0 : Int).toNat (BitVec.ofInt 8 x.1), srtD (.pair (.st (.pair (.int .i64) (.pair (.int .i64) (.pair (.int .i64) (.pair (.int .i64) .unit))))) (.int .u64)) ((((([] : List ((Int × (Int × (Int × (Int × Unit)))) × BitVec 64)) ++ [(r3.1, x.2.1)]) ++ [(r3.2.1, BitVec.ofInt 64 x.2.2.1)]) ++ [(r3.2.2.1, BitVec.ofInt 64 x.2.2.2.1)]) ++ [(r3.2.2.2.1, BitVec.ofInt 64 x.2.2.2.2.1)]), (((0, 0, 0, 0, ()), 0#64) : (Int × (Int × (Int × (Int × Unit)))) × BitVec 64) :: r3.2.2.2.2.1)) fun q5 =>
    jn (A := ((Int × (BitVec 64 × (Int × (Int × (Int × Unit))))) × (List (BitVec 8)))) (R := ((List (BitVec 8)) × Bool)) (cdb_Bytes_L1 Big (q5.1, q5.2.1, (((0, 0, 0, 0, ()), 0#64) : (Int × (Int × (Int × (Int × Unit)))) × BitVec 64) :: q5.2.2)) fun q8 =>
    (cdb_Parse q8.2).bind fun r9 =>
    (sense_Good r9.2).bind fun r10 =>
    (bif !r10 then
        some true
      else
        some (!((decide (r9.1.1 = q8.1.1)) && ((decide (r9.1.2.1 = q8.1.2.1)) && ((decide (r9.1.2.2.1 = q8.1.2.2.1)) && ((decide (r9.1.2.2.2.1 = q8.1.2.2.2.1)) && ((decide (r9.1.2.2.2.2.1 = q8.1.2.2.2.2.1)) && true)))))) : Option Bool).bind fun b11 =>
    bif b11 then
      some (([] : List (BitVec 8)), false)
    else
      some (q8.2, true)
/-- reticule/reticuleref04.Of -/
noncomputable def reticuleref04_Of (x : Int × Int × Int) : Option (Int × (Int × (Int × Unit))) :=
  some (x.1, x.2.1, x.2.2, ())
/-- reticule/reticulelaw06.alive -/
noncomputable def reticulelaw06_alive (x : Unit) : Option Bool :=
  (cdb_Parse ([40#8, 0#8, 0#8, 0#8, 0#8, 5#8, 0#8, 0#8, 3#8, 0#8] : List (BitVec 8))).bind fun r1 =>
  (cdb_Bytes r1.1).bind fun r2 =>
  (cdb_Parse ([40#8, 0#8, 0#8, 0#8, 0#8, 5#8, 0#8, 0#8, 3#8, 1#8] : List (BitVec 8))).bind fun r3 =>
  (cdb_Parse ([255#8, 0#8, 0#8, 0#8, 0#8, 0#8] : List (BitVec 8))).bind fun r4 =>
  (cdb_Parse ([8#8, 255#8, 1#8, 2#8, 0#8, 0#8, 9#8] : List (BitVec 8))).bind fun r5 =>
  (cdb_Bytes (40, 0#64, 65536, 0, 0, ())).bind fun r6 =>
  (bif (decide (r1.1.1 = 40)) && ((decide (r1.1.2.1 = (5#64))) && ((decide (r1.1.2.2.1 = 3)) && ((decide (r1.1.2.2.2.1 = 0)) && ((decide (r1.1.2.2.2.2.1 = 0)) && true)))) then
      some ((decide (r1.2.1 = 0)) && ((decide (r1.2.2.1 = 0)) && ((decide (r1.2.2.2.1 = 0)) && true)))
    else
      some false : Option Bool).bind fun b7 =>
  (bif b7 then
      some r2.2
    else
      some false : Option Bool).bind fun b8 =>
  (bif b8 then
      (chk (decide (r2.1.length ≤ lim))).bind fun _ =>
      some (decide (r2.1 = ([40#8, 0#8, 0#8, 0#8, 0#8, 5#8, 0#8, 0#8, 3#8, 0#8] : List (BitVec 8))))
    else
      some false : Option Bool).bind fun b9 =>
  (bif b9 then
      (reticuleref04_Of (5, 36, 0)).bind fun r10 =>
      some ((decide (r3.2.1 = r10.1)) && ((decide (r3.2.2.1 = r10.2.1)) && ((decide (r3.2.2.2.1 = r10.2.2.1)) && true)))
    else
      some false : Option Bool).bind fun b11 =>
  (bif b11 then
      (reticuleref04_Of (5, 32, 0)).bind fun r12 =>
      some ((decide (r4.2.1 = r12.1)) && ((decide (r4.2.2.1 = r12.2.1)) && ((decide (r4.2.2.2.1 = r12.2.2.1)) && true)))
    else
      some false : Option Bool).bind fun b13 =>
  (bif b13 then
      some ((decide (r5.1.1 = 8)) && ((decide (r5.1.2.1 = (2031874#64))) && ((decide (r5.1.2.2.1 = 256)) && ((decide (r5.1.2.2.2.1 = 0)) && ((decide (r5.1.2.2.2.2.1 = 0)) && true)))))
    else
      some false : Option Bool).bind fun b14 =>
  (bif b14 then
      some ((decide (r5.2.1 = r1.2.1)) && ((decide (r5.2.2.1 = r1.2.2.1)) && ((decide (r5.2.2.2.1 = r1.2.2.2.1)) && true)))
    else
      some false : Option Bool).bind fun b15 =>
  (bif b15 then
      some (!r6.2)
    else
      some false : Option Bool).bind fun b16 =>
  (bif b16 then
      (cdb_Size 158).bind fun r17 =>
      some (decide (r17 = 16))
    else
      some false : Option Bool).bind fun b18 =>
  (bif b18 then
      (cdb_Size 96).bind fun r19 =>
      some (decide (r19 = 0))
    else
      some false : Option Bool).bind fun b20 =>
  (bif b20 then
      (cdb_Known 160).bind fun r21 =>
      some r21
    else
      some false : Option Bool).bind fun b22 =>
  (bif b22 then
      (cdb_Class 145).bind fun r23 =>
      some (decide (r23 = 4))
    else
      some false : Option Bool).bind fun b24 =>
  some b24
/-- reticule/reticuleref06.Class -/
noncomputable def reticuleref06_Class (x : Int) : Option Int :=
  jn (A := (Int × Bool)) (R := Int) (bif decide (x = 8) then
      some (Sum.inl (x, decide (x = 8)))
    else
      bif decide (x = 40) then
        some (Sum.inl (x, decide (x = 40)))
      else
        bif decide (x = 168) then
          some (Sum.inl (x, decide (x = 168)))
        else
          some (Sum.inl (x, decide (x = 136)))) fun j1 =>
  bif j1.2 then
    some 1
  else
    jn (A := (Int × Bool)) (R := Int) (bif decide (j1.1 = 10) then
        some (Sum.inl (j1.1, decide (j1.1 = 10)))
      else
        bif decide (j1.1 = 42) then
          some (Sum.inl (j1.1, decide (j1.1 = 42)))
        else
          bif decide (j1.1 = 170) then
            some (Sum.inl (j1.1, decide (j1.1 = 170)))
          else
            some (Sum.inl (j1.1, decide (j1.1 = 138)))) fun j2 =>
    bif j2.2 then
      some 2
    else
      jn (A := (Int × Bool)) (R := Int) (bif decide (j2.1 = 47) then
          some (Sum.inl (j2.1, decide (j2.1 = 47)))
        else
          bif decide (j2.1 = 175) then
            some (Sum.inl (j2.1, decide (j2.1 = 175)))
          else
            some (Sum.inl (j2.1, decide (j2.1 = 143)))) fun j3 =>
      bif j3.2 then
        some 3
      else
        jn (A := Bool) (R := Int) (bif decide (j3.1 = 53) then
            some (Sum.inl (decide (j3.1 = 53)))
          else
            some (Sum.inl (decide (j3.1 = 145)))) fun j4 =>
        bif j4 then
          some 4
        else
          some 0
/-- reticule/reticuleref01.Has -/
noncomputable def reticuleref01_Has_L0 : Nat → ((List Int) × Int × Int) → Option (Unit ⊕ Bool)
  | 0, _ => none
  | n + 1, j =>
  bif decide (j.2.2 < (j.1.length : Int)) then
      (ix j.1 j.2.2).bind fun x1 =>
      bif decide (x1 = j.2.1) then
        some (Sum.inr true)
      else
        reticuleref01_Has_L0 n (j.1, j.2.1, w64 (j.2.2 + 1))
    else
      some (Sum.inl ())
noncomputable def reticuleref01_Has (x : (List Int) × Int) : Option Bool :=
  jn (A := Unit) (R := Bool) (reticuleref01_Has_L0 Big (x.1, x.2, 0)) fun q2 =>
  some false
/-- reticule/reticuleref06.Known -/
noncomputable def reticuleref06_Known (x : Int) : Option Bool :=
  (reticuleref06_Class x).bind fun r1 =>
  (bif decide (0 < r1) then
      some true
    else
      (reticuleref01_Has (([0, 3, 18, 21, 85, 26, 90, 27, 30, 37, 158, 160] : List Int), x)).bind fun r2 =>
      some r2 : Option Bool).bind fun b3 =>
  some b3
/-- reticule/reticuleref06.Size -/
noncomputable def reticuleref06_Size (x : Int) : Option Int :=
  (reticuleref06_Known x).bind fun r1 =>
  bif !r1 then
    some 0
  else
    bif decide (x < 32) then
      some 6
    else
      bif decide (x < 128) then
        some 10
      else
        bif decide (x < 160) then
          some 16
        else
          some 12
/-- reticule/reticuleref01.Big -/
noncomputable def reticuleref01_Big_L0 : Nat → ((List (BitVec 8)) × Int × Int × (BitVec 64) × Int) → Option ((BitVec 64) ⊕ ((BitVec 64) × Bool))
  | 0, _ => none
  | n + 1, j =>
  bif decide (j.2.2.2.2 < j.2.2.1) then
      (ix j.1 (w64 (j.2.1 + j.2.2.2.2))).bind fun x5 =>
      reticuleref01_Big_L0 n (j.1, j.2.1, j.2.2.1, (j.2.2.2.1 * (256#64)) + (x5.setWidth 64), w64 (j.2.2.2.2 + 1))
    else
      some (Sum.inl j.2.2.2.1)
noncomputable def reticuleref01_Big (x : (List (BitVec 8)) × Int × Int) : Option ((BitVec 64) × Bool) :=
  (bif decide (x.2.2 < 1) then
      some true
    else
      some (decide (8 < x.2.2)) : Option Bool).bind fun b1 =>
  (bif b1 then
      some true
    else
      some (decide (x.2.1 < 0)) : Option Bool).bind fun b2 =>
  (bif b2 then
      some true
    else
      some (decide ((x.1.length : Int) < x.2.2)) : Option Bool).bind fun b3 =>
  (bif b3 then
      some true
    else
      some (decide ((w64 ((x.1.length : Int) - x.2.2)) < x.2.1)) : Option Bool).bind fun b4 =>
  bif b4 then
    some (0#64, false)
  else
    jn (A := (BitVec 64)) (R := ((BitVec 64) × Bool)) (reticuleref01_Big_L0 Big (x.1, x.2.1, x.2.2, 0#64, 0)) fun q6 =>
    some (q6, true)
/-- reticule/reticuleref06.big -/
noncomputable def reticuleref06_big (x : (List (BitVec 8)) × Int × Int) : Option (BitVec 64) :=
  (reticuleref01_Big (x.1, x.2.1, x.2.2)).bind fun r1 =>
  some r1.1
/-- reticule/reticuleref06.rest -/
noncomputable def reticuleref06_rest (x : Int × (List (BitVec 8))) : Option ((Int × (BitVec 64 × (Int × (Int × (Int × Unit))))) × Bool) :=
  jn (A := ((Int × (BitVec 64 × (Int × (Int × (Int × Unit))))) × (Int × (BitVec 64 × (Int × (Int × (Int × Unit))))) × Bool)) (R := ((Int × (BitVec 64 × (Int × (Int × (Int × Unit))))) × Bool)) (bif decide (x.1 = 3) then
      (ix x.2 4).bind fun x1 =>
      (ix x.2 1).bind fun x2 =>
      some (Sum.inl ((0, 0#64, 0, 0, 0, ()), (x.1, 0#64, (x1.toNat : Int), 0, 0, ()), decide ((x2 % (2#8)) = (0#8))))
    else
      bif decide (x.1 = 18) then
        (reticuleref06_big (x.2, 3, 2)).bind fun r3 =>
        (ix x.2 2).bind fun x4 =>
        (ix x.2 1).bind fun x5 =>
        (bif decide ((x4.toNat : Int) = 0) then
            some true
          else
            some (decide (((x5 % (2#8)).toNat : Int) = 1)) : Option Bool).bind fun b6 =>
        some (Sum.inl ((0, 0#64, 0, 0, 0, ()), (x.1, 0#64, w64 (r3.toNat : Int), (x4.toNat : Int), ((x5 % (2#8)).toNat : Int), ()), b6))
      else
        bif decide (x.1 = 21) then
          (ix x.2 4).bind fun x7 =>
          (ix x.2 1).bind fun x8 =>
          (bif decide (((x8 / (16#8)) % (2#8)) = (1#8)) then
              (ix x.2 1).bind fun x9 =>
              some (decide ((x9 % (2#8)) = (0#8)))
            else
              some false : Option Bool).bind fun b10 =>
          some (Sum.inl ((0, 0#64, 0, 0, 0, ()), (x.1, 0#64, (x7.toNat : Int), 0, 0, ()), b10))
        else
          bif decide (x.1 = 85) then
            (reticuleref06_big (x.2, 7, 2)).bind fun r11 =>
            (ix x.2 1).bind fun x12 =>
            (bif decide (((x12 / (16#8)) % (2#8)) = (1#8)) then
                (ix x.2 1).bind fun x13 =>
                some (decide ((x13 % (2#8)) = (0#8)))
              else
                some false : Option Bool).bind fun b14 =>
            some (Sum.inl ((0, 0#64, 0, 0, 0, ()), (x.1, 0#64, w64 (r11.toNat : Int), 0, 0, ()), b14))
          else
            bif decide (x.1 = 26) then
              (ix x.2 4).bind fun x15 =>
              (ix x.2 2).bind fun x16 =>
              (ix x.2 2).bind fun x17 =>
              (ix x.2 3).bind fun x18 =>
              some (Sum.inl ((0, 0#64, 0, 0, 0, ()), (x.1, 0#64, (x15.toNat : Int), ((x16 % (64#8)).toNat : Int), ((x17 / (64#8)).toNat : Int), ()), decide (x18 = (0#8))))
            else
              bif decide (x.1 = 90) then
                (reticuleref06_big (x.2, 7, 2)).bind fun r19 =>
                (ix x.2 2).bind fun x20 =>
                (ix x.2 2).bind fun x21 =>
                (ix x.2 3).bind fun x22 =>
                some (Sum.inl ((0, 0#64, 0, 0, 0, ()), (x.1, 0#64, w64 (r19.toNat : Int), ((x20 % (64#8)).toNat : Int), ((x21 / (64#8)).toNat : Int), ()), decide (x22 = (0#8))))
              else
                bif decide (x.1 = 27) then
                  (ix x.2 4).bind fun x23 =>
                  (ix x.2 4).bind fun x24 =>
                  some (Sum.inl ((0, 0#64, 0, 0, 0, ()), (x.1, 0#64, 0, 0, ((x23 % (4#8)).toNat : Int), ()), decide (x24 < (16#8))))
                else
                  bif decide (x.1 = 30) then
                    (ix x.2 4).bind fun x25 =>
                    (ix x.2 4).bind fun x26 =>
                    some (Sum.inl ((0, 0#64, 0, 0, 0, ()), (x.1, 0#64, 0, 0, ((x25 % (4#8)).toNat : Int), ()), decide ((x26 % (4#8)) < (2#8))))
                  else
                    bif decide (x.1 = 37) then
                      (reticuleref06_big (x.2, 2, 4)).bind fun r27 =>
                      (bif decide (r27 = (0#64)) then
                          (ix x.2 8).bind fun x28 =>
                          some (decide ((x28 % (2#8)) = (0#8)))
                        else
                          some false : Option Bool).bind fun b29 =>
                      some (Sum.inl ((0, 0#64, 0, 0, 0, ()), (x.1, 0#64, 0, 0, 0, ()), b29))
                    else
                      bif decide (x.1 = 158) then
                        (reticuleref06_big (x.2, 10, 4)).bind fun r30 =>
                        (ix x.2 1).bind fun x31 =>
                        some (Sum.inl ((0, 0#64, 0, 0, 0, ()), (x.1, 0#64, w64 (r30.toNat : Int), 0, 0, ()), decide ((x31 % (32#8)) = (16#8))))
                      else
                        bif decide (x.1 = 160) then
                          (reticuleref06_big (x.2, 6, 4)).bind fun r32 =>
                          (ix x.2 2).bind fun x33 =>
                          (bif decide (x33 ≤ (2#8)) then
                              some (decide (16 ≤ (w64 (r32.toNat : Int))))
                            else
                              some false : Option Bool).bind fun b34 =>
                          some (Sum.inl ((0, 0#64, 0, 0, 0, ()), (x.1, 0#64, w64 (r32.toNat : Int), 0, 0, ()), b34))
                        else
                          some (Sum.inl ((0, 0#64, 0, 0, 0, ()), (x.1, 0#64, 0, 0, 0, ()), true))) fun j35 =>
  some (j35.2.1, j35.2.2)
/-- reticule/reticuleref06.blocks -/
noncomputable def reticuleref06_blocks (x : Int × (List (BitVec 8))) : Option ((Int × (BitVec 64 × (Int × (Int × (Int × Unit))))) × Bool) :=
  (reticuleref06_Class x.1).bind fun r1 =>
  bif decide ((x.2.length : Int) = 6) then
    (ix x.2 1).bind fun x2 =>
    (ix x.2 2).bind fun x3 =>
    (ix x.2 3).bind fun x4 =>
    (ix x.2 4).bind fun x5 =>
    jn (A := ((Int × (BitVec 64 × (Int × (Int × (Int × Unit))))) × (Int × (BitVec 64 × (Int × (Int × (Int × Unit))))))) (R := ((Int × (BitVec 64 × (Int × (Int × (Int × Unit))))) × Bool)) (bif decide ((x5.toNat : Int) = 0) then
        some (Sum.inl ((0, 0#64, 0, 0, 0, ()), x.1, ((((x2 % (32#8)).setWidth 64) * (65536#64)) + ((x3.setWidth 64) * (256#64))) + (x4.setWidth 64), 256, 0, 0, ()))
      else
        some (Sum.inl ((0, 0#64, 0, 0, 0, ()), x.1, ((((x2 % (32#8)).setWidth 64) * (65536#64)) + ((x3.setWidth 64) * (256#64))) + (x4.setWidth 64), (x5.toNat : Int), 0, 0, ()))) fun j6 =>
    some (j6.2, true)
  else
    jn (A := ((List (BitVec 8)) × (Int × (BitVec 64 × (Int × (Int × (Int × Unit))))) × (Int × (BitVec 64 × (Int × (Int × (Int × Unit))))) × Int)) (R := ((Int × (BitVec 64 × (Int × (Int × (Int × Unit))))) × Bool)) (bif decide ((x.2.length : Int) = 10) then
        (reticuleref06_big (x.2, 2, 4)).bind fun r7 =>
        (reticuleref06_big (x.2, 7, 2)).bind fun r8 =>
        some (Sum.inl (x.2, (0, 0#64, 0, 0, 0, ()), (x.1, r7, w64 (r8.toNat : Int), 0, 0, ()), r1))
      else
        bif decide ((x.2.length : Int) = 12) then
          (reticuleref06_big (x.2, 2, 4)).bind fun r9 =>
          (reticuleref06_big (x.2, 6, 4)).bind fun r10 =>
          some (Sum.inl (x.2, (0, 0#64, 0, 0, 0, ()), (x.1, r9, w64 (r10.toNat : Int), 0, 0, ()), r1))
        else
          (reticuleref06_big (x.2, 2, 8)).bind fun r11 =>
          (reticuleref06_big (x.2, 10, 4)).bind fun r12 =>
          some (Sum.inl (x.2, (0, 0#64, 0, 0, 0, ()), (x.1, r11, w64 (r12.toNat : Int), 0, 0, ()), r1))) fun j13 =>
    jn (A := ((List (BitVec 8)) × (Int × (BitVec 64 × (Int × (Int × (Int × Unit))))) × (Int × (BitVec 64 × (Int × (Int × (Int × Unit))))) × Int)) (R := ((Int × (BitVec 64 × (Int × (Int × (Int × Unit))))) × Bool)) ((bif decide (j13.2.2.2 = 1) then
          some true
        else
          some (decide (j13.2.2.2 = 2)) : Option Bool).bind fun b14 =>
      bif b14 then
        (ix j13.1 1).bind fun x15 =>
        some (Sum.inl (j13.1, j13.2.1, (j13.2.2.1.1, j13.2.2.1.2.1, j13.2.2.1.2.2.1, j13.2.2.1.2.2.2.1, (((x15 / (8#8)) % (2#8)).toNat : Int), j13.2.2.1.2.2.2.2.2), j13.2.2.2))
      else
        some (Sum.inl (j13.1, j13.2.1, j13.2.2.1, j13.2.2.2))) fun j16 =>
    jn (A := ((List (BitVec 8)) × (Int × (BitVec 64 × (Int × (Int × (Int × Unit))))) × (Int × (BitVec 64 × (Int × (Int × (Int × Unit))))) × Int)) (R := ((Int × (BitVec 64 × (Int × (Int × (Int × Unit))))) × Bool)) (bif decide (j16.2.2.2 = 3) then
        (ix j16.1 1).bind fun x17 =>
        some (Sum.inl (j16.1, j16.2.1, (j16.2.2.1.1, j16.2.2.1.2.1, j16.2.2.1.2.2.1, j16.2.2.1.2.2.2.1, (((x17 / (2#8)) % (2#8)).toNat : Int), j16.2.2.1.2.2.2.2.2), j16.2.2.2))
      else
        some (Sum.inl (j16.1, j16.2.1, j16.2.2.1, j16.2.2.2))) fun j18 =>
    (bif !decide (j18.2.2.2 = 3) then
        some true
      else
        (ix j18.1 1).bind fun x19 =>
        some (decide (((x19 / (4#8)) % (2#8)) = (0#8))) : Option Bool).bind fun b20 =>
    some (j18.2.2.1, b20)
/-- reticule/reticuleref06.Parse -/
noncomputable def reticuleref06_Parse (x : (List (BitVec 8))) : Option ((Int × (BitVec 64 × (Int × (Int × (Int × Unit))))) × (Int × (Int × (Int × Unit)))) :=
  (bif decide ((x.length : Int) = 0) then
      some true
    else
      (ix x 0).bind fun x1 =>
      (reticuleref06_Known (x1.toNat : Int)).bind fun r2 =>
      some (!r2) : Option Bool).bind fun b3 =>
  bif b3 then
    (reticuleref04_Of (5, 32, 0)).bind fun r4 =>
    some ((0, 0#64, 0, 0, 0, ()), r4)
  else
    (ix x 0).bind fun x5 =>
    (reticuleref06_Size (x5.toNat : Int)).bind fun r6 =>
    (bif decide ((x.length : Int) < r6) then
        some true
      else
        (ix x (w64 (r6 - 1))).bind fun x7 =>
        some (!decide (x7 = (0#8))) : Option Bool).bind fun b8 =>
    bif b8 then
      (reticuleref04_Of (5, 36, 0)).bind fun r9 =>
      some ((0, 0#64, 0, 0, 0, ()), r9)
    else
      (chk (decide (0 ≤ (r6 : Int)) && decide ((r6 : Int) ≤ (x.length : Int)))).bind fun _ =>
      (reticuleref06_rest ((x5.toNat : Int), x.take (r6 : Int).toNat)).bind fun r10 =>
      jn (A := ((Int × (BitVec 64 × (Int × (Int × (Int × Unit))))) × (Int × (Int × (Int × Unit))) × (Int × (BitVec 64 × (Int × (Int × (Int × Unit))))) × Bool)) (R := ((Int × (BitVec 64 × (Int × (Int × (Int × Unit))))) × (Int × (Int × (Int × Unit))))) ((reticuleref06_Class (x5.toNat : Int)).bind fun r11 =>
        bif decide (0 < r11) then
          (chk (decide (0 ≤ (r6 : Int)) && decide ((r6 : Int) ≤ (x.length : Int)))).bind fun _ =>
          (reticuleref06_blocks ((x5.toNat : Int), x.take (r6 : Int).toNat)).bind fun r12 =>
          some (Sum.inl ((0, 0#64, 0, 0, 0, ()), (0, 0, 0, ()), r12.1, r12.2))
        else
          some (Sum.inl ((0, 0#64, 0, 0, 0, ()), (0, 0, 0, ()), r10.1, r10.2))) fun j13 =>
      bif !j13.2.2.2 then
        (reticuleref04_Of (5, 36, 0)).bind fun r14 =>
        some ((0, 0#64, 0, 0, 0, ()), r14)
      else
        some (j13.2.2.1, 0, 0, 0, ())
/-- reticule/reticulelaw06.CdbParses -/
noncomputable def reticulelaw06_CdbParses (x : (List (BitVec 8)) × Int) : Option Bool :=
  (reticulelaw06_alive ()).bind fun r1 =>
  bif !r1 then
    some false
  else
    bif decide (100 < (x.1.length : Int)) then
      some true
    else
      (cdb_Parse x.1).bind fun r2 =>
      (reticuleref06_Parse x.1).bind fun r3 =>
      (bif (decide (r2.1.1 = r3.1.1)) && ((decide (r2.1.2.1 = r3.1.2.1)) && ((decide (r2.1.2.2.1 = r3.1.2.2.1)) && ((decide (r2.1.2.2.2.1 = r3.1.2.2.2.1)) && ((decide (r2.1.2.2.2.2.1 = r3.1.2.2.2.2.1)) && true)))) then
          some ((decide (r2.2.1 = r3.2.1)) && ((decide (r2.2.2.1 = r3.2.2.1)) && ((decide (r2.2.2.2.1 = r3.2.2.2.1)) && true)))
        else
          some false : Option Bool).bind fun b4 =>
      (bif b4 then
          (cdb_Size x.2).bind fun r5 =>
          (reticuleref06_Size x.2).bind fun r6 =>
          some (decide (r5 = r6))
        else
          some false : Option Bool).bind fun b7 =>
      (bif b7 then
          (cdb_Known x.2).bind fun r8 =>
          (reticuleref06_Known x.2).bind fun r9 =>
          some (decide (r8 = r9))
        else
          some false : Option Bool).bind fun b10 =>
      (bif b10 then
          (cdb_Class x.2).bind fun r11 =>
          (reticuleref06_Class x.2).bind fun r12 =>
          some (decide (r11 = r12))
        else
          some false : Option Bool).bind fun b13 =>
      some b13
/-- reticule/reticuleref06.lay -/
noncomputable def reticuleref06_lay_L0 : Nat → ((List (BitVec 8)) × Int × (BitVec 64) × Int) → Option ((List (BitVec 8)) ⊕ (List (BitVec 8)))
  | 0, _ => none
  | n + 1, j =>
  bif decide (0 ≤ j.2.2.2) then
      (chk (inLen (w64 (j.2.1 + j.2.2.2)) j.1.length)).bind fun _ =>
      reticuleref06_lay_L0 n (j.1.set (w64 (j.2.1 + j.2.2.2) : Int).toNat ((j.2.2.1 % (256#64)).setWidth 8), j.2.1, j.2.2.1 / (256#64), w64 (j.2.2.2 - 1))
    else
      some (Sum.inl j.1)
noncomputable def reticuleref06_lay (x : (List (BitVec 8)) × Int × Int × (BitVec 64)) : Option (List (BitVec 8)) :=
  jn (A := (List (BitVec 8))) (R := (List (BitVec 8))) (reticuleref06_lay_L0 Big (x.1, x.2.1, x.2.2.2, w64 (x.2.2.1 - 1))) fun q1 =>
  some q1
/-- reticule/reticuleref06.Bytes -/
noncomputable def reticuleref06_Bytes (x : (Int × (BitVec 64 × (Int × (Int × (Int × Unit)))))) : Option ((List (BitVec 8)) × Bool) :=
  (reticuleref06_Known x.1).bind fun r1 =>
  (bif !r1 then
      some true
    else
      some (decide (x.2.2.1 < 0)) : Option Bool).bind fun b2 =>
  (bif b2 then
      some true
    else
      some (decide (x.2.2.2.1 < 0)) : Option Bool).bind fun b3 =>
  (bif b3 then
      some true
    else
      some (decide (x.2.2.2.2.1 < 0)) : Option Bool).bind fun b4 =>
  (bif b4 then
      some true
    else
      some (decide (3 < x.2.2.2.2.1)) : Option Bool).bind fun b5 =>
  (bif b5 then
      some true
    else
      some (decide (255 < x.2.2.2.1)) : Option Bool).bind fun b6 =>
  bif b6 then
    some (([] : List (BitVec 8)), false)
  else
    (reticuleref06_Size x.1).bind fun r7 =>
    (chk (decide (0 ≤ r7) && decide (r7 ≤ r7) && decide (r7 ≤ (lim : Int)))).bind fun _ =>
    (chk (inLen 0 (List.replicate (r7 : Int).toNat (0#8)).length)).bind fun _ =>
    jn (A := ((Int × (BitVec 64 × (Int × (Int × (Int × Unit))))) × (List (BitVec 8)))) (R := ((List (BitVec 8)) × Bool)) ((reticuleref06_Class x.1).bind fun r8 =>
      (bif decide (0 < r8) then
          some (decide ((((List.replicate (r7 : Int).toNat (0#8)).set (0 : Int).toNat (BitVec.ofInt 8 x.1)).length : Int) = 6))
        else
          some false : Option Bool).bind fun b9 =>
      bif b9 then
        (reticuleref06_lay ((List.replicate (r7 : Int).toNat (0#8)).set (0 : Int).toNat (BitVec.ofInt 8 x.1), 1, 3, x.2.1)).bind fun r10 =>
        (chk (inLen 1 r10.length)).bind fun _ =>
        ((r10[(1 : Int).toNat]?).bind fun y11 =>
          some y11).bind fun x12 =>
        (chk (inLen 1 r10.length)).bind fun _ =>
        (chk (inLen 4 (r10.set (1 : Int).toNat (x12 % (32#8))).length)).bind fun _ =>
        some (Sum.inl (x, (r10.set (1 : Int).toNat (x12 % (32#8))).set (4 : Int).toNat (BitVec.ofInt 8 x.2.2.1)))
      else
        (reticuleref06_Class x.1).bind fun r13 =>
        bif decide (0 < r13) then
          jn (A := ((Int × (BitVec 64 × (Int × (Int × (Int × Unit))))) × (List (BitVec 8)))) (R := (((Int × (BitVec 64 × (Int × (Int × (Int × Unit))))) × (List (BitVec 8))) ⊕ ((List (BitVec 8)) × Bool))) (bif decide ((((List.replicate (r7 : Int).toNat (0#8)).set (0 : Int).toNat (BitVec.ofInt 8 x.1)).length : Int) = 10) then
              (reticuleref06_lay ((List.replicate (r7 : Int).toNat (0#8)).set (0 : Int).toNat (BitVec.ofInt 8 x.1), 2, 4, x.2.1)).bind fun r14 =>
              (reticuleref06_lay (r14, 7, 2, BitVec.ofInt 64 x.2.2.1)).bind fun r15 =>
              some (Sum.inl (x, r15))
            else
              bif decide ((((List.replicate (r7 : Int).toNat (0#8)).set (0 : Int).toNat (BitVec.ofInt 8 x.1)).length : Int) = 12) then
                (reticuleref06_lay ((List.replicate (r7 : Int).toNat (0#8)).set (0 : Int).toNat (BitVec.ofInt 8 x.1), 2, 4, x.2.1)).bind fun r16 =>
                (reticuleref06_lay (r16, 6, 4, BitVec.ofInt 64 x.2.2.1)).bind fun r17 =>
                some (Sum.inl (x, r17))
              else
                (reticuleref06_lay ((List.replicate (r7 : Int).toNat (0#8)).set (0 : Int).toNat (BitVec.ofInt 8 x.1), 2, 8, x.2.1)).bind fun r18 =>
                (reticuleref06_lay (r18, 10, 4, BitVec.ofInt 64 x.2.2.1)).bind fun r19 =>
                some (Sum.inl (x, r19))) fun j20 =>
          jn (A := ((Int × (BitVec 64 × (Int × (Int × (Int × Unit))))) × (List (BitVec 8)))) (R := (((Int × (BitVec 64 × (Int × (Int × (Int × Unit))))) × (List (BitVec 8))) ⊕ ((List (BitVec 8)) × Bool))) ((reticuleref06_Class j20.1.1).bind fun r21 =>
            (bif decide (r21 < 3) then
                some (decide (j20.1.2.2.2.2.1 = 1))
              else
                some false : Option Bool).bind fun b22 =>
            bif b22 then
              (chk (inLen 1 j20.2.length)).bind fun _ =>
              some (Sum.inl (j20.1, j20.2.set (1 : Int).toNat (8#8)))
            else
              some (Sum.inl (j20.1, j20.2))) fun j23 =>
          (reticuleref06_Class j23.1.1).bind fun r24 =>
          (bif decide (r24 = 3) then
              some (decide (j23.1.2.2.2.2.1 = 1))
            else
              some false : Option Bool).bind fun b25 =>
          bif b25 then
            (chk (inLen 1 j23.2.length)).bind fun _ =>
            some (Sum.inl (j23.1, j23.2.set (1 : Int).toNat (2#8)))
          else
            some (Sum.inl (j23.1, j23.2))
        else
          bif decide (x.1 = 3) then
            (chk (inLen 4 ((List.replicate (r7 : Int).toNat (0#8)).set (0 : Int).toNat (BitVec.ofInt 8 x.1)).length)).bind fun _ =>
            some (Sum.inl (x, ((List.replicate (r7 : Int).toNat (0#8)).set (0 : Int).toNat (BitVec.ofInt 8 x.1)).set (4 : Int).toNat (BitVec.ofInt 8 x.2.2.1)))
          else
            bif decide (x.1 = 18) then
              (chk (inLen 1 ((List.replicate (r7 : Int).toNat (0#8)).set (0 : Int).toNat (BitVec.ofInt 8 x.1)).length)).bind fun _ =>
              (chk (inLen 2 (((List.replicate (r7 : Int).toNat (0#8)).set (0 : Int).toNat (BitVec.ofInt 8 x.1)).set (1 : Int).toNat (BitVec.ofInt 8 (x.2.2.2.2.1.tmod 2))).length)).bind fun _ =>
              (reticuleref06_lay ((((List.replicate (r7 : Int).toNat (0#8)).set (0 : Int).toNat (BitVec.ofInt 8 x.1)).set (1 : Int).toNat (BitVec.ofInt 8 (x.2.2.2.2.1.tmod 2))).set (2 : Int).toNat (BitVec.ofInt 8 x.2.2.2.1), 3, 2, BitVec.ofInt 64 x.2.2.1)).bind fun r26 =>
              some (Sum.inl (x, r26))
            else
              bif decide (x.1 = 21) then
                (chk (inLen 1 ((List.replicate (r7 : Int).toNat (0#8)).set (0 : Int).toNat (BitVec.ofInt 8 x.1)).length)).bind fun _ =>
                (chk (inLen 4 (((List.replicate (r7 : Int).toNat (0#8)).set (0 : Int).toNat (BitVec.ofInt 8 x.1)).set (1 : Int).toNat (16#8)).length)).bind fun _ =>
                some (Sum.inl (x, (((List.replicate (r7 : Int).toNat (0#8)).set (0 : Int).toNat (BitVec.ofInt 8 x.1)).set (1 : Int).toNat (16#8)).set (4 : Int).toNat (BitVec.ofInt 8 x.2.2.1)))
              else
                bif decide (x.1 = 85) then
                  (chk (inLen 1 ((List.replicate (r7 : Int).toNat (0#8)).set (0 : Int).toNat (BitVec.ofInt 8 x.1)).length)).bind fun _ =>
                  (reticuleref06_lay (((List.replicate (r7 : Int).toNat (0#8)).set (0 : Int).toNat (BitVec.ofInt 8 x.1)).set (1 : Int).toNat (16#8), 7, 2, BitVec.ofInt 64 x.2.2.1)).bind fun r27 =>
                  some (Sum.inl (x, r27))
                else
                  bif decide (x.1 = 26) then
                    (chk (inLen 2 ((List.replicate (r7 : Int).toNat (0#8)).set (0 : Int).toNat (BitVec.ofInt 8 x.1)).length)).bind fun _ =>
                    (chk (inLen 4 (((List.replicate (r7 : Int).toNat (0#8)).set (0 : Int).toNat (BitVec.ofInt 8 x.1)).set (2 : Int).toNat (BitVec.ofInt 8 (w64 ((x.2.2.2.1.tmod 64) + (w64 (x.2.2.2.2.1 * 64)))))).length)).bind fun _ =>
                    some (Sum.inl (x, (((List.replicate (r7 : Int).toNat (0#8)).set (0 : Int).toNat (BitVec.ofInt 8 x.1)).set (2 : Int).toNat (BitVec.ofInt 8 (w64 ((x.2.2.2.1.tmod 64) + (w64 (x.2.2.2.2.1 * 64)))))).set (4 : Int).toNat (BitVec.ofInt 8 x.2.2.1)))
                  else
                    bif decide (x.1 = 90) then
                      (chk (inLen 2 ((List.replicate (r7 : Int).toNat (0#8)).set (0 : Int).toNat (BitVec.ofInt 8 x.1)).length)).bind fun _ =>
                      (reticuleref06_lay (((List.replicate (r7 : Int).toNat (0#8)).set (0 : Int).toNat (BitVec.ofInt 8 x.1)).set (2 : Int).toNat (BitVec.ofInt 8 (w64 ((x.2.2.2.1.tmod 64) + (w64 (x.2.2.2.2.1 * 64))))), 7, 2, BitVec.ofInt 64 x.2.2.1)).bind fun r28 =>
                      some (Sum.inl (x, r28))
                    else
                      (bif decide (x.1 = 27) then
                          some true
                        else
                          some (decide (x.1 = 30)) : Option Bool).bind fun b29 =>
                      bif b29 then
                        (chk (inLen 4 ((List.replicate (r7 : Int).toNat (0#8)).set (0 : Int).toNat (BitVec.ofInt 8 x.1)).length)).bind fun _ =>
                        some (Sum.inl (x, ((List.replicate (r7 : Int).toNat (0#8)).set (0 : Int).toNat (BitVec.ofInt 8 x.1)).set (4 : Int).toNat (BitVec.ofInt 8 x.2.2.2.2.1)))
                      else
                        bif decide (x.1 = 158) then
                          (chk (inLen 1 ((List.replicate (r7 : Int).toNat (0#8)).set (0 : Int).toNat (BitVec.ofInt 8 x.1)).length)).bind fun _ =>
                          (reticuleref06_lay (((List.replicate (r7 : Int).toNat (0#8)).set (0 : Int).toNat (BitVec.ofInt 8 x.1)).set (1 : Int).toNat (16#8), 10, 4, BitVec.ofInt 64 x.2.2.1)).bind fun r30 =>
                          some (Sum.inl (x, r30))
                        else
                          bif decide (x.1 = 160) then
                            (reticuleref06_lay ((List.replicate (r7 : Int).toNat (0#8)).set (0 : Int).toNat (BitVec.ofInt 8 x.1), 6, 4, BitVec.ofInt 64 x.2.2.1)).bind fun r31 =>
                            some (Sum.inl (x, r31))
                          else
                            some (Sum.inl (x, (List.replicate (r7 : Int).toNat (0#8)).set (0 : Int).toNat (BitVec.ofInt 8 x.1)))) fun j32 =>
    (reticuleref06_Parse j32.2).bind fun r33 =>
    (bif !((decide (r33.2.1 = 0)) && ((decide (r33.2.2.1 = 0)) && ((decide (r33.2.2.2.1 = 0)) && true))) then
        some true
      else
        some (!((decide (r33.1.1 = j32.1.1)) && ((decide (r33.1.2.1 = j32.1.2.1)) && ((decide (r33.1.2.2.1 = j32.1.2.2.1)) && ((decide (r33.1.2.2.2.1 = j32.1.2.2.2.1)) && ((decide (r33.1.2.2.2.2.1 = j32.1.2.2.2.2.1)) && true)))))) : Option Bool).bind fun b34 =>
    bif b34 then
      some (([] : List (BitVec 8)), false)
    else
      some (j32.2, true)
/-- reticule/reticulelaw06.CdbBytes -/
noncomputable def reticulelaw06_CdbBytes (x : (Int × (BitVec 64 × (Int × (Int × (Int × Unit)))))) : Option Bool :=
  (reticulelaw06_alive ()).bind fun r1 =>
  bif !r1 then
    some false
  else
    (cdb_Bytes x).bind fun r2 =>
    (reticuleref06_Bytes x).bind fun r3 =>
    (chk (decide (r2.1.length ≤ lim))).bind fun _ =>
    (chk (decide (r3.1.length ≤ lim))).bind fun _ =>
    (bif decide (r2.1 = r3.1) then
        some (decide (r2.2 = r3.2))
      else
        some false : Option Bool).bind fun b4 =>
    some b4
/-- reticule/reticulelaw06.CdbBack -/
noncomputable def reticulelaw06_CdbBack (x : (List (BitVec 8)) × (List (BitVec 8))) : Option Bool :=
  (reticulelaw06_alive ()).bind fun r1 =>
  bif !r1 then
    some false
  else
    (bif decide (100 < (x.1.length : Int)) then
        some true
      else
        some (decide (100 < (x.2.length : Int))) : Option Bool).bind fun b2 =>
    bif b2 then
      some true
    else
      (cdb_Parse x.1).bind fun r3 =>
      bif !((decide (r3.2.1 = 0)) && ((decide (r3.2.2.1 = 0)) && ((decide (r3.2.2.2.1 = 0)) && true))) then
        some ((decide (r3.1.1 = 0)) && ((decide (r3.1.2.1 = (0#64))) && ((decide (r3.1.2.2.1 = 0)) && ((decide (r3.1.2.2.2.1 = 0)) && ((decide (r3.1.2.2.2.2.1 = 0)) && true)))))
      else
        (cdb_Bytes r3.1).bind fun r4 =>
        (chk (decide (([] : List (BitVec 8)).length + r4.1.length ≤ lim))).bind fun _ =>
        (chk (decide ((([] : List (BitVec 8)) ++ r4.1).length + x.2.length ≤ lim))).bind fun _ =>
        (cdb_Parse ((([] : List (BitVec 8)) ++ r4.1) ++ x.2)).bind fun r5 =>
        (bif r4.2 then
            some ((decide (r5.2.1 = r3.2.1)) && ((decide (r5.2.2.1 = r3.2.2.1)) && ((decide (r5.2.2.2.1 = r3.2.2.2.1)) && true)))
          else
            some false : Option Bool).bind fun b6 =>
        (bif b6 then
            some ((decide (r5.1.1 = r3.1.1)) && ((decide (r5.1.2.1 = r3.1.2.1)) && ((decide (r5.1.2.2.1 = r3.1.2.2.1)) && ((decide (r5.1.2.2.2.1 = r3.1.2.2.2.1)) && ((decide (r5.1.2.2.2.2.1 = r3.1.2.2.2.2.1)) && true)))))
          else
            some false : Option Bool).bind fun b7 =>
        (bif b7 then
            (cdb_Size r3.1.1).bind fun r8 =>
            some (decide ((r4.1.length : Int) = r8))
          else
            some false : Option Bool).bind fun b9 =>
        (bif b9 then
            some (decide ((r4.1.length : Int) ≤ (x.1.length : Int)))
          else
            some false : Option Bool).bind fun b10 =>
        some b10
/-- reticule/reticulelaw06.CdbBlocks -/
noncomputable def reticulelaw06_CdbBlocks_L0 : Nat → ((BitVec 64) × (BitVec 32) × Bool × (List Int) × Int) → Option (Unit ⊕ Bool)
  | 0, _ => none
  | n + 1, j =>
  bif decide (j.2.2.2.2 < 13) then
      (chk (inLen j.2.2.2.2 13)).bind fun _ =>
      ((j.2.2.2.1[(j.2.2.2.2 : Int).toNat]?).bind fun y2 =>
        some y2).bind fun x3 =>
      jn (A := ((BitVec 64) × (BitVec 32) × Bool × (List Int) × Int × Int × (BitVec 64) × (BitVec 64))) (R := (Unit ⊕ Bool)) ((cdb_Size x3).bind fun r4 =>
        bif decide (r4 = 6) then
          some (Sum.inl (j.1, j.2.1, j.2.2.1, j.2.2.2.1, j.2.2.2.2, x3, 2097151#64, 256#64))
        else
          bif decide (r4 = 10) then
            some (Sum.inl (j.1, j.2.1, j.2.2.1, j.2.2.2.1, j.2.2.2.2, x3, 4294967295#64, 65535#64))
          else
            bif decide (r4 = 16) then
              some (Sum.inl (j.1, j.2.1, j.2.2.1, j.2.2.2.1, j.2.2.2.2, x3, 18446744073709551615#64, 4294967295#64))
            else
              some (Sum.inl (j.1, j.2.1, j.2.2.1, j.2.2.2.1, j.2.2.2.2, x3, 4294967295#64, 4294967295#64))) fun j5 =>
      jn (A := ((BitVec 64) × (BitVec 32) × Bool × (List Int) × Int × Int × (BitVec 64) × (BitVec 64) × (Int × (BitVec 64 × (Int × (Int × (Int × Unit))))))) (R := (Unit ⊕ Bool)) ((bif j5.2.2.1 then
            (cdb_Size j5.2.2.2.2.2.1).bind fun r6 =>
            some (decide (6 < r6))
          else
            some false : Option Bool).bind fun b7 =>
        (bif b7 then
            (cdb_Class j5.2.2.2.2.2.1).bind fun r8 =>
            some (decide (r8 < 4))
          else
            some false : Option Bool).bind fun b9 =>
        bif b9 then
          some (Sum.inl (j5.1, j5.2.1, j5.2.2.1, j5.2.2.2.1, j5.2.2.2.2.1, j5.2.2.2.2.2.1, j5.2.2.2.2.2.2.1, j5.2.2.2.2.2.2.2, j5.2.2.2.2.2.1, j5.1, (j5.2.1.toNat : Int), 0, 1, ()))
        else
          some (Sum.inl (j5.1, j5.2.1, j5.2.2.1, j5.2.2.2.1, j5.2.2.2.2.1, j5.2.2.2.2.2.1, j5.2.2.2.2.2.2.1, j5.2.2.2.2.2.2.2, j5.2.2.2.2.2.1, j5.1, (j5.2.1.toNat : Int), 0, 0, ()))) fun j10 =>
      (cdb_Bytes j10.2.2.2.2.2.2.2.2).bind fun r11 =>
      (bif decide (j10.1 ≤ j10.2.2.2.2.2.2.1) then
          some (decide ((j10.2.1.setWidth 64) ≤ j10.2.2.2.2.2.2.2.1))
        else
          some false : Option Bool).bind fun b12 =>
      (bif b12 then
          (cdb_Size j10.2.2.2.2.2.1).bind fun r13 =>
          (bif decide (6 < r13) then
              some true
            else
              some (decide ((0#32) < j10.2.1)) : Option Bool).bind fun b14 =>
          some b14
        else
          some false : Option Bool).bind fun b15 =>
      (bif !(decide (r11.2 = b15)) then
          some true
        else
          (bif r11.2 then
              (cdb_Size j10.2.2.2.2.2.1).bind fun r16 =>
              some (!decide ((r11.1.length : Int) = r16))
            else
              some false : Option Bool).bind fun b17 =>
          some b17 : Option Bool).bind fun b18 =>
      bif b18 then
        some (Sum.inr false)
      else
        reticulelaw06_CdbBlocks_L0 n (j10.1, j10.2.1, j10.2.2.1, j10.2.2.2.1, w64 (j10.2.2.2.2.1 + 1))
    else
      some (Sum.inl ())
noncomputable def reticulelaw06_CdbBlocks (x : (BitVec 64) × (BitVec 32) × Bool) : Option Bool :=
  (reticulelaw06_alive ()).bind fun r1 =>
  bif !r1 then
    some false
  else
    jn (A := Unit) (R := Bool) (reticulelaw06_CdbBlocks_L0 Big (x.1, x.2.1, x.2.2, ([8, 10, 40, 42, 47, 53, 168, 170, 175, 136, 138, 143, 145] : List Int), 0)) fun q19 =>
    some true
end Go.Proofs.Ytnhmeldgpgidiaa
