/- Models of functions, printed by a program. Conditions: none. -/
import Derived.Test.YtaghpancpfpnhaaCrcD
import Derived.Test.YtaghpancpfpnhaaAbs5
namespace Go.Proofs.Ytaghpancpfpnhaa.Abs
open Go Go.RowKit
set_option linter.unusedVariables false
set_option maxRecDepth 100000

def M_slices_Clone_byte_byte (a0 : List Int) : Option (List Int) :=
  if room 1 ([] ++ a0).length then
    some ([] ++ a0)
  else none
def M_crc_Sum (a0 : List Int) : Option Int :=
  (M_crc_More 0 a0) >>= fun r1 =>
  some r1
def M_crc_Seal_l0 (x0 : Int) (x1 : Int) (x2 : List Int) : Option (List Int) :=
  if x0 < 4 then
    if room 1 (x2 ++ [IntKind.u8.wrap x1]).length then
      some (x2 ++ [IntKind.u8.wrap x1]) >>= fun y3 =>
      M_crc_Seal_l0 (IntKind.i64.wrap (x0 + 1)) (sShr .u32 x1 8) y3
    else none
  else
    some x2
  partial_fixpoint
def M_crc_Seal (a0 : List Int) : Option ((List Int) × Int) :=
  if (a0.length : Int) > 65532 then
    some ([], 3)
  else
    (M_slices_Clone_byte_byte a0) >>= fun r1 =>
    (M_crc_Sum a0) >>= fun r2 =>
    (M_crc_Seal_l0 0 r2 r1) >>= fun j5 =>
    some (j5, 0)
def M_thrumlaw04_live : Option Bool :=
  (M_crc_Seal [97]) >>= fun r1 =>
  (M_crc_Sum [49, 50, 51, 52, 53, 54, 55, 56, 57]) >>= fun r2 =>
  ((
    if r2 = 3421780262 then
      some ((r1.1.length : Int) == 5)
    else
      some false) : Option Bool) >>= fun j3 =>
  ((
    if j3 = true then
      some (r1.2 == 0)
    else
      some false) : Option Bool) >>= fun j4 =>
  some j4
def M_thrumlaw04_CrcLinear_l0 (a0 : List Int) (a1 : List Int) (a2 : List Int) (r1 : Bool) (y2 : Int) (y4 : List Int) (x0 : Int) (x1 : List Int) : Option (List Int) :=
  if x0 < (y4.length : Int) then
    if 0 ≤ x0 ∧ x0 < (a0.length : Int) then
      if 0 ≤ x0 ∧ x0 < (a1.length : Int) then
        if 0 ≤ x0 ∧ x0 < (a2.length : Int) then
          if 0 ≤ x0 ∧ x0 < (x1.length : Int) then
            some (x1.set (Int.toNat x0) (bXor .u8 (bXor .u8 (at' a0 x0) (at' a1 x0)) (at' a2 x0))) >>= fun y6 =>
            M_thrumlaw04_CrcLinear_l0 a0 a1 a2 r1 y2 y4 (IntKind.i64.wrap (x0 + 1)) y6
          else none
        else none
      else none
    else none
  else
    some x1
  partial_fixpoint
def M_thrumlaw04_CrcLinear (a0 : List Int) (a1 : List Int) (a2 : List Int) : Option Bool :=
  (M_thrumlaw04_live) >>= fun r1 =>
  if r1 = false then
    some false
  else
    some (if (a2.length : Int) < (if (a1.length : Int) < (a0.length : Int) then (a1.length : Int) else (a0.length : Int)) then (a2.length : Int) else (if (a1.length : Int) < (a0.length : Int) then (a1.length : Int) else (a0.length : Int))) >>= fun y2 =>
    if y2 > 3000 then
      some r1
    else
      if 0 ≤ y2 ∧ y2 ≤ y2 ∧ y2 ≤ 140737488355328 ∧ y2 * ((1 : Nat) : Int) ≤ 140737488355328 then
        some (List.replicate (Int.toNat y2) 0) >>= fun y4 =>
        (M_thrumlaw04_CrcLinear_l0 a0 a1 a2 r1 y2 y4 0 y4) >>= fun j8 =>
        if r1 = true then
          if cutOk none (some y2) a0.length then
            if cutOk none (some y2) a1.length then
              if cutOk none (some y2) a2.length then
                (M_crc_Sum j8) >>= fun r13 =>
                (M_crc_Sum (cut' a0 none (some y2))) >>= fun r14 =>
                (M_crc_Sum (cut' a1 none (some y2))) >>= fun r15 =>
                (M_crc_Sum (cut' a2 none (some y2))) >>= fun r16 =>
                some (r13 == (bXor .u32 (bXor .u32 r14 r15) r16))
              else none
            else none
          else none
        else
          some false
      else none
def M_crc_Turn (a0 : List Int) (a1 : Int) : Option ((List Int) × Int) :=
  ((
    if a1 < 0 then
      some true
    else
      some (decide ((sShr .i64 a1 3) ≥ (a0.length : Int)))) : Option Bool) >>= fun j1 =>
  if j1 = true then
    some ([], 1)
  else
    (M_slices_Clone_byte_byte a0) >>= fun r2 =>
    if 0 ≤ sShr .i64 a1 3 ∧ sShr .i64 a1 3 < (r2.length : Int) then
      if 0 ≤ bAnd .i64 a1 7 then
        if 0 ≤ sShr .i64 a1 3 ∧ sShr .i64 a1 3 < (r2.length : Int) then
          some (r2.set (Int.toNat (sShr .i64 a1 3)) (bXor .u8 (at' r2 (sShr .i64 a1 3)) (sShl .u8 1 (bAnd .i64 a1 7))), 0)
        else none
      else none
    else none
def M_thrumref04_Turn (a0 : List Int) (a1 : Int) : Option ((List Int) × Int) :=
  ((
    if a1 < 0 then
      some true
    else
      some (decide ((IntKind.i64.wrap (Int.tdiv a1 8)) ≥ (a0.length : Int)))) : Option Bool) >>= fun j1 =>
  if j1 = true then
    some ([], 1)
  else
    if room 1 (a0 : List Int).length then
      if 0 ≤ IntKind.i64.wrap (Int.tdiv a1 8) ∧ IntKind.i64.wrap (Int.tdiv a1 8) < (a0.length : Int) then
        if 0 ≤ Int.tmod a1 8 then
          if 0 ≤ IntKind.i64.wrap (Int.tdiv a1 8) ∧ IntKind.i64.wrap (Int.tdiv a1 8) < (a0.length : Int) then
            some (a0.set (Int.toNat (IntKind.i64.wrap (Int.tdiv a1 8))) (bXor .u8 (at' a0 (IntKind.i64.wrap (Int.tdiv a1 8))) (sShl .u8 1 (Int.tmod a1 8))), 0)
          else none
        else none
      else none
    else none
def M_thrumref04_More_l1 (a1 : List Int) (x0 : Int) (x0_ : Int) (x1_ : Int) : Option Int :=
  if x0_ < 8 then
    if (bAnd .u32 x1_ 1) = 1 then
      M_thrumref04_More_l1 a1 x0 (IntKind.i64.wrap (x0_ + 1)) (bXor .u32 (sShr .u32 x1_ 1) 3988292384)
    else
      M_thrumref04_More_l1 a1 x0 (IntKind.i64.wrap (x0_ + 1)) (sShr .u32 x1_ 1)
  else
    some x1_
  partial_fixpoint
def M_thrumref04_More_l0 (a1 : List Int) (x0 : Int) (x1 : Int) : Option Int :=
  if x0 < (a1.length : Int) then
    if 0 ≤ x0 ∧ x0 < (a1.length : Int) then
      (M_thrumref04_More_l1 a1 x0 0 (bXor .u32 x1 (IntKind.u32.wrap (at' a1 x0)))) >>= fun j3 =>
      M_thrumref04_More_l0 a1 (IntKind.i64.wrap (x0 + 1)) j3
    else none
  else
    some x1
  partial_fixpoint
def M_thrumref04_More (a0 : Int) (a1 : List Int) : Option Int :=
  some (bXor .u32 (if IntKind.signed .u32 then -1 else IntKind.max .u32) a0) >>= fun y1 =>
  (M_thrumref04_More_l0 a1 0 y1) >>= fun j4 =>
  some (bXor .u32 (if IntKind.signed .u32 then -1 else IntKind.max .u32) j4)
def M_thrumref04_Sum (a0 : List Int) : Option Int :=
  (M_thrumref04_More 0 a0) >>= fun r1 =>
  some r1
def M_thrumref03_Same (a0 : List Int) (a1 : List Int) : Option Bool :=
  some ((strB a0).toList == (strB a1).toList)
def M_thrumlaw04_CrcSums (a0 : List Int) (a1 : Int) (a2 : Int) : Option Bool :=
  (M_thrumlaw04_live) >>= fun r1 =>
  if r1 = false then
    some false
  else
    if (a0.length : Int) > 5000 then
      some r1
    else
      if room 1 (a0 : List Int).length then
        (M_crc_Turn a0 a2) >>= fun r2 =>
        (M_thrumref04_Turn a0 a2) >>= fun r3 =>
        ((
          if r1 = true then
            (M_crc_Sum a0) >>= fun r4 =>
            (M_thrumref04_Sum a0) >>= fun r5 =>
            some (r4 == r5)
          else
            some false) : Option Bool) >>= fun j6 =>
        ((
          if j6 = true then
            (M_crc_More a1 a0) >>= fun r7 =>
            (M_thrumref04_More a1 a0) >>= fun r8 =>
            some (r7 == r8)
          else
            some false) : Option Bool) >>= fun j9 =>
        ((
          if j9 = true then
            (M_thrumref03_Same r2.1 r3.1) >>= fun r10 =>
            some r10
          else
            some false) : Option Bool) >>= fun j11 =>
        ((
          if j11 = true then
            some (r2.2 == r3.2)
          else
            some false) : Option Bool) >>= fun j12 =>
        ((
          if j12 = true then
            (M_thrumref03_Same a0 a0) >>= fun r13 =>
            some r13
          else
            some false) : Option Bool) >>= fun j14 =>
        some j14
      else none
def M_thrumlaw04_CrcParts (a0 : List Int) (a1 : List Int) (a2 : Int) : Option Bool :=
  (M_thrumlaw04_live) >>= fun r1 =>
  if r1 = false then
    some false
  else
    if (IntKind.i64.wrap ((a0.length : Int) + (a1.length : Int))) > 5000 then
      some r1
    else
      if room 1 (a0 : List Int).length then
        if room 1 (a0 ++ a1).length then
          (M_crc_Turn (a0 ++ a1) a2) >>= fun r2 =>
          (M_crc_Turn r2.1 a2) >>= fun r3 =>
          ((
            if r2.2 ≠ r3.2 then
              some (decide (((a0 ++ a1).length : Int) > 0))
            else
              some false) : Option Bool) >>= fun j4 =>
          if j4 = true then
            some false
          else
            if r2.2 = 0 then
              (M_thrumref03_Same r3.1 (a0 ++ a1)) >>= fun r5 =>
              if r5 = false then
                some false
              else
                ((
                  if r1 = true then
                    (M_crc_Sum a0) >>= fun r6 =>
                    (M_crc_More r6 a1) >>= fun r7 =>
                    (M_crc_Sum (a0 ++ a1)) >>= fun r8 =>
                    some (r7 == r8)
                  else
                    some false) : Option Bool) >>= fun j9 =>
                ((
                  if j9 = true then
                    (M_crc_Sum []) >>= fun r10 =>
                    some (r10 == 0)
                  else
                    some false) : Option Bool) >>= fun j11 =>
                some j11
            else
              ((
                if r1 = true then
                  (M_crc_Sum a0) >>= fun r12 =>
                  (M_crc_More r12 a1) >>= fun r13 =>
                  (M_crc_Sum (a0 ++ a1)) >>= fun r14 =>
                  some (r13 == r14)
                else
                  some false) : Option Bool) >>= fun j15 =>
              ((
                if j15 = true then
                  (M_crc_Sum []) >>= fun r16 =>
                  some (r16 == 0)
                else
                  some false) : Option Bool) >>= fun j17 =>
              some j17
        else none
      else none
def M_thrumref04_Seal (a0 : List Int) : Option ((List Int) × Int) :=
  if (a0.length : Int) > 65532 then
    some ([], 3)
  else
    (M_thrumref04_Sum a0) >>= fun r1 =>
    if room 1 (a0 : List Int).length then
      if room 1 (a0 ++ [IntKind.u8.wrap r1, IntKind.u8.wrap (sShr .u32 r1 8), IntKind.u8.wrap (sShr .u32 r1 16), IntKind.u8.wrap (sShr .u32 r1 24)]).length then
        some (a0 ++ [IntKind.u8.wrap r1, IntKind.u8.wrap (sShr .u32 r1 8), IntKind.u8.wrap (sShr .u32 r1 16), IntKind.u8.wrap (sShr .u32 r1 24)], 0)
      else none
    else none
def M_slices_Equal_byte_byte_l0 (a0 : List Int) (a1 : List Int) (x0 : Int) : Option (Sum Bool Unit) :=
  if x0 < (a0.length : Int) then
    if 0 ≤ x0 ∧ x0 < (a0.length : Int) then
      if 0 ≤ x0 ∧ x0 < (a1.length : Int) then
        if (at' a0 x0) ≠ (at' a1 x0) then
          some (.inl false)
        else
          M_slices_Equal_byte_byte_l0 a0 a1 (IntKind.i64.wrap (x0 + 1))
      else none
    else none
  else
    some (.inr ())
  partial_fixpoint
def M_slices_Equal_byte_byte (a0 : List Int) (a1 : List Int) : Option Bool :=
  if (a0.length : Int) ≠ (a1.length : Int) then
    some false
  else
    (M_slices_Equal_byte_byte_l0 a0 a1 0) >>= fun e => match e with
    | .inl r => some r
    | .inr j1 =>
      some true
def M_crc_Open (a0 : List Int) : Option ((List Int) × Int) :=
  if (a0.length : Int) > 65536 then
    some ([], 3)
  else
    if (IntKind.i64.wrap ((a0.length : Int) - 4)) < 0 then
      some ([], 5)
    else
      if cutOk none (some (IntKind.i64.wrap ((a0.length : Int) - 4))) a0.length then
        some (cut' a0 none (some (IntKind.i64.wrap ((a0.length : Int) - 4)))) >>= fun y1 =>
        (M_crc_Seal y1) >>= fun r3 =>
        ((
          if r3.2 ≠ 0 then
            some true
          else
            (M_slices_Equal_byte_byte r3.1 a0) >>= fun r4 =>
            some (!r4)) : Option Bool) >>= fun j5 =>
        if j5 = true then
          some ([], 7)
        else
          if cutOk none (some (IntKind.i64.wrap ((a0.length : Int) - 4))) a0.length then
            some (cut' a0 none (some (IntKind.i64.wrap ((a0.length : Int) - 4)))) >>= fun y6 =>
            (M_slices_Clone_byte_byte y6) >>= fun r8 =>
            some (r8, 0)
          else none
      else none
def M_thrumref04_Open (a0 : List Int) : Option ((List Int) × Int) :=
  if (a0.length : Int) > 65536 then
    some ([], 3)
  else
    if (a0.length : Int) < 4 then
      some ([], 5)
    else
      if cutOk none (some (IntKind.i64.wrap ((a0.length : Int) - 4))) a0.length then
        some (cut' a0 none (some (IntKind.i64.wrap ((a0.length : Int) - 4)))) >>= fun y1 =>
        if room 1 (y1 : List Int).length then
          (M_thrumref04_Seal y1) >>= fun r3 =>
          if (!((strB r3.1).toList == (strB a0).toList)) = true then
            some ([], 7)
          else
            some (y1, 0)
        else none
      else none
def M_thrumlaw04_CrcSeals_l0 (a0 : List Int) (r1 : Bool) (r2 : (List Int) × Int) (r4 : (List Int) × Int) (j10 : Bool) (x0 : Int) (x1 : List Int) : Option Unit :=
  if x0 < (r2.1.length : Int) then
    if 0 ≤ x0 ∧ x0 < (x1.length : Int) then
      if 0 ≤ x0 ∧ x0 < (x1.length : Int) then
        some (x1.set (Int.toNat x0) (IntKind.u8.wrap ((at' x1 x0) + 1))) >>= fun y11 =>
        M_thrumlaw04_CrcSeals_l0 a0 r1 r2 r4 j10 (IntKind.i64.wrap (x0 + 1)) y11
      else none
    else none
  else
    some ()
  partial_fixpoint
def M_thrumlaw04_CrcSeals_l1 (a0 : List Int) (r1 : Bool) (r4 : (List Int) × Int) (j10 : Bool) (x0 : Int) (x1 : List Int) : Option Unit :=
  if x0 < (r4.1.length : Int) then
    if 0 ≤ x0 ∧ x0 < (x1.length : Int) then
      if 0 ≤ x0 ∧ x0 < (x1.length : Int) then
        some (x1.set (Int.toNat x0) (IntKind.u8.wrap ((at' x1 x0) + 1))) >>= fun y14 =>
        M_thrumlaw04_CrcSeals_l1 a0 r1 r4 j10 (IntKind.i64.wrap (x0 + 1)) y14
      else none
    else none
  else
    some ()
  partial_fixpoint
def M_thrumlaw04_CrcSeals (a0 : List Int) : Option Bool :=
  (M_thrumlaw04_live) >>= fun r1 =>
  if r1 = false then
    some false
  else
    if (a0.length : Int) > 66000 then
      some r1
    else
      if room 1 (a0 : List Int).length then
        (M_crc_Seal a0) >>= fun r2 =>
        (M_thrumref04_Seal a0) >>= fun r3 =>
        (M_crc_Open a0) >>= fun r4 =>
        (M_thrumref04_Open a0) >>= fun r5 =>
        (M_thrumref03_Same r2.1 r3.1) >>= fun r6 =>
        ((
          if r6 = true then
            some (r2.2 == r3.2)
          else
            some false) : Option Bool) >>= fun j7 =>
        ((
          if j7 = true then
            (M_thrumref03_Same r4.1 r5.1) >>= fun r8 =>
            some r8
          else
            some false) : Option Bool) >>= fun j9 =>
        ((
          if j9 = true then
            some (r4.2 == r5.2)
          else
            some false) : Option Bool) >>= fun j10 =>
        (M_thrumlaw04_CrcSeals_l0 a0 r1 r2 r4 j10 0 r2.1) >>= fun j13 =>
        (M_thrumlaw04_CrcSeals_l1 a0 r1 r4 j10 0 r4.1) >>= fun j16 =>
        ((
          if r1 = true then
            some j10
          else
            some false) : Option Bool) >>= fun j17 =>
        ((
          if j17 = true then
            (M_thrumref03_Same a0 a0) >>= fun r18 =>
            some r18
          else
            some false) : Option Bool) >>= fun j19 =>
        some j19
      else none
def M_thrumlaw04_CrcBursts_l0 (a2 : Int) (r1 : Bool) (r2 : (List Int) × Int) (y7 : Int) (x0 : Int) (x1 : Bool) (x2 : List Int) : Option (Sum Bool (Bool × (List Int))) :=
  if x0 < 32 then
    if 0 ≤ x0 then
      ((
        if (bAnd .u32 (sShr .u32 a2 x0) 1) = 1 then
          some (decide ((IntKind.i64.wrap ((Int.tmod y7 (IntKind.i64.wrap (8 * (r2.1.length : Int)))) + x0)) < (IntKind.i64.wrap (8 * (r2.1.length : Int)))))
        else
          some false) : Option Bool) >>= fun j9 =>
      if j9 = true then
        some (IntKind.i64.wrap ((Int.tmod y7 (IntKind.i64.wrap (8 * (r2.1.length : Int)))) + x0)) >>= fun y10 =>
        (M_crc_Turn x2 y10) >>= fun r12 =>
        if r12.2 ≠ 0 then
          some (.inl false)
        else
          M_thrumlaw04_CrcBursts_l0 a2 r1 r2 y7 (IntKind.i64.wrap (x0 + 1)) true r12.1
      else
        M_thrumlaw04_CrcBursts_l0 a2 r1 r2 y7 (IntKind.i64.wrap (x0 + 1)) x1 x2
    else none
  else
    some (.inr (x1, x2))
  partial_fixpoint
def M_thrumlaw04_CrcBursts (a0 : List Int) (a1 : Int) (a2 : Int) : Option Bool :=
  (M_thrumlaw04_live) >>= fun r1 =>
  if r1 = false then
    some false
  else
    if (a0.length : Int) > 3000 then
      some r1
    else
      (M_crc_Seal a0) >>= fun r2 =>
      (M_crc_Open r2.1) >>= fun r3 =>
      ((
        if r2.2 ≠ 0 then
          some true
        else
          some (r3.2 != 0)) : Option Bool) >>= fun j4 =>
      ((
        if j4 = true then
          some true
        else
          (M_thrumref03_Same r3.1 a0) >>= fun r5 =>
          some (!r5)) : Option Bool) >>= fun j6 =>
      if j6 = true then
        some false
      else
        if a2 = 0 then
          some r1
        else
          if IntKind.i64.wrap (8 * (r2.1.length : Int)) ≠ 0 then
            some (IntKind.i64.wrap ((Int.tmod a1 (IntKind.i64.wrap (8 * (r2.1.length : Int)))) + (IntKind.i64.wrap (8 * (r2.1.length : Int))))) >>= fun y7 =>
            if IntKind.i64.wrap (8 * (r2.1.length : Int)) ≠ 0 then
              (M_thrumlaw04_CrcBursts_l0 a2 r1 r2 y7 0 false r2.1) >>= fun e => match e with
              | .inl r => some r
              | .inr j13 =>
                (M_crc_Open j13.2) >>= fun r14 =>
                ((
                  if r1 = true then
                    some ((r14.2 == 7) == j13.1)
                  else
                    some false) : Option Bool) >>= fun j15 =>
                if j15 = true then
                  if j13.1 = true then
                    some true
                  else
                    some (r14.2 == 0)
                else
                  some false
            else none
          else none
end Go.Proofs.Ytaghpancpfpnhaa.Abs
