/- Models of functions, printed by a program. Conditions: none. -/
import Derived.Test.YtelobmiooldoaaaSrtD
import Derived.Test.YtelobmiooldoaaaAbs5
namespace Go.Proofs.Ytelobmiooldoaaa.Abs
open Go Go.RowKit
set_option linter.unusedVariables false
set_option maxRecDepth 100000

def M_index_measure (a0 : Int) : Option Bool :=
  ((
    if a0 > 0 then
      some (decide (a0 ≤ 4096))
    else
      some false) : Option Bool) >>= fun j1 =>
  some j1
def M_index_rises_l0 (a0 : List Int) (x0 : Int) : Option (Sum Bool Unit) :=
  if x0 < (a0.length : Int) then
    if 0 ≤ IntKind.i64.wrap (x0 - 1) ∧ IntKind.i64.wrap (x0 - 1) < (a0.length : Int) then
      if 0 ≤ x0 ∧ x0 < (a0.length : Int) then
        if (at' a0 (IntKind.i64.wrap (x0 - 1))) ≥ (at' a0 x0) then
          some (.inl false)
        else
          M_index_rises_l0 a0 (IntKind.i64.wrap (x0 + 1))
      else none
    else none
  else
    some (.inr ())
  partial_fixpoint
def M_index_rises (a0 : List Int) : Option Bool :=
  (M_index_rises_l0 a0 1) >>= fun e => match e with
  | .inl r => some r
  | .inr j1 =>
    some true
def M_index_Check (a0 : Int) (a1 : List Int) : Option Int :=
  (M_index_measure a0) >>= fun r1 =>
  ((
    if r1 = false then
      some true
    else
      (M_index_rises a1) >>= fun r2 =>
      some (!r2)) : Option Bool) >>= fun j3 =>
  if j3 = true then
    some 1
  else
    if (a1.length : Int) > 0 then
      if 0 ≤ (0 : Int) ∧ (0 : Int) < (a1.length : Int) then
        if (at' a1 0) < 0 then
          some 1
        else
          if 0 ≤ IntKind.i64.wrap ((a1.length : Int) - 1) ∧ IntKind.i64.wrap ((a1.length : Int) - 1) < (a1.length : Int) then
            if (at' a1 (IntKind.i64.wrap ((a1.length : Int) - 1))) ≥ a0 then
              some 1
            else
              some 0
          else none
      else none
    else
      some 0
def M_slices_Clone_byte_byte (a0 : List Int) : Option (List Int) :=
  if room 1 ([] ++ a0).length then
    some ([] ++ a0)
  else none
def M_leb_put_l0 (x0 : List Int) (x1 : Int) : Option ((List Int) × Int) :=
  if x1 > 127 then
    if room 1 (x0 ++ [bOr .u8 (IntKind.u8.wrap x1) 128]).length then
      some (x0 ++ [bOr .u8 (IntKind.u8.wrap x1) 128]) >>= fun y1 =>
      M_leb_put_l0 y1 (sShr .u64 x1 7)
    else none
  else
    some (x0, x1)
  partial_fixpoint
def M_leb_put (a0 : List Int) (a1 : Int) : Option (List Int) :=
  (M_leb_put_l0 a0 a1) >>= fun j3 =>
  if room 1 (j3.1 ++ [IntKind.u8.wrap j3.2]).length then
    some (j3.1 ++ [IntKind.u8.wrap j3.2])
  else none
def M_leb_Put_l0 (a1 : List Int) (x0 : Int) (x1 : List Int) : Option (List Int) :=
  if x0 < (a1.length : Int) then
    if 0 ≤ x0 ∧ x0 < (a1.length : Int) then
      (M_leb_put x1 (at' a1 x0)) >>= fun r2 =>
      M_leb_Put_l0 a1 (IntKind.i64.wrap (x0 + 1)) r2
    else none
  else
    some x1
  partial_fixpoint
def M_leb_Put (a0 : List Int) (a1 : List Int) : Option (List Int) :=
  (M_slices_Clone_byte_byte a0) >>= fun r1 =>
  (M_leb_Put_l0 a1 0 r1) >>= fun j3 =>
  some j3
def M_index_Put_l0 (a1 : List Int) (x0 : Int) (x1 : Int) (x2 : List Int) : Option (List Int) :=
  if x0 < (a1.length : Int) then
    if 0 ≤ x0 ∧ x0 < (a1.length : Int) then
      if room 8 (x2 ++ [IntKind.u64.wrap (IntKind.i64.wrap ((IntKind.i64.wrap ((at' a1 x0) - x1)) - 1))]).length then
        some (x2 ++ [IntKind.u64.wrap (IntKind.i64.wrap ((IntKind.i64.wrap ((at' a1 x0) - x1)) - 1))]) >>= fun y6 =>
        M_index_Put_l0 a1 (IntKind.i64.wrap (x0 + 1)) (at' a1 x0) y6
      else none
    else none
  else
    some x2
  partial_fixpoint
def M_index_Put (a0 : Int) (a1 : List Int) : Option ((List Int) × Int) :=
  (M_index_Check a0 a1) >>= fun r1 =>
  if r1 ≠ 0 then
    some ([], r1)
  else
    if 0 ≤ (0 : Int) ∧ (0 : Int) ≤ IntKind.i64.wrap ((a1.length : Int) + 1) ∧ IntKind.i64.wrap ((a1.length : Int) + 1) ≤ 140737488355328 ∧ (IntKind.i64.wrap ((a1.length : Int) + 1)) * ((8 : Nat) : Int) ≤ 140737488355328 then
      some (List.replicate (Int.toNat 0) 0) >>= fun y2 =>
      if room 8 (y2 ++ [IntKind.u64.wrap (a1.length : Int)]).length then
        some (y2 ++ [IntKind.u64.wrap (a1.length : Int)]) >>= fun y4 =>
        (M_index_Put_l0 a1 0 (-1) y4) >>= fun j8 =>
        (M_leb_Put [] j8) >>= fun r9 =>
        some (r9, 0)
      else none
    else none
def M_leb_Get_l0 (a1 : Int) (y1 : List Int) (x0 : Int) (x1 : Int) : Option (Sum (Int × Int × Int) Unit) :=
  if x0 < (y1.length : Int) then
    if 0 ≤ x0 ∧ x0 < (y1.length : Int) then
      ((
        if x0 = 9 then
          some (decide ((at' y1 x0) > 1))
        else
          some false) : Option Bool) >>= fun j3 =>
      ((
        if j3 = true then
          some true
        else
          ((
            if (at' y1 x0) < 128 then
              some ((at' y1 x0) == 0)
            else
              some false) : Option Bool) >>= fun j4 =>
          ((
            if j4 = true then
              some (decide (x0 > 0))
            else
              some false) : Option Bool) >>= fun j5 =>
          some j5) : Option Bool) >>= fun j6 =>
      if j6 = true then
        some (.inl (0, 0, 6))
      else
        if 0 ≤ IntKind.i64.wrap (7 * x0) then
          some (bOr .u64 x1 (sShl .u64 (IntKind.u64.wrap (bAnd .u8 (at' y1 x0) 127)) (IntKind.i64.wrap (7 * x0)))) >>= fun y7 =>
          if (at' y1 x0) < 128 then
            some (.inl (y7, IntKind.i64.wrap ((IntKind.i64.wrap (a1 + x0)) + 1), 0))
          else
            M_leb_Get_l0 a1 y1 (IntKind.i64.wrap (x0 + 1)) y7
        else none
    else none
  else
    some (.inr ())
  partial_fixpoint
def M_leb_Get (a0 : List Int) (a1 : Int) : Option (Int × Int × Int) :=
  if a1 < 0 then
    some (0, 0, 1)
  else
    if cutOk (some (if (a0.length : Int) < a1 then (a0.length : Int) else a1)) none a0.length then
      some (cut' a0 (some (if (a0.length : Int) < a1 then (a0.length : Int) else a1)) none) >>= fun y1 =>
      (M_leb_Get_l0 a1 y1 0 0) >>= fun e => match e with
      | .inl r => some r
      | .inr j9 =>
        some (0, 0, 5)
    else none
def M_index_Get_l0 (a0 : Int) (a1 : List Int) (r2 : Int × Int × Int) (x0 : Int) (x1 : Int) (x2 : List Int) (x3 : Int) (x4 : Int) : Option (Int × Int × (List Int)) :=
  ((
    if x3 = 0 then
      some (decide (x0 < r2.1))
    else
      some false) : Option Bool) >>= fun j5 =>
  if j5 = true then
    (M_leb_Get a1 x4) >>= fun r6 =>
    if r6.2.2 ≠ 0 then
      some (r6.2.2, r6.2.1, x2)
    else
      if r6.1 ≥ (IntKind.u64.wrap (IntKind.i64.wrap ((IntKind.i64.wrap (a0 - 1)) - x1))) then
        some (6, r6.2.1, x2)
      else
        some (IntKind.i64.wrap (x1 + (IntKind.i64.wrap (1 + (IntKind.i64.wrap r6.1))))) >>= fun y7 =>
        if room 8 (x2 ++ [IntKind.i64.wrap (x1 + (IntKind.i64.wrap (1 + (IntKind.i64.wrap r6.1))))]).length then
          some (x2 ++ [IntKind.i64.wrap (x1 + (IntKind.i64.wrap (1 + (IntKind.i64.wrap r6.1))))]) >>= fun y9 =>
          M_index_Get_l0 a0 a1 r2 (IntKind.u64.wrap (x0 + 1)) y7 y9 r6.2.2 r6.2.1
        else none
  else
    some (x3, x4, x2)
  partial_fixpoint
def M_index_Get (a0 : Int) (a1 : List Int) (a2 : Int) : Option ((List Int) × Int × Int) :=
  (M_index_measure a0) >>= fun r1 =>
  if r1 = false then
    some ([], 0, 1)
  else
    (M_leb_Get a1 a2) >>= fun r2 =>
    ((
      if r2.2.2 = 0 then
        some (decide (r2.1 > (IntKind.u64.wrap a0)))
      else
        some false) : Option Bool) >>= fun j3 =>
    ((
      if j3 = true then
        some 6
      else
        some r2.2.2) : Option Int) >>= fun j4 =>
    (M_index_Get_l0 a0 a1 r2 0 (-1) [] j4 r2.2.1) >>= fun j11 =>
    if j11.1 ≠ 0 then
      some ([], 0, j11.1)
    else
      some (j11.2.2, j11.2.1, 0)
def M_thrumref03_Same (a0 : List Int) (a1 : List Int) : Option Bool :=
  some ((strB a0).toList == (strB a1).toList)
def M_thrumref06_Equal_l0 (a0 : List Int) (a1 : List Int) (x0 : Int) : Option (Sum Bool Unit) :=
  if x0 < (a0.length : Int) then
    if 0 ≤ x0 ∧ x0 < (a0.length : Int) then
      if 0 ≤ x0 ∧ x0 < (a1.length : Int) then
        if (at' a0 x0) ≠ (at' a1 x0) then
          some (.inl false)
        else
          M_thrumref06_Equal_l0 a0 a1 (IntKind.i64.wrap (x0 + 1))
      else none
    else none
  else
    some (.inr ())
  partial_fixpoint
def M_thrumref06_Equal (a0 : List Int) (a1 : List Int) : Option Bool :=
  if (a0.length : Int) ≠ (a1.length : Int) then
    some false
  else
    (M_thrumref06_Equal_l0 a0 a1 0) >>= fun e => match e with
    | .inl r => some r
    | .inr j1 =>
      some true
def M_thrumlaw06_live : Option Bool :=
  (M_index_Put 9 [1, 2, 5]) >>= fun r1 =>
  (M_index_Get 9 r1.1 0) >>= fun r2 =>
  (M_thrumref03_Same r1.1 [3, 1, 0, 2]) >>= fun r3 =>
  ((
    if r3 = true then
      some (r1.2 == 0)
    else
      some false) : Option Bool) >>= fun j4 =>
  ((
    if j4 = true then
      (M_thrumref06_Equal r2.1 [1, 2, 5]) >>= fun r5 =>
      some r5
    else
      some false) : Option Bool) >>= fun j6 =>
  ((
    if j6 = true then
      some (r2.2.1 == 4)
    else
      some false) : Option Bool) >>= fun j7 =>
  ((
    if j7 = true then
      some (r2.2.2 == 0)
    else
      some false) : Option Bool) >>= fun j8 =>
  some j8
def M_thrumlaw06_few_l0 (a0 : List (List Int)) (x0 : Int) (x1 : Int) : Option Int :=
  if x0 < (a0.length : Int) then
    if 0 ≤ x0 ∧ x0 < (a0.length : Int) then
      M_thrumlaw06_few_l0 a0 (IntKind.i64.wrap (x0 + 1)) (IntKind.i64.wrap (x1 + ((at' a0 x0).length : Int)))
    else none
  else
    some x1
  partial_fixpoint
def M_thrumlaw06_few (a0 : List (List Int)) : Option Bool :=
  (M_thrumlaw06_few_l0 a0 0 0) >>= fun j1 =>
  ((
    if j1 ≤ 600 then
      some (decide ((a0.length : Int) ≤ 100))
    else
      some false) : Option Bool) >>= fun j2 =>
  some j2
def M_slices_Grow_int_int_c (a0 : Int) : Option (List Int) :=
  ((
    if a0 < 0 then
      none
    else
      some ()) : Option Unit) >>= fun j1 =>
  if (IntKind.i64.wrap (a0 - (IntKind.i64.wrap (0 - 0)))) > 0 then
    if ((0 : Int) ≤ 0 ∧ (0 : Int) ≤ 0) ∧ (0 : Nat) ≤ 0 then
      if 0 ≤ IntKind.i64.wrap (a0 - (IntKind.i64.wrap (0 - 0))) ∧ IntKind.i64.wrap (a0 - (IntKind.i64.wrap (0 - 0))) ≤ 140737488355328 ∧ (IntKind.i64.wrap (a0 - (IntKind.i64.wrap (0 - 0)))) * ((8 : Nat) : Int) ≤ 140737488355328 then
        some (List.replicate (Int.toNat (IntKind.i64.wrap (a0 - (IntKind.i64.wrap (0 - 0))))) 0) >>= fun y2 =>
        if cutOk none (some 0) y2.length then
          some (cut' y2 none (some 0))
        else none
      else none
    else none
  else
    some []
def M_slices_Concat_int_int_l0 (a0 : List (List Int)) (x0 : Int) (x1 : Int) : Option Int :=
  if x0 < (a0.length : Int) then
    if 0 ≤ x0 ∧ x0 < (a0.length : Int) then
      if (IntKind.i64.wrap (x1 + ((at' a0 x0).length : Int))) < 0 then
        none
      else
        M_slices_Concat_int_int_l0 a0 (IntKind.i64.wrap (x0 + 1)) (IntKind.i64.wrap (x1 + ((at' a0 x0).length : Int)))
    else none
  else
    some x1
  partial_fixpoint
def M_slices_Concat_int_int_l1 (a0 : List (List Int)) (x0 : Int) (x1 : List Int) : Option (List Int) :=
  if x0 < (a0.length : Int) then
    if 0 ≤ x0 ∧ x0 < (a0.length : Int) then
      if room 8 (x1 ++ (at' a0 x0)).length then
        M_slices_Concat_int_int_l1 a0 (IntKind.i64.wrap (x0 + 1)) (x1 ++ (at' a0 x0))
      else none
    else none
  else
    some x1
  partial_fixpoint
def M_slices_Concat_int_int (a0 : List (List Int)) : Option (List Int) :=
  (M_slices_Concat_int_int_l0 a0 0 0) >>= fun j1 =>
  (M_slices_Grow_int_int_c j1) >>= fun r2 =>
  (M_slices_Concat_int_int_l1 a0 0 r2) >>= fun j3 =>
  some j3
def M_index_Merge (a0 : List (List Int)) : Option (List Int) :=
  (M_slices_Concat_int_int a0) >>= fun r1 =>
  (M_slices_Sort_int r1) >>= fun r2 =>
  (M_slices_Compact_int r2) >>= fun r3 =>
  some (List.take r3.length (r3 ++ List.replicate (r2.length - r3.length) 0))
def M_cmp_isNaN_int (a0 : Int) : Option Bool :=
  some (a0 != a0)
def M_cmp_Less_int (a0 : Int) (a1 : Int) : Option Bool :=
  (M_cmp_isNaN_int a0) >>= fun r1 =>
  ((
    if r1 = true then
      (M_cmp_isNaN_int a1) >>= fun r2 =>
      some (!r2)
    else
      some false) : Option Bool) >>= fun j3 =>
  ((
    if j3 = true then
      some true
    else
      some (decide (a0 < a1))) : Option Bool) >>= fun j4 =>
  some j4
def M_slices_isNaN_int (a0 : Int) : Option Bool :=
  some (a0 != a0)
def M_slices_BinarySearch_int_int_l0 (a0 : List Int) (a1 : Int) (x0 : Int) (x1 : Int) : Option Int :=
  if x1 < x0 then
    some (IntKind.i64.wrap (sShr .u64 (IntKind.u64.wrap (IntKind.i64.wrap (x1 + x0))) 1)) >>= fun y1 =>
    if 0 ≤ y1 ∧ y1 < (a0.length : Int) then
      (M_cmp_Less_int (at' a0 y1) a1) >>= fun r3 =>
      if r3 = true then
        M_slices_BinarySearch_int_int_l0 a0 a1 x0 (IntKind.i64.wrap (y1 + 1))
      else
        M_slices_BinarySearch_int_int_l0 a0 a1 y1 x1
    else none
  else
    some x1
  partial_fixpoint
def M_slices_BinarySearch_int_int (a0 : List Int) (a1 : Int) : Option (Int × Bool) :=
  (M_slices_BinarySearch_int_int_l0 a0 a1 (a0.length : Int) 0) >>= fun j4 =>
  if j4 < (a0.length : Int) then
    if 0 ≤ j4 ∧ j4 < (a0.length : Int) then
      if (at' a0 j4) = a1 then
        some (j4, true)
      else
        if 0 ≤ j4 ∧ j4 < (a0.length : Int) then
          (M_slices_isNaN_int (at' a0 j4)) >>= fun r5 =>
          if r5 = true then
            (M_slices_isNaN_int a1) >>= fun r6 =>
            some (j4, r6)
          else
            some (j4, false)
        else none
    else none
  else
    some (j4, false)
def M_index_Has (a0 : List Int) (a1 : Int) : Option (Int × Bool) :=
  (M_slices_BinarySearch_int_int a0 a1) >>= fun r1 =>
  some (r1.1, r1.2)
def M_thrumref06_rises_l0 (a0 : List Int) (x0 : Int) : Option (Sum Bool Unit) :=
  if x0 < (a0.length : Int) then
    if 0 ≤ x0 ∧ x0 < (a0.length : Int) then
      if 0 ≤ IntKind.i64.wrap (x0 - 1) ∧ IntKind.i64.wrap (x0 - 1) < (a0.length : Int) then
        if (at' a0 x0) ≤ (at' a0 (IntKind.i64.wrap (x0 - 1))) then
          some (.inl false)
        else
          M_thrumref06_rises_l0 a0 (IntKind.i64.wrap (x0 + 1))
      else none
    else none
  else
    some (.inr ())
  partial_fixpoint
def M_thrumref06_rises (a0 : List Int) : Option Bool :=
  (M_thrumref06_rises_l0 a0 1) >>= fun e => match e with
  | .inl r => some r
  | .inr j1 =>
    some true
def M_thrumref06_Rises (a0 : List Int) : Option Bool :=
  (M_thrumref06_rises a0) >>= fun r1 =>
  some r1
def M_thrumlaw06_IndexMerges_l1 (a0 : List (List Int)) (r1 : Bool) (r3 : (List Int)) (x0 : Int) (x1 : List (List Int)) (y4 : Int) (x0_ : Int) (x1_ : List (Int × Bool)) : Option (Sum Bool (List (Int × Bool))) :=
  if x0_ < ((at' a0 x0).length : Int) then
    if 0 ≤ x0_ ∧ x0_ < ((at' a0 x0).length : Int) then
      (M_index_Has r3 (at' (at' a0 x0) x0_)) >>= fun r6 =>
      if r6.2 = false then
        some (.inl false)
      else
        M_thrumlaw06_IndexMerges_l1 a0 r1 r3 x0 x1 y4 (IntKind.i64.wrap (x0_ + 1)) (insM x1_ (at' (at' a0 x0) x0_) true)
    else none
  else
    some (.inr x1_)
  partial_fixpoint
def M_thrumlaw06_IndexMerges_l0 (a0 : List (List Int)) (r1 : Bool) (r3 : (List Int)) (x0 : Int) (x1 : List (List Int)) (x2 : List (Int × Bool)) : Option (Sum Bool ((List (List Int)) × (List (Int × Bool)))) :=
  if x0 < (a0.length : Int) then
    if 0 ≤ x0 ∧ x0 < (a0.length : Int) then
      some (IntKind.i64.wrap ((IntKind.i64.wrap ((a0.length : Int) - 1)) - x0)) >>= fun y4 =>
      if 0 ≤ y4 ∧ y4 < (a0.length : Int) then
        if room 24 (x1 ++ [at' a0 y4]).length then
          (M_thrumlaw06_IndexMerges_l1 a0 r1 r3 x0 x1 y4 0 x2) >>= fun e => match e with
          | .inl r => some (.inl r)
          | .inr j7 =>
            M_thrumlaw06_IndexMerges_l0 a0 r1 r3 (IntKind.i64.wrap (x0 + 1)) (x1 ++ [at' a0 y4]) j7
        else none
      else none
    else none
  else
    some (.inr (x1, x2))
  partial_fixpoint
def M_thrumlaw06_IndexMerges (a0 : List (List Int)) : Option Bool :=
  (M_thrumlaw06_live) >>= fun r1 =>
  if r1 = false then
    some false
  else
    (M_thrumlaw06_few a0) >>= fun r2 =>
    if r2 = false then
      some r1
    else
      (M_index_Merge a0) >>= fun r3 =>
      (M_thrumlaw06_IndexMerges_l0 a0 r1 r3 0 [] []) >>= fun e => match e with
      | .inl r => some r
      | .inr j8 =>
        ((
          if (a0.length : Int) > 0 then
            if 0 ≤ (0 : Int) ∧ (0 : Int) < (a0.length : Int) then
              if room 24 (j8.1 ++ [at' a0 0]).length then
                some (j8.1 ++ [at' a0 0])
              else none
            else none
          else
            some j8.1) : Option (List (List Int))) >>= fun j9 =>
        ((
          if r1 = true then
            some ((r3.length : Int) == (j8.2.length : Int))
          else
            some false) : Option Bool) >>= fun j10 =>
        ((
          if j10 = true then
            (M_thrumref06_Rises r3) >>= fun r11 =>
            some r11
          else
            some false) : Option Bool) >>= fun j12 =>
        ((
          if j12 = true then
            (M_index_Merge j9) >>= fun r13 =>
            (M_thrumref06_Equal r13 r3) >>= fun r14 =>
            some r14
          else
            some false) : Option Bool) >>= fun j15 =>
        some j15
end Go.Proofs.Ytelobmiooldoaaa.Abs
