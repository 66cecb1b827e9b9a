/- Models of functions, printed by a program. Conditions: none. -/
import Derived.Test.YthkofkhggdgcpaaSrtD
import Derived.Test.YthkofkhggdgcpaaAbs5
namespace Go.Proofs.Ythkofkhggdgcpaa.Abs
open Go Go.RowKit
set_option linter.unusedVariables false
set_option maxRecDepth 100000

def M_index_measure (a0 : Int) : Option Bool :=
  ((
    if a0 > 0 then
      some (decide (a0 ≤ 4096))
    else
      some false) : Option Bool) >>= fun j1 =>
  some j1
def M_index_rises_l0 (a0 : List Int) (x0 : Int) : Option (Sum Bool Unit) :=
  if x0 < (a0.length : Int) then
    if 0 ≤ IntKind.i64.wrap (x0 - 1) ∧ IntKind.i64.wrap (x0 - 1) < (a0.length : Int) then
      if 0 ≤ x0 ∧ x0 < (a0.length : Int) then
        if (at' a0 (IntKind.i64.wrap (x0 - 1))) ≥ (at' a0 x0) then
          some (.inl false)
        else
          M_index_rises_l0 a0 (IntKind.i64.wrap (x0 + 1))
      else none
    else none
  else
    some (.inr ())
  partial_fixpoint
def M_index_rises (a0 : List Int) : Option Bool :=
  (M_index_rises_l0 a0 1) >>= fun e => match e with
  | .inl r => some r
  | .inr j1 =>
    some true
def M_index_Check (a0 : Int) (a1 : List Int) : Option Int :=
  (M_index_measure a0) >>= fun r1 =>
  ((
    if r1 = false then
      some true
    else
      (M_index_rises a1) >>= fun r2 =>
      some (!r2)) : Option Bool) >>= fun j3 =>
  if j3 = true then
    some 1
  else
    if (a1.length : Int) > 0 then
      if 0 ≤ (0 : Int) ∧ (0 : Int) < (a1.length : Int) then
        if (at' a1 0) < 0 then
          some 1
        else
          if 0 ≤ IntKind.i64.wrap ((a1.length : Int) - 1) ∧ IntKind.i64.wrap ((a1.length : Int) - 1) < (a1.length : Int) then
            if (at' a1 (IntKind.i64.wrap ((a1.length : Int) - 1))) ≥ a0 then
              some 1
            else
              some 0
          else none
      else none
    else
      some 0
def M_slices_Clone_byte_byte (a0 : List Int) : Option (List Int) :=
  if room 1 ([] ++ a0).length then
    some ([] ++ a0)
  else none
def M_leb_put_l0 (x0 : List Int) (x1 : Int) : Option ((List Int) × Int) :=
  if x1 > 127 then
    if room 1 (x0 ++ [bOr .u8 (IntKind.u8.wrap x1) 128]).length then
      some (x0 ++ [bOr .u8 (IntKind.u8.wrap x1) 128]) >>= fun y1 =>
      M_leb_put_l0 y1 (sShr .u64 x1 7)
    else none
  else
    some (x0, x1)
  partial_fixpoint
def M_leb_put (a0 : List Int) (a1 : Int) : Option (List Int) :=
  (M_leb_put_l0 a0 a1) >>= fun j3 =>
  if room 1 (j3.1 ++ [IntKind.u8.wrap j3.2]).length then
    some (j3.1 ++ [IntKind.u8.wrap j3.2])
  else none
def M_leb_Put_l0 (a1 : List Int) (x0 : Int) (x1 : List Int) : Option (List Int) :=
  if x0 < (a1.length : Int) then
    if 0 ≤ x0 ∧ x0 < (a1.length : Int) then
      (M_leb_put x1 (at' a1 x0)) >>= fun r2 =>
      M_leb_Put_l0 a1 (IntKind.i64.wrap (x0 + 1)) r2
    else none
  else
    some x1
  partial_fixpoint
def M_leb_Put (a0 : List Int) (a1 : List Int) : Option (List Int) :=
  (M_slices_Clone_byte_byte a0) >>= fun r1 =>
  (M_leb_Put_l0 a1 0 r1) >>= fun j3 =>
  some j3
def M_index_Put_l0 (a1 : List Int) (x0 : Int) (x1 : Int) (x2 : List Int) : Option (List Int) :=
  if x0 < (a1.length : Int) then
    if 0 ≤ x0 ∧ x0 < (a1.length : Int) then
      if room 8 (x2 ++ [IntKind.u64.wrap (IntKind.i64.wrap ((IntKind.i64.wrap ((at' a1 x0) - x1)) - 1))]).length then
        some (x2 ++ [IntKind.u64.wrap (IntKind.i64.wrap ((IntKind.i64.wrap ((at' a1 x0) - x1)) - 1))]) >>= fun y6 =>
        M_index_Put_l0 a1 (IntKind.i64.wrap (x0 + 1)) (at' a1 x0) y6
      else none
    else none
  else
    some x2
  partial_fixpoint
def M_index_Put (a0 : Int) (a1 : List Int) : Option ((List Int) × Int) :=
  (M_index_Check a0 a1) >>= fun r1 =>
  if r1 ≠ 0 then
    some ([], r1)
  else
    if 0 ≤ (0 : Int) ∧ (0 : Int) ≤ IntKind.i64.wrap ((a1.length : Int) + 1) ∧ IntKind.i64.wrap ((a1.length : Int) + 1) ≤ 140737488355328 ∧ (IntKind.i64.wrap ((a1.length : Int) + 1)) * ((8 : Nat) : Int) ≤ 140737488355328 then
      some (List.replicate (Int.toNat 0) 0) >>= fun y2 =>
      if room 8 (y2 ++ [IntKind.u64.wrap (a1.length : Int)]).length then
        some (y2 ++ [IntKind.u64.wrap (a1.length : Int)]) >>= fun y4 =>
        (M_index_Put_l0 a1 0 (-1) y4) >>= fun j8 =>
        (M_leb_Put [] j8) >>= fun r9 =>
        some (r9, 0)
      else none
    else none
def M_leb_Get_l0 (a1 : Int) (y1 : List Int) (x0 : Int) (x1 : Int) : Option (Sum (Int × Int × Int) Unit) :=
  if x0 < (y1.length : Int) then
    if 0 ≤ x0 ∧ x0 < (y1.length : Int) then
      ((
        if x0 = 9 then
          some (decide ((at' y1 x0) > 1))
        else
          some false) : Option Bool) >>= fun j3 =>
      ((
        if j3 = true then
          some true
        else
          ((
            if (at' y1 x0) < 128 then
              some ((at' y1 x0) == 0)
            else
              some false) : Option Bool) >>= fun j4 =>
          ((
            if j4 = true then
              some (decide (x0 > 0))
            else
              some false) : Option Bool) >>= fun j5 =>
          some j5) : Option Bool) >>= fun j6 =>
      if j6 = true then
        some (.inl (0, 0, 6))
      else
        if 0 ≤ IntKind.i64.wrap (7 * x0) then
          some (bOr .u64 x1 (sShl .u64 (IntKind.u64.wrap (bAnd .u8 (at' y1 x0) 127)) (IntKind.i64.wrap (7 * x0)))) >>= fun y7 =>
          if (at' y1 x0) < 128 then
            some (.inl (y7, IntKind.i64.wrap ((IntKind.i64.wrap (a1 + x0)) + 1), 0))
          else
            M_leb_Get_l0 a1 y1 (IntKind.i64.wrap (x0 + 1)) y7
        else none
    else none
  else
    some (.inr ())
  partial_fixpoint
def M_leb_Get (a0 : List Int) (a1 : Int) : Option (Int × Int × Int) :=
  if a1 < 0 then
    some (0, 0, 1)
  else
    if cutOk (some (if (a0.length : Int) < a1 then (a0.length : Int) else a1)) none a0.length then
      some (cut' a0 (some (if (a0.length : Int) < a1 then (a0.length : Int) else a1)) none) >>= fun y1 =>
      (M_leb_Get_l0 a1 y1 0 0) >>= fun e => match e with
      | .inl r => some r
      | .inr j9 =>
        some (0, 0, 5)
    else none
def M_index_Get_l0 (a0 : Int) (a1 : List Int) (r2 : Int × Int × Int) (x0 : Int) (x1 : Int) (x2 : List Int) (x3 : Int) (x4 : Int) : Option (Int × Int × (List Int)) :=
  ((
    if x3 = 0 then
      some (decide (x0 < r2.1))
    else
      some false) : Option Bool) >>= fun j5 =>
  if j5 = true then
    (M_leb_Get a1 x4) >>= fun r6 =>
    if r6.2.2 ≠ 0 then
      some (r6.2.2, r6.2.1, x2)
    else
      if r6.1 ≥ (IntKind.u64.wrap (IntKind.i64.wrap ((IntKind.i64.wrap (a0 - 1)) - x1))) then
        some (6, r6.2.1, x2)
      else
        some (IntKind.i64.wrap (x1 + (IntKind.i64.wrap (1 + (IntKind.i64.wrap r6.1))))) >>= fun y7 =>
        if room 8 (x2 ++ [IntKind.i64.wrap (x1 + (IntKind.i64.wrap (1 + (IntKind.i64.wrap r6.1))))]).length then
          some (x2 ++ [IntKind.i64.wrap (x1 + (IntKind.i64.wrap (1 + (IntKind.i64.wrap r6.1))))]) >>= fun y9 =>
          M_index_Get_l0 a0 a1 r2 (IntKind.u64.wrap (x0 + 1)) y7 y9 r6.2.2 r6.2.1
        else none
  else
    some (x3, x4, x2)
  partial_fixpoint
def M_index_Get (a0 : Int) (a1 : List Int) (a2 : Int) : Option ((List Int) × Int × Int) :=
  (M_index_measure a0) >>= fun r1 =>
  if r1 = false then
    some ([], 0, 1)
  else
    (M_leb_Get a1 a2) >>= fun r2 =>
    ((
      if r2.2.2 = 0 then
        some (decide (r2.1 > (IntKind.u64.wrap a0)))
      else
        some false) : Option Bool) >>= fun j3 =>
    ((
      if j3 = true then
        some 6
      else
        some r2.2.2) : Option Int) >>= fun j4 =>
    (M_index_Get_l0 a0 a1 r2 0 (-1) [] j4 r2.2.1) >>= fun j11 =>
    if j11.1 ≠ 0 then
      some ([], 0, j11.1)
    else
      some (j11.2.2, j11.2.1, 0)
def M_thrumref03_Same (a0 : List Int) (a1 : List Int) : Option Bool :=
  some ((strB a0).toList == (strB a1).toList)
def M_thrumref06_Equal_l0 (a0 : List Int) (a1 : List Int) (x0 : Int) : Option (Sum Bool Unit) :=
  if x0 < (a0.length : Int) then
    if 0 ≤ x0 ∧ x0 < (a0.length : Int) then
      if 0 ≤ x0 ∧ x0 < (a1.length : Int) then
        if (at' a0 x0) ≠ (at' a1 x0) then
          some (.inl false)
        else
          M_thrumref06_Equal_l0 a0 a1 (IntKind.i64.wrap (x0 + 1))
      else none
    else none
  else
    some (.inr ())
  partial_fixpoint
def M_thrumref06_Equal (a0 : List Int) (a1 : List Int) : Option Bool :=
  if (a0.length : Int) ≠ (a1.length : Int) then
    some false
  else
    (M_thrumref06_Equal_l0 a0 a1 0) >>= fun e => match e with
    | .inl r => some r
    | .inr j1 =>
      some true
def M_thrumlaw06_live : Option Bool :=
  (M_index_Put 9 [1, 2, 5]) >>= fun r1 =>
  (M_index_Get 9 r1.1 0) >>= fun r2 =>
  (M_thrumref03_Same r1.1 [3, 1, 0, 2]) >>= fun r3 =>
  ((
    if r3 = true then
      some (r1.2 == 0)
    else
      some false) : Option Bool) >>= fun j4 =>
  ((
    if j4 = true then
      (M_thrumref06_Equal r2.1 [1, 2, 5]) >>= fun r5 =>
      some r5
    else
      some false) : Option Bool) >>= fun j6 =>
  ((
    if j6 = true then
      some (r2.2.1 == 4)
    else
      some false) : Option Bool) >>= fun j7 =>
  ((
    if j7 = true then
      some (r2.2.2 == 0)
    else
      some false) : Option Bool) >>= fun j8 =>
  some j8
def M_thrumlaw06_few_l0 (a0 : List (List Int)) (x0 : Int) (x1 : Int) : Option Int :=
  if x0 < (a0.length : Int) then
    if 0 ≤ x0 ∧ x0 < (a0.length : Int) then
      M_thrumlaw06_few_l0 a0 (IntKind.i64.wrap (x0 + 1)) (IntKind.i64.wrap (x1 + ((at' a0 x0).length : Int)))
    else none
  else
    some x1
  partial_fixpoint
def M_thrumlaw06_few (a0 : List (List Int)) : Option Bool :=
  (M_thrumlaw06_few_l0 a0 0 0) >>= fun j1 =>
  ((
    if j1 ≤ 600 then
      some (decide ((a0.length : Int) ≤ 100))
    else
      some false) : Option Bool) >>= fun j2 =>
  some j2
def M_index_Left_l0 (a0 : Int) (x0 : Int) (x1 : List Int) (x2 : List Int) : Option (List Int) :=
  if x0 < a0 then
    ((
      if (x2.length : Int) > 0 then
        if 0 ≤ (0 : Int) ∧ (0 : Int) < (x2.length : Int) then
          some ((at' x2 0) == x0)
        else none
      else
        some false) : Option Bool) >>= fun j2 =>
    if j2 = true then
      if cutOk (some 1) none x2.length then
        M_index_Left_l0 a0 (IntKind.i64.wrap (x0 + 1)) x1 (cut' x2 (some 1) none)
      else none
    else
      if room 8 (x1 ++ [x0]).length then
        M_index_Left_l0 a0 (IntKind.i64.wrap (x0 + 1)) (x1 ++ [x0]) x2
      else none
  else
    some x1
  partial_fixpoint
def M_index_Left (a0 : Int) (a1 : List Int) : Option ((List Int) × Int) :=
  (M_index_Check a0 a1) >>= fun r1 =>
  if r1 ≠ 0 then
    some ([], r1)
  else
    (M_index_Left_l0 a0 0 [] a1) >>= fun j3 =>
    some (j3, 0)
def M_slices_Grow_int_int_c (a0 : Int) : Option (List Int) :=
  ((
    if a0 < 0 then
      none
    else
      some ()) : Option Unit) >>= fun j1 =>
  if (IntKind.i64.wrap (a0 - (IntKind.i64.wrap (0 - 0)))) > 0 then
    if ((0 : Int) ≤ 0 ∧ (0 : Int) ≤ 0) ∧ (0 : Nat) ≤ 0 then
      if 0 ≤ IntKind.i64.wrap (a0 - (IntKind.i64.wrap (0 - 0))) ∧ IntKind.i64.wrap (a0 - (IntKind.i64.wrap (0 - 0))) ≤ 140737488355328 ∧ (IntKind.i64.wrap (a0 - (IntKind.i64.wrap (0 - 0)))) * ((8 : Nat) : Int) ≤ 140737488355328 then
        some (List.replicate (Int.toNat (IntKind.i64.wrap (a0 - (IntKind.i64.wrap (0 - 0))))) 0) >>= fun y2 =>
        if cutOk none (some 0) y2.length then
          some (cut' y2 none (some 0))
        else none
      else none
    else none
  else
    some []
def M_slices_Concat_int_int_l0 (a0 : List (List Int)) (x0 : Int) (x1 : Int) : Option Int :=
  if x0 < (a0.length : Int) then
    if 0 ≤ x0 ∧ x0 < (a0.length : Int) then
      if (IntKind.i64.wrap (x1 + ((at' a0 x0).length : Int))) < 0 then
        none
      else
        M_slices_Concat_int_int_l0 a0 (IntKind.i64.wrap (x0 + 1)) (IntKind.i64.wrap (x1 + ((at' a0 x0).length : Int)))
    else none
  else
    some x1
  partial_fixpoint
def M_slices_Concat_int_int_l1 (a0 : List (List Int)) (x0 : Int) (x1 : List Int) : Option (List Int) :=
  if x0 < (a0.length : Int) then
    if 0 ≤ x0 ∧ x0 < (a0.length : Int) then
      if room 8 (x1 ++ (at' a0 x0)).length then
        M_slices_Concat_int_int_l1 a0 (IntKind.i64.wrap (x0 + 1)) (x1 ++ (at' a0 x0))
      else none
    else none
  else
    some x1
  partial_fixpoint
def M_slices_Concat_int_int (a0 : List (List Int)) : Option (List Int) :=
  (M_slices_Concat_int_int_l0 a0 0 0) >>= fun j1 =>
  (M_slices_Grow_int_int_c j1) >>= fun r2 =>
  (M_slices_Concat_int_int_l1 a0 0 r2) >>= fun j3 =>
  some j3
def M_index_Merge (a0 : List (List Int)) : Option (List Int) :=
  (M_slices_Concat_int_int a0) >>= fun r1 =>
  (M_slices_Sort_int r1) >>= fun r2 =>
  (M_slices_Compact_int r2) >>= fun r3 =>
  some (List.take r3.length (r3 ++ List.replicate (r2.length - r3.length) 0))
def M_thrumlaw06_IndexLeft_l0 (r1 : Bool) (r6 : (List Int)) (x0 : Int) : Option (Sum Bool Unit) :=
  if x0 < (r6.length : Int) then
    if 0 ≤ x0 ∧ x0 < (r6.length : Int) then
      if (at' r6 x0) ≠ x0 then
        some (.inl false)
      else
        M_thrumlaw06_IndexLeft_l0 r1 r6 (IntKind.i64.wrap (x0 + 1))
    else none
  else
    some (.inr ())
  partial_fixpoint
def M_thrumlaw06_IndexLeft_l1 (r1 : Bool) (r15 : (List Int)) (x0 : Int) : Option (Sum Bool Unit) :=
  if x0 < (r15.length : Int) then
    if 0 ≤ x0 ∧ x0 < (r15.length : Int) then
      if (at' r15 x0) ≠ x0 then
        some (.inl false)
      else
        M_thrumlaw06_IndexLeft_l1 r1 r15 (IntKind.i64.wrap (x0 + 1))
    else none
  else
    some (.inr ())
  partial_fixpoint
def M_thrumlaw06_IndexLeft (a0 : Int) (a1 : List Int) : Option Bool :=
  (M_thrumlaw06_live) >>= fun r1 =>
  if r1 = false then
    some false
  else
    (M_thrumlaw06_few [a1]) >>= fun r2 =>
    if r2 = false then
      some r1
    else
      if a0 > 300 then
        if a0 ≤ 4096 then
          some r1
        else
          (M_index_Left a0 a1) >>= fun r3 =>
          if r3.2 ≠ 0 then
            ((
              if r1 = true then
                some ((r3.1.length : Int) == 0)
              else
                some false) : Option Bool) >>= fun j4 =>
            some j4
          else
            (M_index_Left a0 r3.1) >>= fun r5 =>
            (M_index_Merge [r3.1, a1]) >>= fun r6 =>
            ((
              if r5.2 ≠ 0 then
                some true
              else
                (M_thrumref06_Equal r5.1 a1) >>= fun r7 =>
                some (!r7)) : Option Bool) >>= fun j8 =>
            ((
              if j8 = true then
                some true
              else
                some ((r6.length : Int) != a0)) : Option Bool) >>= fun j9 =>
            ((
              if j9 = true then
                some true
              else
                some ((IntKind.i64.wrap ((r3.1.length : Int) + (a1.length : Int))) != a0)) : Option Bool) >>= fun j10 =>
            if j10 = true then
              some false
            else
              (M_thrumlaw06_IndexLeft_l0 r1 r6 0) >>= fun e => match e with
              | .inl r => some r
              | .inr j11 =>
                some r1
      else
        (M_index_Left a0 a1) >>= fun r12 =>
        if r12.2 ≠ 0 then
          ((
            if r1 = true then
              some ((r12.1.length : Int) == 0)
            else
              some false) : Option Bool) >>= fun j13 =>
          some j13
        else
          (M_index_Left a0 r12.1) >>= fun r14 =>
          (M_index_Merge [r12.1, a1]) >>= fun r15 =>
          ((
            if r14.2 ≠ 0 then
              some true
            else
              (M_thrumref06_Equal r14.1 a1) >>= fun r16 =>
              some (!r16)) : Option Bool) >>= fun j17 =>
          ((
            if j17 = true then
              some true
            else
              some ((r15.length : Int) != a0)) : Option Bool) >>= fun j18 =>
          ((
            if j18 = true then
              some true
            else
              some ((IntKind.i64.wrap ((r12.1.length : Int) + (a1.length : Int))) != a0)) : Option Bool) >>= fun j19 =>
          if j19 = true then
            some false
          else
            (M_thrumlaw06_IndexLeft_l1 r1 r15 0) >>= fun e => match e with
            | .inl r => some r
            | .inr j20 =>
              some r1
def M_index_Spread_l0 (a1 : List Int) (a2 : List Int) (x0 : Int) (x1 : List Int) : Option (List Int) :=
  if x0 < (a1.length : Int) then
    if 0 ≤ x0 ∧ x0 < (a1.length : Int) then
      if 0 ≤ x0 ∧ x0 < (a2.length : Int) then
        if 0 ≤ at' a1 x0 ∧ at' a1 x0 < (x1.length : Int) then
          some (x1.set (Int.toNat (at' a1 x0)) (at' a2 x0)) >>= fun y4 =>
          M_index_Spread_l0 a1 a2 (IntKind.i64.wrap (x0 + 1)) y4
        else none
      else none
    else none
  else
    some x1
  partial_fixpoint
def M_index_Spread (a0 : Int) (a1 : List Int) (a2 : List Int) : Option ((List Int) × Int) :=
  (M_index_Check a0 a1) >>= fun r1 =>
  if r1 ≠ 0 then
    some ([], r1)
  else
    if (a1.length : Int) ≠ (a2.length : Int) then
      some ([], 4)
    else
      if 0 ≤ a0 ∧ a0 ≤ a0 ∧ a0 ≤ 140737488355328 ∧ a0 * ((8 : Nat) : Int) ≤ 140737488355328 then
        some (List.replicate (Int.toNat a0) 0) >>= fun y2 =>
        (M_index_Spread_l0 a1 a2 0 y2) >>= fun j6 =>
        some (j6, 0)
      else none
def M_thrumref06_rises_l0 (a0 : List Int) (x0 : Int) : Option (Sum Bool Unit) :=
  if x0 < (a0.length : Int) then
    if 0 ≤ x0 ∧ x0 < (a0.length : Int) then
      if 0 ≤ IntKind.i64.wrap (x0 - 1) ∧ IntKind.i64.wrap (x0 - 1) < (a0.length : Int) then
        if (at' a0 x0) ≤ (at' a0 (IntKind.i64.wrap (x0 - 1))) then
          some (.inl false)
        else
          M_thrumref06_rises_l0 a0 (IntKind.i64.wrap (x0 + 1))
      else none
    else none
  else
    some (.inr ())
  partial_fixpoint
def M_thrumref06_rises (a0 : List Int) : Option Bool :=
  (M_thrumref06_rises_l0 a0 1) >>= fun e => match e with
  | .inl r => some r
  | .inr j1 =>
    some true
def M_thrumref06_Check_l0 (a0 : Int) (a1 : List Int) (x0 : Int) : Option (Sum Int Unit) :=
  if x0 < (a1.length : Int) then
    if 0 ≤ x0 ∧ x0 < (a1.length : Int) then
      ((
        if (at' a1 x0) < 0 then
          some true
        else
          some (decide ((at' a1 x0) ≥ a0))) : Option Bool) >>= fun j4 =>
      if j4 = true then
        some (.inl 1)
      else
        M_thrumref06_Check_l0 a0 a1 (IntKind.i64.wrap (x0 + 1))
    else none
  else
    some (.inr ())
  partial_fixpoint
def M_thrumref06_Check (a0 : Int) (a1 : List Int) : Option Int :=
  ((
    if a0 < 1 then
      some true
    else
      some (decide (a0 > 4096))) : Option Bool) >>= fun j1 =>
  ((
    if j1 = true then
      some true
    else
      (M_thrumref06_rises a1) >>= fun r2 =>
      some (!r2)) : Option Bool) >>= fun j3 =>
  if j3 = true then
    some 1
  else
    (M_thrumref06_Check_l0 a0 a1 0) >>= fun e => match e with
    | .inl r => some r
    | .inr j5 =>
      some 0
def M_thrumref06_Spread_l0 (a1 : List Int) (a2 : List Int) (x0 : Int) (x1 : List Int) : Option (List Int) :=
  if x0 < (a1.length : Int) then
    if 0 ≤ x0 ∧ x0 < (a1.length : Int) then
      if 0 ≤ x0 ∧ x0 < (a2.length : Int) then
        if 0 ≤ at' a1 x0 ∧ at' a1 x0 < (x1.length : Int) then
          some (x1.set (Int.toNat (at' a1 x0)) (at' a2 x0)) >>= fun y4 =>
          M_thrumref06_Spread_l0 a1 a2 (IntKind.i64.wrap (x0 + 1)) y4
        else none
      else none
    else none
  else
    some x1
  partial_fixpoint
def M_thrumref06_Spread (a0 : Int) (a1 : List Int) (a2 : List Int) : Option ((List Int) × Int) :=
  (M_thrumref06_Check a0 a1) >>= fun r1 =>
  if r1 ≠ 0 then
    some ([], r1)
  else
    if (a1.length : Int) ≠ (a2.length : Int) then
      some ([], 4)
    else
      if 0 ≤ a0 ∧ a0 ≤ a0 ∧ a0 ≤ 140737488355328 ∧ a0 * ((8 : Nat) : Int) ≤ 140737488355328 then
        some (List.replicate (Int.toNat a0) 0) >>= fun y2 =>
        (M_thrumref06_Spread_l0 a1 a2 0 y2) >>= fun j6 =>
        some (j6, 0)
      else none
def M_index_Gather_1_c (a0 : Int) (a1 : List Int) : Option Bool :=
  ((
    if a0 < 0 then
      some true
    else
      some (decide (a0 ≥ (a1.length : Int)))) : Option Bool) >>= fun j1 =>
  some j1
def M_slices_IndexFunc_int_int_index_Gather_1_l0 (a0 : List Int) (a1 : List Int) (x0 : Int) : Option (Sum Int Unit) :=
  if x0 < (a0.length : Int) then
    if 0 ≤ x0 ∧ x0 < (a0.length : Int) then
      (M_index_Gather_1_c (at' a0 x0) a1) >>= fun r1 =>
      if r1 = true then
        some (.inl x0)
      else
        M_slices_IndexFunc_int_int_index_Gather_1_l0 a0 a1 (IntKind.i64.wrap (x0 + 1))
    else none
  else
    some (.inr ())
  partial_fixpoint
def M_slices_IndexFunc_int_int_index_Gather_1 (a0 : List Int) (a1 : List Int) : Option Int :=
  (M_slices_IndexFunc_int_int_index_Gather_1_l0 a0 a1 0) >>= fun e => match e with
  | .inl r => some r
  | .inr j2 =>
    some (-1)
def M_slices_ContainsFunc_int_int_index_Gather_1 (a0 : List Int) (a1 : List Int) : Option Bool :=
  (M_slices_IndexFunc_int_int_index_Gather_1 a0 a1) >>= fun r1 =>
  some (decide (r1 ≥ 0))
def M_index_Gather_l0 (a0 : List Int) (a1 : List Int) (x0 : Int) (x1 : List Int) : Option (List Int) :=
  if x0 < (a0.length : Int) then
    if 0 ≤ x0 ∧ x0 < (a0.length : Int) then
      if 0 ≤ at' a0 x0 ∧ at' a0 x0 < (a1.length : Int) then
        if room 8 (x1 ++ [at' a1 (at' a0 x0)]).length then
          some (x1 ++ [at' a1 (at' a0 x0)]) >>= fun y6 =>
          M_index_Gather_l0 a0 a1 (IntKind.i64.wrap (x0 + 1)) y6
        else none
      else none
    else none
  else
    some x1
  partial_fixpoint
def M_index_Gather (a0 : List Int) (a1 : List Int) : Option ((List Int) × Int) :=
  (M_index_rises a0) >>= fun r1 =>
  ((
    if r1 = false then
      some true
    else
      (M_slices_ContainsFunc_int_int_index_Gather_1 a0 a1) >>= fun r2 =>
      some r2) : Option Bool) >>= fun j3 =>
  if j3 = true then
    some ([], 1)
  else
    if 0 ≤ (0 : Int) ∧ (0 : Int) ≤ (a0.length : Int) ∧ (a0.length : Int) ≤ 140737488355328 ∧ (a0.length : Int) * ((8 : Nat) : Int) ≤ 140737488355328 then
      some (List.replicate (Int.toNat 0) 0) >>= fun y4 =>
      (M_index_Gather_l0 a0 a1 0 y4) >>= fun j8 =>
      some (j8, 0)
    else none
def M_thrumref06_Gather_l0 (a0 : List Int) (a1 : List Int) (x0 : Int) (x1 : List Int) : Option (Sum ((List Int) × Int) (List Int)) :=
  if x0 < (a0.length : Int) then
    if 0 ≤ x0 ∧ x0 < (a0.length : Int) then
      ((
        if (at' a0 x0) < 0 then
          some true
        else
          some (decide ((at' a0 x0) ≥ (a1.length : Int)))) : Option Bool) >>= fun j2 =>
      if j2 = true then
        some (.inl ([], 1))
      else
        if 0 ≤ at' a0 x0 ∧ at' a0 x0 < (a1.length : Int) then
          if room 8 (x1 ++ [at' a1 (at' a0 x0)]).length then
            some (x1 ++ [at' a1 (at' a0 x0)]) >>= fun y3 =>
            M_thrumref06_Gather_l0 a0 a1 (IntKind.i64.wrap (x0 + 1)) y3
          else none
        else none
    else none
  else
    some (.inr x1)
  partial_fixpoint
def M_thrumref06_Gather (a0 : List Int) (a1 : List Int) : Option ((List Int) × Int) :=
  (M_thrumref06_rises a0) >>= fun r1 =>
  if r1 = false then
    some ([], 1)
  else
    (M_thrumref06_Gather_l0 a0 a1 0 []) >>= fun e => match e with
    | .inl r => some r
    | .inr j5 =>
      some (j5, 0)
def M_thrumref06_in_l0 (a0 : List Int) (a1 : Int) (x0 : Int) : Option (Sum Bool Unit) :=
  if x0 < (a0.length : Int) then
    if 0 ≤ x0 ∧ x0 < (a0.length : Int) then
      if (at' a0 x0) = a1 then
        some (.inl true)
      else
        M_thrumref06_in_l0 a0 a1 (IntKind.i64.wrap (x0 + 1))
    else none
  else
    some (.inr ())
  partial_fixpoint
def M_thrumref06_in (a0 : List Int) (a1 : Int) : Option Bool :=
  (M_thrumref06_in_l0 a0 a1 0) >>= fun e => match e with
  | .inl r => some r
  | .inr j1 =>
    some false
def M_thrumref06_Left_l0 (a0 : Int) (a1 : List Int) (x0 : Int) (x1 : List Int) : Option (List Int) :=
  if x0 < a0 then
    (M_thrumref06_in a1 x0) >>= fun r2 =>
    if r2 = false then
      if room 8 (x1 ++ [x0]).length then
        M_thrumref06_Left_l0 a0 a1 (IntKind.i64.wrap (x0 + 1)) (x1 ++ [x0])
      else none
    else
      M_thrumref06_Left_l0 a0 a1 (IntKind.i64.wrap (x0 + 1)) x1
  else
    some x1
  partial_fixpoint
def M_thrumref06_Left (a0 : Int) (a1 : List Int) : Option ((List Int) × Int) :=
  (M_thrumref06_Check a0 a1) >>= fun r1 =>
  if r1 ≠ 0 then
    some ([], r1)
  else
    (M_thrumref06_Left_l0 a0 a1 0 []) >>= fun j3 =>
    some (j3, 0)
def M_thrumref02_Same_l0 (a0 : List Int) (a1 : List Int) (x0 : Int) : Option (Sum Bool Unit) :=
  if x0 < (a0.length : Int) then
    if 0 ≤ x0 ∧ x0 < (a0.length : Int) then
      if 0 ≤ x0 ∧ x0 < (a1.length : Int) then
        if (at' a0 x0) ≠ (at' a1 x0) then
          some (.inl false)
        else
          M_thrumref02_Same_l0 a0 a1 (IntKind.i64.wrap (x0 + 1))
      else none
    else none
  else
    some (.inr ())
  partial_fixpoint
def M_thrumref02_Same (a0 : List Int) (a1 : List Int) : Option Bool :=
  if (a0.length : Int) ≠ (a1.length : Int) then
    some false
  else
    (M_thrumref02_Same_l0 a0 a1 0) >>= fun e => match e with
    | .inl r => some r
    | .inr j1 =>
      some true
def M_thrumref06_Merge_l2 (a0 : List (List Int)) (x0 : Int) (x0_ : Int) (x1_ : List Int) (x0__ : Int) (x1__ : List Int) : Option (List Int) :=
  if x0__ < (x1_.length : Int) then
    if 0 ≤ x0__ ∧ x0__ < (x1_.length : Int) then
      if (at' x1_ x0__) < (at' (at' a0 x0) x0_) then
        if room 8 (x1__ ++ [at' x1_ x0__]).length then
          M_thrumref06_Merge_l2 a0 x0 x0_ x1_ (IntKind.i64.wrap (x0__ + 1)) (x1__ ++ [at' x1_ x0__])
        else none
      else
        M_thrumref06_Merge_l2 a0 x0 x0_ x1_ (IntKind.i64.wrap (x0__ + 1)) x1__
    else none
  else
    some x1__
  partial_fixpoint
def M_thrumref06_Merge_l3 (a0 : List (List Int)) (x0 : Int) (x0_ : Int) (x1_ : List Int) (x0__ : Int) (x1__ : List Int) : Option (List Int) :=
  if x0__ < (x1_.length : Int) then
    if 0 ≤ x0__ ∧ x0__ < (x1_.length : Int) then
      if (at' x1_ x0__) > (at' (at' a0 x0) x0_) then
        if room 8 (x1__ ++ [at' x1_ x0__]).length then
          M_thrumref06_Merge_l3 a0 x0 x0_ x1_ (IntKind.i64.wrap (x0__ + 1)) (x1__ ++ [at' x1_ x0__])
        else none
      else
        M_thrumref06_Merge_l3 a0 x0 x0_ x1_ (IntKind.i64.wrap (x0__ + 1)) x1__
    else none
  else
    some x1__
  partial_fixpoint
def M_thrumref06_Merge_l1 (a0 : List (List Int)) (x0 : Int) (x0_ : Int) (x1_ : List Int) : Option (List Int) :=
  if x0_ < ((at' a0 x0).length : Int) then
    if 0 ≤ x0_ ∧ x0_ < ((at' a0 x0).length : Int) then
      (M_thrumref06_in x1_ (at' (at' a0 x0) x0_)) >>= fun r1 =>
      if r1 = true then
        M_thrumref06_Merge_l1 a0 x0 (IntKind.i64.wrap (x0_ + 1)) x1_
      else
        (M_thrumref06_Merge_l2 a0 x0 x0_ x1_ 0 []) >>= fun j2 =>
        if room 8 (j2 ++ [at' (at' a0 x0) x0_]).length then
          some (j2 ++ [at' (at' a0 x0) x0_]) >>= fun y3 =>
          (M_thrumref06_Merge_l3 a0 x0 x0_ x1_ 0 y3) >>= fun j5 =>
          M_thrumref06_Merge_l1 a0 x0 (IntKind.i64.wrap (x0_ + 1)) j5
        else none
    else none
  else
    some x1_
  partial_fixpoint
def M_thrumref06_Merge_l0 (a0 : List (List Int)) (x0 : Int) (x1 : List Int) : Option (List Int) :=
  if x0 < (a0.length : Int) then
    if 0 ≤ x0 ∧ x0 < (a0.length : Int) then
      (M_thrumref06_Merge_l1 a0 x0 0 x1) >>= fun j6 =>
      M_thrumref06_Merge_l0 a0 (IntKind.i64.wrap (x0 + 1)) j6
    else none
  else
    some x1
  partial_fixpoint
def M_thrumref06_Merge (a0 : List (List Int)) : Option (List Int) :=
  (M_thrumref06_Merge_l0 a0 0 []) >>= fun j7 =>
  some j7
def M_thrumref06_Rises (a0 : List Int) : Option Bool :=
  (M_thrumref06_rises a0) >>= fun r1 =>
  some r1
def M_cmp_isNaN_int (a0 : Int) : Option Bool :=
  some (a0 != a0)
def M_cmp_Less_int (a0 : Int) (a1 : Int) : Option Bool :=
  (M_cmp_isNaN_int a0) >>= fun r1 =>
  ((
    if r1 = true then
      (M_cmp_isNaN_int a1) >>= fun r2 =>
      some (!r2)
    else
      some false) : Option Bool) >>= fun j3 =>
  ((
    if j3 = true then
      some true
    else
      some (decide (a0 < a1))) : Option Bool) >>= fun j4 =>
  some j4
def M_slices_isNaN_int (a0 : Int) : Option Bool :=
  some (a0 != a0)
def M_slices_BinarySearch_int_int_l0 (a0 : List Int) (a1 : Int) (x0 : Int) (x1 : Int) : Option Int :=
  if x1 < x0 then
    some (IntKind.i64.wrap (sShr .u64 (IntKind.u64.wrap (IntKind.i64.wrap (x1 + x0))) 1)) >>= fun y1 =>
    if 0 ≤ y1 ∧ y1 < (a0.length : Int) then
      (M_cmp_Less_int (at' a0 y1) a1) >>= fun r3 =>
      if r3 = true then
        M_slices_BinarySearch_int_int_l0 a0 a1 x0 (IntKind.i64.wrap (y1 + 1))
      else
        M_slices_BinarySearch_int_int_l0 a0 a1 y1 x1
    else none
  else
    some x1
  partial_fixpoint
def M_slices_BinarySearch_int_int (a0 : List Int) (a1 : Int) : Option (Int × Bool) :=
  (M_slices_BinarySearch_int_int_l0 a0 a1 (a0.length : Int) 0) >>= fun j4 =>
  if j4 < (a0.length : Int) then
    if 0 ≤ j4 ∧ j4 < (a0.length : Int) then
      if (at' a0 j4) = a1 then
        some (j4, true)
      else
        if 0 ≤ j4 ∧ j4 < (a0.length : Int) then
          (M_slices_isNaN_int (at' a0 j4)) >>= fun r5 =>
          if r5 = true then
            (M_slices_isNaN_int a1) >>= fun r6 =>
            some (j4, r6)
          else
            some (j4, false)
        else none
    else none
  else
    some (j4, false)
def M_index_Has (a0 : List Int) (a1 : Int) : Option (Int × Bool) :=
  (M_slices_BinarySearch_int_int a0 a1) >>= fun r1 =>
  some (r1.1, r1.2)
def M_thrumref06_Has_l0 (a0 : List Int) (a1 : Int) (x0 : Int) : Option (Sum (Int × Bool) Unit) :=
  if x0 < (a0.length : Int) then
    if 0 ≤ x0 ∧ x0 < (a0.length : Int) then
      if (at' a0 x0) ≥ a1 then
        some (.inl (x0, (at' a0 x0) == a1))
      else
        M_thrumref06_Has_l0 a0 a1 (IntKind.i64.wrap (x0 + 1))
    else none
  else
    some (.inr ())
  partial_fixpoint
def M_thrumref06_Has (a0 : List Int) (a1 : Int) : Option (Int × Bool) :=
  (M_thrumref06_Has_l0 a0 a1 0) >>= fun e => match e with
  | .inl r => some r
  | .inr j1 =>
    some ((a0.length : Int), false)
def M_thrumlaw06_IndexPlaces (a0 : Int) (a1 : List Int) (a2 : List Int) (a3 : List (List Int)) (a4 : Int) : Option Bool :=
  (M_thrumlaw06_live) >>= fun r1 =>
  if r1 = false then
    some false
  else
    (M_thrumlaw06_few [a1]) >>= fun r2 =>
    ((
      if r2 = false then
        some true
      else
        (M_thrumlaw06_few a3) >>= fun r3 =>
        some (!r3)) : Option Bool) >>= fun j4 =>
    ((
      if j4 = true then
        some true
      else
        some (decide ((a2.length : Int) > 5000))) : Option Bool) >>= fun j5 =>
    if j5 = true then
      some r1
    else
      if room 8 (a1 : List Int).length then
        (M_index_Spread a0 a1 a2) >>= fun r6 =>
        (M_thrumref06_Spread a0 a1 a2) >>= fun r7 =>
        (M_index_Gather a1 a2) >>= fun r8 =>
        (M_thrumref06_Gather a1 a2) >>= fun r9 =>
        (M_index_Left a0 a1) >>= fun r10 =>
        (M_thrumref06_Left a0 a1) >>= fun r11 =>
        (M_thrumref02_Same r6.1 r7.1) >>= fun r12 =>
        ((
          if r12 = false then
            some true
          else
            some (r6.2 != r7.2)) : Option Bool) >>= fun j13 =>
        ((
          if j13 = true then
            some true
          else
            (M_thrumref02_Same r8.1 r9.1) >>= fun r14 =>
            some (!r14)) : Option Bool) >>= fun j15 =>
        ((
          if j15 = true then
            some true
          else
            some (r8.2 != r9.2)) : Option Bool) >>= fun j16 =>
        ((
          if j16 = true then
            some true
          else
            (M_thrumref06_Equal r10.1 r11.1) >>= fun r17 =>
            some (!r17)) : Option Bool) >>= fun j18 =>
        ((
          if j18 = true then
            some true
          else
            some (r10.2 != r11.2)) : Option Bool) >>= fun j19 =>
        ((
          if j19 = true then
            some true
          else
            (M_thrumref06_Equal a1 a1) >>= fun r20 =>
            some (!r20)) : Option Bool) >>= fun j21 =>
        if j21 = true then
          some false
        else
          (M_index_Merge a3) >>= fun r22 =>
          (M_thrumref06_Merge a3) >>= fun r23 =>
          (M_thrumref06_Equal r22 r23) >>= fun r24 =>
          if r24 = false then
            some false
          else
            (M_thrumref06_Rises a1) >>= fun r25 =>
            if r25 = false then
              some r1
            else
              (M_index_Has a1 a4) >>= fun r26 =>
              (M_thrumref06_Has a1 a4) >>= fun r27 =>
              ((
                if r1 = true then
                  some (r26.1 == r27.1)
                else
                  some false) : Option Bool) >>= fun j28 =>
              ((
                if j28 = true then
                  some (r26.2 == r27.2)
                else
                  some false) : Option Bool) >>= fun j29 =>
              some j29
      else none
end Go.Proofs.Ythkofkhggdgcpaa.Abs
