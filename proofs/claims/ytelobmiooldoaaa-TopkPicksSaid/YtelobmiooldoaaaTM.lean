/- Models of functions, printed by a program. Conditions: none. -/
import Derived.Test.YtelobmiooldoaaaSrtD
import Derived.Test.YtelobmiooldoaaaShelfF
import Derived.Test.YtelobmiooldoaaaAbs5
namespace Go.Proofs.Ytelobmiooldoaaa.Abs
open Go Go.RowKit
set_option linter.unusedVariables false
set_option maxRecDepth 100000

structure T_api_Sent where
  F_Scheme : Int
  F_Dim : Int
  F_L : List Int
  F_V : List Int
  F_Scale : Int
  F_Wide : Int
  F_Lev : List Int
  F_Neg : List Bool
  deriving Inhabited, DecidableEq
structure T_topk_one where
  F_place : Int
  F_size : Int
  deriving Inhabited, DecidableEq
def T_api_Sent.en (x : T_api_Sent) : D := .agg [.int .i64 x.F_Scheme, .int .i64 x.F_Dim, .lst (List.map (D.int .i64) x.F_L), .lst (List.map (D.int .i64) x.F_V), .int .i64 x.F_Scale, .int .i64 x.F_Wide, .lst (List.map (D.int .u64) x.F_Lev), .lst (List.map D.bool x.F_Neg)]
def T_topk_one.en (x : T_topk_one) : D := .agg [.int .i64 x.F_place, .int .u64 x.F_size]
def M_topk_size (a0 : Int) : Option Int :=
  if a0 < 0 then
    some (IntKind.u64.wrap (0 - (IntKind.u64.wrap a0)))
  else
    some (IntKind.u64.wrap a0)
def M_topk_ones_l0 (a0 : List Int) (x0 : Int) (x1 : List T_topk_one) : Option (List T_topk_one) :=
  if x0 < (a0.length : Int) then
    if 0 ≤ x0 ∧ x0 < (a0.length : Int) then
      (M_topk_size (at' a0 x0)) >>= fun r3 =>
      if 0 ≤ x0 ∧ x0 < (x1.length : Int) then
        some (x1.set (Int.toNat x0) (⟨x0, r3⟩ : T_topk_one)) >>= fun y4 =>
        M_topk_ones_l0 a0 (IntKind.i64.wrap (x0 + 1)) y4
      else none
    else none
  else
    some x1
  partial_fixpoint
def M_topk_ones (a0 : List Int) : Option (List T_topk_one) :=
  if 0 ≤ (a0.length : Int) ∧ (a0.length : Int) ≤ (a0.length : Int) ∧ (a0.length : Int) ≤ 140737488355328 ∧ (a0.length : Int) * ((16 : Nat) : Int) ≤ 140737488355328 then
    some (List.replicate (Int.toNat (a0.length : Int)) (⟨0, 0⟩ : T_topk_one)) >>= fun y1 =>
    (M_topk_ones_l0 a0 0 y1) >>= fun j6 =>
    some j6
  else none
def M_thrum_topk_best_Push_c (a0 : List T_topk_one) (a1 : Int) (a2 : Int) : Option (List T_topk_one) :=
  if room 16 (a0 ++ [(⟨a1, a2⟩ : T_topk_one)]).length then
    some (a0 ++ [(⟨a1, a2⟩ : T_topk_one)])
  else none
def M_thrum_topk_best_Len (a0 : List T_topk_one) : Option Int :=
  some (a0.length : Int)
def M_cmp_isNaN_uint64 (a0 : Int) : Option Bool :=
  some (a0 != a0)
def M_cmp_Compare_uint64 (a0 : Int) (a1 : Int) : Option Int :=
  (M_cmp_isNaN_uint64 a0) >>= fun r1 =>
  (M_cmp_isNaN_uint64 a1) >>= fun r2 =>
  if r1 = true then
    if r2 = true then
      some 0
    else
      some (-1)
  else
    if r2 = true then
      some 1
    else
      if a0 < a1 then
        some (-1)
      else
        if a0 > a1 then
          some 1
        else
          some 0
def M_cmp_isNaN_int (a0 : Int) : Option Bool :=
  some (a0 != a0)
def M_cmp_Compare_int (a0 : Int) (a1 : Int) : Option Int :=
  (M_cmp_isNaN_int a0) >>= fun r1 =>
  (M_cmp_isNaN_int a1) >>= fun r2 =>
  if r1 = true then
    if r2 = true then
      some 0
    else
      some (-1)
  else
    if r2 = true then
      some 1
    else
      if a0 < a1 then
        some (-1)
      else
        if a0 > a1 then
          some 1
        else
          some 0
def M_cmp_Or_int_l0 (a0 : List Int) (x0 : Int) : Option (Sum Int Unit) :=
  if x0 < (a0.length : Int) then
    if 0 ≤ x0 ∧ x0 < (a0.length : Int) then
      if (at' a0 x0) ≠ 0 then
        some (.inl (at' a0 x0))
      else
        M_cmp_Or_int_l0 a0 (IntKind.i64.wrap (x0 + 1))
    else none
  else
    some (.inr ())
  partial_fixpoint
def M_cmp_Or_int (a0 : List Int) : Option Int :=
  (M_cmp_Or_int_l0 a0 0) >>= fun e => match e with
  | .inl r => some r
  | .inr j1 =>
    some 0
def M_thrum_topk_one_compare (a0 : T_topk_one) (a1 : T_topk_one) : Option Int :=
  (M_cmp_Compare_uint64 a1.F_size a0.F_size) >>= fun r1 =>
  (M_cmp_Compare_int a0.F_place a1.F_place) >>= fun r2 =>
  (M_cmp_Or_int [r1, r2]) >>= fun r3 =>
  some r3
def M_thrum_topk_best_Less (a0 : List T_topk_one) (a1 : Int) (a2 : Int) : Option Bool :=
  if 0 ≤ a1 ∧ a1 < (a0.length : Int) then
    if 0 ≤ a2 ∧ a2 < (a0.length : Int) then
      (M_thrum_topk_one_compare (at' a0 a1) (at' a0 a2)) >>= fun r1 =>
      some (decide (r1 > 0))
    else none
  else none
def M_thrum_topk_best_Swap (a0 : List T_topk_one) (a1 : Int) (a2 : Int) : Option Unit :=
  if 0 ≤ a2 ∧ a2 < (a0.length : Int) then
    if 0 ≤ a1 ∧ a1 < (a0.length : Int) then
      if 0 ≤ a1 ∧ a1 < (a0.length : Int) then
        if 0 ≤ a2 ∧ a2 < ((a0.set (Int.toNat a1) (at' a0 a2)).length : Int) then
          some ()
        else none
      else none
    else none
  else none
def M_thrum_topk_best_Swap_g (a0 : List T_topk_one) (a1 : Int) (a2 : Int) : Option (List T_topk_one) :=
  if 0 ≤ a2 ∧ a2 < (a0.length : Int) then
    if 0 ≤ a1 ∧ a1 < (a0.length : Int) then
      if 0 ≤ a1 ∧ a1 < (a0.length : Int) then
        if 0 ≤ a2 ∧ a2 < ((a0.set (Int.toNat a1) (at' a0 a2)).length : Int) then
          some ((a0.set (Int.toNat a1) (at' a0 a2)).set (Int.toNat a2) (at' a0 a1))
        else none
      else none
    else none
  else none
def M_container_heap_up_c_l0 (x0 : Int) (x1 : List T_topk_one) : Option (List T_topk_one) :=
  ((
    if (IntKind.i64.wrap (Int.tdiv (IntKind.i64.wrap (x0 - 1)) 2)) = x0 then
      some true
    else
      (M_thrum_topk_best_Less x1 x0 (IntKind.i64.wrap (Int.tdiv (IntKind.i64.wrap (x0 - 1)) 2))) >>= fun r1 =>
      some (!r1)) : Option Bool) >>= fun j2 =>
  if j2 = true then
    some x1
  else
    (M_thrum_topk_best_Swap_g x1 (IntKind.i64.wrap (Int.tdiv (IntKind.i64.wrap (x0 - 1)) 2)) x0) >>= fun r3 =>
    M_container_heap_up_c_l0 (IntKind.i64.wrap (Int.tdiv (IntKind.i64.wrap (x0 - 1)) 2)) r3
  partial_fixpoint
def M_container_heap_up_c (a0 : List T_topk_one) (a1 : Int) : Option (List T_topk_one) :=
  (M_container_heap_up_c_l0 a1 a0) >>= fun j4 =>
  some j4
def M_container_heap_Push_c_c (a0 : List T_topk_one) (a1 : Int) (a2 : Int) : Option (List T_topk_one) :=
  (M_thrum_topk_best_Push_c a0 a1 a2) >>= fun r1 =>
  (M_thrum_topk_best_Len r1) >>= fun r2 =>
  (M_container_heap_up_c r1 (IntKind.i64.wrap (r2 - 1))) >>= fun r3 =>
  some r3
def M_container_heap_down_c_l0 (a1 : Int) (a2 : Int) (x0 : Int) (x1 : List T_topk_one) : Option (Int × (List T_topk_one)) :=
  ((
    if (IntKind.i64.wrap ((IntKind.i64.wrap (2 * x0)) + 1)) ≥ a2 then
      some true
    else
      some (decide ((IntKind.i64.wrap ((IntKind.i64.wrap (2 * x0)) + 1)) < 0))) : Option Bool) >>= fun j1 =>
  if j1 = true then
    some (x0, x1)
  else
    some (IntKind.i64.wrap ((IntKind.i64.wrap ((IntKind.i64.wrap (2 * x0)) + 1)) + 1)) >>= fun y2 =>
    ((
      if y2 < a2 then
        (M_thrum_topk_best_Less x1 y2 (IntKind.i64.wrap ((IntKind.i64.wrap (2 * x0)) + 1))) >>= fun r4 =>
        some r4
      else
        some false) : Option Bool) >>= fun j5 =>
    if j5 = true then
      (M_thrum_topk_best_Less x1 y2 x0) >>= fun r6 =>
      if r6 = false then
        some (x0, x1)
      else
        (M_thrum_topk_best_Swap_g x1 x0 y2) >>= fun r7 =>
        M_container_heap_down_c_l0 a1 a2 y2 r7
    else
      (M_thrum_topk_best_Less x1 (IntKind.i64.wrap ((IntKind.i64.wrap (2 * x0)) + 1)) x0) >>= fun r8 =>
      if r8 = false then
        some (x0, x1)
      else
        (M_thrum_topk_best_Swap_g x1 x0 (IntKind.i64.wrap ((IntKind.i64.wrap (2 * x0)) + 1))) >>= fun r9 =>
        M_container_heap_down_c_l0 a1 a2 (IntKind.i64.wrap ((IntKind.i64.wrap (2 * x0)) + 1)) r9
  partial_fixpoint
def M_container_heap_down_c (a0 : List T_topk_one) (a1 : Int) (a2 : Int) : Option (Bool × (List T_topk_one)) :=
  (M_container_heap_down_c_l0 a1 a2 a1 a0) >>= fun j10 =>
  some (decide (j10.1 > a1), j10.2)
def M_thrum_topk_best_Pop (a0 : List T_topk_one) : Option (Int × Int × (List T_topk_one)) :=
  if cutOk none (some (IntKind.i64.wrap ((a0.length : Int) - 1))) a0.length then
    some (cut' a0 none (some (IntKind.i64.wrap ((a0.length : Int) - 1)))) >>= fun y1 =>
    if 0 ≤ IntKind.i64.wrap ((a0.length : Int) - 1) ∧ IntKind.i64.wrap ((a0.length : Int) - 1) < (a0.length : Int) then
      some ((at' a0 (IntKind.i64.wrap ((a0.length : Int) - 1))).F_place, (at' a0 (IntKind.i64.wrap ((a0.length : Int) - 1))).F_size, y1)
    else none
  else none
def M_container_heap_Pop_c (a0 : List T_topk_one) : Option (Int × Int × (List T_topk_one)) :=
  (M_thrum_topk_best_Len a0) >>= fun r1 =>
  (M_thrum_topk_best_Swap_g a0 0 (IntKind.i64.wrap (r1 - 1))) >>= fun r2 =>
  (M_container_heap_down_c r2 0 (IntKind.i64.wrap (r1 - 1))) >>= fun r3 =>
  (M_thrum_topk_best_Pop r3.2) >>= fun r4 =>
  some (r4.1, r4.2.1, r4.2.2)
def M_topk_places_l0 (a0 : List T_topk_one) (x0 : Int) (x1 : List Int) : Option (List Int) :=
  if x0 < (a0.length : Int) then
    if 0 ≤ x0 ∧ x0 < (a0.length : Int) then
      if room 8 (x1 ++ [(at' a0 x0).F_place]).length then
        some (x1 ++ [(at' a0 x0).F_place]) >>= fun y3 =>
        M_topk_places_l0 a0 (IntKind.i64.wrap (x0 + 1)) y3
      else none
    else none
  else
    some x1
  partial_fixpoint
def M_topk_places (a0 : List T_topk_one) : Option (List Int) :=
  if 0 ≤ (0 : Int) ∧ (0 : Int) ≤ (a0.length : Int) ∧ (a0.length : Int) ≤ 140737488355328 ∧ (a0.length : Int) * ((8 : Nat) : Int) ≤ 140737488355328 then
    some (List.replicate (Int.toNat 0) 0) >>= fun y1 =>
    (M_topk_places_l0 a0 0 y1) >>= fun j5 =>
    some j5
  else none
def M_topk_Pick_l0 (a0 : Int) (r2 : (List T_topk_one)) (x0 : Int) (x1 : List T_topk_one) : Option (List T_topk_one) :=
  if x0 < (r2.length : Int) then
    if 0 ≤ x0 ∧ x0 < (r2.length : Int) then
      (M_container_heap_Push_c_c x1 ((at' r2 x0).F_place) ((at' r2 x0).F_size)) >>= fun r3 =>
      (M_thrum_topk_best_Len r3) >>= fun r4 =>
      if r4 > a0 then
        (M_container_heap_Pop_c r3) >>= fun r5 =>
        M_topk_Pick_l0 a0 r2 (IntKind.i64.wrap (x0 + 1)) r5.2.2
      else
        M_topk_Pick_l0 a0 r2 (IntKind.i64.wrap (x0 + 1)) r3
    else none
  else
    some x1
  partial_fixpoint
def M_topk_Pick (a0 : Int) (a1 : List Int) : Option ((List Int) × Int) :=
  if (a1.length : Int) > 4096 then
    some ([], 3)
  else
    ((
      if a0 < 0 then
        some true
      else
        some (decide (a0 > (a1.length : Int)))) : Option Bool) >>= fun j1 =>
    if j1 = true then
      some ([], 1)
    else
      (M_topk_ones a1) >>= fun r2 =>
      (M_topk_Pick_l0 a0 r2 0 []) >>= fun j6 =>
      (M_topk_places j6) >>= fun r7 =>
      (M_slices_Sort_int r7) >>= fun r8 =>
      some (r8, 0)
def M_topk_Least_l0 (a0 : List Int) (a1 : List Int) (x0 : Int) (x1 : Bool) (x2 : Int) : Option (Bool × Int) :=
  if x0 < (a0.length : Int) then
    if 0 ≤ x0 ∧ x0 < (a0.length : Int) then
      ((
        if (at' a0 x0) < 0 then
          some true
        else
          some (decide ((at' a0 x0) ≥ (a1.length : Int)))) : Option Bool) >>= fun j1 =>
      if j1 = true then
        M_topk_Least_l0 a0 a1 (IntKind.i64.wrap (x0 + 1)) x1 x2
      else
        if 0 ≤ at' a0 x0 ∧ at' a0 x0 < (a1.length : Int) then
          (M_topk_size (at' a1 (at' a0 x0))) >>= fun r2 =>
          ((
            if x1 = false then
              some true
            else
              some (decide (r2 < x2))) : Option Bool) >>= fun j3 =>
          if j3 = true then
            M_topk_Least_l0 a0 a1 (IntKind.i64.wrap (x0 + 1)) true r2
          else
            M_topk_Least_l0 a0 a1 (IntKind.i64.wrap (x0 + 1)) x1 x2
        else none
    else none
  else
    some (x1, x2)
  partial_fixpoint
def M_topk_Least (a0 : List Int) (a1 : List Int) : Option (Int × Bool) :=
  (M_topk_Least_l0 a0 a1 0 false 0) >>= fun j4 =>
  some (j4.2, j4.1)
def M_thrumref06_Equal_l0 (a0 : List Int) (a1 : List Int) (x0 : Int) : Option (Sum Bool Unit) :=
  if x0 < (a0.length : Int) then
    if 0 ≤ x0 ∧ x0 < (a0.length : Int) then
      if 0 ≤ x0 ∧ x0 < (a1.length : Int) then
        if (at' a0 x0) ≠ (at' a1 x0) then
          some (.inl false)
        else
          M_thrumref06_Equal_l0 a0 a1 (IntKind.i64.wrap (x0 + 1))
      else none
    else none
  else
    some (.inr ())
  partial_fixpoint
def M_thrumref06_Equal (a0 : List Int) (a1 : List Int) : Option Bool :=
  if (a0.length : Int) ≠ (a1.length : Int) then
    some false
  else
    (M_thrumref06_Equal_l0 a0 a1 0) >>= fun e => match e with
    | .inl r => some r
    | .inr j1 =>
      some true
def M_thrumlaw09_live : Option Bool :=
  (M_topk_Pick 2 [3, -5, 5, 1]) >>= fun r1 =>
  (M_topk_Least r1.1 [3, -5, 5, 1]) >>= fun r2 =>
  ((
    if r1.2 = 0 then
      (M_thrumref06_Equal r1.1 [1, 2]) >>= fun r3 =>
      some r3
    else
      some false) : Option Bool) >>= fun j4 =>
  ((
    if j4 = true then
      some (r2.1 == 5)
    else
      some false) : Option Bool) >>= fun j5 =>
  ((
    if j5 = true then
      some r2.2
    else
      some false) : Option Bool) >>= fun j6 =>
  some j6
def M_thrumlaw09_few (a0 : List Int) : Option Bool :=
  if (a0.length : Int) ≤ 200 then
    some true
  else
    if (a0.length : Int) > 4096 then
      some (decide ((a0.length : Int) ≤ 5000))
    else
      some false
def M_thrumref07_Big (a0 : T_api_Sent) : Option Bool :=
  ((
    if (a0.F_L.length : Int) > 500 then
      some true
    else
      some (decide ((a0.F_V.length : Int) > 500))) : Option Bool) >>= fun j1 =>
  ((
    if j1 = true then
      some true
    else
      some (decide ((a0.F_Lev.length : Int) > 500))) : Option Bool) >>= fun j2 =>
  ((
    if j2 = true then
      some true
    else
      some (decide ((a0.F_Neg.length : Int) > 500))) : Option Bool) >>= fun j3 =>
  some j3
def M_thrumref09_Size (a0 : Int) : Option Int :=
  if a0 < 0 then
    some (IntKind.u64.wrap ((IntKind.u64.wrap (IntKind.i64.wrap (0 - (IntKind.i64.wrap (a0 + 1))))) + 1))
  else
    some (IntKind.u64.wrap a0)
def M_thrumref09_Ahead (a0 : List Int) (a1 : Int) (a2 : Int) : Option Bool :=
  if 0 ≤ a1 ∧ a1 < (a0.length : Int) then
    (M_thrumref09_Size (at' a0 a1)) >>= fun r1 =>
    if 0 ≤ a2 ∧ a2 < (a0.length : Int) then
      (M_thrumref09_Size (at' a0 a2)) >>= fun r2 =>
      if r1 > r2 then
        some true
      else
        if r1 = r2 then
          some (decide (a1 < a2))
        else
          some false
    else none
  else none
def M_thrumref09_Order_l1 (a0 : List Int) (x0 : Int) (x1 : List Int) (x0_ : Int) (x1_ : Int) : Option Int :=
  if x0_ < (a0.length : Int) then
    (M_thrumref09_Ahead a0 x0_ x0) >>= fun r3 =>
    if r3 = true then
      M_thrumref09_Order_l1 a0 x0 x1 (IntKind.i64.wrap (x0_ + 1)) (IntKind.i64.wrap (x1_ + 1))
    else
      M_thrumref09_Order_l1 a0 x0 x1 (IntKind.i64.wrap (x0_ + 1)) x1_
  else
    some x1_
  partial_fixpoint
def M_thrumref09_Order_l0 (a0 : List Int) (x0 : Int) (x1 : List Int) : Option (List Int) :=
  if x0 < (a0.length : Int) then
    (M_thrumref09_Order_l1 a0 x0 x1 0 0) >>= fun j4 =>
    if 0 ≤ j4 ∧ j4 < (x1.length : Int) then
      M_thrumref09_Order_l0 a0 (IntKind.i64.wrap (x0 + 1)) (x1.set (Int.toNat j4) x0)
    else none
  else
    some x1
  partial_fixpoint
def M_thrumref09_Order (a0 : List Int) : Option ((List Int) × Int) :=
  if (a0.length : Int) > 4096 then
    some ([], 3)
  else
    if 0 ≤ (a0.length : Int) ∧ (a0.length : Int) ≤ (a0.length : Int) ∧ (a0.length : Int) ≤ 140737488355328 ∧ (a0.length : Int) * ((8 : Nat) : Int) ≤ 140737488355328 then
      some (List.replicate (Int.toNat (a0.length : Int)) 0) >>= fun y1 =>
      (M_thrumref09_Order_l0 a0 0 y1) >>= fun j5 =>
      some (j5, 0)
    else none
def M_thrumref06_in_l0 (a0 : List Int) (a1 : Int) (x0 : Int) : Option (Sum Bool Unit) :=
  if x0 < (a0.length : Int) then
    if 0 ≤ x0 ∧ x0 < (a0.length : Int) then
      if (at' a0 x0) = a1 then
        some (.inl true)
      else
        M_thrumref06_in_l0 a0 a1 (IntKind.i64.wrap (x0 + 1))
    else none
  else
    some (.inr ())
  partial_fixpoint
def M_thrumref06_in (a0 : List Int) (a1 : Int) : Option Bool :=
  (M_thrumref06_in_l0 a0 a1 0) >>= fun e => match e with
  | .inl r => some r
  | .inr j1 =>
    some false
def M_thrumref06_Merge_l2 (a0 : List (List Int)) (x0 : Int) (x0_ : Int) (x1_ : List Int) (x0__ : Int) (x1__ : List Int) : Option (List Int) :=
  if x0__ < (x1_.length : Int) then
    if 0 ≤ x0__ ∧ x0__ < (x1_.length : Int) then
      if (at' x1_ x0__) < (at' (at' a0 x0) x0_) then
        if room 8 (x1__ ++ [at' x1_ x0__]).length then
          M_thrumref06_Merge_l2 a0 x0 x0_ x1_ (IntKind.i64.wrap (x0__ + 1)) (x1__ ++ [at' x1_ x0__])
        else none
      else
        M_thrumref06_Merge_l2 a0 x0 x0_ x1_ (IntKind.i64.wrap (x0__ + 1)) x1__
    else none
  else
    some x1__
  partial_fixpoint
def M_thrumref06_Merge_l3 (a0 : List (List Int)) (x0 : Int) (x0_ : Int) (x1_ : List Int) (x0__ : Int) (x1__ : List Int) : Option (List Int) :=
  if x0__ < (x1_.length : Int) then
    if 0 ≤ x0__ ∧ x0__ < (x1_.length : Int) then
      if (at' x1_ x0__) > (at' (at' a0 x0) x0_) then
        if room 8 (x1__ ++ [at' x1_ x0__]).length then
          M_thrumref06_Merge_l3 a0 x0 x0_ x1_ (IntKind.i64.wrap (x0__ + 1)) (x1__ ++ [at' x1_ x0__])
        else none
      else
        M_thrumref06_Merge_l3 a0 x0 x0_ x1_ (IntKind.i64.wrap (x0__ + 1)) x1__
    else none
  else
    some x1__
  partial_fixpoint
def M_thrumref06_Merge_l1 (a0 : List (List Int)) (x0 : Int) (x0_ : Int) (x1_ : List Int) : Option (List Int) :=
  if x0_ < ((at' a0 x0).length : Int) then
    if 0 ≤ x0_ ∧ x0_ < ((at' a0 x0).length : Int) then
      (M_thrumref06_in x1_ (at' (at' a0 x0) x0_)) >>= fun r1 =>
      if r1 = true then
        M_thrumref06_Merge_l1 a0 x0 (IntKind.i64.wrap (x0_ + 1)) x1_
      else
        (M_thrumref06_Merge_l2 a0 x0 x0_ x1_ 0 []) >>= fun j2 =>
        if room 8 (j2 ++ [at' (at' a0 x0) x0_]).length then
          some (j2 ++ [at' (at' a0 x0) x0_]) >>= fun y3 =>
          (M_thrumref06_Merge_l3 a0 x0 x0_ x1_ 0 y3) >>= fun j5 =>
          M_thrumref06_Merge_l1 a0 x0 (IntKind.i64.wrap (x0_ + 1)) j5
        else none
    else none
  else
    some x1_
  partial_fixpoint
def M_thrumref06_Merge_l0 (a0 : List (List Int)) (x0 : Int) (x1 : List Int) : Option (List Int) :=
  if x0 < (a0.length : Int) then
    if 0 ≤ x0 ∧ x0 < (a0.length : Int) then
      (M_thrumref06_Merge_l1 a0 x0 0 x1) >>= fun j6 =>
      M_thrumref06_Merge_l0 a0 (IntKind.i64.wrap (x0 + 1)) j6
    else none
  else
    some x1
  partial_fixpoint
def M_thrumref06_Merge (a0 : List (List Int)) : Option (List Int) :=
  (M_thrumref06_Merge_l0 a0 0 []) >>= fun j7 =>
  some j7
def M_thrumref09_Pick (a0 : Int) (a1 : List Int) : Option ((List Int) × Int) :=
  (M_thrumref09_Order a1) >>= fun r1 =>
  if r1.2 ≠ 0 then
    some ([], r1.2)
  else
    ((
      if a0 < 0 then
        some true
      else
        some (decide (a0 > (a1.length : Int)))) : Option Bool) >>= fun j2 =>
    if j2 = true then
      some ([], 1)
    else
      if cutOk none (some a0) r1.1.length then
        (M_thrumref06_Merge [cut' r1.1 none (some a0)]) >>= fun r3 =>
        some (r3, 0)
      else none
def oneLe (a b : T_topk_one) : Bool := !decide (a.F_size < b.F_size ∨ (a.F_size = b.F_size ∧ b.F_place < a.F_place))
def M_slices_SortFunc_one (l : List T_topk_one) : Option (List T_topk_one) := if l.length < 4611686018427387904 then some (l.mergeSort oneLe) else none
def M_topk_Order (a0 : List Int) : Option ((List Int) × Int) :=
  if (a0.length : Int) > 4096 then
    some ([], 3)
  else
    (M_topk_ones a0) >>= fun r1 =>
    (M_slices_SortFunc_one r1) >>= fun r2 =>
    (M_topk_places r2) >>= fun r3 =>
    some (r3, 0)
def M_index_rises_l0 (a0 : List Int) (x0 : Int) : Option (Sum Bool Unit) :=
  if x0 < (a0.length : Int) then
    if 0 ≤ IntKind.i64.wrap (x0 - 1) ∧ IntKind.i64.wrap (x0 - 1) < (a0.length : Int) then
      if 0 ≤ x0 ∧ x0 < (a0.length : Int) then
        if (at' a0 (IntKind.i64.wrap (x0 - 1))) ≥ (at' a0 x0) then
          some (.inl false)
        else
          M_index_rises_l0 a0 (IntKind.i64.wrap (x0 + 1))
      else none
    else none
  else
    some (.inr ())
  partial_fixpoint
def M_index_rises (a0 : List Int) : Option Bool :=
  (M_index_rises_l0 a0 1) >>= fun e => match e with
  | .inl r => some r
  | .inr j1 =>
    some true
def M_index_Gather_1_c (a0 : Int) (a1 : List Int) : Option Bool :=
  ((
    if a0 < 0 then
      some true
    else
      some (decide (a0 ≥ (a1.length : Int)))) : Option Bool) >>= fun j1 =>
  some j1
def M_slices_IndexFunc_int_int_index_Gather_1_l0 (a0 : List Int) (a1 : List Int) (x0 : Int) : Option (Sum Int Unit) :=
  if x0 < (a0.length : Int) then
    if 0 ≤ x0 ∧ x0 < (a0.length : Int) then
      (M_index_Gather_1_c (at' a0 x0) a1) >>= fun r1 =>
      if r1 = true then
        some (.inl x0)
      else
        M_slices_IndexFunc_int_int_index_Gather_1_l0 a0 a1 (IntKind.i64.wrap (x0 + 1))
    else none
  else
    some (.inr ())
  partial_fixpoint
def M_slices_IndexFunc_int_int_index_Gather_1 (a0 : List Int) (a1 : List Int) : Option Int :=
  (M_slices_IndexFunc_int_int_index_Gather_1_l0 a0 a1 0) >>= fun e => match e with
  | .inl r => some r
  | .inr j2 =>
    some (-1)
def M_slices_ContainsFunc_int_int_index_Gather_1 (a0 : List Int) (a1 : List Int) : Option Bool :=
  (M_slices_IndexFunc_int_int_index_Gather_1 a0 a1) >>= fun r1 =>
  some (decide (r1 ≥ 0))
def M_index_Gather_l0 (a0 : List Int) (a1 : List Int) (x0 : Int) (x1 : List Int) : Option (List Int) :=
  if x0 < (a0.length : Int) then
    if 0 ≤ x0 ∧ x0 < (a0.length : Int) then
      if 0 ≤ at' a0 x0 ∧ at' a0 x0 < (a1.length : Int) then
        if room 8 (x1 ++ [at' a1 (at' a0 x0)]).length then
          some (x1 ++ [at' a1 (at' a0 x0)]) >>= fun y6 =>
          M_index_Gather_l0 a0 a1 (IntKind.i64.wrap (x0 + 1)) y6
        else none
      else none
    else none
  else
    some x1
  partial_fixpoint
def M_index_Gather (a0 : List Int) (a1 : List Int) : Option ((List Int) × Int) :=
  (M_index_rises a0) >>= fun r1 =>
  ((
    if r1 = false then
      some true
    else
      (M_slices_ContainsFunc_int_int_index_Gather_1 a0 a1) >>= fun r2 =>
      some r2) : Option Bool) >>= fun j3 =>
  if j3 = true then
    some ([], 1)
  else
    if 0 ≤ (0 : Int) ∧ (0 : Int) ≤ (a0.length : Int) ∧ (a0.length : Int) ≤ 140737488355328 ∧ (a0.length : Int) * ((8 : Nat) : Int) ≤ 140737488355328 then
      some (List.replicate (Int.toNat 0) 0) >>= fun y4 =>
      (M_index_Gather_l0 a0 a1 0 y4) >>= fun j8 =>
      some (j8, 0)
    else none
def M_topk_Press (a0 : Int) (a1 : List Int) : Option (Int × Int × (List Int) × (List Int) × Int × Int × Int) :=
  if (a1.length : Int) = 0 then
    some (0, 0, [], [], 0, 0, 1)
  else
    (M_topk_Pick a0 a1) >>= fun r1 =>
    if r1.2 ≠ 0 then
      some (0, 0, [], [], 0, 0, r1.2)
    else
      (M_index_Gather r1.1 a1) >>= fun r2 =>
      if r2.2 ≠ 0 then
        some (0, 0, [], [], 0, 0, r2.2)
      else
        some (1, (a1.length : Int), r1.1, r2.1, 0, 0, 0)
def M_thrumref09_Press_l0 (a1 : List Int) (r1 : (List Int) × Int) (x0 : Int) (x1 : List Int) : Option (List Int) :=
  if x0 < (r1.1.length : Int) then
    if 0 ≤ x0 ∧ x0 < (r1.1.length : Int) then
      if 0 ≤ at' r1.1 x0 ∧ at' r1.1 x0 < (a1.length : Int) then
        if room 8 (x1 ++ [at' a1 (at' r1.1 x0)]).length then
          some (x1 ++ [at' a1 (at' r1.1 x0)]) >>= fun y2 =>
          M_thrumref09_Press_l0 a1 r1 (IntKind.i64.wrap (x0 + 1)) y2
        else none
      else none
    else none
  else
    some x1
  partial_fixpoint
def M_thrumref09_Press (a0 : Int) (a1 : List Int) : Option (Int × Int × (List Int) × (List Int) × Int × Int × Int) :=
  if (a1.length : Int) = 0 then
    some (0, 0, [], [], 0, 0, 1)
  else
    (M_thrumref09_Pick a0 a1) >>= fun r1 =>
    if r1.2 ≠ 0 then
      some (0, 0, [], [], 0, 0, r1.2)
    else
      (M_thrumref09_Press_l0 a1 r1 0 []) >>= fun j4 =>
      some (1, (a1.length : Int), r1.1, j4, 0, 0, 0)
def M_thrumref09_Least_l0 (a0 : List Int) (a1 : List Int) (x0 : Int) (x1 : Bool) (x2 : Int) : Option (Bool × Int) :=
  if x0 < (a0.length : Int) then
    if 0 ≤ x0 ∧ x0 < (a0.length : Int) then
      ((
        if (at' a0 x0) < 0 then
          some true
        else
          some (decide ((at' a0 x0) ≥ (a1.length : Int)))) : Option Bool) >>= fun j1 =>
      if j1 = true then
        M_thrumref09_Least_l0 a0 a1 (IntKind.i64.wrap (x0 + 1)) x1 x2
      else
        if 0 ≤ at' a0 x0 ∧ at' a0 x0 < (a1.length : Int) then
          (M_thrumref09_Size (at' a1 (at' a0 x0))) >>= fun r2 =>
          ((
            if x1 = false then
              some true
            else
              some (decide (r2 < x2))) : Option Bool) >>= fun j3 =>
          if j3 = true then
            M_thrumref09_Least_l0 a0 a1 (IntKind.i64.wrap (x0 + 1)) true r2
          else
            M_thrumref09_Least_l0 a0 a1 (IntKind.i64.wrap (x0 + 1)) x1 x2
        else none
    else none
  else
    some (x1, x2)
  partial_fixpoint
def M_thrumref09_Least (a0 : List Int) (a1 : List Int) : Option (Int × Bool) :=
  (M_thrumref09_Least_l0 a0 a1 0 false 0) >>= fun j4 =>
  some (j4.2, j4.1)
def M_thrumref02_Same_l0 (a0 : List Int) (a1 : List Int) (x0 : Int) : Option (Sum Bool Unit) :=
  if x0 < (a0.length : Int) then
    if 0 ≤ x0 ∧ x0 < (a0.length : Int) then
      if 0 ≤ x0 ∧ x0 < (a1.length : Int) then
        if (at' a0 x0) ≠ (at' a1 x0) then
          some (.inl false)
        else
          M_thrumref02_Same_l0 a0 a1 (IntKind.i64.wrap (x0 + 1))
      else none
    else none
  else
    some (.inr ())
  partial_fixpoint
def M_thrumref02_Same (a0 : List Int) (a1 : List Int) : Option Bool :=
  if (a0.length : Int) ≠ (a1.length : Int) then
    some false
  else
    (M_thrumref02_Same_l0 a0 a1 0) >>= fun e => match e with
    | .inl r => some r
    | .inr j1 =>
      some true
def M_thrumref03_SameNumbers_l0 (a0 : List Int) (a1 : List Int) (x0 : Int) : Option (Sum Bool Unit) :=
  if x0 < (a0.length : Int) then
    if 0 ≤ x0 ∧ x0 < (a0.length : Int) then
      if 0 ≤ x0 ∧ x0 < (a1.length : Int) then
        if (at' a0 x0) ≠ (at' a1 x0) then
          some (.inl false)
        else
          M_thrumref03_SameNumbers_l0 a0 a1 (IntKind.i64.wrap (x0 + 1))
      else none
    else none
  else
    some (.inr ())
  partial_fixpoint
def M_thrumref03_SameNumbers (a0 : List Int) (a1 : List Int) : Option Bool :=
  if (a0.length : Int) ≠ (a1.length : Int) then
    some false
  else
    (M_thrumref03_SameNumbers_l0 a0 a1 0) >>= fun e => match e with
    | .inl r => some r
    | .inr j1 =>
      some true
def M_thrumref05_SameSigns_l0 (a0 : List Bool) (a1 : List Bool) (x0 : Int) : Option (Sum Bool Unit) :=
  if x0 < (a0.length : Int) then
    if 0 ≤ x0 ∧ x0 < (a0.length : Int) then
      if 0 ≤ x0 ∧ x0 < (a1.length : Int) then
        if (at' a0 x0) ≠ (at' a1 x0) then
          some (.inl false)
        else
          M_thrumref05_SameSigns_l0 a0 a1 (IntKind.i64.wrap (x0 + 1))
      else none
    else none
  else
    some (.inr ())
  partial_fixpoint
def M_thrumref05_SameSigns (a0 : List Bool) (a1 : List Bool) : Option Bool :=
  if (a0.length : Int) ≠ (a1.length : Int) then
    some false
  else
    (M_thrumref05_SameSigns_l0 a0 a1 0) >>= fun e => match e with
    | .inl r => some r
    | .inr j1 =>
      some true
def M_thrumref07_SameSent (a0 : T_api_Sent) (a1 : T_api_Sent) : Option Bool :=
  ((
    if a0.F_Scheme = a1.F_Scheme then
      some (a0.F_Dim == a1.F_Dim)
    else
      some false) : Option Bool) >>= fun j1 =>
  ((
    if j1 = true then
      (M_thrumref06_Equal a0.F_L a1.F_L) >>= fun r2 =>
      some r2
    else
      some false) : Option Bool) >>= fun j3 =>
  ((
    if j3 = true then
      (M_thrumref02_Same a0.F_V a1.F_V) >>= fun r4 =>
      some r4
    else
      some false) : Option Bool) >>= fun j5 =>
  ((
    if j5 = true then
      some (a0.F_Scale == a1.F_Scale)
    else
      some false) : Option Bool) >>= fun j6 =>
  ((
    if j6 = true then
      some (a0.F_Wide == a1.F_Wide)
    else
      some false) : Option Bool) >>= fun j7 =>
  ((
    if j7 = true then
      (M_thrumref03_SameNumbers a0.F_Lev a1.F_Lev) >>= fun r8 =>
      some r8
    else
      some false) : Option Bool) >>= fun j9 =>
  ((
    if j9 = true then
      (M_thrumref05_SameSigns a0.F_Neg a1.F_Neg) >>= fun r10 =>
      some r10
    else
      some false) : Option Bool) >>= fun j11 =>
  some j11
def M_slices_Equal_int_int_l0 (a0 : List Int) (a1 : List Int) (x0 : Int) : Option (Sum Bool Unit) :=
  if x0 < (a0.length : Int) then
    if 0 ≤ x0 ∧ x0 < (a0.length : Int) then
      if 0 ≤ x0 ∧ x0 < (a1.length : Int) then
        if (at' a0 x0) ≠ (at' a1 x0) then
          some (.inl false)
        else
          M_slices_Equal_int_int_l0 a0 a1 (IntKind.i64.wrap (x0 + 1))
      else none
    else none
  else
    some (.inr ())
  partial_fixpoint
def M_slices_Equal_int_int (a0 : List Int) (a1 : List Int) : Option Bool :=
  if (a0.length : Int) ≠ (a1.length : Int) then
    some false
  else
    (M_slices_Equal_int_int_l0 a0 a1 0) >>= fun e => match e with
    | .inl r => some r
    | .inr j1 =>
      some true
def M_slices_Equal_int64_int64_l0 (a0 : List Int) (a1 : List Int) (x0 : Int) : Option (Sum Bool Unit) :=
  if x0 < (a0.length : Int) then
    if 0 ≤ x0 ∧ x0 < (a0.length : Int) then
      if 0 ≤ x0 ∧ x0 < (a1.length : Int) then
        if (at' a0 x0) ≠ (at' a1 x0) then
          some (.inl false)
        else
          M_slices_Equal_int64_int64_l0 a0 a1 (IntKind.i64.wrap (x0 + 1))
      else none
    else none
  else
    some (.inr ())
  partial_fixpoint
def M_slices_Equal_int64_int64 (a0 : List Int) (a1 : List Int) : Option Bool :=
  if (a0.length : Int) ≠ (a1.length : Int) then
    some false
  else
    (M_slices_Equal_int64_int64_l0 a0 a1 0) >>= fun e => match e with
    | .inl r => some r
    | .inr j1 =>
      some true
def M_topk_Is (a0 : Int) (a1 : List Int) (a2 : T_api_Sent) : Option Bool :=
  (M_topk_Press a0 a1) >>= fun r1 =>
  ((
    if r1.2.2.2.2.2.2 ≠ 0 then
      some true
    else
      (M_slices_Equal_int_int r1.2.2.1 a2.F_L) >>= fun r2 =>
      some (!r2)) : Option Bool) >>= fun j3 =>
  ((
    if j3 = true then
      some true
    else
      (M_slices_Equal_int64_int64 r1.2.2.2.1 a2.F_V) >>= fun r4 =>
      some (!r4)) : Option Bool) >>= fun j5 =>
  if j5 = true then
    some false
  else
    ((
      if a2.F_Scheme = r1.1 then
        some (a2.F_Dim == r1.2.1)
      else
        some false) : Option Bool) >>= fun j6 =>
    ((
      if j6 = true then
        some (a2.F_Scale == 0)
      else
        some false) : Option Bool) >>= fun j7 =>
    ((
      if j7 = true then
        some (a2.F_Wide == 0)
      else
        some false) : Option Bool) >>= fun j8 =>
    ((
      if j8 = true then
        some ((IntKind.i64.wrap ((a2.F_Lev.length : Int) + (a2.F_Neg.length : Int))) == 0)
      else
        some false) : Option Bool) >>= fun j9 =>
    some j9
def M_thrumref09_Is (a0 : Int) (a1 : List Int) (a2 : T_api_Sent) : Option Bool :=
  (M_thrumref09_Press a0 a1) >>= fun r1 =>
  ((
    if r1.2.2.2.2.2.2 = 0 then
      (M_thrumref07_SameSent (⟨r1.1, r1.2.1, r1.2.2.1, r1.2.2.2.1, r1.2.2.2.2.1, r1.2.2.2.2.2.1, [], []⟩ : T_api_Sent) a2) >>= fun r2 =>
      some r2
    else
      some false) : Option Bool) >>= fun j3 =>
  some j3
def M_thrumlaw09_TopkPicks_l0 (a0 : Int) (a1 : List Int) (r1 : Bool) (r10 : Int × Int × (List Int) × (List Int) × Int × Int × Int) (r11 : Int × Int × (List Int) × (List Int) × Int × Int × Int) (x0 : Int) (x1 : List Int) : Option Unit :=
  if x0 < (r10.2.2.2.1.length : Int) then
    if 0 ≤ x0 ∧ x0 < (x1.length : Int) then
      if 0 ≤ x0 ∧ x0 < (x1.length : Int) then
        some (x1.set (Int.toNat x0) (IntKind.i64.wrap ((at' x1 x0) + 1))) >>= fun y19 =>
        M_thrumlaw09_TopkPicks_l0 a0 a1 r1 r10 r11 (IntKind.i64.wrap (x0 + 1)) y19
      else none
    else none
  else
    some ()
  partial_fixpoint
def M_thrumlaw09_TopkPicks_l1 (a0 : Int) (a1 : List Int) (r1 : Bool) (r10 : Int × Int × (List Int) × (List Int) × Int × Int × Int) (r11 : Int × Int × (List Int) × (List Int) × Int × Int × Int) (x0 : Int) : Option (Sum Bool Unit) :=
  if x0 < (a1.length : Int) then
    if 0 ≤ x0 ∧ x0 < (a1.length : Int) then
      if 0 ≤ x0 ∧ x0 < (a1.length : Int) then
        if (at' a1 x0) ≠ (at' a1 x0) then
          some (.inl false)
        else
          M_thrumlaw09_TopkPicks_l1 a0 a1 r1 r10 r11 (IntKind.i64.wrap (x0 + 1))
      else none
    else none
  else
    some (.inr ())
  partial_fixpoint
def M_thrumlaw09_TopkPicks (a0 : Int) (a1 : List Int) (a2 : T_api_Sent) (a3 : List Int) : Option Bool :=
  (M_thrumlaw09_live) >>= fun r1 =>
  if r1 = false then
    some false
  else
    (M_thrumlaw09_few a1) >>= fun r2 =>
    ((
      if r2 = false then
        some true
      else
        (M_thrumref07_Big a2) >>= fun r3 =>
        some r3) : Option Bool) >>= fun j4 =>
    ((
      if j4 = true then
        some true
      else
        some (decide ((a3.length : Int) > 500))) : Option Bool) >>= fun j5 =>
    if j5 = true then
      some r1
    else
      if room 8 (a1 : List Int).length then
        (M_topk_Pick a0 a1) >>= fun r6 =>
        (M_thrumref09_Pick a0 a1) >>= fun r7 =>
        (M_topk_Order a1) >>= fun r8 =>
        (M_thrumref09_Order a1) >>= fun r9 =>
        (M_topk_Press a0 a1) >>= fun r10 =>
        (M_thrumref09_Press a0 a1) >>= fun r11 =>
        (M_topk_Least a3 a1) >>= fun r12 =>
        (M_thrumref09_Least a3 a1) >>= fun r13 =>
        (M_thrumref06_Equal r6.1 r7.1) >>= fun r14 =>
        if r14 = false then
          some false
        else
          if r6.2 ≠ r7.2 then
            some false
          else
            (M_thrumref06_Equal r8.1 r9.1) >>= fun r15 =>
            if r15 = false then
              some false
            else
              if r8.2 ≠ r9.2 then
                some false
              else
                (M_thrumref07_SameSent (⟨r10.1, r10.2.1, r10.2.2.1, r10.2.2.2.1, r10.2.2.2.2.1, r10.2.2.2.2.2.1, [], []⟩ : T_api_Sent) (⟨r11.1, r11.2.1, r11.2.2.1, r11.2.2.2.1, r11.2.2.2.2.1, r11.2.2.2.2.2.1, [], []⟩ : T_api_Sent)) >>= fun r16 =>
                if r16 = false then
                  some false
                else
                  if r10.2.2.2.2.2.2 ≠ r11.2.2.2.2.2.2 then
                    some false
                  else
                    if r12.1 ≠ r13.1 then
                      some false
                    else
                      if r12.2 ≠ r13.2 then
                        some false
                      else
                        (M_topk_Is a0 a1 a2) >>= fun r17 =>
                        (M_thrumref09_Is a0 a1 a2) >>= fun r18 =>
                        if r17 ≠ r18 then
                          some false
                        else
                          (M_thrumlaw09_TopkPicks_l0 a0 a1 r1 r10 r11 0 r10.2.2.2.1) >>= fun j21 =>
                          (M_thrumlaw09_TopkPicks_l1 a0 a1 r1 r10 r11 0) >>= fun e => match e with
                          | .inl r => some r
                          | .inr j22 =>
                            if r1 = true then
                              if r10.2.2.2.2.2.2 ≠ 0 then
                                some true
                              else
                                (M_topk_Is a0 a1 (⟨r11.1, r11.2.1, r11.2.2.1, r11.2.2.2.1, r11.2.2.2.2.1, r11.2.2.2.2.2.1, [], []⟩ : T_api_Sent)) >>= fun r23 =>
                                some r23
                            else
                              some false
      else none
end Go.Proofs.Ytelobmiooldoaaa.Abs
