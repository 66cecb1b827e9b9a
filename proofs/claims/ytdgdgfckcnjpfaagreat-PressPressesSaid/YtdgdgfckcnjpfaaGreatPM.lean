/- Models of functions, printed by a program. Conditions: none. -/
import Derived.Test.YtdgdgfckcnjpfaaGreatSrtS
import Derived.Test.YtdgdgfckcnjpfaaGreatAbs5
namespace Go.Proofs.YtdgdgfckcnjpfaaGreat.Abs
open Go Go.RowKit
set_option linter.unusedVariables false
set_option maxRecDepth 100000

structure T_api_How where
  F_Scheme : Int
  F_K : Int
  F_Wide : Int
  deriving Inhabited, DecidableEq
structure T_topk_one where
  F_place : Int
  F_size : Int
  deriving Inhabited, DecidableEq
structure T_api_Sent where
  F_Scheme : Int
  F_Dim : Int
  F_L : List Int
  F_V : List Int
  F_Scale : Int
  F_Wide : Int
  F_Lev : List Int
  F_Neg : List Bool
  deriving Inhabited, DecidableEq
def T_api_How.en (x : T_api_How) : D := .agg [.int .i64 x.F_Scheme, .int .i64 x.F_K, .int .i64 x.F_Wide]
def T_topk_one.en (x : T_topk_one) : D := .agg [.int .i64 x.F_place, .int .u64 x.F_size]
def T_api_Sent.en (x : T_api_Sent) : D := .agg [.int .i64 x.F_Scheme, .int .i64 x.F_Dim, .lst (List.map (D.int .i64) x.F_L), .lst (List.map (D.int .i64) x.F_V), .int .i64 x.F_Scale, .int .i64 x.F_Wide, .lst (List.map (D.int .u64) x.F_Lev), .lst (List.map D.bool x.F_Neg)]
def M_vec_pair (a0 : List Int) (a1 : List Int) : Option Int :=
  if (if (a1.length : Int) > (a0.length : Int) then (a1.length : Int) else (a0.length : Int)) > 4096 then
    some 3
  else
    if (a0.length : Int) ≠ (a1.length : Int) then
      some 4
    else
      some 0
def M_fix_Add (a0 : Int) (a1 : Int) : Option (Int × Int) :=
  if (bAnd .i64 (bXor .i64 a0 (IntKind.i64.wrap (a0 + a1))) (bXor .i64 a1 (IntKind.i64.wrap (a0 + a1)))) < 0 then
    some (0, 2)
  else
    some (IntKind.i64.wrap (a0 + a1), 0)
def M_vec_Add_1_c_c (a0 : Int) (a1 : List Int) (a2 : List Int) : Option (Int × Int) :=
  if 0 ≤ a0 ∧ a0 < (a1.length : Int) then
    if 0 ≤ a0 ∧ a0 < (a2.length : Int) then
      (M_fix_Add (at' a1 a0) (at' a2 a0)) >>= fun r1 =>
      some (r1.1, r1.2)
    else none
  else none
def M_vec_each_vec_Add_1_l0 (a1 : List Int) (a2 : List Int) (y1 : List Int) (x0 : Int) (x1 : List Int) : Option (Sum ((List Int) × Int) (List Int)) :=
  if x0 < (y1.length : Int) then
    (M_vec_Add_1_c_c x0 a1 a2) >>= fun r3 =>
    if 0 ≤ x0 ∧ x0 < (x1.length : Int) then
      some (x1.set (Int.toNat x0) r3.1) >>= fun y4 =>
      if r3.2 ≠ 0 then
        some (.inl ([], r3.2))
      else
        M_vec_each_vec_Add_1_l0 a1 a2 y1 (IntKind.i64.wrap (x0 + 1)) y4
    else none
  else
    some (.inr x1)
  partial_fixpoint
def M_vec_each_vec_Add_1 (a0 : Int) (a1 : List Int) (a2 : List Int) : Option ((List Int) × Int) :=
  if 0 ≤ a0 ∧ a0 ≤ a0 ∧ a0 ≤ 140737488355328 ∧ a0 * ((8 : Nat) : Int) ≤ 140737488355328 then
    some (List.replicate (Int.toNat a0) 0) >>= fun y1 =>
    (M_vec_each_vec_Add_1_l0 a1 a2 y1 0 y1) >>= fun e => match e with
    | .inl r => some r
    | .inr j6 =>
      some (j6, 0)
  else none
def M_vec_Add (a0 : List Int) (a1 : List Int) : Option ((List Int) × Int) :=
  (M_vec_pair a0 a1) >>= fun r1 =>
  if r1 ≠ 0 then
    some ([], r1)
  else
    (M_vec_each_vec_Add_1 (a0.length : Int) a0 a1) >>= fun r2 =>
    some (r2.1, r2.2)
def M_vec_Check (a0 : List Int) : Option Int :=
  if (a0.length : Int) > 4096 then
    some 3
  else
    some 0
def M_press_ways : Option Unit :=
  some ()
def M_press_bare (a0 : T_api_How) (a1 : Int) : Option Bool :=
  ((
    if a0.F_K = 0 then
      some (a0.F_Wide == 0)
    else
      some false) : Option Bool) >>= fun j1 =>
  some j1
def M_press_ways_3 (a0 : T_api_How) (a1 : Int) : Option Bool :=
  ((
    if a0.F_K ≥ 0 then
      some (decide (a0.F_K ≤ a1))
    else
      some false) : Option Bool) >>= fun j1 =>
  ((
    if j1 = true then
      some (a0.F_Wide == 0)
    else
      some false) : Option Bool) >>= fun j2 =>
  some j2
def M_press_ways_7 (a0 : T_api_How) (a1 : Int) : Option Bool :=
  ((
    if a0.F_K = 0 then
      some (decide (a0.F_Wide > 0))
    else
      some false) : Option Bool) >>= fun j1 =>
  ((
    if j1 = true then
      some (decide (a0.F_Wide ≤ 8))
    else
      some false) : Option Bool) >>= fun j2 =>
  some j2
def M_press_Check (a0 : T_api_How) (a1 : Int) : Option Int :=
  (M_press_ways) >>= fun r1 =>
  if a0.F_Scheme = (0 : Int) then
    ((
      if (hasK a0.F_Scheme [0, 1, 2, 3]) = false then
        some true
      else
        some (decide (a1 < 1))) : Option Bool) >>= fun j2 =>
    ((
      if j2 = true then
        some true
      else
        some (decide (a1 > 4096))) : Option Bool) >>= fun j3 =>
    ((
      if j3 = true then
        some true
      else
        (M_press_bare a0 a1) >>= fun r4 =>
        some (!r4)) : Option Bool) >>= fun j5 =>
    if j5 = true then
      some 1
    else
      some 0
  else
    if a0.F_Scheme = (1 : Int) then
      ((
        if (hasK a0.F_Scheme [0, 1, 2, 3]) = false then
          some true
        else
          some (decide (a1 < 1))) : Option Bool) >>= fun j6 =>
      ((
        if j6 = true then
          some true
        else
          some (decide (a1 > 4096))) : Option Bool) >>= fun j7 =>
      ((
        if j7 = true then
          some true
        else
          (M_press_ways_3 a0 a1) >>= fun r8 =>
          some (!r8)) : Option Bool) >>= fun j9 =>
      if j9 = true then
        some 1
      else
        some 0
    else
      if a0.F_Scheme = (2 : Int) then
        ((
          if (hasK a0.F_Scheme [0, 1, 2, 3]) = false then
            some true
          else
            some (decide (a1 < 1))) : Option Bool) >>= fun j10 =>
        ((
          if j10 = true then
            some true
          else
            some (decide (a1 > 4096))) : Option Bool) >>= fun j11 =>
        ((
          if j11 = true then
            some true
          else
            (M_press_ways_7 a0 a1) >>= fun r12 =>
            some (!r12)) : Option Bool) >>= fun j13 =>
        if j13 = true then
          some 1
        else
          some 0
      else
        if a0.F_Scheme = (3 : Int) then
          ((
            if (hasK a0.F_Scheme [0, 1, 2, 3]) = false then
              some true
            else
              some (decide (a1 < 1))) : Option Bool) >>= fun j14 =>
          ((
            if j14 = true then
              some true
            else
              some (decide (a1 > 4096))) : Option Bool) >>= fun j15 =>
          ((
            if j15 = true then
              some true
            else
              (M_press_bare a0 a1) >>= fun r16 =>
              some (!r16)) : Option Bool) >>= fun j17 =>
          if j17 = true then
            some 1
          else
            some 0
        else
          ((
            if (hasK a0.F_Scheme [0, 1, 2, 3]) = false then
              some true
            else
              some (decide (a1 < 1))) : Option Bool) >>= fun j18 =>
          ((
            if j18 = true then
              some true
            else
              some (decide (a1 > 4096))) : Option Bool) >>= fun j19 =>
          ((
            if j19 = true then
              some ()
            else
              none) : Option Unit) >>= fun j20 =>
          some 1
def M_slices_Clone_int64_int64 (a0 : List Int) : Option (List Int) :=
  if room 8 ([] ++ a0).length then
    some ([] ++ a0)
  else none
def M_press_dense (a0 : T_api_How) (a1 : List Int) (a2 : Int) (a3 : List Int) : Option (Int × Int × (List Int) × Int × Int × Int) :=
  (M_slices_Clone_int64_int64 a1) >>= fun r1 =>
  some (0, (a1.length : Int), r1, 0, 0, 0)
def M_topk_size (a0 : Int) : Option Int :=
  if a0 < 0 then
    some (IntKind.u64.wrap (0 - (IntKind.u64.wrap a0)))
  else
    some (IntKind.u64.wrap a0)
def M_topk_ones_l0 (a0 : List Int) (x0 : Int) (x1 : List T_topk_one) : Option (List T_topk_one) :=
  if x0 < (a0.length : Int) then
    if 0 ≤ x0 ∧ x0 < (a0.length : Int) then
      (M_topk_size (at' a0 x0)) >>= fun r3 =>
      if 0 ≤ x0 ∧ x0 < (x1.length : Int) then
        some (x1.set (Int.toNat x0) (⟨x0, r3⟩ : T_topk_one)) >>= fun y4 =>
        M_topk_ones_l0 a0 (IntKind.i64.wrap (x0 + 1)) y4
      else none
    else none
  else
    some x1
  partial_fixpoint
def M_topk_ones (a0 : List Int) : Option (List T_topk_one) :=
  if 0 ≤ (a0.length : Int) ∧ (a0.length : Int) ≤ (a0.length : Int) ∧ (a0.length : Int) ≤ 140737488355328 ∧ (a0.length : Int) * ((16 : Nat) : Int) ≤ 140737488355328 then
    some (List.replicate (Int.toNat (a0.length : Int)) (⟨0, 0⟩ : T_topk_one)) >>= fun y1 =>
    (M_topk_ones_l0 a0 0 y1) >>= fun j6 =>
    some j6
  else none
def M_thrum_topk_best_Push_c (a0 : List T_topk_one) (a1 : Int) (a2 : Int) : Option (List T_topk_one) :=
  if room 16 (a0 ++ [(⟨a1, a2⟩ : T_topk_one)]).length then
    some (a0 ++ [(⟨a1, a2⟩ : T_topk_one)])
  else none
def M_thrum_topk_best_Len (a0 : List T_topk_one) : Option Int :=
  some (a0.length : Int)
def M_cmp_isNaN_uint64 (a0 : Int) : Option Bool :=
  some (a0 != a0)
def M_cmp_Compare_uint64 (a0 : Int) (a1 : Int) : Option Int :=
  (M_cmp_isNaN_uint64 a0) >>= fun r1 =>
  (M_cmp_isNaN_uint64 a1) >>= fun r2 =>
  if r1 = true then
    if r2 = true then
      some 0
    else
      some (-1)
  else
    if r2 = true then
      some 1
    else
      if a0 < a1 then
        some (-1)
      else
        if a0 > a1 then
          some 1
        else
          some 0
def M_cmp_isNaN_int (a0 : Int) : Option Bool :=
  some (a0 != a0)
def M_cmp_Compare_int (a0 : Int) (a1 : Int) : Option Int :=
  (M_cmp_isNaN_int a0) >>= fun r1 =>
  (M_cmp_isNaN_int a1) >>= fun r2 =>
  if r1 = true then
    if r2 = true then
      some 0
    else
      some (-1)
  else
    if r2 = true then
      some 1
    else
      if a0 < a1 then
        some (-1)
      else
        if a0 > a1 then
          some 1
        else
          some 0
def M_cmp_Or_int_l0 (a0 : List Int) (x0 : Int) : Option (Sum Int Unit) :=
  if x0 < (a0.length : Int) then
    if 0 ≤ x0 ∧ x0 < (a0.length : Int) then
      if (at' a0 x0) ≠ 0 then
        some (.inl (at' a0 x0))
      else
        M_cmp_Or_int_l0 a0 (IntKind.i64.wrap (x0 + 1))
    else none
  else
    some (.inr ())
  partial_fixpoint
def M_cmp_Or_int (a0 : List Int) : Option Int :=
  (M_cmp_Or_int_l0 a0 0) >>= fun e => match e with
  | .inl r => some r
  | .inr j1 =>
    some 0
def M_thrum_topk_one_compare (a0 : T_topk_one) (a1 : T_topk_one) : Option Int :=
  (M_cmp_Compare_uint64 a1.F_size a0.F_size) >>= fun r1 =>
  (M_cmp_Compare_int a0.F_place a1.F_place) >>= fun r2 =>
  (M_cmp_Or_int [r1, r2]) >>= fun r3 =>
  some r3
def M_thrum_topk_best_Less (a0 : List T_topk_one) (a1 : Int) (a2 : Int) : Option Bool :=
  if 0 ≤ a1 ∧ a1 < (a0.length : Int) then
    if 0 ≤ a2 ∧ a2 < (a0.length : Int) then
      (M_thrum_topk_one_compare (at' a0 a1) (at' a0 a2)) >>= fun r1 =>
      some (decide (r1 > 0))
    else none
  else none
def M_thrum_topk_best_Swap_g (a0 : List T_topk_one) (a1 : Int) (a2 : Int) : Option (List T_topk_one) :=
  if 0 ≤ a2 ∧ a2 < (a0.length : Int) then
    if 0 ≤ a1 ∧ a1 < (a0.length : Int) then
      if 0 ≤ a1 ∧ a1 < (a0.length : Int) then
        if 0 ≤ a2 ∧ a2 < ((a0.set (Int.toNat a1) (at' a0 a2)).length : Int) then
          some ((a0.set (Int.toNat a1) (at' a0 a2)).set (Int.toNat a2) (at' a0 a1))
        else none
      else none
    else none
  else none
def M_container_heap_up_c_l0 (x0 : Int) (x1 : List T_topk_one) : Option (List T_topk_one) :=
  ((
    if (IntKind.i64.wrap (Int.tdiv (IntKind.i64.wrap (x0 - 1)) 2)) = x0 then
      some true
    else
      (M_thrum_topk_best_Less x1 x0 (IntKind.i64.wrap (Int.tdiv (IntKind.i64.wrap (x0 - 1)) 2))) >>= fun r1 =>
      some (!r1)) : Option Bool) >>= fun j2 =>
  if j2 = true then
    some x1
  else
    (M_thrum_topk_best_Swap_g x1 (IntKind.i64.wrap (Int.tdiv (IntKind.i64.wrap (x0 - 1)) 2)) x0) >>= fun r3 =>
    M_container_heap_up_c_l0 (IntKind.i64.wrap (Int.tdiv (IntKind.i64.wrap (x0 - 1)) 2)) r3
  partial_fixpoint
def M_container_heap_up_c (a0 : List T_topk_one) (a1 : Int) : Option (List T_topk_one) :=
  (M_container_heap_up_c_l0 a1 a0) >>= fun j4 =>
  some j4
def M_container_heap_Push_c_c (a0 : List T_topk_one) (a1 : Int) (a2 : Int) : Option (List T_topk_one) :=
  (M_thrum_topk_best_Push_c a0 a1 a2) >>= fun r1 =>
  (M_thrum_topk_best_Len r1) >>= fun r2 =>
  (M_container_heap_up_c r1 (IntKind.i64.wrap (r2 - 1))) >>= fun r3 =>
  some r3
def M_container_heap_down_c_l0 (a1 : Int) (a2 : Int) (x0 : Int) (x1 : List T_topk_one) : Option (Int × (List T_topk_one)) :=
  ((
    if (IntKind.i64.wrap ((IntKind.i64.wrap (2 * x0)) + 1)) ≥ a2 then
      some true
    else
      some (decide ((IntKind.i64.wrap ((IntKind.i64.wrap (2 * x0)) + 1)) < 0))) : Option Bool) >>= fun j1 =>
  if j1 = true then
    some (x0, x1)
  else
    some (IntKind.i64.wrap ((IntKind.i64.wrap ((IntKind.i64.wrap (2 * x0)) + 1)) + 1)) >>= fun y2 =>
    ((
      if y2 < a2 then
        (M_thrum_topk_best_Less x1 y2 (IntKind.i64.wrap ((IntKind.i64.wrap (2 * x0)) + 1))) >>= fun r4 =>
        some r4
      else
        some false) : Option Bool) >>= fun j5 =>
    if j5 = true then
      (M_thrum_topk_best_Less x1 y2 x0) >>= fun r6 =>
      if r6 = false then
        some (x0, x1)
      else
        (M_thrum_topk_best_Swap_g x1 x0 y2) >>= fun r7 =>
        M_container_heap_down_c_l0 a1 a2 y2 r7
    else
      (M_thrum_topk_best_Less x1 (IntKind.i64.wrap ((IntKind.i64.wrap (2 * x0)) + 1)) x0) >>= fun r8 =>
      if r8 = false then
        some (x0, x1)
      else
        (M_thrum_topk_best_Swap_g x1 x0 (IntKind.i64.wrap ((IntKind.i64.wrap (2 * x0)) + 1))) >>= fun r9 =>
        M_container_heap_down_c_l0 a1 a2 (IntKind.i64.wrap ((IntKind.i64.wrap (2 * x0)) + 1)) r9
  partial_fixpoint
def M_container_heap_down_c (a0 : List T_topk_one) (a1 : Int) (a2 : Int) : Option (Bool × (List T_topk_one)) :=
  (M_container_heap_down_c_l0 a1 a2 a1 a0) >>= fun j10 =>
  some (decide (j10.1 > a1), j10.2)
def M_thrum_topk_best_Pop (a0 : List T_topk_one) : Option (Int × Int × (List T_topk_one)) :=
  if cutOk none (some (IntKind.i64.wrap ((a0.length : Int) - 1))) a0.length then
    some (cut' a0 none (some (IntKind.i64.wrap ((a0.length : Int) - 1)))) >>= fun y1 =>
    if 0 ≤ IntKind.i64.wrap ((a0.length : Int) - 1) ∧ IntKind.i64.wrap ((a0.length : Int) - 1) < (a0.length : Int) then
      some ((at' a0 (IntKind.i64.wrap ((a0.length : Int) - 1))).F_place, (at' a0 (IntKind.i64.wrap ((a0.length : Int) - 1))).F_size, y1)
    else none
  else none
def M_container_heap_Pop_c (a0 : List T_topk_one) : Option (Int × Int × (List T_topk_one)) :=
  (M_thrum_topk_best_Len a0) >>= fun r1 =>
  (M_thrum_topk_best_Swap_g a0 0 (IntKind.i64.wrap (r1 - 1))) >>= fun r2 =>
  (M_container_heap_down_c r2 0 (IntKind.i64.wrap (r1 - 1))) >>= fun r3 =>
  (M_thrum_topk_best_Pop r3.2) >>= fun r4 =>
  some (r4.1, r4.2.1, r4.2.2)
def M_topk_places_l0 (a0 : List T_topk_one) (x0 : Int) (x1 : List Int) : Option (List Int) :=
  if x0 < (a0.length : Int) then
    if 0 ≤ x0 ∧ x0 < (a0.length : Int) then
      if room 8 (x1 ++ [(at' a0 x0).F_place]).length then
        some (x1 ++ [(at' a0 x0).F_place]) >>= fun y3 =>
        M_topk_places_l0 a0 (IntKind.i64.wrap (x0 + 1)) y3
      else none
    else none
  else
    some x1
  partial_fixpoint
def M_topk_places (a0 : List T_topk_one) : Option (List Int) :=
  if 0 ≤ (0 : Int) ∧ (0 : Int) ≤ (a0.length : Int) ∧ (a0.length : Int) ≤ 140737488355328 ∧ (a0.length : Int) * ((8 : Nat) : Int) ≤ 140737488355328 then
    some (List.replicate (Int.toNat 0) 0) >>= fun y1 =>
    (M_topk_places_l0 a0 0 y1) >>= fun j5 =>
    some j5
  else none
def M_topk_Pick_l0 (a0 : Int) (r2 : (List T_topk_one)) (x0 : Int) (x1 : List T_topk_one) : Option (List T_topk_one) :=
  if x0 < (r2.length : Int) then
    if 0 ≤ x0 ∧ x0 < (r2.length : Int) then
      (M_container_heap_Push_c_c x1 ((at' r2 x0).F_place) ((at' r2 x0).F_size)) >>= fun r3 =>
      (M_thrum_topk_best_Len r3) >>= fun r4 =>
      if r4 > a0 then
        (M_container_heap_Pop_c r3) >>= fun r5 =>
        M_topk_Pick_l0 a0 r2 (IntKind.i64.wrap (x0 + 1)) r5.2.2
      else
        M_topk_Pick_l0 a0 r2 (IntKind.i64.wrap (x0 + 1)) r3
    else none
  else
    some x1
  partial_fixpoint
def M_topk_Pick (a0 : Int) (a1 : List Int) : Option ((List Int) × Int) :=
  if (a1.length : Int) > 4096 then
    some ([], 3)
  else
    ((
      if a0 < 0 then
        some true
      else
        some (decide (a0 > (a1.length : Int)))) : Option Bool) >>= fun j1 =>
    if j1 = true then
      some ([], 1)
    else
      (M_topk_ones a1) >>= fun r2 =>
      (M_topk_Pick_l0 a0 r2 0 []) >>= fun j6 =>
      (M_topk_places j6) >>= fun r7 =>
      (M_slices_Sort_int r7) >>= fun r8 =>
      some (r8, 0)
def M_index_rises_l0 (a0 : List Int) (x0 : Int) : Option (Sum Bool Unit) :=
  if x0 < (a0.length : Int) then
    if 0 ≤ IntKind.i64.wrap (x0 - 1) ∧ IntKind.i64.wrap (x0 - 1) < (a0.length : Int) then
      if 0 ≤ x0 ∧ x0 < (a0.length : Int) then
        if (at' a0 (IntKind.i64.wrap (x0 - 1))) ≥ (at' a0 x0) then
          some (.inl false)
        else
          M_index_rises_l0 a0 (IntKind.i64.wrap (x0 + 1))
      else none
    else none
  else
    some (.inr ())
  partial_fixpoint
def M_index_rises (a0 : List Int) : Option Bool :=
  (M_index_rises_l0 a0 1) >>= fun e => match e with
  | .inl r => some r
  | .inr j1 =>
    some true
def M_index_Gather_1_c (a0 : Int) (a1 : List Int) : Option Bool :=
  ((
    if a0 < 0 then
      some true
    else
      some (decide (a0 ≥ (a1.length : Int)))) : Option Bool) >>= fun j1 =>
  some j1
def M_slices_IndexFunc_int_int_index_Gather_1_l0 (a0 : List Int) (a1 : List Int) (x0 : Int) : Option (Sum Int Unit) :=
  if x0 < (a0.length : Int) then
    if 0 ≤ x0 ∧ x0 < (a0.length : Int) then
      (M_index_Gather_1_c (at' a0 x0) a1) >>= fun r1 =>
      if r1 = true then
        some (.inl x0)
      else
        M_slices_IndexFunc_int_int_index_Gather_1_l0 a0 a1 (IntKind.i64.wrap (x0 + 1))
    else none
  else
    some (.inr ())
  partial_fixpoint
def M_slices_IndexFunc_int_int_index_Gather_1 (a0 : List Int) (a1 : List Int) : Option Int :=
  (M_slices_IndexFunc_int_int_index_Gather_1_l0 a0 a1 0) >>= fun e => match e with
  | .inl r => some r
  | .inr j2 =>
    some (-1)
def M_slices_ContainsFunc_int_int_index_Gather_1 (a0 : List Int) (a1 : List Int) : Option Bool :=
  (M_slices_IndexFunc_int_int_index_Gather_1 a0 a1) >>= fun r1 =>
  some (decide (r1 ≥ 0))
def M_index_Gather_l0 (a0 : List Int) (a1 : List Int) (x0 : Int) (x1 : List Int) : Option (List Int) :=
  if x0 < (a0.length : Int) then
    if 0 ≤ x0 ∧ x0 < (a0.length : Int) then
      if 0 ≤ at' a0 x0 ∧ at' a0 x0 < (a1.length : Int) then
        if room 8 (x1 ++ [at' a1 (at' a0 x0)]).length then
          some (x1 ++ [at' a1 (at' a0 x0)]) >>= fun y6 =>
          M_index_Gather_l0 a0 a1 (IntKind.i64.wrap (x0 + 1)) y6
        else none
      else none
    else none
  else
    some x1
  partial_fixpoint
def M_index_Gather (a0 : List Int) (a1 : List Int) : Option ((List Int) × Int) :=
  (M_index_rises a0) >>= fun r1 =>
  ((
    if r1 = false then
      some true
    else
      (M_slices_ContainsFunc_int_int_index_Gather_1 a0 a1) >>= fun r2 =>
      some r2) : Option Bool) >>= fun j3 =>
  if j3 = true then
    some ([], 1)
  else
    if 0 ≤ (0 : Int) ∧ (0 : Int) ≤ (a0.length : Int) ∧ (a0.length : Int) ≤ 140737488355328 ∧ (a0.length : Int) * ((8 : Nat) : Int) ≤ 140737488355328 then
      some (List.replicate (Int.toNat 0) 0) >>= fun y4 =>
      (M_index_Gather_l0 a0 a1 0 y4) >>= fun j8 =>
      some (j8, 0)
    else none
def M_topk_Press (a0 : Int) (a1 : List Int) : Option (Int × Int × (List Int) × (List Int) × Int × Int × Int) :=
  if (a1.length : Int) = 0 then
    some (0, 0, [], [], 0, 0, 1)
  else
    (M_topk_Pick a0 a1) >>= fun r1 =>
    if r1.2 ≠ 0 then
      some (0, 0, [], [], 0, 0, r1.2)
    else
      (M_index_Gather r1.1 a1) >>= fun r2 =>
      if r2.2 ≠ 0 then
        some (0, 0, [], [], 0, 0, r2.2)
      else
        some (1, (a1.length : Int), r1.1, r2.1, 0, 0, 0)
def M_press_ways_4 (a0 : T_api_How) (a1 : List Int) (a2 : Int) (a3 : List Int) : Option (Int × Int × (List Int) × (List Int) × Int × Int × Int) :=
  (M_topk_Press a0.F_K a1) >>= fun r1 =>
  some (r1.1, r1.2.1, r1.2.2.1, r1.2.2.2.1, r1.2.2.2.2.1, r1.2.2.2.2.2.1, r1.2.2.2.2.2.2)
def M_quant_Steps (a0 : Int) : Option (Int × Int) :=
  ((
    if a0 < 1 then
      some true
    else
      some (decide (a0 > 8))) : Option Bool) >>= fun j1 =>
  if j1 = true then
    some (0, 1)
  else
    if 0 ≤ a0 then
      some (IntKind.u64.wrap ((sShl .u64 1 a0) - 1), 0)
    else none
def M_fix_Sub (a0 : Int) (a1 : Int) : Option (Int × Int) :=
  if (bAnd .i64 (bXor .i64 a0 a1) (bXor .i64 a0 (IntKind.i64.wrap (a0 - a1)))) < 0 then
    some (0, 2)
  else
    some (IntKind.i64.wrap (a0 - a1), 0)
def M_fix_Neg (a0 : Int) : Option (Int × Int) :=
  (M_fix_Sub 0 a0) >>= fun r1 =>
  some (r1.1, r1.2)
def M_fix_Abs (a0 : Int) : Option (Int × Int) :=
  if a0 ≥ 0 then
    some (a0, 0)
  else
    (M_fix_Neg a0) >>= fun r1 =>
    some (r1.1, r1.2)
def M_vec_Most_l0 (a0 : List Int) (x0 : Int) (x1 : Int) : Option (Sum (Int × Int) Int) :=
  if x0 < (a0.length : Int) then
    if 0 ≤ x0 ∧ x0 < (a0.length : Int) then
      (M_fix_Abs (at' a0 x0)) >>= fun r2 =>
      if r2.2 ≠ 0 then
        some (.inl (0, r2.2))
      else
        M_vec_Most_l0 a0 (IntKind.i64.wrap (x0 + 1)) (if r2.1 > x1 then r2.1 else x1)
    else none
  else
    some (.inr x1)
  partial_fixpoint
def M_vec_Most (a0 : List Int) : Option (Int × Int) :=
  (M_vec_Check a0) >>= fun r1 =>
  if r1 ≠ 0 then
    some (0, r1)
  else
    (M_vec_Most_l0 a0 0 0) >>= fun e => match e with
    | .inl r => some r
    | .inr j3 =>
      some (j3, 0)
def M_quant_size (a0 : Int) : Option Int :=
  if a0 < 0 then
    some (IntKind.u64.wrap (0 - (IntKind.u64.wrap a0)))
  else
    some (IntKind.u64.wrap a0)
def M_math_bits_Mul64 (a0 : Int) (a1 : Int) : Option (Int × Int) :=
  some (IntKind.u64.wrap ((IntKind.u64.wrap ((IntKind.u64.wrap ((sShr .u64 a0 32) * (sShr .u64 a1 32))) + (sShr .u64 (IntKind.u64.wrap ((IntKind.u64.wrap ((sShr .u64 a0 32) * (bAnd .u64 a1 4294967295))) + (sShr .u64 (IntKind.u64.wrap ((bAnd .u64 a0 4294967295) * (bAnd .u64 a1 4294967295))) 32))) 32))) + (sShr .u64 (IntKind.u64.wrap ((bAnd .u64 (IntKind.u64.wrap ((IntKind.u64.wrap ((sShr .u64 a0 32) * (bAnd .u64 a1 4294967295))) + (sShr .u64 (IntKind.u64.wrap ((bAnd .u64 a0 4294967295) * (bAnd .u64 a1 4294967295))) 32))) 4294967295) + (IntKind.u64.wrap ((bAnd .u64 a0 4294967295) * (sShr .u64 a1 32))))) 32)), IntKind.u64.wrap (a0 * a1))
def M_math_bits_Len64 (a0 : Int) : Option Int :=
  ((
    if a0 ≥ 4294967296 then
      some (32, sShr .u64 a0 32)
    else
      some (0, a0)) : Option (Int × Int)) >>= fun j1 =>
  ((
    if j1.2 ≥ 65536 then
      some (IntKind.i64.wrap (j1.1 + 16), sShr .u64 j1.2 16)
    else
      some (j1.1, j1.2)) : Option (Int × Int)) >>= fun j2 =>
  if j2.2 ≥ 256 then
    if 0 ≤ (IntKind.u8.wrap (sShr .u64 j2.2 8)) ∧ (IntKind.u8.wrap (sShr .u64 j2.2 8)) < ((ByteArray.mk #[0, 1, 2, 2, 3, 3, 3, 3, 4, 4, 4, 4, 4, 4, 4, 4, 5, 5, 5, 5, 5, 5, 5, 5, 5, 5, 5, 5, 5, 5, 5, 5, 6, 6, 6, 6, 6, 6, 6, 6, 6, 6, 6, 6, 6, 6, 6, 6, 6, 6, 6, 6, 6, 6, 6, 6, 6, 6, 6, 6, 6, 6, 6, 6, 7, 7, 7, 7, 7, 7, 7, 7, 7, 7, 7, 7, 7, 7, 7, 7, 7, 7, 7, 7, 7, 7, 7, 7, 7, 7, 7, 7, 7, 7, 7, 7, 7, 7, 7, 7, 7, 7, 7, 7, 7, 7, 7, 7, 7, 7, 7, 7, 7, 7, 7, 7, 7, 7, 7, 7, 7, 7, 7, 7, 7, 7, 7, 7, 8, 8, 8, 8, 8, 8, 8, 8, 8, 8, 8, 8, 8, 8, 8, 8, 8, 8, 8, 8, 8, 8, 8, 8, 8, 8, 8, 8, 8, 8, 8, 8, 8, 8, 8, 8, 8, 8, 8, 8, 8, 8, 8, 8, 8, 8, 8, 8, 8, 8, 8, 8, 8, 8, 8, 8, 8, 8, 8, 8, 8, 8, 8, 8, 8, 8, 8, 8, 8, 8, 8, 8, 8, 8, 8, 8, 8, 8, 8, 8, 8, 8, 8, 8, 8, 8, 8, 8, 8, 8, 8, 8, 8, 8, 8, 8, 8, 8, 8, 8, 8, 8, 8, 8, 8, 8, 8, 8, 8, 8, 8, 8, 8, 8, 8, 8, 8, 8, 8, 8, 8, 8, 8, 8, 8, 8, 8, 8]).size : Int) then
      some (IntKind.i64.wrap ((IntKind.i64.wrap (j2.1 + 8)) + (IntKind.i64.wrap (((ByteArray.mk #[0, 1, 2, 2, 3, 3, 3, 3, 4, 4, 4, 4, 4, 4, 4, 4, 5, 5, 5, 5, 5, 5, 5, 5, 5, 5, 5, 5, 5, 5, 5, 5, 6, 6, 6, 6, 6, 6, 6, 6, 6, 6, 6, 6, 6, 6, 6, 6, 6, 6, 6, 6, 6, 6, 6, 6, 6, 6, 6, 6, 6, 6, 6, 6, 7, 7, 7, 7, 7, 7, 7, 7, 7, 7, 7, 7, 7, 7, 7, 7, 7, 7, 7, 7, 7, 7, 7, 7, 7, 7, 7, 7, 7, 7, 7, 7, 7, 7, 7, 7, 7, 7, 7, 7, 7, 7, 7, 7, 7, 7, 7, 7, 7, 7, 7, 7, 7, 7, 7, 7, 7, 7, 7, 7, 7, 7, 7, 7, 8, 8, 8, 8, 8, 8, 8, 8, 8, 8, 8, 8, 8, 8, 8, 8, 8, 8, 8, 8, 8, 8, 8, 8, 8, 8, 8, 8, 8, 8, 8, 8, 8, 8, 8, 8, 8, 8, 8, 8, 8, 8, 8, 8, 8, 8, 8, 8, 8, 8, 8, 8, 8, 8, 8, 8, 8, 8, 8, 8, 8, 8, 8, 8, 8, 8, 8, 8, 8, 8, 8, 8, 8, 8, 8, 8, 8, 8, 8, 8, 8, 8, 8, 8, 8, 8, 8, 8, 8, 8, 8, 8, 8, 8, 8, 8, 8, 8, 8, 8, 8, 8, 8, 8, 8, 8, 8, 8, 8, 8, 8, 8, 8, 8, 8, 8, 8, 8, 8, 8, 8, 8, 8, 8, 8, 8, 8, 8]).data.getD (Int.toNat (IntKind.u8.wrap (sShr .u64 j2.2 8))) 0).toNat : Int))))
    else none
  else
    if 0 ≤ (IntKind.u8.wrap j2.2) ∧ (IntKind.u8.wrap j2.2) < ((ByteArray.mk #[0, 1, 2, 2, 3, 3, 3, 3, 4, 4, 4, 4, 4, 4, 4, 4, 5, 5, 5, 5, 5, 5, 5, 5, 5, 5, 5, 5, 5, 5, 5, 5, 6, 6, 6, 6, 6, 6, 6, 6, 6, 6, 6, 6, 6, 6, 6, 6, 6, 6, 6, 6, 6, 6, 6, 6, 6, 6, 6, 6, 6, 6, 6, 6, 7, 7, 7, 7, 7, 7, 7, 7, 7, 7, 7, 7, 7, 7, 7, 7, 7, 7, 7, 7, 7, 7, 7, 7, 7, 7, 7, 7, 7, 7, 7, 7, 7, 7, 7, 7, 7, 7, 7, 7, 7, 7, 7, 7, 7, 7, 7, 7, 7, 7, 7, 7, 7, 7, 7, 7, 7, 7, 7, 7, 7, 7, 7, 7, 8, 8, 8, 8, 8, 8, 8, 8, 8, 8, 8, 8, 8, 8, 8, 8, 8, 8, 8, 8, 8, 8, 8, 8, 8, 8, 8, 8, 8, 8, 8, 8, 8, 8, 8, 8, 8, 8, 8, 8, 8, 8, 8, 8, 8, 8, 8, 8, 8, 8, 8, 8, 8, 8, 8, 8, 8, 8, 8, 8, 8, 8, 8, 8, 8, 8, 8, 8, 8, 8, 8, 8, 8, 8, 8, 8, 8, 8, 8, 8, 8, 8, 8, 8, 8, 8, 8, 8, 8, 8, 8, 8, 8, 8, 8, 8, 8, 8, 8, 8, 8, 8, 8, 8, 8, 8, 8, 8, 8, 8, 8, 8, 8, 8, 8, 8, 8, 8, 8, 8, 8, 8, 8, 8, 8, 8, 8, 8]).size : Int) then
      some (IntKind.i64.wrap (j2.1 + (IntKind.i64.wrap (((ByteArray.mk #[0, 1, 2, 2, 3, 3, 3, 3, 4, 4, 4, 4, 4, 4, 4, 4, 5, 5, 5, 5, 5, 5, 5, 5, 5, 5, 5, 5, 5, 5, 5, 5, 6, 6, 6, 6, 6, 6, 6, 6, 6, 6, 6, 6, 6, 6, 6, 6, 6, 6, 6, 6, 6, 6, 6, 6, 6, 6, 6, 6, 6, 6, 6, 6, 7, 7, 7, 7, 7, 7, 7, 7, 7, 7, 7, 7, 7, 7, 7, 7, 7, 7, 7, 7, 7, 7, 7, 7, 7, 7, 7, 7, 7, 7, 7, 7, 7, 7, 7, 7, 7, 7, 7, 7, 7, 7, 7, 7, 7, 7, 7, 7, 7, 7, 7, 7, 7, 7, 7, 7, 7, 7, 7, 7, 7, 7, 7, 7, 8, 8, 8, 8, 8, 8, 8, 8, 8, 8, 8, 8, 8, 8, 8, 8, 8, 8, 8, 8, 8, 8, 8, 8, 8, 8, 8, 8, 8, 8, 8, 8, 8, 8, 8, 8, 8, 8, 8, 8, 8, 8, 8, 8, 8, 8, 8, 8, 8, 8, 8, 8, 8, 8, 8, 8, 8, 8, 8, 8, 8, 8, 8, 8, 8, 8, 8, 8, 8, 8, 8, 8, 8, 8, 8, 8, 8, 8, 8, 8, 8, 8, 8, 8, 8, 8, 8, 8, 8, 8, 8, 8, 8, 8, 8, 8, 8, 8, 8, 8, 8, 8, 8, 8, 8, 8, 8, 8, 8, 8, 8, 8, 8, 8, 8, 8, 8, 8, 8, 8, 8, 8, 8, 8, 8, 8, 8, 8]).data.getD (Int.toNat (IntKind.u8.wrap j2.2)) 0).toNat : Int))))
    else none
def M_math_bits_LeadingZeros64 (a0 : Int) : Option Int :=
  (M_math_bits_Len64 a0) >>= fun r1 =>
  some (IntKind.i64.wrap (64 - r1))
def M_math_bits_Div64_l0 (a1 : Int) (a2 : Int) (r3 : Int) (y4 : Int) (x0 : Int) (x1 : Int) : Option Int :=
  ((
    if x1 ≥ 4294967296 then
      some true
    else
      some (decide ((IntKind.u64.wrap (x1 * (bAnd .u64 (sShl .u64 a2 (IntKind.u64.wrap r3)) 4294967295))) > (IntKind.u64.wrap ((IntKind.u64.wrap (4294967296 * x0)) + (sShr .u64 (sShl .u64 a1 (IntKind.u64.wrap r3)) 32)))))) : Option Bool) >>= fun j10 =>
  if j10 = true then
    some (IntKind.u64.wrap (x0 + (sShr .u64 (sShl .u64 a2 (IntKind.u64.wrap r3)) 32))) >>= fun y11 =>
    if y11 ≥ 4294967296 then
      some (IntKind.u64.wrap (x1 - 1))
    else
      M_math_bits_Div64_l0 a1 a2 r3 y4 y11 (IntKind.u64.wrap (x1 - 1))
  else
    some x1
  partial_fixpoint
def M_math_bits_Div64_l1 (a1 : Int) (a2 : Int) (r3 : Int) (j13 : Int) (y14 : Int) (x0 : Int) (x1 : Int) : Option Int :=
  ((
    if x1 ≥ 4294967296 then
      some true
    else
      some (decide ((IntKind.u64.wrap (x1 * (bAnd .u64 (sShl .u64 a2 (IntKind.u64.wrap r3)) 4294967295))) > (IntKind.u64.wrap ((IntKind.u64.wrap (4294967296 * x0)) + (bAnd .u64 (sShl .u64 a1 (IntKind.u64.wrap r3)) 4294967295)))))) : Option Bool) >>= fun j20 =>
  if j20 = true then
    some (IntKind.u64.wrap (x0 + (sShr .u64 (sShl .u64 a2 (IntKind.u64.wrap r3)) 32))) >>= fun y21 =>
    if y21 ≥ 4294967296 then
      some (IntKind.u64.wrap (x1 - 1))
    else
      M_math_bits_Div64_l1 a1 a2 r3 j13 y14 y21 (IntKind.u64.wrap (x1 - 1))
  else
    some x1
  partial_fixpoint
def M_math_bits_Div64 (a0 : Int) (a1 : Int) (a2 : Int) : Option (Int × Int) :=
  ((
    if a2 = 0 then
      none
    else
      some ()) : Option Unit) >>= fun j1 =>
  ((
    if a2 ≤ a0 then
      none
    else
      some ()) : Option Unit) >>= fun j2 =>
  if a0 = 0 then
    if a2 ≠ 0 then
      if a2 ≠ 0 then
        some (IntKind.u64.wrap (Int.tdiv a1 a2), Int.tmod a1 a2)
      else none
    else none
  else
    (M_math_bits_LeadingZeros64 a2) >>= fun r3 =>
    if 0 ≤ IntKind.u64.wrap r3 then
      if 0 ≤ IntKind.u64.wrap r3 then
        if 0 ≤ IntKind.u64.wrap (64 - (IntKind.u64.wrap r3)) then
          some (bOr .u64 (sShl .u64 a0 (IntKind.u64.wrap r3)) (sShr .u64 a1 (IntKind.u64.wrap (64 - (IntKind.u64.wrap r3))))) >>= fun y4 =>
          if 0 ≤ IntKind.u64.wrap r3 then
            if sShr .u64 (sShl .u64 a2 (IntKind.u64.wrap r3)) 32 ≠ 0 then
              some (IntKind.u64.wrap (Int.tdiv y4 (sShr .u64 (sShl .u64 a2 (IntKind.u64.wrap r3)) 32))) >>= fun y6 =>
              some (IntKind.u64.wrap (y4 - (IntKind.u64.wrap (y6 * (sShr .u64 (sShl .u64 a2 (IntKind.u64.wrap r3)) 32))))) >>= fun y8 =>
              (M_math_bits_Div64_l0 a1 a2 r3 y4 y8 y6) >>= fun j13 =>
              some (IntKind.u64.wrap ((IntKind.u64.wrap ((IntKind.u64.wrap (y4 * 4294967296)) + (sShr .u64 (sShl .u64 a1 (IntKind.u64.wrap r3)) 32))) - (IntKind.u64.wrap (j13 * (sShl .u64 a2 (IntKind.u64.wrap r3)))))) >>= fun y14 =>
              if sShr .u64 (sShl .u64 a2 (IntKind.u64.wrap r3)) 32 ≠ 0 then
                some (IntKind.u64.wrap (Int.tdiv y14 (sShr .u64 (sShl .u64 a2 (IntKind.u64.wrap r3)) 32))) >>= fun y16 =>
                some (IntKind.u64.wrap (y14 - (IntKind.u64.wrap (y16 * (sShr .u64 (sShl .u64 a2 (IntKind.u64.wrap r3)) 32))))) >>= fun y18 =>
                (M_math_bits_Div64_l1 a1 a2 r3 j13 y14 y18 y16) >>= fun j23 =>
                some (IntKind.u64.wrap ((IntKind.u64.wrap (j13 * 4294967296)) + j23)) >>= fun y24 =>
                some (IntKind.u64.wrap ((IntKind.u64.wrap ((IntKind.u64.wrap (y14 * 4294967296)) + (bAnd .u64 (sShl .u64 a1 (IntKind.u64.wrap r3)) 4294967295))) - (IntKind.u64.wrap (j23 * (sShl .u64 a2 (IntKind.u64.wrap r3)))))) >>= fun y26 =>
                if 0 ≤ IntKind.u64.wrap r3 then
                  some (y24, sShr .u64 y26 (IntKind.u64.wrap r3))
                else none
              else none
            else none
          else none
        else none
      else none
    else none
def M_quant_Level (a0 : Int) (a1 : Int) (a2 : Int) : Option (Int × Int × Int) :=
  (M_quant_Steps a2) >>= fun r1 =>
  ((
    if r1.2 ≠ 0 then
      some true
    else
      some (decide (a1 < 0))) : Option Bool) >>= fun j2 =>
  ((
    if j2 = true then
      some true
    else
      (M_quant_size a0) >>= fun r3 =>
      some (decide (r3 > (IntKind.u64.wrap a1)))) : Option Bool) >>= fun j4 =>
  if j4 = true then
    some (0, 0, 1)
  else
    if a1 = 0 then
      some (0, 0, 0)
    else
      (M_quant_size a0) >>= fun r5 =>
      (M_math_bits_Mul64 r5 r1.1) >>= fun r6 =>
      (M_math_bits_Div64 r6.1 r6.2 (IntKind.u64.wrap a1)) >>= fun r7 =>
      some (r7.1, r7.2, 0)
def M_slices_Clone_int_int (a0 : List Int) : Option (List Int) :=
  if room 8 ([] ++ a0).length then
    some ([] ++ a0)
  else none
def M_thrum_draw_stir_with (a0 : Int) (a1 : Int) : Option Int :=
  some (bXor .u64 (IntKind.u64.wrap ((bXor .u64 a0 (IntKind.u64.wrap a1)) * 11400714819323198485)) (sShr .u64 (IntKind.u64.wrap ((bXor .u64 a0 (IntKind.u64.wrap a1)) * 11400714819323198485)) 29))
def M_draw_over_l0 (a1 : List Int) (x0 : Int) (x1 : Int) : Option Int :=
  if x0 < (a1.length : Int) then
    if 0 ≤ x0 ∧ x0 < (a1.length : Int) then
      (M_thrum_draw_stir_with x1 (at' a1 x0)) >>= fun r1 =>
      M_draw_over_l0 a1 (IntKind.i64.wrap (x0 + 1)) r1
    else none
  else
    some x1
  partial_fixpoint
def M_draw_over (a0 : Int) (a1 : List Int) : Option Int :=
  (M_draw_over_l0 a1 0 a0) >>= fun j2 =>
  some j2
def M_thrum_draw_stir_end (a0 : Int) : Option Int :=
  some (bXor .u64 (IntKind.u64.wrap (a0 * 13787848793156543929)) (sShr .u64 (IntKind.u64.wrap (a0 * 13787848793156543929)) 32))
def M_draw_At (a0 : Int) (a1 : List Int) : Option Int :=
  (M_draw_over a0 a1) >>= fun r1 =>
  (M_thrum_draw_stir_end r1) >>= fun r2 =>
  some r2
def M_draw_Below (a0 : Int) (a1 : Int) (a2 : List Int) : Option (Int × Int) :=
  if a0 = 0 then
    some (0, 1)
  else
    (M_draw_At a1 a2) >>= fun r1 =>
    if a0 ≠ 0 then
      some (Int.tmod r1 a0, 0)
    else none
def M_draw_Chance (a0 : Int) (a1 : Int) (a2 : Int) (a3 : List Int) : Option (Bool × Int) :=
  if a0 > a1 then
    some (false, 1)
  else
    (M_draw_Below a1 a2 a3) >>= fun r1 =>
    ((
      if r1.2 = 0 then
        some (decide (r1.1 < a0))
      else
        some false) : Option Bool) >>= fun j2 =>
    some (j2, r1.2)
def M_quant_Press_l0 (a0 : List Int) (a1 : Int) (a2 : Int) (a3 : List Int) (r3 : Int × Int) (x0 : Int) (x1 : List Int) (x2 : List Bool) : Option (Sum (Int × Int × Int × Int × (List Int) × (List Bool) × Int) ((List Int) × (List Bool))) :=
  if x0 < (a0.length : Int) then
    if 0 ≤ x0 ∧ x0 < (a0.length : Int) then
      (M_quant_Level (at' a0 x0) r3.1 a1) >>= fun r9 =>
      if r9.2.2 ≠ 0 then
        some (.inl (0, 0, 0, 0, [], [], r9.2.2))
      else
        ((
          if r9.2.1 > 0 then
            (M_slices_Clone_int_int a3) >>= fun r10 =>
            if room 8 (r10 ++ [x0]).length then
              (M_draw_Chance r9.2.1 (IntKind.u64.wrap r3.1) a2 (r10 ++ [x0])) >>= fun r11 =>
              if r11.2 ≠ 0 then
                some (.inl (0, 0, 0, 0, [], [], r11.2))
              else
                if r11.1 = true then
                  some (.inr (IntKind.u64.wrap (r9.1 + 1)))
                else
                  some (.inr r9.1)
            else none
          else
            some (.inr r9.1)) : Option (Sum (Int × Int × Int × Int × (List Int) × (List Bool) × Int) Int)) >>= fun e => match e with
        | .inl r => some (.inl r)
        | .inr j12 =>
          if 0 ≤ x0 ∧ x0 < (x1.length : Int) then
            if 0 ≤ x0 ∧ x0 < (x2.length : Int) then
              some (x1.set (Int.toNat x0) j12) >>= fun y13 =>
              some (x2.set (Int.toNat x0) (decide ((at' a0 x0) < 0))) >>= fun y15 =>
              M_quant_Press_l0 a0 a1 a2 a3 r3 (IntKind.i64.wrap (x0 + 1)) y13 y15
            else none
          else none
    else none
  else
    some (.inr (x1, x2))
  partial_fixpoint
def M_quant_Press (a0 : List Int) (a1 : Int) (a2 : Int) (a3 : List Int) : Option (Int × Int × Int × Int × (List Int) × (List Bool) × Int) :=
  (M_quant_Steps a1) >>= fun r1 =>
  ((
    if r1.2 ≠ 0 then
      some true
    else
      some ((a0.length : Int) == 0)) : Option Bool) >>= fun j2 =>
  if j2 = true then
    some (0, 0, 0, 0, [], [], 1)
  else
    (M_vec_Most a0) >>= fun r3 =>
    if r3.2 ≠ 0 then
      some (0, 0, 0, 0, [], [], r3.2)
    else
      ((
        if 0 ≤ (a0.length : Int) ∧ (a0.length : Int) ≤ (a0.length : Int) ∧ (a0.length : Int) ≤ 140737488355328 ∧ (a0.length : Int) * ((8 : Nat) : Int) ≤ 140737488355328 then
          if 0 ≤ (a0.length : Int) ∧ (a0.length : Int) ≤ (a0.length : Int) ∧ (a0.length : Int) ≤ 140737488355328 ∧ (a0.length : Int) * ((1 : Nat) : Int) ≤ 140737488355328 then
            some ()
          else none
        else none) : Option Unit) >>= fun j4 =>
      some (List.replicate (Int.toNat (a0.length : Int)) 0) >>= fun y5 =>
      some (List.replicate (Int.toNat (a0.length : Int)) false) >>= fun y7 =>
      (M_quant_Press_l0 a0 a1 a2 a3 r3 0 y5 y7) >>= fun e => match e with
      | .inl r => some r
      | .inr j17 =>
        some (2, (a0.length : Int), r3.1, a1, j17.1, j17.2, 0)
def M_press_ways_8 (a0 : T_api_How) (a1 : List Int) (a2 : Int) (a3 : List Int) : Option (Int × Int × Int × Int × (List Int) × (List Bool) × Int) :=
  (M_quant_Press a1 a0.F_Wide a2 a3) >>= fun r1 =>
  some (r1.1, r1.2.1, r1.2.2.1, r1.2.2.2.1, r1.2.2.2.2.1, r1.2.2.2.2.2.1, r1.2.2.2.2.2.2)
def M_vec_Size_1_c (a0 : Int) (a1 : List Int) : Option (Int × Int) :=
  if 0 ≤ a0 ∧ a0 < (a1.length : Int) then
    (M_fix_Abs (at' a1 a0)) >>= fun r1 =>
    some (r1.1, r1.2)
  else none
def M_vec_total_vec_Size_1_l0 (a0 : Int) (a1 : List Int) (x0 : Int) (x1 : Int) : Option (Sum (Int × Int) Int) :=
  if x0 < a0 then
    (M_vec_Size_1_c x0 a1) >>= fun r1 =>
    if r1.2 = 0 then
      (M_fix_Add x1 r1.1) >>= fun r2 =>
      if r2.2 ≠ 0 then
        some (.inl (0, r2.2))
      else
        M_vec_total_vec_Size_1_l0 a0 a1 (IntKind.i64.wrap (x0 + 1)) r2.1
    else
      if r1.2 ≠ 0 then
        some (.inl (0, r1.2))
      else
        M_vec_total_vec_Size_1_l0 a0 a1 (IntKind.i64.wrap (x0 + 1)) x1
  else
    some (.inr x1)
  partial_fixpoint
def M_vec_total_vec_Size_1 (a0 : Int) (a1 : List Int) : Option (Int × Int) :=
  (M_vec_total_vec_Size_1_l0 a0 a1 0 0) >>= fun e => match e with
  | .inl r => some r
  | .inr j3 =>
    some (j3, 0)
def M_vec_Size (a0 : List Int) : Option (Int × Int) :=
  (M_vec_Check a0) >>= fun r1 =>
  if r1 ≠ 0 then
    some (0, r1)
  else
    (M_vec_total_vec_Size_1 (a0.length : Int) a0) >>= fun r2 =>
    some (r2.1, r2.2)
def M_sign_Mean (a0 : List Int) : Option (Int × Int) :=
  if (a0.length : Int) = 0 then
    some (0, 1)
  else
    (M_vec_Size a0) >>= fun r1 =>
    if (a0.length : Int) ≠ 0 then
      some (IntKind.i64.wrap (Int.tdiv r1.1 (a0.length : Int)), r1.2)
    else none
def M_sign_Press_1 (a0 : Int) : Option Bool :=
  some (decide (a0 < 0))
def M_sign_each_int64_bool_sign_Press_1_l0 (a0 : List Int) (x0 : Int) (x1 : List Bool) : Option (List Bool) :=
  if x0 < (a0.length : Int) then
    if 0 ≤ x0 ∧ x0 < (a0.length : Int) then
      (M_sign_Press_1 (at' a0 x0)) >>= fun r3 =>
      if room 1 (x1 ++ [r3]).length then
        M_sign_each_int64_bool_sign_Press_1_l0 a0 (IntKind.i64.wrap (x0 + 1)) (x1 ++ [r3])
      else none
    else none
  else
    some x1
  partial_fixpoint
def M_sign_each_int64_bool_sign_Press_1 (a0 : List Int) : Option (List Bool) :=
  if 0 ≤ (0 : Int) ∧ (0 : Int) ≤ (a0.length : Int) ∧ (a0.length : Int) ≤ 140737488355328 ∧ (a0.length : Int) * ((1 : Nat) : Int) ≤ 140737488355328 then
    some (List.replicate (Int.toNat 0) false) >>= fun y1 =>
    (M_sign_each_int64_bool_sign_Press_1_l0 a0 0 y1) >>= fun j4 =>
    some j4
  else none
def M_sign_Press (a0 : List Int) : Option (Int × Int × Int × Int × (List Bool) × Int) :=
  (M_sign_Mean a0) >>= fun r1 =>
  if r1.2 ≠ 0 then
    some (0, 0, 0, 0, [], r1.2)
  else
    (M_sign_each_int64_bool_sign_Press_1 a0) >>= fun r2 =>
    some (3, (a0.length : Int), r1.1, 0, r2, 0)
def M_press_ways_10 (a0 : T_api_How) (a1 : List Int) (a2 : Int) (a3 : List Int) : Option (Int × Int × Int × Int × (List Bool) × Int) :=
  (M_sign_Press a1) >>= fun r1 =>
  some (r1.1, r1.2.1, r1.2.2.1, r1.2.2.2.1, r1.2.2.2.2.1, r1.2.2.2.2.2)
def M_press_Press (a0 : T_api_How) (a1 : List Int) (a2 : Int) (a3 : List Int) : Option (Int × Int × (List Int) × (List Int) × Int × Int × (List Int) × (List Bool) × Int) :=
  (M_vec_Check a1) >>= fun r1 =>
  ((
    if r1 = 0 then
      (M_press_Check a0 (a1.length : Int)) >>= fun r2 =>
      some r2
    else
      some r1) : Option Int) >>= fun j3 =>
  if j3 ≠ 0 then
    some (0, 0, [], [], 0, 0, [], [], j3)
  else
    (M_press_ways) >>= fun r4 =>
    if a0.F_Scheme = (0 : Int) then
      (M_press_dense a0 a1 a2 a3) >>= fun r5 =>
      some (r5.1, r5.2.1, [], r5.2.2.1, r5.2.2.2.1, r5.2.2.2.2.1, [], [], r5.2.2.2.2.2)
    else
      if a0.F_Scheme = (1 : Int) then
        (M_press_ways_4 a0 a1 a2 a3) >>= fun r6 =>
        some (r6.1, r6.2.1, r6.2.2.1, r6.2.2.2.1, r6.2.2.2.2.1, r6.2.2.2.2.2.1, [], [], r6.2.2.2.2.2.2)
      else
        if a0.F_Scheme = (2 : Int) then
          (M_press_ways_8 a0 a1 a2 a3) >>= fun r7 =>
          some (r7.1, r7.2.1, [], [], r7.2.2.1, r7.2.2.2.1, r7.2.2.2.2.1, r7.2.2.2.2.2.1, r7.2.2.2.2.2.2)
        else
          if a0.F_Scheme = (3 : Int) then
            (M_press_ways_10 a0 a1 a2 a3) >>= fun r8 =>
            some (r8.1, r8.2.1, [], [], r8.2.2.1, r8.2.2.2.1, [], r8.2.2.2.2.1, r8.2.2.2.2.2)
          else
            none
def M_index_measure (a0 : Int) : Option Bool :=
  ((
    if a0 > 0 then
      some (decide (a0 ≤ 4096))
    else
      some false) : Option Bool) >>= fun j1 =>
  some j1
def M_index_Check (a0 : Int) (a1 : List Int) : Option Int :=
  (M_index_measure a0) >>= fun r1 =>
  ((
    if r1 = false then
      some true
    else
      (M_index_rises a1) >>= fun r2 =>
      some (!r2)) : Option Bool) >>= fun j3 =>
  if j3 = true then
    some 1
  else
    if (a1.length : Int) > 0 then
      if 0 ≤ (0 : Int) ∧ (0 : Int) < (a1.length : Int) then
        if (at' a1 0) < 0 then
          some 1
        else
          if 0 ≤ IntKind.i64.wrap ((a1.length : Int) - 1) ∧ IntKind.i64.wrap ((a1.length : Int) - 1) < (a1.length : Int) then
            if (at' a1 (IntKind.i64.wrap ((a1.length : Int) - 1))) ≥ a0 then
              some 1
            else
              some 0
          else none
      else none
    else
      some 0
def M_plane_Width (a0 : Int) : Option Int :=
  (M_math_bits_Len64 a0) >>= fun r1 =>
  some r1
def M_frame_bare_1_c (a0 : Int) (a1 : Int) (a2 : Int) (a3 : List Int) (a4 : List Int) (a5 : Int) (a6 : Int) (a7 : List Int) (a8 : List Bool) : Option Bool :=
  (M_plane_Width a0) >>= fun r1 =>
  some (decide (r1 > a6))
def M_slices_IndexFunc_uint64_uint64_frame_bare_1_l0 (a0 : List Int) (a1 : Int) (a2 : Int) (a3 : List Int) (a4 : List Int) (a5 : Int) (a6 : Int) (a7 : List Int) (a8 : List Bool) (x0 : Int) : Option (Sum Int Unit) :=
  if x0 < (a0.length : Int) then
    if 0 ≤ x0 ∧ x0 < (a0.length : Int) then
      (M_frame_bare_1_c (at' a0 x0) a1 a2 a3 a4 a5 a6 a7 a8) >>= fun r1 =>
      if r1 = true then
        some (.inl x0)
      else
        M_slices_IndexFunc_uint64_uint64_frame_bare_1_l0 a0 a1 a2 a3 a4 a5 a6 a7 a8 (IntKind.i64.wrap (x0 + 1))
    else none
  else
    some (.inr ())
  partial_fixpoint
def M_slices_IndexFunc_uint64_uint64_frame_bare_1 (a0 : List Int) (a1 : Int) (a2 : Int) (a3 : List Int) (a4 : List Int) (a5 : Int) (a6 : Int) (a7 : List Int) (a8 : List Bool) : Option Int :=
  (M_slices_IndexFunc_uint64_uint64_frame_bare_1_l0 a0 a1 a2 a3 a4 a5 a6 a7 a8 0) >>= fun e => match e with
  | .inl r => some r
  | .inr j2 =>
    some (-1)
def M_slices_ContainsFunc_uint64_uint64_frame_bare_1 (a0 : List Int) (a1 : Int) (a2 : Int) (a3 : List Int) (a4 : List Int) (a5 : Int) (a6 : Int) (a7 : List Int) (a8 : List Bool) : Option Bool :=
  (M_slices_IndexFunc_uint64_uint64_frame_bare_1 a0 a1 a2 a3 a4 a5 a6 a7 a8) >>= fun r1 =>
  some (decide (r1 ≥ 0))
def M_frame_bare (a0 : T_api_Sent) : Option (Int × Int × (List Int) × (List Int) × Int × Int × (List Int) × (List Bool) × Bool) :=
  ((
    if a0.F_Dim > 0 then
      some (decide (a0.F_Dim ≤ 4096))
    else
      some false) : Option Bool) >>= fun j1 =>
  if a0.F_Scheme = 0 then
    ((
      if j1 = true then
        some ((a0.F_V.length : Int) == a0.F_Dim)
      else
        some false) : Option Bool) >>= fun j2 =>
    some (0, 0, a0.F_L, [], a0.F_Scale, a0.F_Wide, a0.F_Lev, a0.F_Neg, j2)
  else
    if a0.F_Scheme = 1 then
      ((
        if j1 = true then
          (M_index_Check a0.F_Dim a0.F_L) >>= fun r3 =>
          some (r3 == 0)
        else
          some false) : Option Bool) >>= fun j4 =>
      ((
        if j4 = true then
          some ((a0.F_L.length : Int) == (a0.F_V.length : Int))
        else
          some false) : Option Bool) >>= fun j5 =>
      some (0, 0, [], [], a0.F_Scale, a0.F_Wide, a0.F_Lev, a0.F_Neg, j5)
    else
      if a0.F_Scheme = 2 then
        ((
          if j1 = true then
            some (decide (a0.F_Wide > 0))
          else
            some false) : Option Bool) >>= fun j6 =>
        ((
          if j6 = true then
            some (decide (a0.F_Wide ≤ 8))
          else
            some false) : Option Bool) >>= fun j7 =>
        ((
          if j7 = true then
            some ((a0.F_Lev.length : Int) == a0.F_Dim)
          else
            some false) : Option Bool) >>= fun j8 =>
        ((
          if j8 = true then
            (M_slices_ContainsFunc_uint64_uint64_frame_bare_1 a0.F_Lev a0.F_Scheme a0.F_Dim a0.F_L a0.F_V a0.F_Scale a0.F_Wide a0.F_Lev a0.F_Neg) >>= fun r9 =>
            some (!r9)
          else
            some false) : Option Bool) >>= fun j10 =>
        ((
          if j10 = true then
            some (decide (a0.F_Scale ≥ 0))
          else
            some false) : Option Bool) >>= fun j11 =>
        ((
          if j11 = true then
            some ((a0.F_Neg.length : Int) == a0.F_Dim)
          else
            some false) : Option Bool) >>= fun j12 =>
        some (0, 0, a0.F_L, a0.F_V, 0, 0, [], [], j12)
      else
        if a0.F_Scheme = 3 then
          ((
            if j1 = true then
              some (decide (a0.F_Scale ≥ 0))
            else
              some false) : Option Bool) >>= fun j13 =>
          ((
            if j13 = true then
              some ((a0.F_Neg.length : Int) == a0.F_Dim)
            else
              some false) : Option Bool) >>= fun j14 =>
          some (0, 0, a0.F_L, a0.F_V, 0, a0.F_Wide, a0.F_Lev, [], j14)
        else
          some (0, 0, a0.F_L, a0.F_V, a0.F_Scale, a0.F_Wide, a0.F_Lev, a0.F_Neg, false)
def M_slices_Equal_int_int_l0 (a0 : List Int) (a1 : List Int) (x0 : Int) : Option (Sum Bool Unit) :=
  if x0 < (a0.length : Int) then
    if 0 ≤ x0 ∧ x0 < (a0.length : Int) then
      if 0 ≤ x0 ∧ x0 < (a1.length : Int) then
        if (at' a0 x0) ≠ (at' a1 x0) then
          some (.inl false)
        else
          M_slices_Equal_int_int_l0 a0 a1 (IntKind.i64.wrap (x0 + 1))
      else none
    else none
  else
    some (.inr ())
  partial_fixpoint
def M_slices_Equal_int_int (a0 : List Int) (a1 : List Int) : Option Bool :=
  if (a0.length : Int) ≠ (a1.length : Int) then
    some false
  else
    (M_slices_Equal_int_int_l0 a0 a1 0) >>= fun e => match e with
    | .inl r => some r
    | .inr j1 =>
      some true
def M_slices_Equal_int64_int64_l0 (a0 : List Int) (a1 : List Int) (x0 : Int) : Option (Sum Bool Unit) :=
  if x0 < (a0.length : Int) then
    if 0 ≤ x0 ∧ x0 < (a0.length : Int) then
      if 0 ≤ x0 ∧ x0 < (a1.length : Int) then
        if (at' a0 x0) ≠ (at' a1 x0) then
          some (.inl false)
        else
          M_slices_Equal_int64_int64_l0 a0 a1 (IntKind.i64.wrap (x0 + 1))
      else none
    else none
  else
    some (.inr ())
  partial_fixpoint
def M_slices_Equal_int64_int64 (a0 : List Int) (a1 : List Int) : Option Bool :=
  if (a0.length : Int) ≠ (a1.length : Int) then
    some false
  else
    (M_slices_Equal_int64_int64_l0 a0 a1 0) >>= fun e => match e with
    | .inl r => some r
    | .inr j1 =>
      some true
def M_slices_Equal_uint64_uint64_l0 (a0 : List Int) (a1 : List Int) (x0 : Int) : Option (Sum Bool Unit) :=
  if x0 < (a0.length : Int) then
    if 0 ≤ x0 ∧ x0 < (a0.length : Int) then
      if 0 ≤ x0 ∧ x0 < (a1.length : Int) then
        if (at' a0 x0) ≠ (at' a1 x0) then
          some (.inl false)
        else
          M_slices_Equal_uint64_uint64_l0 a0 a1 (IntKind.i64.wrap (x0 + 1))
      else none
    else none
  else
    some (.inr ())
  partial_fixpoint
def M_slices_Equal_uint64_uint64 (a0 : List Int) (a1 : List Int) : Option Bool :=
  if (a0.length : Int) ≠ (a1.length : Int) then
    some false
  else
    (M_slices_Equal_uint64_uint64_l0 a0 a1 0) >>= fun e => match e with
    | .inl r => some r
    | .inr j1 =>
      some true
def M_slices_Equal_bool_bool_l0 (a0 : List Bool) (a1 : List Bool) (x0 : Int) : Option (Sum Bool Unit) :=
  if x0 < (a0.length : Int) then
    if 0 ≤ x0 ∧ x0 < (a0.length : Int) then
      if 0 ≤ x0 ∧ x0 < (a1.length : Int) then
        if (at' a0 x0) ≠ (at' a1 x0) then
          some (.inl false)
        else
          M_slices_Equal_bool_bool_l0 a0 a1 (IntKind.i64.wrap (x0 + 1))
      else none
    else none
  else
    some (.inr ())
  partial_fixpoint
def M_slices_Equal_bool_bool (a0 : List Bool) (a1 : List Bool) : Option Bool :=
  if (a0.length : Int) ≠ (a1.length : Int) then
    some false
  else
    (M_slices_Equal_bool_bool_l0 a0 a1 0) >>= fun e => match e with
    | .inl r => some r
    | .inr j1 =>
      some true
def M_frame_same (a0 : T_api_Sent) (a1 : T_api_Sent) : Option Bool :=
  ((
    if ([a0.F_Scheme, a0.F_Dim, a0.F_Scale, a0.F_Wide] : List Int) = [a1.F_Scheme, a1.F_Dim, a1.F_Scale, a1.F_Wide] then
      (M_slices_Equal_int_int a0.F_L a1.F_L) >>= fun r1 =>
      some r1
    else
      some false) : Option Bool) >>= fun j2 =>
  ((
    if j2 = true then
      (M_slices_Equal_int64_int64 a0.F_V a1.F_V) >>= fun r3 =>
      some r3
    else
      some false) : Option Bool) >>= fun j4 =>
  ((
    if j4 = true then
      (M_slices_Equal_uint64_uint64 a0.F_Lev a1.F_Lev) >>= fun r5 =>
      some r5
    else
      some false) : Option Bool) >>= fun j6 =>
  ((
    if j6 = true then
      (M_slices_Equal_bool_bool a0.F_Neg a1.F_Neg) >>= fun r7 =>
      some r7
    else
      some false) : Option Bool) >>= fun j8 =>
  some j8
def M_frame_May (a0 : T_api_Sent) : Option Bool :=
  (M_frame_bare a0) >>= fun r1 =>
  ((
    if r1.2.2.2.2.2.2.2.2 = true then
      (M_frame_same (⟨r1.1, r1.2.1, r1.2.2.1, r1.2.2.2.1, r1.2.2.2.2.1, r1.2.2.2.2.2.1, r1.2.2.2.2.2.2.1, r1.2.2.2.2.2.2.2.1⟩ : T_api_Sent) (⟨0, 0, [], [], 0, 0, [], []⟩ : T_api_Sent)) >>= fun r2 =>
      some r2
    else
      some false) : Option Bool) >>= fun j3 =>
  some j3
def M_press_ways_1 (a0 : T_api_Sent) : Option ((List Int) × Int) :=
  (M_slices_Clone_int64_int64 a0.F_V) >>= fun r1 =>
  some (r1, 0)
def M_index_Spread_l0 (a1 : List Int) (a2 : List Int) (x0 : Int) (x1 : List Int) : Option (List Int) :=
  if x0 < (a1.length : Int) then
    if 0 ≤ x0 ∧ x0 < (a1.length : Int) then
      if 0 ≤ x0 ∧ x0 < (a2.length : Int) then
        if 0 ≤ at' a1 x0 ∧ at' a1 x0 < (x1.length : Int) then
          some (x1.set (Int.toNat (at' a1 x0)) (at' a2 x0)) >>= fun y4 =>
          M_index_Spread_l0 a1 a2 (IntKind.i64.wrap (x0 + 1)) y4
        else none
      else none
    else none
  else
    some x1
  partial_fixpoint
def M_index_Spread (a0 : Int) (a1 : List Int) (a2 : List Int) : Option ((List Int) × Int) :=
  (M_index_Check a0 a1) >>= fun r1 =>
  if r1 ≠ 0 then
    some ([], r1)
  else
    if (a1.length : Int) ≠ (a2.length : Int) then
      some ([], 4)
    else
      if 0 ≤ a0 ∧ a0 ≤ a0 ∧ a0 ≤ 140737488355328 ∧ a0 * ((8 : Nat) : Int) ≤ 140737488355328 then
        some (List.replicate (Int.toNat a0) 0) >>= fun y2 =>
        (M_index_Spread_l0 a1 a2 0 y2) >>= fun j6 =>
        some (j6, 0)
      else none
def M_press_ways_5 (a0 : T_api_Sent) : Option ((List Int) × Int) :=
  (M_index_Spread a0.F_Dim a0.F_L a0.F_V) >>= fun r1 =>
  some (r1.1, r1.2)
def M_quant_Value (a0 : Int) (a1 : Int) (a2 : Int) : Option (Int × Int) :=
  (M_quant_Steps a2) >>= fun r1 =>
  ((
    if r1.2 ≠ 0 then
      some true
    else
      some (decide (a1 < 0))) : Option Bool) >>= fun j2 =>
  ((
    if j2 = true then
      some true
    else
      some (decide (a0 > r1.1))) : Option Bool) >>= fun j3 =>
  if j3 = true then
    some (0, 1)
  else
    (M_math_bits_Mul64 (IntKind.u64.wrap a1) a0) >>= fun r4 =>
    (M_math_bits_Div64 r4.1 r4.2 r1.1) >>= fun r5 =>
    some (IntKind.i64.wrap r5.1, 0)
def M_quant_Loosen_l0 (a0 : T_api_Sent) (x0 : Int) (x1 : List Int) : Option (Sum ((List Int) × Int) (List Int)) :=
  if x0 < (a0.F_Lev.length : Int) then
    if 0 ≤ x0 ∧ x0 < (a0.F_Lev.length : Int) then
      (M_quant_Value (at' a0.F_Lev x0) a0.F_Scale a0.F_Wide) >>= fun r5 =>
      if r5.2 ≠ 0 then
        some (.inl ([], r5.2))
      else
        if 0 ≤ x0 ∧ x0 < (x1.length : Int) then
          some (x1.set (Int.toNat x0) r5.1) >>= fun y6 =>
          if 0 ≤ x0 ∧ x0 < (a0.F_Neg.length : Int) then
            if (at' a0.F_Neg x0) = true then
              if 0 ≤ x0 ∧ x0 < (y6.length : Int) then
                some (y6.set (Int.toNat x0) (IntKind.i64.wrap (0 - r5.1))) >>= fun y8 =>
                M_quant_Loosen_l0 a0 (IntKind.i64.wrap (x0 + 1)) y8
              else none
            else
              M_quant_Loosen_l0 a0 (IntKind.i64.wrap (x0 + 1)) y6
          else none
        else none
    else none
  else
    some (.inr x1)
  partial_fixpoint
def M_quant_Loosen (a0 : T_api_Sent) : Option ((List Int) × Int) :=
  (M_frame_May a0) >>= fun r1 =>
  ((
    if r1 = false then
      some true
    else
      some (a0.F_Scheme != 2)) : Option Bool) >>= fun j2 =>
  if j2 = true then
    some ([], 1)
  else
    if 0 ≤ a0.F_Dim ∧ a0.F_Dim ≤ a0.F_Dim ∧ a0.F_Dim ≤ 140737488355328 ∧ a0.F_Dim * ((8 : Nat) : Int) ≤ 140737488355328 then
      some (List.replicate (Int.toNat a0.F_Dim) 0) >>= fun y3 =>
      (M_quant_Loosen_l0 a0 0 y3) >>= fun e => match e with
      | .inl r => some r
      | .inr j10 =>
        some (j10, 0)
    else none
def M_sign_Loosen_1_c (a0 : Bool) (a1 : Int) (a2 : Int) (a3 : List Int) (a4 : List Int) (a5 : Int) (a6 : Int) (a7 : List Int) (a8 : List Bool) : Option Int :=
  if a0 = true then
    some (IntKind.i64.wrap (0 - a5))
  else
    some a5
def M_sign_each_bool_int64_sign_Loosen_1_l0 (a0 : List Bool) (a1 : Int) (a2 : Int) (a3 : List Int) (a4 : List Int) (a5 : Int) (a6 : Int) (a7 : List Int) (a8 : List Bool) (x0 : Int) (x1 : List Int) : Option (List Int) :=
  if x0 < (a0.length : Int) then
    if 0 ≤ x0 ∧ x0 < (a0.length : Int) then
      (M_sign_Loosen_1_c (at' a0 x0) a1 a2 a3 a4 a5 a6 a7 a8) >>= fun r3 =>
      if room 8 (x1 ++ [r3]).length then
        M_sign_each_bool_int64_sign_Loosen_1_l0 a0 a1 a2 a3 a4 a5 a6 a7 a8 (IntKind.i64.wrap (x0 + 1)) (x1 ++ [r3])
      else none
    else none
  else
    some x1
  partial_fixpoint
def M_sign_each_bool_int64_sign_Loosen_1 (a0 : List Bool) (a1 : Int) (a2 : Int) (a3 : List Int) (a4 : List Int) (a5 : Int) (a6 : Int) (a7 : List Int) (a8 : List Bool) : Option (List Int) :=
  if 0 ≤ (0 : Int) ∧ (0 : Int) ≤ (a0.length : Int) ∧ (a0.length : Int) ≤ 140737488355328 ∧ (a0.length : Int) * ((8 : Nat) : Int) ≤ 140737488355328 then
    some (List.replicate (Int.toNat 0) 0) >>= fun y1 =>
    (M_sign_each_bool_int64_sign_Loosen_1_l0 a0 a1 a2 a3 a4 a5 a6 a7 a8 0 y1) >>= fun j4 =>
    some j4
  else none
def M_sign_Loosen (a0 : T_api_Sent) : Option ((List Int) × Int) :=
  (M_frame_May a0) >>= fun r1 =>
  ((
    if r1 = false then
      some true
    else
      some (a0.F_Scheme != 3)) : Option Bool) >>= fun j2 =>
  if j2 = true then
    some ([], 1)
  else
    (M_sign_each_bool_int64_sign_Loosen_1 a0.F_Neg a0.F_Scheme a0.F_Dim a0.F_L a0.F_V a0.F_Scale a0.F_Wide a0.F_Lev a0.F_Neg) >>= fun r3 =>
    some (r3, 0)
def M_press_Loosen (a0 : T_api_Sent) : Option ((List Int) × Int) :=
  (M_frame_May a0) >>= fun r1 =>
  if r1 = false then
    some ([], 1)
  else
    (M_press_ways) >>= fun r2 =>
    if a0.F_Scheme = (0 : Int) then
      (M_press_ways_1 a0) >>= fun r3 =>
      some (r3.1, r3.2)
    else
      if a0.F_Scheme = (1 : Int) then
        (M_press_ways_5 a0) >>= fun r4 =>
        some (r4.1, r4.2)
      else
        if a0.F_Scheme = (2 : Int) then
          (M_quant_Loosen a0) >>= fun r5 =>
          some (r5.1, r5.2)
        else
          if a0.F_Scheme = (3 : Int) then
            (M_sign_Loosen a0) >>= fun r6 =>
            some (r6.1, r6.2)
          else
            none
def M_vec_Sub_1_c_c (a0 : Int) (a1 : List Int) (a2 : List Int) : Option (Int × Int) :=
  if 0 ≤ a0 ∧ a0 < (a1.length : Int) then
    if 0 ≤ a0 ∧ a0 < (a2.length : Int) then
      (M_fix_Sub (at' a1 a0) (at' a2 a0)) >>= fun r1 =>
      some (r1.1, r1.2)
    else none
  else none
def M_vec_each_vec_Sub_1_l0 (a1 : List Int) (a2 : List Int) (y1 : List Int) (x0 : Int) (x1 : List Int) : Option (Sum ((List Int) × Int) (List Int)) :=
  if x0 < (y1.length : Int) then
    (M_vec_Sub_1_c_c x0 a1 a2) >>= fun r3 =>
    if 0 ≤ x0 ∧ x0 < (x1.length : Int) then
      some (x1.set (Int.toNat x0) r3.1) >>= fun y4 =>
      if r3.2 ≠ 0 then
        some (.inl ([], r3.2))
      else
        M_vec_each_vec_Sub_1_l0 a1 a2 y1 (IntKind.i64.wrap (x0 + 1)) y4
    else none
  else
    some (.inr x1)
  partial_fixpoint
def M_vec_each_vec_Sub_1 (a0 : Int) (a1 : List Int) (a2 : List Int) : Option ((List Int) × Int) :=
  if 0 ≤ a0 ∧ a0 ≤ a0 ∧ a0 ≤ 140737488355328 ∧ a0 * ((8 : Nat) : Int) ≤ 140737488355328 then
    some (List.replicate (Int.toNat a0) 0) >>= fun y1 =>
    (M_vec_each_vec_Sub_1_l0 a1 a2 y1 0 y1) >>= fun e => match e with
    | .inl r => some r
    | .inr j6 =>
      some (j6, 0)
  else none
def M_vec_Sub (a0 : List Int) (a1 : List Int) : Option ((List Int) × Int) :=
  (M_vec_pair a0 a1) >>= fun r1 =>
  if r1 ≠ 0 then
    some ([], r1)
  else
    (M_vec_each_vec_Sub_1 (a0.length : Int) a0 a1) >>= fun r2 =>
    some (r2.1, r2.2)
def M_press_Left (a0 : List Int) (a1 : T_api_Sent) : Option ((List Int) × Int) :=
  (M_press_Loosen a1) >>= fun r1 =>
  if r1.2 ≠ 0 then
    some ([], r1.2)
  else
    (M_vec_Sub a0 r1.1) >>= fun r2 =>
    some (r2.1, r2.2)
def M_press_Round (a0 : T_api_How) (a1 : List Int) (a2 : List Int) (a3 : Int) (a4 : List Int) : Option (Int × Int × (List Int) × (List Int) × Int × Int × (List Int) × (List Bool) × (List Int) × Int) :=
  (M_vec_Add a1 a2) >>= fun r1 =>
  ((
    if r1.2 = 0 then
      (M_press_Press a0 r1.1 a3 a4) >>= fun r2 =>
      some (r2.2.2.2.2.2.2.2.2, r2.1, r2.2.1, r2.2.2.1, r2.2.2.2.1, r2.2.2.2.2.1, r2.2.2.2.2.2.1, r2.2.2.2.2.2.2.1, r2.2.2.2.2.2.2.2.1)
    else
      some (r1.2, 0, 0, [], [], 0, 0, [], [])) : Option (Int × Int × Int × (List Int) × (List Int) × Int × Int × (List Int) × (List Bool))) >>= fun j3 =>
  if j3.1 = 0 then
    (M_press_Left r1.1 (⟨j3.2.1, j3.2.2.1, j3.2.2.2.1, j3.2.2.2.2.1, j3.2.2.2.2.2.1, j3.2.2.2.2.2.2.1, j3.2.2.2.2.2.2.2.1, j3.2.2.2.2.2.2.2.2⟩ : T_api_Sent)) >>= fun r4 =>
    if r4.2 ≠ 0 then
      some (0, 0, [], [], 0, 0, [], [], [], r4.2)
    else
      some (j3.2.1, j3.2.2.1, j3.2.2.2.1, j3.2.2.2.2.1, j3.2.2.2.2.2.1, j3.2.2.2.2.2.2.1, j3.2.2.2.2.2.2.2.1, j3.2.2.2.2.2.2.2.2, r4.1, 0)
  else
    if j3.1 ≠ 0 then
      some (0, 0, [], [], 0, 0, [], [], [], j3.1)
    else
      some (j3.2.1, j3.2.2.1, j3.2.2.2.1, j3.2.2.2.2.1, j3.2.2.2.2.2.1, j3.2.2.2.2.2.2.1, j3.2.2.2.2.2.2.2.1, j3.2.2.2.2.2.2.2.2, [], 0)
def M_thrumref02_Same_l0 (a0 : List Int) (a1 : List Int) (x0 : Int) : Option (Sum Bool Unit) :=
  if x0 < (a0.length : Int) then
    if 0 ≤ x0 ∧ x0 < (a0.length : Int) then
      if 0 ≤ x0 ∧ x0 < (a1.length : Int) then
        if (at' a0 x0) ≠ (at' a1 x0) then
          some (.inl false)
        else
          M_thrumref02_Same_l0 a0 a1 (IntKind.i64.wrap (x0 + 1))
      else none
    else none
  else
    some (.inr ())
  partial_fixpoint
def M_thrumref02_Same (a0 : List Int) (a1 : List Int) : Option Bool :=
  if (a0.length : Int) ≠ (a1.length : Int) then
    some false
  else
    (M_thrumref02_Same_l0 a0 a1 0) >>= fun e => match e with
    | .inl r => some r
    | .inr j1 =>
      some true
def M_thrumlaw12_live : Option Bool :=
  (M_press_Round (⟨1, 1, 0⟩ : T_api_How) [3, -5] [0, 0] 1 []) >>= fun r1 =>
  ((
    if r1.2.2.2.2.2.2.2.2.2 = 0 then
      some ((r1.2.2.1.length : Int) == 1)
    else
      some false) : Option Bool) >>= fun j2 =>
  ((
    if j2 = true then
      if 0 ≤ (0 : Int) ∧ (0 : Int) < (r1.2.2.1.length : Int) then
        some ((at' r1.2.2.1 0) == 1)
      else none
    else
      some false) : Option Bool) >>= fun j3 =>
  ((
    if j3 = true then
      (M_thrumref02_Same r1.2.2.2.1 [-5]) >>= fun r4 =>
      some r4
    else
      some false) : Option Bool) >>= fun j5 =>
  ((
    if j5 = true then
      (M_thrumref02_Same r1.2.2.2.2.2.2.2.2.1 [3, 0]) >>= fun r6 =>
      some r6
    else
      some false) : Option Bool) >>= fun j7 =>
  some j7
def M_thrumlaw12_few_l0 (a0 : List Int) (a1 : List (List Int)) (x0 : Int) : Option (Sum Bool Unit) :=
  if x0 < (a1.length : Int) then
    if 0 ≤ x0 ∧ x0 < (a1.length : Int) then
      ((
        if ((at' a1 x0).length : Int) > 200 then
          some (decide (((at' a1 x0).length : Int) ≤ 4096))
        else
          some false) : Option Bool) >>= fun j1 =>
      ((
        if j1 = true then
          some true
        else
          some (decide (((at' a1 x0).length : Int) > 5000))) : Option Bool) >>= fun j2 =>
      if j2 = true then
        some (.inl false)
      else
        M_thrumlaw12_few_l0 a0 a1 (IntKind.i64.wrap (x0 + 1))
    else none
  else
    some (.inr ())
  partial_fixpoint
def M_thrumlaw12_few (a0 : List Int) (a1 : List (List Int)) : Option Bool :=
  (M_thrumlaw12_few_l0 a0 a1 0) >>= fun e => match e with
  | .inl r => some r
  | .inr j3 =>
    ((
      if (a0.length : Int) ≤ 50 then
        some (decide ((a1.length : Int) ≤ 30))
      else
        some false) : Option Bool) >>= fun j4 =>
    some j4
def M_thrumref12_Check (a0 : T_api_How) (a1 : Int) : Option Int :=
  ((
    if a1 ≥ 1 then
      some (decide (a1 ≤ 4096))
    else
      some false) : Option Bool) >>= fun j1 =>
  ((
    if a0.F_Scheme = 0 then
      some true
    else
      some (a0.F_Scheme == 3)) : Option Bool) >>= fun j2 =>
  if j2 = true then
    ((
      if j1 = true then
        some (a0.F_K == 0)
      else
        some false) : Option Bool) >>= fun j3 =>
    ((
      if j3 = true then
        some (a0.F_Wide == 0)
      else
        some false) : Option Bool) >>= fun j4 =>
    if j4 = false then
      some 1
    else
      some 0
  else
    if a0.F_Scheme = 1 then
      ((
        if j1 = true then
          some (decide (a0.F_K ≥ 0))
        else
          some false) : Option Bool) >>= fun j5 =>
      ((
        if j5 = true then
          some (decide (a0.F_K ≤ a1))
        else
          some false) : Option Bool) >>= fun j6 =>
      ((
        if j6 = true then
          some (a0.F_Wide == 0)
        else
          some false) : Option Bool) >>= fun j7 =>
      if j7 = false then
        some 1
      else
        some 0
    else
      if a0.F_Scheme = 2 then
        ((
          if j1 = true then
            some (a0.F_K == 0)
          else
            some false) : Option Bool) >>= fun j8 =>
        ((
          if j8 = true then
            some (decide (a0.F_Wide ≥ 1))
          else
            some false) : Option Bool) >>= fun j9 =>
        ((
          if j9 = true then
            some (decide (a0.F_Wide ≤ 8))
          else
            some false) : Option Bool) >>= fun j10 =>
        if j10 = false then
          some 1
        else
          some 0
      else
        some 1
def M_thrumref09_Size (a0 : Int) : Option Int :=
  if a0 < 0 then
    some (IntKind.u64.wrap ((IntKind.u64.wrap (IntKind.i64.wrap (0 - (IntKind.i64.wrap (a0 + 1))))) + 1))
  else
    some (IntKind.u64.wrap a0)
def M_thrumref09_Ahead (a0 : List Int) (a1 : Int) (a2 : Int) : Option Bool :=
  if 0 ≤ a1 ∧ a1 < (a0.length : Int) then
    (M_thrumref09_Size (at' a0 a1)) >>= fun r1 =>
    if 0 ≤ a2 ∧ a2 < (a0.length : Int) then
      (M_thrumref09_Size (at' a0 a2)) >>= fun r2 =>
      if r1 > r2 then
        some true
      else
        if r1 = r2 then
          some (decide (a1 < a2))
        else
          some false
    else none
  else none
def M_thrumref09_Order_l1 (a0 : List Int) (x0 : Int) (x1 : List Int) (x0_ : Int) (x1_ : Int) : Option Int :=
  if x0_ < (a0.length : Int) then
    (M_thrumref09_Ahead a0 x0_ x0) >>= fun r3 =>
    if r3 = true then
      M_thrumref09_Order_l1 a0 x0 x1 (IntKind.i64.wrap (x0_ + 1)) (IntKind.i64.wrap (x1_ + 1))
    else
      M_thrumref09_Order_l1 a0 x0 x1 (IntKind.i64.wrap (x0_ + 1)) x1_
  else
    some x1_
  partial_fixpoint
def M_thrumref09_Order_l0 (a0 : List Int) (x0 : Int) (x1 : List Int) : Option (List Int) :=
  if x0 < (a0.length : Int) then
    (M_thrumref09_Order_l1 a0 x0 x1 0 0) >>= fun j4 =>
    if 0 ≤ j4 ∧ j4 < (x1.length : Int) then
      M_thrumref09_Order_l0 a0 (IntKind.i64.wrap (x0 + 1)) (x1.set (Int.toNat j4) x0)
    else none
  else
    some x1
  partial_fixpoint
def M_thrumref09_Order (a0 : List Int) : Option ((List Int) × Int) :=
  if (a0.length : Int) > 4096 then
    some ([], 3)
  else
    if 0 ≤ (a0.length : Int) ∧ (a0.length : Int) ≤ (a0.length : Int) ∧ (a0.length : Int) ≤ 140737488355328 ∧ (a0.length : Int) * ((8 : Nat) : Int) ≤ 140737488355328 then
      some (List.replicate (Int.toNat (a0.length : Int)) 0) >>= fun y1 =>
      (M_thrumref09_Order_l0 a0 0 y1) >>= fun j5 =>
      some (j5, 0)
    else none
def M_thrumref06_in_l0 (a0 : List Int) (a1 : Int) (x0 : Int) : Option (Sum Bool Unit) :=
  if x0 < (a0.length : Int) then
    if 0 ≤ x0 ∧ x0 < (a0.length : Int) then
      if (at' a0 x0) = a1 then
        some (.inl true)
      else
        M_thrumref06_in_l0 a0 a1 (IntKind.i64.wrap (x0 + 1))
    else none
  else
    some (.inr ())
  partial_fixpoint
def M_thrumref06_in (a0 : List Int) (a1 : Int) : Option Bool :=
  (M_thrumref06_in_l0 a0 a1 0) >>= fun e => match e with
  | .inl r => some r
  | .inr j1 =>
    some false
def M_thrumref06_Merge_l2 (a0 : List (List Int)) (x0 : Int) (x0_ : Int) (x1_ : List Int) (x0__ : Int) (x1__ : List Int) : Option (List Int) :=
  if x0__ < (x1_.length : Int) then
    if 0 ≤ x0__ ∧ x0__ < (x1_.length : Int) then
      if (at' x1_ x0__) < (at' (at' a0 x0) x0_) then
        if room 8 (x1__ ++ [at' x1_ x0__]).length then
          M_thrumref06_Merge_l2 a0 x0 x0_ x1_ (IntKind.i64.wrap (x0__ + 1)) (x1__ ++ [at' x1_ x0__])
        else none
      else
        M_thrumref06_Merge_l2 a0 x0 x0_ x1_ (IntKind.i64.wrap (x0__ + 1)) x1__
    else none
  else
    some x1__
  partial_fixpoint
def M_thrumref06_Merge_l3 (a0 : List (List Int)) (x0 : Int) (x0_ : Int) (x1_ : List Int) (x0__ : Int) (x1__ : List Int) : Option (List Int) :=
  if x0__ < (x1_.length : Int) then
    if 0 ≤ x0__ ∧ x0__ < (x1_.length : Int) then
      if (at' x1_ x0__) > (at' (at' a0 x0) x0_) then
        if room 8 (x1__ ++ [at' x1_ x0__]).length then
          M_thrumref06_Merge_l3 a0 x0 x0_ x1_ (IntKind.i64.wrap (x0__ + 1)) (x1__ ++ [at' x1_ x0__])
        else none
      else
        M_thrumref06_Merge_l3 a0 x0 x0_ x1_ (IntKind.i64.wrap (x0__ + 1)) x1__
    else none
  else
    some x1__
  partial_fixpoint
def M_thrumref06_Merge_l1 (a0 : List (List Int)) (x0 : Int) (x0_ : Int) (x1_ : List Int) : Option (List Int) :=
  if x0_ < ((at' a0 x0).length : Int) then
    if 0 ≤ x0_ ∧ x0_ < ((at' a0 x0).length : Int) then
      (M_thrumref06_in x1_ (at' (at' a0 x0) x0_)) >>= fun r1 =>
      if r1 = true then
        M_thrumref06_Merge_l1 a0 x0 (IntKind.i64.wrap (x0_ + 1)) x1_
      else
        (M_thrumref06_Merge_l2 a0 x0 x0_ x1_ 0 []) >>= fun j2 =>
        if room 8 (j2 ++ [at' (at' a0 x0) x0_]).length then
          some (j2 ++ [at' (at' a0 x0) x0_]) >>= fun y3 =>
          (M_thrumref06_Merge_l3 a0 x0 x0_ x1_ 0 y3) >>= fun j5 =>
          M_thrumref06_Merge_l1 a0 x0 (IntKind.i64.wrap (x0_ + 1)) j5
        else none
    else none
  else
    some x1_
  partial_fixpoint
def M_thrumref06_Merge_l0 (a0 : List (List Int)) (x0 : Int) (x1 : List Int) : Option (List Int) :=
  if x0 < (a0.length : Int) then
    if 0 ≤ x0 ∧ x0 < (a0.length : Int) then
      (M_thrumref06_Merge_l1 a0 x0 0 x1) >>= fun j6 =>
      M_thrumref06_Merge_l0 a0 (IntKind.i64.wrap (x0 + 1)) j6
    else none
  else
    some x1
  partial_fixpoint
def M_thrumref06_Merge (a0 : List (List Int)) : Option (List Int) :=
  (M_thrumref06_Merge_l0 a0 0 []) >>= fun j7 =>
  some j7
def M_thrumref09_Pick (a0 : Int) (a1 : List Int) : Option ((List Int) × Int) :=
  (M_thrumref09_Order a1) >>= fun r1 =>
  if r1.2 ≠ 0 then
    some ([], r1.2)
  else
    ((
      if a0 < 0 then
        some true
      else
        some (decide (a0 > (a1.length : Int)))) : Option Bool) >>= fun j2 =>
    if j2 = true then
      some ([], 1)
    else
      if cutOk none (some a0) r1.1.length then
        (M_thrumref06_Merge [cut' r1.1 none (some a0)]) >>= fun r3 =>
        some (r3, 0)
      else none
def M_thrumref09_Press_l0 (a1 : List Int) (r1 : (List Int) × Int) (x0 : Int) (x1 : List Int) : Option (List Int) :=
  if x0 < (r1.1.length : Int) then
    if 0 ≤ x0 ∧ x0 < (r1.1.length : Int) then
      if 0 ≤ at' r1.1 x0 ∧ at' r1.1 x0 < (a1.length : Int) then
        if room 8 (x1 ++ [at' a1 (at' r1.1 x0)]).length then
          some (x1 ++ [at' a1 (at' r1.1 x0)]) >>= fun y2 =>
          M_thrumref09_Press_l0 a1 r1 (IntKind.i64.wrap (x0 + 1)) y2
        else none
      else none
    else none
  else
    some x1
  partial_fixpoint
def M_thrumref09_Press (a0 : Int) (a1 : List Int) : Option (Int × Int × (List Int) × (List Int) × Int × Int × Int) :=
  if (a1.length : Int) = 0 then
    some (0, 0, [], [], 0, 0, 1)
  else
    (M_thrumref09_Pick a0 a1) >>= fun r1 =>
    if r1.2 ≠ 0 then
      some (0, 0, [], [], 0, 0, r1.2)
    else
      (M_thrumref09_Press_l0 a1 r1 0 []) >>= fun j4 =>
      some (1, (a1.length : Int), r1.1, j4, 0, 0, 0)
def M_thrumref10_Steps (a0 : Int) : Option (Int × Int) :=
  ((
    if a0 < 1 then
      some true
    else
      some (decide (a0 > 8))) : Option Bool) >>= fun j1 =>
  if j1 = true then
    some (0, 1)
  else
    if 0 ≤ a0 then
      some (IntKind.u64.wrap ((sShl .u64 1 a0) - 1), 0)
    else none
def M_thrumref01_Sub (a0 : Int) (a1 : Int) : Option (Int × Int) :=
  ((
    if a1 < 0 then
      some (decide (a0 > (IntKind.i64.wrap (9223372036854775807 + a1))))
    else
      some false) : Option Bool) >>= fun j1 =>
  if j1 = true then
    some (0, 2)
  else
    if a1 > 0 then
      if a0 < (IntKind.i64.wrap ((-9223372036854775808) + a1)) then
        some (0, 2)
      else
        some (IntKind.i64.wrap (a0 - a1), 0)
    else
      some (IntKind.i64.wrap (a0 - a1), 0)
def M_thrumref01_Neg (a0 : Int) : Option (Int × Int) :=
  (M_thrumref01_Sub 0 a0) >>= fun r1 =>
  some (r1.1, r1.2)
def M_thrumref01_Abs (a0 : Int) : Option (Int × Int) :=
  if a0 < 0 then
    (M_thrumref01_Neg a0) >>= fun r1 =>
    some (r1.1, r1.2)
  else
    some (a0, 0)
def M_thrumref02_Most_l0 (a0 : List Int) (x0 : Int) (x1 : Int) : Option (Sum (Int × Int) Int) :=
  if x0 < (a0.length : Int) then
    if 0 ≤ x0 ∧ x0 < (a0.length : Int) then
      (M_thrumref01_Abs (at' a0 x0)) >>= fun r1 =>
      if r1.2 ≠ 0 then
        some (.inl (0, r1.2))
      else
        M_thrumref02_Most_l0 a0 (IntKind.i64.wrap (x0 + 1)) (if r1.1 > x1 then r1.1 else x1)
    else none
  else
    some (.inr x1)
  partial_fixpoint
def M_thrumref02_Most (a0 : List Int) : Option (Int × Int) :=
  if (a0.length : Int) > 4096 then
    some (0, 3)
  else
    (M_thrumref02_Most_l0 a0 0 0) >>= fun e => match e with
    | .inl r => some r
    | .inr j2 =>
      some (j2, 0)
def M_thrumref10_Level_l0 (a0 : Int) (a1 : Int) (r1 : Int × Int) (x0 : Int) (x1 : Int) (x2 : Int) : Option (Int × Int) :=
  if x0 < r1.1 then
    (M_thrumref09_Size a0) >>= fun r5 =>
    if (IntKind.u64.wrap (x1 + r5)) ≥ (IntKind.u64.wrap a1) then
      some (IntKind.u64.wrap ((IntKind.u64.wrap (x1 + r5)) - (IntKind.u64.wrap a1))) >>= fun y6 =>
      M_thrumref10_Level_l0 a0 a1 r1 (IntKind.u64.wrap (x0 + 1)) y6 (IntKind.u64.wrap (x2 + 1))
    else
      M_thrumref10_Level_l0 a0 a1 r1 (IntKind.u64.wrap (x0 + 1)) (IntKind.u64.wrap (x1 + r5)) x2
  else
    some (x1, x2)
  partial_fixpoint
def M_thrumref10_Level (a0 : Int) (a1 : Int) (a2 : Int) : Option (Int × Int × Int) :=
  (M_thrumref10_Steps a2) >>= fun r1 =>
  ((
    if r1.2 ≠ 0 then
      some true
    else
      some (decide (a1 < 0))) : Option Bool) >>= fun j2 =>
  ((
    if j2 = true then
      some true
    else
      (M_thrumref09_Size a0) >>= fun r3 =>
      some (decide (r3 > (IntKind.u64.wrap a1)))) : Option Bool) >>= fun j4 =>
  if j4 = true then
    some (0, 0, 1)
  else
    if a1 = 0 then
      some (0, 0, 0)
    else
      (M_thrumref10_Level_l0 a0 a1 r1 0 0 0) >>= fun j8 =>
      some (j8.2, j8.1, 0)
def M_thrumref08_At_l0 (a1 : List Int) (x0 : Int) (x1 : Int) : Option Int :=
  if x0 < (a1.length : Int) then
    if 0 ≤ x0 ∧ x0 < (a1.length : Int) then
      some (bXor .u64 (IntKind.u64.wrap ((bXor .u64 x1 (IntKind.u64.wrap (at' a1 x0))) * 11400714819323198485)) (sShr .u64 (IntKind.u64.wrap ((bXor .u64 x1 (IntKind.u64.wrap (at' a1 x0))) * 11400714819323198485)) 29)) >>= fun y1 =>
      M_thrumref08_At_l0 a1 (IntKind.i64.wrap (x0 + 1)) y1
    else none
  else
    some x1
  partial_fixpoint
def M_thrumref08_At (a0 : Int) (a1 : List Int) : Option Int :=
  (M_thrumref08_At_l0 a1 0 a0) >>= fun j3 =>
  some (bXor .u64 (IntKind.u64.wrap (j3 * 13787848793156543929)) (sShr .u64 (IntKind.u64.wrap (j3 * 13787848793156543929)) 32))
def M_thrumref08_Below (a0 : Int) (a1 : Int) (a2 : List Int) : Option (Int × Int) :=
  if a0 = 0 then
    some (0, 1)
  else
    (M_thrumref08_At a1 a2) >>= fun r1 =>
    if a0 ≠ 0 then
      some (Int.tmod r1 a0, 0)
    else none
def M_thrumref10_Press_l0 (a0 : List Int) (a1 : Int) (a2 : Int) (a3 : List Int) (r3 : Int × Int) (x0 : Int) (x1 : List Int) (x2 : List Bool) : Option ((List Int) × (List Bool)) :=
  if x0 < (a0.length : Int) then
    if 0 ≤ x0 ∧ x0 < (a0.length : Int) then
      (M_thrumref10_Level (at' a0 x0) r3.1 a1) >>= fun r4 =>
      ((
        if r4.2.1 > 0 then
          if room 8 (a3 : List Int).length then
            if room 8 (a3 ++ [x0]).length then
              (M_thrumref08_Below (IntKind.u64.wrap r3.1) a2 (a3 ++ [x0])) >>= fun r5 =>
              if r5.1 < r4.2.1 then
                some (IntKind.u64.wrap (r4.1 + 1))
              else
                some r4.1
            else none
          else none
        else
          some r4.1) : Option Int) >>= fun j6 =>
      if room 8 (x1 ++ [j6]).length then
        if room 1 (x2 ++ [decide ((at' a0 x0) < 0)]).length then
          some (x2 ++ [decide ((at' a0 x0) < 0)]) >>= fun y7 =>
          M_thrumref10_Press_l0 a0 a1 a2 a3 r3 (IntKind.i64.wrap (x0 + 1)) (x1 ++ [j6]) y7
        else none
      else none
    else none
  else
    some (x1, x2)
  partial_fixpoint
def M_thrumref10_Press (a0 : List Int) (a1 : Int) (a2 : Int) (a3 : List Int) : Option (Int × Int × Int × Int × (List Int) × (List Bool) × Int) :=
  (M_thrumref10_Steps a1) >>= fun r1 =>
  ((
    if r1.2 ≠ 0 then
      some true
    else
      some ((a0.length : Int) == 0)) : Option Bool) >>= fun j2 =>
  if j2 = true then
    some (0, 0, 0, 0, [], [], 1)
  else
    (M_thrumref02_Most a0) >>= fun r3 =>
    if r3.2 ≠ 0 then
      some (0, 0, 0, 0, [], [], r3.2)
    else
      (M_thrumref10_Press_l0 a0 a1 a2 a3 r3 0 [] []) >>= fun j9 =>
      some (2, (a0.length : Int), r3.1, a1, j9.1, j9.2, 0)
def M_thrumref01_Add (a0 : Int) (a1 : Int) : Option (Int × Int) :=
  ((
    if a1 > 0 then
      some (decide (a0 > (IntKind.i64.wrap (9223372036854775807 - a1))))
    else
      some false) : Option Bool) >>= fun j1 =>
  if j1 = true then
    some (0, 2)
  else
    if a1 < 0 then
      if a0 < (IntKind.i64.wrap ((-9223372036854775808) - a1)) then
        some (0, 2)
      else
        some (IntKind.i64.wrap (a0 + a1), 0)
    else
      some (IntKind.i64.wrap (a0 + a1), 0)
def M_thrumref02_Size_l0 (a0 : List Int) (x0 : Int) (x1 : Int) : Option (Sum (Int × Int) Int) :=
  if x0 < (a0.length : Int) then
    if 0 ≤ x0 ∧ x0 < (a0.length : Int) then
      (M_thrumref01_Abs (at' a0 x0)) >>= fun r1 =>
      if r1.2 ≠ 0 then
        some (.inl (0, r1.2))
      else
        (M_thrumref01_Add x1 r1.1) >>= fun r2 =>
        if r2.2 ≠ 0 then
          some (.inl (0, r2.2))
        else
          M_thrumref02_Size_l0 a0 (IntKind.i64.wrap (x0 + 1)) r2.1
    else none
  else
    some (.inr x1)
  partial_fixpoint
def M_thrumref02_Size (a0 : List Int) : Option (Int × Int) :=
  if (a0.length : Int) > 4096 then
    some (0, 3)
  else
    (M_thrumref02_Size_l0 a0 0 0) >>= fun e => match e with
    | .inl r => some r
    | .inr j3 =>
      some (j3, 0)
def M_thrumref11_Mean (a0 : List Int) : Option (Int × Int) :=
  if (a0.length : Int) = 0 then
    some (0, 1)
  else
    (M_thrumref02_Size a0) >>= fun r1 =>
    if r1.2 ≠ 0 then
      some (0, r1.2)
    else
      if (a0.length : Int) ≠ 0 then
        some (IntKind.i64.wrap (Int.tdiv r1.1 (a0.length : Int)), 0)
      else none
def M_thrumref11_Press_l0 (a0 : List Int) (r1 : Int × Int) (x0 : Int) (x1 : List Bool) : Option (List Bool) :=
  if x0 < (a0.length : Int) then
    if 0 ≤ x0 ∧ x0 < (a0.length : Int) then
      if room 1 (x1 ++ [decide ((at' a0 x0) < 0)]).length then
        some (x1 ++ [decide ((at' a0 x0) < 0)]) >>= fun y2 =>
        M_thrumref11_Press_l0 a0 r1 (IntKind.i64.wrap (x0 + 1)) y2
      else none
    else none
  else
    some x1
  partial_fixpoint
def M_thrumref11_Press (a0 : List Int) : Option (Int × Int × Int × Int × (List Bool) × Int) :=
  (M_thrumref11_Mean a0) >>= fun r1 =>
  if r1.2 ≠ 0 then
    some (0, 0, 0, 0, [], r1.2)
  else
    (M_thrumref11_Press_l0 a0 r1 0 []) >>= fun j4 =>
    some (3, (a0.length : Int), r1.1, 0, j4, 0)
def M_thrumref12_Press (a0 : T_api_How) (a1 : List Int) (a2 : Int) (a3 : List Int) : Option (Int × Int × (List Int) × (List Int) × Int × Int × (List Int) × (List Bool) × Int) :=
  if (a1.length : Int) > 4096 then
    some (0, 0, [], [], 0, 0, [], [], 3)
  else
    (M_thrumref12_Check a0 (a1.length : Int)) >>= fun r1 =>
    if r1 ≠ 0 then
      some (0, 0, [], [], 0, 0, [], [], r1)
    else
      if a0.F_Scheme = 1 then
        (M_thrumref09_Press a0.F_K a1) >>= fun r2 =>
        some (r2.1, r2.2.1, r2.2.2.1, r2.2.2.2.1, r2.2.2.2.2.1, r2.2.2.2.2.2.1, [], [], r2.2.2.2.2.2.2)
      else
        if a0.F_Scheme = 2 then
          (M_thrumref10_Press a1 a0.F_Wide a2 a3) >>= fun r3 =>
          some (r3.1, r3.2.1, [], [], r3.2.2.1, r3.2.2.2.1, r3.2.2.2.2.1, r3.2.2.2.2.2.1, r3.2.2.2.2.2.2)
        else
          if a0.F_Scheme = 3 then
            (M_thrumref11_Press a1) >>= fun r4 =>
            some (r4.1, r4.2.1, [], [], r4.2.2.1, r4.2.2.2.1, [], r4.2.2.2.2.1, r4.2.2.2.2.2)
          else
            if room 8 (a1 : List Int).length then
              some (0, (a1.length : Int), [], a1, 0, 0, [], [], 0)
            else none
def M_thrumref02_two (a0 : List Int) (a1 : List Int) : Option Int :=
  ((
    if (a0.length : Int) > 4096 then
      some true
    else
      some (decide ((a1.length : Int) > 4096))) : Option Bool) >>= fun j1 =>
  if j1 = true then
    some 3
  else
    if (a0.length : Int) ≠ (a1.length : Int) then
      some 4
    else
      some 0
def M_thrumref02_Add_l0 (a0 : List Int) (a1 : List Int) (x0 : Int) (x1 : List Int) : Option (Sum ((List Int) × Int) (List Int)) :=
  if x0 < (a0.length : Int) then
    if 0 ≤ x0 ∧ x0 < (a0.length : Int) then
      if 0 ≤ x0 ∧ x0 < (a1.length : Int) then
        (M_thrumref01_Add (at' a0 x0) (at' a1 x0)) >>= fun r2 =>
        if r2.2 ≠ 0 then
          some (.inl ([], r2.2))
        else
          if room 8 (x1 ++ [r2.1]).length then
            M_thrumref02_Add_l0 a0 a1 (IntKind.i64.wrap (x0 + 1)) (x1 ++ [r2.1])
          else none
      else none
    else none
  else
    some (.inr x1)
  partial_fixpoint
def M_thrumref02_Add (a0 : List Int) (a1 : List Int) : Option ((List Int) × Int) :=
  (M_thrumref02_two a0 a1) >>= fun r1 =>
  if r1 ≠ 0 then
    some ([], r1)
  else
    (M_thrumref02_Add_l0 a0 a1 0 []) >>= fun e => match e with
    | .inl r => some r
    | .inr j3 =>
      some (j3, 0)
def M_thrumref06_rises_l0 (a0 : List Int) (x0 : Int) : Option (Sum Bool Unit) :=
  if x0 < (a0.length : Int) then
    if 0 ≤ x0 ∧ x0 < (a0.length : Int) then
      if 0 ≤ IntKind.i64.wrap (x0 - 1) ∧ IntKind.i64.wrap (x0 - 1) < (a0.length : Int) then
        if (at' a0 x0) ≤ (at' a0 (IntKind.i64.wrap (x0 - 1))) then
          some (.inl false)
        else
          M_thrumref06_rises_l0 a0 (IntKind.i64.wrap (x0 + 1))
      else none
    else none
  else
    some (.inr ())
  partial_fixpoint
def M_thrumref06_rises (a0 : List Int) : Option Bool :=
  (M_thrumref06_rises_l0 a0 1) >>= fun e => match e with
  | .inl r => some r
  | .inr j1 =>
    some true
def M_thrumref06_Check_l0 (a0 : Int) (a1 : List Int) (x0 : Int) : Option (Sum Int Unit) :=
  if x0 < (a1.length : Int) then
    if 0 ≤ x0 ∧ x0 < (a1.length : Int) then
      ((
        if (at' a1 x0) < 0 then
          some true
        else
          some (decide ((at' a1 x0) ≥ a0))) : Option Bool) >>= fun j4 =>
      if j4 = true then
        some (.inl 1)
      else
        M_thrumref06_Check_l0 a0 a1 (IntKind.i64.wrap (x0 + 1))
    else none
  else
    some (.inr ())
  partial_fixpoint
def M_thrumref06_Check (a0 : Int) (a1 : List Int) : Option Int :=
  ((
    if a0 < 1 then
      some true
    else
      some (decide (a0 > 4096))) : Option Bool) >>= fun j1 =>
  ((
    if j1 = true then
      some true
    else
      (M_thrumref06_rises a1) >>= fun r2 =>
      some (!r2)) : Option Bool) >>= fun j3 =>
  if j3 = true then
    some 1
  else
    (M_thrumref06_Check_l0 a0 a1 0) >>= fun e => match e with
    | .inl r => some r
    | .inr j5 =>
      some 0
def M_thrumref05_Width_l0 (x0 : Int) (x1 : Int) : Option Int :=
  if x1 > 0 then
    M_thrumref05_Width_l0 (IntKind.i64.wrap (x0 + 1)) (IntKind.u64.wrap (Int.tdiv x1 2))
  else
    some x0
  partial_fixpoint
def M_thrumref05_Width (a0 : Int) : Option Int :=
  (M_thrumref05_Width_l0 0 a0) >>= fun j1 =>
  some j1
def M_thrumref07_May_l0 (a0 : T_api_Sent) (j2 : Bool) (x0 : Int) : Option (Sum Bool Unit) :=
  if x0 < (a0.F_Lev.length : Int) then
    if 0 ≤ x0 ∧ x0 < (a0.F_Lev.length : Int) then
      (M_thrumref05_Width (at' a0.F_Lev x0)) >>= fun r14 =>
      if r14 > a0.F_Wide then
        some (.inl false)
      else
        M_thrumref07_May_l0 a0 j2 (IntKind.i64.wrap (x0 + 1))
    else none
  else
    some (.inr ())
  partial_fixpoint
def M_thrumref07_May (a0 : T_api_Sent) : Option Bool :=
  ((
    if a0.F_Dim < 1 then
      some true
    else
      some (decide (a0.F_Dim > 4096))) : Option Bool) >>= fun j1 =>
  if j1 = true then
    some false
  else
    ((
      if (a0.F_L.length : Int) = 0 then
        some ((a0.F_V.length : Int) == 0)
      else
        some false) : Option Bool) >>= fun j2 =>
    ((
      if a0.F_Wide = 0 then
        some ((a0.F_Lev.length : Int) == 0)
      else
        some false) : Option Bool) >>= fun j3 =>
    ((
      if a0.F_Scale = 0 then
        some ((a0.F_Neg.length : Int) == 0)
      else
        some false) : Option Bool) >>= fun j4 =>
    if a0.F_Scheme = 0 then
      ((
        if (a0.F_L.length : Int) = 0 then
          some ((a0.F_V.length : Int) == a0.F_Dim)
        else
          some false) : Option Bool) >>= fun j5 =>
      ((
        if j5 = true then
          some j3
        else
          some false) : Option Bool) >>= fun j6 =>
      ((
        if j6 = true then
          some j4
        else
          some false) : Option Bool) >>= fun j7 =>
      some j7
    else
      if a0.F_Scheme = 1 then
        (M_thrumref06_Check a0.F_Dim a0.F_L) >>= fun r8 =>
        ((
          if r8 = 0 then
            some ((a0.F_V.length : Int) == (a0.F_L.length : Int))
          else
            some false) : Option Bool) >>= fun j9 =>
        ((
          if j9 = true then
            some j3
          else
            some false) : Option Bool) >>= fun j10 =>
        ((
          if j10 = true then
            some j4
          else
            some false) : Option Bool) >>= fun j11 =>
        some j11
      else
        if a0.F_Scheme = 2 then
          ((
            if a0.F_Wide < 1 then
              some true
            else
              some (decide (a0.F_Wide > 8))) : Option Bool) >>= fun j12 =>
          ((
            if j12 = true then
              some true
            else
              some ((a0.F_Lev.length : Int) != a0.F_Dim)) : Option Bool) >>= fun j13 =>
          if j13 = true then
            some false
          else
            (M_thrumref07_May_l0 a0 j2 0) >>= fun e => match e with
            | .inl r => some r
            | .inr j15 =>
              ((
                if j2 = true then
                  some (decide (a0.F_Scale ≥ 0))
                else
                  some false) : Option Bool) >>= fun j16 =>
              ((
                if j16 = true then
                  some ((a0.F_Neg.length : Int) == a0.F_Dim)
                else
                  some false) : Option Bool) >>= fun j17 =>
              some j17
        else
          if a0.F_Scheme = 3 then
            ((
              if j2 = true then
                some j3
              else
                some false) : Option Bool) >>= fun j18 =>
            ((
              if j18 = true then
                some (decide (a0.F_Scale ≥ 0))
              else
                some false) : Option Bool) >>= fun j19 =>
            ((
              if j19 = true then
                some ((a0.F_Neg.length : Int) == a0.F_Dim)
              else
                some false) : Option Bool) >>= fun j20 =>
            some j20
          else
            some false
def M_thrumref10_Value (a0 : Int) (a1 : Int) (a2 : Int) : Option (Int × Int) :=
  (M_thrumref10_Steps a2) >>= fun r1 =>
  ((
    if r1.2 ≠ 0 then
      some true
    else
      some (decide (a1 < 0))) : Option Bool) >>= fun j2 =>
  ((
    if j2 = true then
      some true
    else
      some (decide (a0 > r1.1))) : Option Bool) >>= fun j3 =>
  if j3 = true then
    some (0, 1)
  else
    if r1.1 ≠ 0 then
      if r1.1 ≠ 0 then
        some (IntKind.u64.wrap ((Int.tmod (IntKind.u64.wrap a1) r1.1) * a0)) >>= fun y4 =>
        some (IntKind.u64.wrap ((IntKind.u64.wrap (Int.tdiv (IntKind.u64.wrap a1) r1.1)) * a0)) >>= fun y6 =>
        if r1.1 ≠ 0 then
          some (IntKind.i64.wrap (IntKind.u64.wrap (y6 + (IntKind.u64.wrap (Int.tdiv y4 r1.1)))), 0)
        else none
      else none
    else none
def M_thrumref10_Loosen_l0 (a0 : T_api_Sent) (x0 : Int) (x1 : List Int) : Option (List Int) :=
  if x0 < (a0.F_Lev.length : Int) then
    if 0 ≤ x0 ∧ x0 < (a0.F_Lev.length : Int) then
      (M_thrumref10_Value (at' a0.F_Lev x0) a0.F_Scale a0.F_Wide) >>= fun r3 =>
      if 0 ≤ x0 ∧ x0 < (a0.F_Neg.length : Int) then
        if (at' a0.F_Neg x0) = true then
          if room 8 (x1 ++ [IntKind.i64.wrap (0 - r3.1)]).length then
            some (x1 ++ [IntKind.i64.wrap (0 - r3.1)]) >>= fun y4 =>
            M_thrumref10_Loosen_l0 a0 (IntKind.i64.wrap (x0 + 1)) y4
          else none
        else
          if room 8 (x1 ++ [r3.1]).length then
            M_thrumref10_Loosen_l0 a0 (IntKind.i64.wrap (x0 + 1)) (x1 ++ [r3.1])
          else none
      else none
    else none
  else
    some x1
  partial_fixpoint
def M_thrumref10_Loosen (a0 : T_api_Sent) : Option ((List Int) × Int) :=
  (M_thrumref07_May a0) >>= fun r1 =>
  ((
    if r1 = false then
      some true
    else
      some (a0.F_Scheme != 2)) : Option Bool) >>= fun j2 =>
  if j2 = true then
    some ([], 1)
  else
    (M_thrumref10_Loosen_l0 a0 0 []) >>= fun j6 =>
    some (j6, 0)
def M_thrumref11_Loosen_l0 (a0 : T_api_Sent) (x0 : Int) (x1 : List Int) : Option (List Int) :=
  if x0 < (a0.F_Neg.length : Int) then
    if 0 ≤ x0 ∧ x0 < (a0.F_Neg.length : Int) then
      if (at' a0.F_Neg x0) = true then
        if room 8 (x1 ++ [IntKind.i64.wrap (0 - a0.F_Scale)]).length then
          some (x1 ++ [IntKind.i64.wrap (0 - a0.F_Scale)]) >>= fun y3 =>
          M_thrumref11_Loosen_l0 a0 (IntKind.i64.wrap (x0 + 1)) y3
        else none
      else
        if room 8 (x1 ++ [a0.F_Scale]).length then
          M_thrumref11_Loosen_l0 a0 (IntKind.i64.wrap (x0 + 1)) (x1 ++ [a0.F_Scale])
        else none
    else none
  else
    some x1
  partial_fixpoint
def M_thrumref11_Loosen (a0 : T_api_Sent) : Option ((List Int) × Int) :=
  (M_thrumref07_May a0) >>= fun r1 =>
  ((
    if r1 = false then
      some true
    else
      some (a0.F_Scheme != 3)) : Option Bool) >>= fun j2 =>
  if j2 = true then
    some ([], 1)
  else
    (M_thrumref11_Loosen_l0 a0 0 []) >>= fun j5 =>
    some (j5, 0)
def M_thrumref12_Loosen_l0 (a0 : T_api_Sent) (x0 : Int) (x1 : List Int) : Option (List Int) :=
  if x0 < (a0.F_L.length : Int) then
    if 0 ≤ x0 ∧ x0 < (a0.F_L.length : Int) then
      if 0 ≤ x0 ∧ x0 < (a0.F_V.length : Int) then
        if 0 ≤ at' a0.F_L x0 ∧ at' a0.F_L x0 < (x1.length : Int) then
          some (x1.set (Int.toNat (at' a0.F_L x0)) (at' a0.F_V x0)) >>= fun y4 =>
          M_thrumref12_Loosen_l0 a0 (IntKind.i64.wrap (x0 + 1)) y4
        else none
      else none
    else none
  else
    some x1
  partial_fixpoint
def M_thrumref12_Loosen (a0 : T_api_Sent) : Option ((List Int) × Int) :=
  (M_thrumref07_May a0) >>= fun r1 =>
  if r1 = false then
    some ([], 1)
  else
    if a0.F_Scheme = 1 then
      if 0 ≤ a0.F_Dim ∧ a0.F_Dim ≤ a0.F_Dim ∧ a0.F_Dim ≤ 140737488355328 ∧ a0.F_Dim * ((8 : Nat) : Int) ≤ 140737488355328 then
        some (List.replicate (Int.toNat a0.F_Dim) 0) >>= fun y2 =>
        (M_thrumref12_Loosen_l0 a0 0 y2) >>= fun j6 =>
        some (j6, 0)
      else none
    else
      if a0.F_Scheme = 2 then
        (M_thrumref10_Loosen a0) >>= fun r7 =>
        some (r7.1, r7.2)
      else
        if a0.F_Scheme = 3 then
          (M_thrumref11_Loosen a0) >>= fun r8 =>
          some (r8.1, r8.2)
        else
          if room 8 (a0.F_V : List Int).length then
            some (a0.F_V, 0)
          else none
def M_thrumref02_Sub_l0 (a0 : List Int) (a1 : List Int) (x0 : Int) (x1 : List Int) : Option (Sum ((List Int) × Int) (List Int)) :=
  if x0 < (a0.length : Int) then
    if 0 ≤ x0 ∧ x0 < (a0.length : Int) then
      if 0 ≤ x0 ∧ x0 < (a1.length : Int) then
        (M_thrumref01_Sub (at' a0 x0) (at' a1 x0)) >>= fun r2 =>
        if r2.2 ≠ 0 then
          some (.inl ([], r2.2))
        else
          if room 8 (x1 ++ [r2.1]).length then
            M_thrumref02_Sub_l0 a0 a1 (IntKind.i64.wrap (x0 + 1)) (x1 ++ [r2.1])
          else none
      else none
    else none
  else
    some (.inr x1)
  partial_fixpoint
def M_thrumref02_Sub (a0 : List Int) (a1 : List Int) : Option ((List Int) × Int) :=
  (M_thrumref02_two a0 a1) >>= fun r1 =>
  if r1 ≠ 0 then
    some ([], r1)
  else
    (M_thrumref02_Sub_l0 a0 a1 0 []) >>= fun e => match e with
    | .inl r => some r
    | .inr j3 =>
      some (j3, 0)
def M_thrumref12_Left (a0 : List Int) (a1 : T_api_Sent) : Option ((List Int) × Int) :=
  (M_thrumref12_Loosen a1) >>= fun r1 =>
  if r1.2 ≠ 0 then
    some ([], r1.2)
  else
    (M_thrumref02_Sub a0 r1.1) >>= fun r2 =>
    some (r2.1, r2.2)
def M_thrumref12_Round (a0 : T_api_How) (a1 : List Int) (a2 : List Int) (a3 : Int) (a4 : List Int) : Option (Int × Int × (List Int) × (List Int) × Int × Int × (List Int) × (List Bool) × (List Int) × Int) :=
  (M_thrumref02_Add a1 a2) >>= fun r1 =>
  if r1.2 ≠ 0 then
    some (0, 0, [], [], 0, 0, [], [], [], r1.2)
  else
    (M_thrumref12_Press a0 r1.1 a3 a4) >>= fun r2 =>
    if r2.2.2.2.2.2.2.2.2 ≠ 0 then
      some (0, 0, [], [], 0, 0, [], [], [], r2.2.2.2.2.2.2.2.2)
    else
      (M_thrumref12_Left r1.1 (⟨r2.1, r2.2.1, r2.2.2.1, r2.2.2.2.1, r2.2.2.2.2.1, r2.2.2.2.2.2.1, r2.2.2.2.2.2.2.1, r2.2.2.2.2.2.2.2.1⟩ : T_api_Sent)) >>= fun r3 =>
      if r3.2 ≠ 0 then
        some (0, 0, [], [], 0, 0, [], [], [], r3.2)
      else
        some (r2.1, r2.2.1, r2.2.2.1, r2.2.2.2.1, r2.2.2.2.2.1, r2.2.2.2.2.2.1, r2.2.2.2.2.2.2.1, r2.2.2.2.2.2.2.2.1, r3.1, 0)
def M_thrumref06_Equal_l0 (a0 : List Int) (a1 : List Int) (x0 : Int) : Option (Sum Bool Unit) :=
  if x0 < (a0.length : Int) then
    if 0 ≤ x0 ∧ x0 < (a0.length : Int) then
      if 0 ≤ x0 ∧ x0 < (a1.length : Int) then
        if (at' a0 x0) ≠ (at' a1 x0) then
          some (.inl false)
        else
          M_thrumref06_Equal_l0 a0 a1 (IntKind.i64.wrap (x0 + 1))
      else none
    else none
  else
    some (.inr ())
  partial_fixpoint
def M_thrumref06_Equal (a0 : List Int) (a1 : List Int) : Option Bool :=
  if (a0.length : Int) ≠ (a1.length : Int) then
    some false
  else
    (M_thrumref06_Equal_l0 a0 a1 0) >>= fun e => match e with
    | .inl r => some r
    | .inr j1 =>
      some true
def M_thrumref03_SameNumbers_l0 (a0 : List Int) (a1 : List Int) (x0 : Int) : Option (Sum Bool Unit) :=
  if x0 < (a0.length : Int) then
    if 0 ≤ x0 ∧ x0 < (a0.length : Int) then
      if 0 ≤ x0 ∧ x0 < (a1.length : Int) then
        if (at' a0 x0) ≠ (at' a1 x0) then
          some (.inl false)
        else
          M_thrumref03_SameNumbers_l0 a0 a1 (IntKind.i64.wrap (x0 + 1))
      else none
    else none
  else
    some (.inr ())
  partial_fixpoint
def M_thrumref03_SameNumbers (a0 : List Int) (a1 : List Int) : Option Bool :=
  if (a0.length : Int) ≠ (a1.length : Int) then
    some false
  else
    (M_thrumref03_SameNumbers_l0 a0 a1 0) >>= fun e => match e with
    | .inl r => some r
    | .inr j1 =>
      some true
def M_thrumref05_SameSigns_l0 (a0 : List Bool) (a1 : List Bool) (x0 : Int) : Option (Sum Bool Unit) :=
  if x0 < (a0.length : Int) then
    if 0 ≤ x0 ∧ x0 < (a0.length : Int) then
      if 0 ≤ x0 ∧ x0 < (a1.length : Int) then
        if (at' a0 x0) ≠ (at' a1 x0) then
          some (.inl false)
        else
          M_thrumref05_SameSigns_l0 a0 a1 (IntKind.i64.wrap (x0 + 1))
      else none
    else none
  else
    some (.inr ())
  partial_fixpoint
def M_thrumref05_SameSigns (a0 : List Bool) (a1 : List Bool) : Option Bool :=
  if (a0.length : Int) ≠ (a1.length : Int) then
    some false
  else
    (M_thrumref05_SameSigns_l0 a0 a1 0) >>= fun e => match e with
    | .inl r => some r
    | .inr j1 =>
      some true
def M_thrumref07_SameSent (a0 : T_api_Sent) (a1 : T_api_Sent) : Option Bool :=
  ((
    if a0.F_Scheme = a1.F_Scheme then
      some (a0.F_Dim == a1.F_Dim)
    else
      some false) : Option Bool) >>= fun j1 =>
  ((
    if j1 = true then
      (M_thrumref06_Equal a0.F_L a1.F_L) >>= fun r2 =>
      some r2
    else
      some false) : Option Bool) >>= fun j3 =>
  ((
    if j3 = true then
      (M_thrumref02_Same a0.F_V a1.F_V) >>= fun r4 =>
      some r4
    else
      some false) : Option Bool) >>= fun j5 =>
  ((
    if j5 = true then
      some (a0.F_Scale == a1.F_Scale)
    else
      some false) : Option Bool) >>= fun j6 =>
  ((
    if j6 = true then
      some (a0.F_Wide == a1.F_Wide)
    else
      some false) : Option Bool) >>= fun j7 =>
  ((
    if j7 = true then
      (M_thrumref03_SameNumbers a0.F_Lev a1.F_Lev) >>= fun r8 =>
      some r8
    else
      some false) : Option Bool) >>= fun j9 =>
  ((
    if j9 = true then
      (M_thrumref05_SameSigns a0.F_Neg a1.F_Neg) >>= fun r10 =>
      some r10
    else
      some false) : Option Bool) >>= fun j11 =>
  some j11
def M_thrumlaw12_PressPresses_l0 (a0 : T_api_How) (a1 : List Int) (a5 : Int) (r1 : Bool) (r3 : Int × Int × (List Int) × (List Int) × Int × Int × (List Int) × (List Bool) × Int) (x0 : Int) (x1 : List Int) : Option Unit :=
  if x0 < (r3.2.2.2.1.length : Int) then
    if 0 ≤ x0 ∧ x0 < (x1.length : Int) then
      if 0 ≤ x0 ∧ x0 < (x1.length : Int) then
        some (x1.set (Int.toNat x0) (IntKind.i64.wrap ((at' x1 x0) + 1))) >>= fun y14 =>
        M_thrumlaw12_PressPresses_l0 a0 a1 a5 r1 r3 (IntKind.i64.wrap (x0 + 1)) y14
      else none
    else none
  else
    some ()
  partial_fixpoint
def M_thrumlaw12_PressPresses (a0 : T_api_How) (a1 : List Int) (a2 : List Int) (a3 : Int) (a4 : List Int) (a5 : Int) : Option Bool :=
  (M_thrumlaw12_live) >>= fun r1 =>
  if r1 = false then
    some false
  else
    (M_thrumlaw12_few a4 [a1, a2]) >>= fun r2 =>
    if r2 = false then
      some r1
    else
      if room 8 (a1 : List Int).length then
        (M_press_Press a0 a1 a3 a4) >>= fun r3 =>
        (M_thrumref12_Press a0 a1 a3 a4) >>= fun r4 =>
        (M_press_Round a0 a1 a2 a3 a4) >>= fun r5 =>
        (M_thrumref12_Round a0 a1 a2 a3 a4) >>= fun r6 =>
        (M_thrumref07_SameSent (⟨r3.1, r3.2.1, r3.2.2.1, r3.2.2.2.1, r3.2.2.2.2.1, r3.2.2.2.2.2.1, r3.2.2.2.2.2.2.1, r3.2.2.2.2.2.2.2.1⟩ : T_api_Sent) (⟨r4.1, r4.2.1, r4.2.2.1, r4.2.2.2.1, r4.2.2.2.2.1, r4.2.2.2.2.2.1, r4.2.2.2.2.2.2.1, r4.2.2.2.2.2.2.2.1⟩ : T_api_Sent)) >>= fun r7 =>
        ((
          if r7 = false then
            some true
          else
            some (r3.2.2.2.2.2.2.2.2 != r4.2.2.2.2.2.2.2.2)) : Option Bool) >>= fun j8 =>
        ((
          if j8 = true then
            some true
          else
            (M_thrumref07_SameSent (⟨r5.1, r5.2.1, r5.2.2.1, r5.2.2.2.1, r5.2.2.2.2.1, r5.2.2.2.2.2.1, r5.2.2.2.2.2.2.1, r5.2.2.2.2.2.2.2.1⟩ : T_api_Sent) (⟨r6.1, r6.2.1, r6.2.2.1, r6.2.2.2.1, r6.2.2.2.2.1, r6.2.2.2.2.2.1, r6.2.2.2.2.2.2.1, r6.2.2.2.2.2.2.2.1⟩ : T_api_Sent)) >>= fun r9 =>
            some (!r9)) : Option Bool) >>= fun j10 =>
        ((
          if j10 = true then
            some true
          else
            (M_thrumref02_Same r5.2.2.2.2.2.2.2.2.1 r6.2.2.2.2.2.2.2.2.1) >>= fun r11 =>
            some (!r11)) : Option Bool) >>= fun j12 =>
        ((
          if j12 = true then
            some true
          else
            some (r5.2.2.2.2.2.2.2.2.2 != r6.2.2.2.2.2.2.2.2.2)) : Option Bool) >>= fun j13 =>
        if j13 = true then
          some false
        else
          (M_thrumlaw12_PressPresses_l0 a0 a1 a5 r1 r3 0 r3.2.2.2.1) >>= fun j16 =>
          if r1 = true then
            (M_press_Check a0 a5) >>= fun r17 =>
            (M_thrumref12_Check a0 a5) >>= fun r18 =>
            if r17 = r18 then
              (M_thrumref02_Same a1 a1) >>= fun r19 =>
              some r19
            else
              some false
          else
            some false
      else none
end Go.Proofs.YtdgdgfckcnjpfaaGreat.Abs
