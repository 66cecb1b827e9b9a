/- Models of functions, printed by a program. Conditions: none. -/
import Derived.Test.YtelobmiooldoaaaCrcD
import Derived.Test.YtelobmiooldoaaaChunk
import Derived.Test.YtelobmiooldoaaaAbs5
namespace Go.Proofs.Ytelobmiooldoaaa.Abs
open Go Go.RowKit
set_option linter.unusedVariables false
set_option maxRecDepth 100000

structure T_api_Store where
  F_Cells : List (List Int)
  deriving Inhabited, DecidableEq
structure T_api_Put where
  F_At : Int
  F_B : List Int
  deriving Inhabited, DecidableEq
def T_api_Store.en (x : T_api_Store) : D := .agg [.lst (List.map (enL (D.int .u8)) x.F_Cells)]
def T_api_Put.en (x : T_api_Put) : D := .agg [.int .i64 x.F_At, .lst (List.map (D.int .u8) x.F_B)]
def M_store_New (a0 : Int) : Option ((List (List Int)) × Int) :=
  ((
    if a0 < 1 then
      some true
    else
      some (decide (a0 > 64))) : Option Bool) >>= fun j1 =>
  if j1 = true then
    some ([], 1)
  else
    if 0 ≤ IntKind.i64.wrap (2 + (IntKind.i64.wrap (2 * a0))) ∧ IntKind.i64.wrap (2 + (IntKind.i64.wrap (2 * a0))) ≤ IntKind.i64.wrap (2 + (IntKind.i64.wrap (2 * a0))) ∧ IntKind.i64.wrap (2 + (IntKind.i64.wrap (2 * a0))) ≤ 140737488355328 ∧ (IntKind.i64.wrap (2 + (IntKind.i64.wrap (2 * a0)))) * ((24 : Nat) : Int) ≤ 140737488355328 then
      some (List.replicate (Int.toNat (IntKind.i64.wrap (2 + (IntKind.i64.wrap (2 * a0))))) [], 0)
    else none
def M_store_Check_1 (a0 : List Int) : Option Bool :=
  some (decide ((a0.length : Int) > 256))
def M_slices_IndexFunc_byte_byte_store_Check_1_l0 (a0 : List (List Int)) (x0 : Int) : Option (Sum Int Unit) :=
  if x0 < (a0.length : Int) then
    if 0 ≤ x0 ∧ x0 < (a0.length : Int) then
      (M_store_Check_1 (at' a0 x0)) >>= fun r1 =>
      if r1 = true then
        some (.inl x0)
      else
        M_slices_IndexFunc_byte_byte_store_Check_1_l0 a0 (IntKind.i64.wrap (x0 + 1))
    else none
  else
    some (.inr ())
  partial_fixpoint
def M_slices_IndexFunc_byte_byte_store_Check_1 (a0 : List (List Int)) : Option Int :=
  (M_slices_IndexFunc_byte_byte_store_Check_1_l0 a0 0) >>= fun e => match e with
  | .inl r => some r
  | .inr j2 =>
    some (-1)
def M_slices_ContainsFunc_byte_byte_store_Check_1 (a0 : List (List Int)) : Option Bool :=
  (M_slices_IndexFunc_byte_byte_store_Check_1 a0) >>= fun r1 =>
  some (decide (r1 ≥ 0))
def M_store_Check (a0 : T_api_Store) : Option Int :=
  ((
    if (IntKind.i64.wrap ((a0.F_Cells.length : Int) - 2)) < 2 then
      some true
    else
      some (decide ((IntKind.i64.wrap ((a0.F_Cells.length : Int) - 2)) > 128))) : Option Bool) >>= fun j1 =>
  ((
    if j1 = true then
      some true
    else
      some ((Int.tmod (IntKind.i64.wrap ((a0.F_Cells.length : Int) - 2)) 2) == 1)) : Option Bool) >>= fun j2 =>
  ((
    if j2 = true then
      some true
    else
      (M_slices_ContainsFunc_byte_byte_store_Check_1 a0.F_Cells) >>= fun r3 =>
      some r3) : Option Bool) >>= fun j4 =>
  if j4 = true then
    some 1
  else
    some 0
def M_slices_Clone_byte_byte (a0 : List Int) : Option (List Int) :=
  if room 1 ([] ++ a0).length then
    some ([] ++ a0)
  else none
def M_crc_Sum (a0 : List Int) : Option Int :=
  (M_crc_More 0 a0) >>= fun r1 =>
  some r1
def M_crc_Seal_l0 (x0 : Int) (x1 : Int) (x2 : List Int) : Option (List Int) :=
  if x0 < 4 then
    if room 1 (x2 ++ [IntKind.u8.wrap x1]).length then
      some (x2 ++ [IntKind.u8.wrap x1]) >>= fun y3 =>
      M_crc_Seal_l0 (IntKind.i64.wrap (x0 + 1)) (sShr .u32 x1 8) y3
    else none
  else
    some x2
  partial_fixpoint
def M_crc_Seal (a0 : List Int) : Option ((List Int) × Int) :=
  if (a0.length : Int) > 65532 then
    some ([], 3)
  else
    (M_slices_Clone_byte_byte a0) >>= fun r1 =>
    (M_crc_Sum a0) >>= fun r2 =>
    (M_crc_Seal_l0 0 r2 r1) >>= fun j5 =>
    some (j5, 0)
def M_slices_Equal_byte_byte_l0 (a0 : List Int) (a1 : List Int) (x0 : Int) : Option (Sum Bool Unit) :=
  if x0 < (a0.length : Int) then
    if 0 ≤ x0 ∧ x0 < (a0.length : Int) then
      if 0 ≤ x0 ∧ x0 < (a1.length : Int) then
        if (at' a0 x0) ≠ (at' a1 x0) then
          some (.inl false)
        else
          M_slices_Equal_byte_byte_l0 a0 a1 (IntKind.i64.wrap (x0 + 1))
      else none
    else none
  else
    some (.inr ())
  partial_fixpoint
def M_slices_Equal_byte_byte (a0 : List Int) (a1 : List Int) : Option Bool :=
  if (a0.length : Int) ≠ (a1.length : Int) then
    some false
  else
    (M_slices_Equal_byte_byte_l0 a0 a1 0) >>= fun e => match e with
    | .inl r => some r
    | .inr j1 =>
      some true
def M_crc_Open (a0 : List Int) : Option ((List Int) × Int) :=
  if (a0.length : Int) > 65536 then
    some ([], 3)
  else
    if (IntKind.i64.wrap ((a0.length : Int) - 4)) < 0 then
      some ([], 5)
    else
      if cutOk none (some (IntKind.i64.wrap ((a0.length : Int) - 4))) a0.length then
        some (cut' a0 none (some (IntKind.i64.wrap ((a0.length : Int) - 4)))) >>= fun y1 =>
        (M_crc_Seal y1) >>= fun r3 =>
        ((
          if r3.2 ≠ 0 then
            some true
          else
            (M_slices_Equal_byte_byte r3.1 a0) >>= fun r4 =>
            some (!r4)) : Option Bool) >>= fun j5 =>
        if j5 = true then
          some ([], 7)
        else
          if cutOk none (some (IntKind.i64.wrap ((a0.length : Int) - 4))) a0.length then
            some (cut' a0 none (some (IntKind.i64.wrap ((a0.length : Int) - 4)))) >>= fun y6 =>
            (M_slices_Clone_byte_byte y6) >>= fun r8 =>
            some (r8, 0)
          else none
      else none
def M_leb_Get_l0 (a1 : Int) (y1 : List Int) (x0 : Int) (x1 : Int) : Option (Sum (Int × Int × Int) Unit) :=
  if x0 < (y1.length : Int) then
    if 0 ≤ x0 ∧ x0 < (y1.length : Int) then
      ((
        if x0 = 9 then
          some (decide ((at' y1 x0) > 1))
        else
          some false) : Option Bool) >>= fun j3 =>
      ((
        if j3 = true then
          some true
        else
          ((
            if (at' y1 x0) < 128 then
              some ((at' y1 x0) == 0)
            else
              some false) : Option Bool) >>= fun j4 =>
          ((
            if j4 = true then
              some (decide (x0 > 0))
            else
              some false) : Option Bool) >>= fun j5 =>
          some j5) : Option Bool) >>= fun j6 =>
      if j6 = true then
        some (.inl (0, 0, 6))
      else
        if 0 ≤ IntKind.i64.wrap (7 * x0) then
          some (bOr .u64 x1 (sShl .u64 (IntKind.u64.wrap (bAnd .u8 (at' y1 x0) 127)) (IntKind.i64.wrap (7 * x0)))) >>= fun y7 =>
          if (at' y1 x0) < 128 then
            some (.inl (y7, IntKind.i64.wrap ((IntKind.i64.wrap (a1 + x0)) + 1), 0))
          else
            M_leb_Get_l0 a1 y1 (IntKind.i64.wrap (x0 + 1)) y7
        else none
    else none
  else
    some (.inr ())
  partial_fixpoint
def M_leb_Get (a0 : List Int) (a1 : Int) : Option (Int × Int × Int) :=
  if a1 < 0 then
    some (0, 0, 1)
  else
    if cutOk (some (if (a0.length : Int) < a1 then (a0.length : Int) else a1)) none a0.length then
      some (cut' a0 (some (if (a0.length : Int) < a1 then (a0.length : Int) else a1)) none) >>= fun y1 =>
      (M_leb_Get_l0 a1 y1 0 0) >>= fun e => match e with
      | .inl r => some r
      | .inr j9 =>
        some (0, 0, 5)
    else none
def M_leb_Many_l0 (a0 : List Int) (a2 : Int) (x0 : List Int) (x1 : Int) : Option (Sum ((List Int) × Int × Int) ((List Int) × Int)) :=
  if (x0.length : Int) < a2 then
    (M_leb_Get a0 x1) >>= fun r1 =>
    if r1.2.2 ≠ 0 then
      some (.inl ([], 0, r1.2.2))
    else
      if room 8 (x0 ++ [r1.1]).length then
        M_leb_Many_l0 a0 a2 (x0 ++ [r1.1]) r1.2.1
      else none
  else
    some (.inr (x0, x1))
  partial_fixpoint
def M_leb_Many (a0 : List Int) (a1 : Int) (a2 : Int) : Option ((List Int) × Int × Int) :=
  if a2 < 0 then
    some ([], 0, 1)
  else
    (M_leb_Many_l0 a0 a2 [] a1) >>= fun e => match e with
    | .inl r => some r
    | .inr j2 =>
      some (j2.1, j2.2, 0)
def M_store_half (a0 : T_api_Store) (a1 : Int) : Option (List (List Int)) :=
  some (IntKind.i64.wrap (2 + (IntKind.i64.wrap (a1 * (IntKind.i64.wrap (Int.tdiv (IntKind.i64.wrap ((a0.F_Cells.length : Int) - 2)) 2)))))) >>= fun y1 =>
  some (IntKind.i64.wrap (y1 + (IntKind.i64.wrap (Int.tdiv (IntKind.i64.wrap ((a0.F_Cells.length : Int) - 2)) 2)))) >>= fun y3 =>
  if cutOk (some y1) (some y3) a0.F_Cells.length then
    some (cut' a0.F_Cells (some y1) (some y3))
  else none
def M_store_kept_l0 (r2 : (List Int) × Int × Int) (x0 : Int) (x1 : List Int) (x2 : List (List Int)) : Option (Sum ((List Int) × Int) (List Int)) :=
  if x0 > 0 then
    if 0 ≤ (0 : Int) ∧ (0 : Int) < (x2.length : Int) then
      if ((at' x2 0).length : Int) ≠ (if (256 : Int) < x0 then 256 else x0) then
        some (.inl ([], 0))
      else
        if 0 ≤ (0 : Int) ∧ (0 : Int) < (x2.length : Int) then
          if room 1 (x1 ++ (at' x2 0)).length then
            if 0 ≤ (0 : Int) ∧ (0 : Int) < (x2.length : Int) then
              if cutOk (some 1) none x2.length then
                M_store_kept_l0 r2 (IntKind.i64.wrap (x0 - ((at' x2 0).length : Int))) (x1 ++ (at' x2 0)) (cut' x2 (some 1) none)
              else none
            else none
          else none
        else none
    else none
  else
    some (.inr x1)
  partial_fixpoint
def M_store_kept (a0 : T_api_Store) (a1 : Int) : Option ((List Int) × Int) :=
  if 0 ≤ a1 ∧ a1 < (a0.F_Cells.length : Int) then
    (M_crc_Open (at' a0.F_Cells a1)) >>= fun r1 =>
    if r1.2 ≠ 0 then
      some ([], 0)
    else
      (M_leb_Many r1.1 0 2) >>= fun r2 =>
      (M_store_half a0 a1) >>= fun r3 =>
      ((
        if r2.2.2 ≠ 0 then
          some true
        else
          some (decide (r2.2.1 < (r1.1.length : Int)))) : Option Bool) >>= fun j4 =>
      ((
        if j4 = true then
          some true
        else
          if 0 ≤ (0 : Int) ∧ (0 : Int) < (r2.1.length : Int) then
            some (decide ((at' r2.1 0) > 1073741824))
          else none) : Option Bool) >>= fun j5 =>
      ((
        if j5 = true then
          some true
        else
          if 0 ≤ (0 : Int) ∧ (0 : Int) < (r2.1.length : Int) then
            some ((bAnd .u64 (at' r2.1 0) 1) != (IntKind.u64.wrap a1))
          else none) : Option Bool) >>= fun j6 =>
      ((
        if j6 = true then
          some true
        else
          if 0 ≤ (1 : Int) ∧ (1 : Int) < (r2.1.length : Int) then
            some (decide ((at' r2.1 1) > (IntKind.u64.wrap (IntKind.i64.wrap ((r3.length : Int) * 256)))))
          else none) : Option Bool) >>= fun j7 =>
      if j7 = true then
        some ([], 0)
      else
        if 0 ≤ (1 : Int) ∧ (1 : Int) < (r2.1.length : Int) then
          (M_store_kept_l0 r2 (IntKind.i64.wrap (at' r2.1 1)) [] r3) >>= fun e => match e with
          | .inl r => some r
          | .inr j8 =>
            if 0 ≤ (0 : Int) ∧ (0 : Int) < (r2.1.length : Int) then
              some (j8, IntKind.i64.wrap (at' r2.1 0))
            else none
        else none
  else none
def M_store_Load (a0 : T_api_Store) : Option ((List Int) × Int × Int) :=
  (M_store_Check a0) >>= fun r1 =>
  if r1 ≠ 0 then
    some ([], 0, r1)
  else
    (M_store_kept a0 0) >>= fun r2 =>
    (M_store_kept a0 1) >>= fun r3 =>
    if r3.2 > r2.2 then
      if r3.2 = 0 then
        some ([], 0, 8)
      else
        some (r3.1, r3.2, 0)
    else
      if r2.2 = 0 then
        some ([], 0, 8)
      else
        some (r2.1, r2.2, 0)
def M_slices_Chunk_byte_byte (a0 : List Int) (a1 : Int) : Option ((List Int) × Int) :=
  if a1 < 1 then
    none
  else
    some (a0, a1)
def M_leb_put_l0 (x0 : List Int) (x1 : Int) : Option ((List Int) × Int) :=
  if x1 > 127 then
    if room 1 (x0 ++ [bOr .u8 (IntKind.u8.wrap x1) 128]).length then
      some (x0 ++ [bOr .u8 (IntKind.u8.wrap x1) 128]) >>= fun y1 =>
      M_leb_put_l0 y1 (sShr .u64 x1 7)
    else none
  else
    some (x0, x1)
  partial_fixpoint
def M_leb_put (a0 : List Int) (a1 : Int) : Option (List Int) :=
  (M_leb_put_l0 a0 a1) >>= fun j3 =>
  if room 1 (j3.1 ++ [IntKind.u8.wrap j3.2]).length then
    some (j3.1 ++ [IntKind.u8.wrap j3.2])
  else none
def M_leb_Put_l0 (a1 : List Int) (x0 : Int) (x1 : List Int) : Option (List Int) :=
  if x0 < (a1.length : Int) then
    if 0 ≤ x0 ∧ x0 < (a1.length : Int) then
      (M_leb_put x1 (at' a1 x0)) >>= fun r2 =>
      M_leb_Put_l0 a1 (IntKind.i64.wrap (x0 + 1)) r2
    else none
  else
    some x1
  partial_fixpoint
def M_leb_Put (a0 : List Int) (a1 : List Int) : Option (List Int) :=
  (M_slices_Clone_byte_byte a0) >>= fun r1 =>
  (M_leb_Put_l0 a1 0 r1) >>= fun j3 =>
  some j3
def M_store_Plan (a0 : T_api_Store) (a1 : List Int) : Option ((List T_api_Put) × Int) :=
  (M_store_Load a0) >>= fun r1 =>
  ((
    if r1.2.2 ≠ 0 then
      some (r1.2.2 != 8)
    else
      some false) : Option Bool) >>= fun j2 =>
  if j2 = true then
    some ([], r1.2.2)
  else
    (M_store_half a0 (bAnd .i64 (IntKind.i64.wrap (r1.2.1 + 1)) 1)) >>= fun r3 =>
    if (a1.length : Int) > (IntKind.i64.wrap ((r3.length : Int) * 256)) then
      some ([], 3)
    else
      if (IntKind.i64.wrap (r1.2.1 + 1)) > 1073741824 then
        some ([], 1)
      else
        (M_slices_Chunk_byte_byte a1 256) >>= fun r4 =>
        (if 1 ≤ r4.2 ∧ r4.2 ≤ 4611686018427387904 ∧ r4.1.length ≤ 4611686018427387904 then List.foldlM (fun (x_5 : (List T_api_Put)) (c_6 : List Int) => ((
          (M_slices_Clone_byte_byte c_6) >>= fun r7 =>
          if room 32 (x_5 ++ [(⟨IntKind.i64.wrap ((IntKind.i64.wrap (2 + (IntKind.i64.wrap ((bAnd .i64 (IntKind.i64.wrap (r1.2.1 + 1)) 1) * (r3.length : Int))))) + (x_5.length : Int)), r7⟩ : T_api_Put)]).length then
            some (x_5 ++ [(⟨IntKind.i64.wrap ((IntKind.i64.wrap (2 + (IntKind.i64.wrap ((bAnd .i64 (IntKind.i64.wrap (r1.2.1 + 1)) 1) * (r3.length : Int))))) + (x_5.length : Int)), r7⟩ : T_api_Put)])
          else none) : Option (List T_api_Put))) [] (chunksL (Int.toNat r4.2) r4.1) else none) >>= fun j8 =>
        (M_leb_Put [] [IntKind.u64.wrap (IntKind.i64.wrap (r1.2.1 + 1)), IntKind.u64.wrap (a1.length : Int)]) >>= fun r9 =>
        (M_crc_Seal r9) >>= fun r10 =>
        if r10.2 ≠ 0 then
          some ([], r10.2)
        else
          if room 32 (j8 ++ [(⟨bAnd .i64 (IntKind.i64.wrap (r1.2.1 + 1)) 1, r10.1⟩ : T_api_Put)]).length then
            some (j8 ++ [(⟨bAnd .i64 (IntKind.i64.wrap (r1.2.1 + 1)) 1, r10.1⟩ : T_api_Put)], 0)
          else none
def M_store_Do_l0 (y9 : List (List Int)) (x0 : Int) (x1 : List (List Int)) : Option (List (List Int)) :=
  if x0 < (y9.length : Int) then
    if 0 ≤ x0 ∧ x0 < (x1.length : Int) then
      (M_slices_Clone_byte_byte (at' x1 x0)) >>= fun r11 =>
      if 0 ≤ x0 ∧ x0 < (x1.length : Int) then
        some (x1.set (Int.toNat x0) r11) >>= fun y12 =>
        M_store_Do_l0 y9 (IntKind.i64.wrap (x0 + 1)) y12
      else none
    else none
  else
    some x1
  partial_fixpoint
def M_store_Do (a0 : T_api_Store) (a1 : T_api_Put) : Option ((List (List Int)) × Int) :=
  (M_store_Check a0) >>= fun r1 =>
  ((
    if r1 ≠ 0 then
      some true
    else
      some (decide (a1.F_At < 0))) : Option Bool) >>= fun j2 =>
  ((
    if j2 = true then
      some true
    else
      some (decide (a1.F_At ≥ (a0.F_Cells.length : Int)))) : Option Bool) >>= fun j3 =>
  ((
    if j3 = true then
      some true
    else
      some (decide ((a1.F_B.length : Int) > 256))) : Option Bool) >>= fun j4 =>
  if j4 = true then
    some ([], 1)
  else
    if 0 ≤ (a0.F_Cells.length : Int) ∧ (a0.F_Cells.length : Int) ≤ (a0.F_Cells.length : Int) ∧ (a0.F_Cells.length : Int) ≤ 140737488355328 ∧ (a0.F_Cells.length : Int) * ((24 : Nat) : Int) ≤ 140737488355328 then
      some (List.replicate (Int.toNat (a0.F_Cells.length : Int)) []) >>= fun y5 =>
      if 0 ≤ a1.F_At ∧ a1.F_At < ((cpyL y5 a0.F_Cells).length : Int) then
        some (at' (cpyL y5 a0.F_Cells) a1.F_At) >>= fun y7 =>
        some ((cpyL y5 a0.F_Cells).set (Int.toNat a1.F_At) a1.F_B) >>= fun y9 =>
        (M_store_Do_l0 y9 0 y9) >>= fun j14 =>
        some (j14, 0)
      else none
    else none
def M_store_Save_l0 (r1 : (List T_api_Put) × Int) (x0 : Int) (x1 : Int) (x2 : List (List Int)) : Option (Int × (List (List Int))) :=
  if x0 < (r1.1.length : Int) then
    if 0 ≤ x0 ∧ x0 < (r1.1.length : Int) then
      if x1 = 0 then
        (M_store_Do (⟨x2⟩ : T_api_Store) (at' r1.1 x0)) >>= fun r2 =>
        M_store_Save_l0 r1 (IntKind.i64.wrap (x0 + 1)) r2.2 r2.1
      else
        M_store_Save_l0 r1 (IntKind.i64.wrap (x0 + 1)) x1 x2
    else none
  else
    some (x1, x2)
  partial_fixpoint
def M_store_Save (a0 : T_api_Store) (a1 : List Int) : Option ((List (List Int)) × Int) :=
  (M_store_Plan a0 a1) >>= fun r1 =>
  (M_store_Save_l0 r1 0 r1.2 a0.F_Cells) >>= fun j3 =>
  if j3.1 ≠ 0 then
    some ([], j3.1)
  else
    some (j3.2, 0)
def M_thrumref03_Same (a0 : List Int) (a1 : List Int) : Option Bool :=
  some ((strB a0).toList == (strB a1).toList)
def M_thrumlaw20_live : Option Bool :=
  (M_store_New 1) >>= fun r1 =>
  (M_store_Plan (⟨r1.1⟩ : T_api_Store) [97]) >>= fun r2 =>
  (M_store_Save (⟨r1.1⟩ : T_api_Store) [97]) >>= fun r3 =>
  (M_store_Load (⟨r3.1⟩ : T_api_Store)) >>= fun r4 =>
  ((
    if r1.2 = 0 then
      some (r2.2 == 0)
    else
      some false) : Option Bool) >>= fun j5 =>
  ((
    if j5 = true then
      some ((r2.1.length : Int) == 2)
    else
      some false) : Option Bool) >>= fun j6 =>
  ((
    if j6 = true then
      if 0 ≤ (0 : Int) ∧ (0 : Int) < (r2.1.length : Int) then
        some (((at' r2.1 0).F_At) == 3)
      else none
    else
      some false) : Option Bool) >>= fun j7 =>
  ((
    if j7 = true then
      if 0 ≤ (1 : Int) ∧ (1 : Int) < (r2.1.length : Int) then
        some (((at' r2.1 1).F_At) == 1)
      else none
    else
      some false) : Option Bool) >>= fun j8 =>
  ((
    if j8 = true then
      some (r3.2 == 0)
    else
      some false) : Option Bool) >>= fun j9 =>
  ((
    if j9 = true then
      some (r4.2.2 == 0)
    else
      some false) : Option Bool) >>= fun j10 =>
  ((
    if j10 = true then
      some (r4.2.1 == 1)
    else
      some false) : Option Bool) >>= fun j11 =>
  ((
    if j11 = true then
      (M_thrumref03_Same r4.1 [97]) >>= fun r12 =>
      some r12
    else
      some false) : Option Bool) >>= fun j13 =>
  some j13
def M_thrumref20_Few_l0 (a0 : T_api_Store) (x0 : Int) : Option (Sum Bool Unit) :=
  if x0 < (a0.F_Cells.length : Int) then
    if 0 ≤ x0 ∧ x0 < (a0.F_Cells.length : Int) then
      if ((at' a0.F_Cells x0).length : Int) > 600 then
        some (.inl false)
      else
        M_thrumref20_Few_l0 a0 (IntKind.i64.wrap (x0 + 1))
    else none
  else
    some (.inr ())
  partial_fixpoint
def M_thrumref20_Few (a0 : T_api_Store) : Option Bool :=
  (M_thrumref20_Few_l0 a0 0) >>= fun e => match e with
  | .inl r => some r
  | .inr j1 =>
    some (decide ((a0.F_Cells.length : Int) ≤ 140))
def M_thrumlaw20_StoreKeeps_l0 (a0 : T_api_Store) (r1 : Bool) (r4 : (List T_api_Put) × Int) (r6 : (List Int) × Int × Int) (y7 : Int) (x0 : Int) (x1 : List (Int × Bool)) : Option (Sum Bool Unit) :=
  if x0 < (r4.1.length : Int) then
    if 0 ≤ x0 ∧ x0 < (r4.1.length : Int) then
      ((
        if (getM x1 ((at' r4.1 x0).F_At)) = true then
          some true
        else
          some (decide (((at' r4.1 x0).F_At) < 0))) : Option Bool) >>= fun j9 =>
      ((
        if j9 = true then
          some true
        else
          some (decide (((at' r4.1 x0).F_At) ≥ (a0.F_Cells.length : Int)))) : Option Bool) >>= fun j10 =>
      ((
        if j10 = true then
          some true
        else
          some (!((x0 == (IntKind.i64.wrap ((r4.1.length : Int) - 1))) == (decide (((at' r4.1 x0).F_At) < 2))))) : Option Bool) >>= fun j11 =>
      if j11 = true then
        some (.inl false)
      else
        ((
          if ((at' r4.1 x0).F_At) ≥ 2 then
            some (decide (y7 > 0))
          else
            some false) : Option Bool) >>= fun j12 =>
        if j12 = true then
          if y7 ≠ 0 then
            some (IntKind.i64.wrap (Int.tdiv (IntKind.i64.wrap (((at' r4.1 x0).F_At) - 2)) y7)) >>= fun y13 =>
            ((
              if r6.2.2 = 0 then
                some (y13 == (Int.tmod r6.2.1 2))
              else
                some false) : Option Bool) >>= fun j15 =>
            if j15 = true then
              some (.inl false)
            else
              M_thrumlaw20_StoreKeeps_l0 a0 r1 r4 r6 y7 (IntKind.i64.wrap (x0 + 1)) (insM x1 ((at' r4.1 x0).F_At) true)
          else none
        else
          ((
            if r6.2.2 = 0 then
              some (((at' r4.1 x0).F_At) == (Int.tmod r6.2.1 2))
            else
              some false) : Option Bool) >>= fun j16 =>
          if j16 = true then
            some (.inl false)
          else
            M_thrumlaw20_StoreKeeps_l0 a0 r1 r4 r6 y7 (IntKind.i64.wrap (x0 + 1)) (insM x1 ((at' r4.1 x0).F_At) true)
    else none
  else
    some (.inr ())
  partial_fixpoint
def M_thrumlaw20_StoreKeeps (a0 : T_api_Store) (a1 : List Int) : Option Bool :=
  (M_thrumlaw20_live) >>= fun r1 =>
  if r1 = false then
    some false
  else
    (M_thrumref20_Few a0) >>= fun r2 =>
    ((
      if r2 = false then
        some true
      else
        some (decide ((a1.length : Int) > 20000))) : Option Bool) >>= fun j3 =>
    if j3 = true then
      some r1
    else
      (M_store_Plan a0 a1) >>= fun r4 =>
      if r4.2 ≠ 0 then
        ((
          if r1 = true then
            some ((r4.1.length : Int) == 0)
          else
            some false) : Option Bool) >>= fun j5 =>
        some j5
      else
        (M_store_Load a0) >>= fun r6 =>
        some (IntKind.i64.wrap (Int.tdiv (IntKind.i64.wrap ((a0.F_Cells.length : Int) - 2)) 2)) >>= fun y7 =>
        (M_thrumlaw20_StoreKeeps_l0 a0 r1 r4 r6 y7 0 []) >>= fun e => match e with
        | .inl r => some r
        | .inr j17 =>
          ((
            if r1 = true then
              some (decide ((r4.1.length : Int) > 0))
            else
              some false) : Option Bool) >>= fun j18 =>
          some j18
end Go.Proofs.Ytelobmiooldoaaa.Abs
