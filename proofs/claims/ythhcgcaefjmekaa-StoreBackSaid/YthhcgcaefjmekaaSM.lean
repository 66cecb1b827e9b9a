/- Models of functions, printed by a program. Conditions: none. -/
import Derived.Test.YthhcgcaefjmekaaCrcD
import Derived.Test.YthhcgcaefjmekaaChunk
import Derived.Test.YthhcgcaefjmekaaAbs5
namespace Go.Proofs.Ythhcgcaefjmekaa.Abs
open Go Go.RowKit
set_option linter.unusedVariables false
set_option maxRecDepth 100000

structure T_api_Store where
  F_Cells : List (List Int)
  deriving Inhabited, DecidableEq
structure T_api_Put where
  F_At : Int
  F_B : List Int
  deriving Inhabited, DecidableEq
structure T_store_text where
  F_b : List Int
  F_at : Int
  F_bad : Bool
  deriving Inhabited, DecidableEq
def T_api_Store.en (x : T_api_Store) : D := .agg [.lst (List.map (enL (D.int .u8)) x.F_Cells)]
def T_api_Put.en (x : T_api_Put) : D := .agg [.int .i64 x.F_At, .lst (List.map (D.int .u8) x.F_B)]
def T_store_text.en (x : T_store_text) : D := .agg [.lst (List.map (D.int .u8) x.F_b), .int .i64 x.F_at, .bool x.F_bad]
def M_store_New (a0 : Int) : Option ((List (List Int)) × Int) :=
  ((
    if a0 < 1 then
      some true
    else
      some (decide (a0 > 64))) : Option Bool) >>= fun j1 =>
  if j1 = true then
    some ([], 1)
  else
    if 0 ≤ IntKind.i64.wrap (2 + (IntKind.i64.wrap (2 * a0))) ∧ IntKind.i64.wrap (2 + (IntKind.i64.wrap (2 * a0))) ≤ IntKind.i64.wrap (2 + (IntKind.i64.wrap (2 * a0))) ∧ IntKind.i64.wrap (2 + (IntKind.i64.wrap (2 * a0))) ≤ 140737488355328 ∧ (IntKind.i64.wrap (2 + (IntKind.i64.wrap (2 * a0)))) * ((24 : Nat) : Int) ≤ 140737488355328 then
      some (List.replicate (Int.toNat (IntKind.i64.wrap (2 + (IntKind.i64.wrap (2 * a0))))) [], 0)
    else none
def M_store_Check_1 (a0 : List Int) : Option Bool :=
  some (decide ((a0.length : Int) > 256))
def M_slices_IndexFunc_byte_byte_store_Check_1_l0 (a0 : List (List Int)) (x0 : Int) : Option (Sum Int Unit) :=
  if x0 < (a0.length : Int) then
    if 0 ≤ x0 ∧ x0 < (a0.length : Int) then
      (M_store_Check_1 (at' a0 x0)) >>= fun r1 =>
      if r1 = true then
        some (.inl x0)
      else
        M_slices_IndexFunc_byte_byte_store_Check_1_l0 a0 (IntKind.i64.wrap (x0 + 1))
    else none
  else
    some (.inr ())
  partial_fixpoint
def M_slices_IndexFunc_byte_byte_store_Check_1 (a0 : List (List Int)) : Option Int :=
  (M_slices_IndexFunc_byte_byte_store_Check_1_l0 a0 0) >>= fun e => match e with
  | .inl r => some r
  | .inr j2 =>
    some (-1)
def M_slices_ContainsFunc_byte_byte_store_Check_1 (a0 : List (List Int)) : Option Bool :=
  (M_slices_IndexFunc_byte_byte_store_Check_1 a0) >>= fun r1 =>
  some (decide (r1 ≥ 0))
def M_store_Check (a0 : T_api_Store) : Option Int :=
  ((
    if (IntKind.i64.wrap ((a0.F_Cells.length : Int) - 2)) < 2 then
      some true
    else
      some (decide ((IntKind.i64.wrap ((a0.F_Cells.length : Int) - 2)) > 128))) : Option Bool) >>= fun j1 =>
  ((
    if j1 = true then
      some true
    else
      some ((Int.tmod (IntKind.i64.wrap ((a0.F_Cells.length : Int) - 2)) 2) == 1)) : Option Bool) >>= fun j2 =>
  ((
    if j2 = true then
      some true
    else
      (M_slices_ContainsFunc_byte_byte_store_Check_1 a0.F_Cells) >>= fun r3 =>
      some r3) : Option Bool) >>= fun j4 =>
  if j4 = true then
    some 1
  else
    some 0
def M_slices_Clone_byte_byte (a0 : List Int) : Option (List Int) :=
  if room 1 ([] ++ a0).length then
    some ([] ++ a0)
  else none
def M_crc_Sum (a0 : List Int) : Option Int :=
  (M_crc_More 0 a0) >>= fun r1 =>
  some r1
def M_crc_Seal_l0 (x0 : Int) (x1 : Int) (x2 : List Int) : Option (List Int) :=
  if x0 < 4 then
    if room 1 (x2 ++ [IntKind.u8.wrap x1]).length then
      some (x2 ++ [IntKind.u8.wrap x1]) >>= fun y3 =>
      M_crc_Seal_l0 (IntKind.i64.wrap (x0 + 1)) (sShr .u32 x1 8) y3
    else none
  else
    some x2
  partial_fixpoint
def M_crc_Seal (a0 : List Int) : Option ((List Int) × Int) :=
  if (a0.length : Int) > 65532 then
    some ([], 3)
  else
    (M_slices_Clone_byte_byte a0) >>= fun r1 =>
    (M_crc_Sum a0) >>= fun r2 =>
    (M_crc_Seal_l0 0 r2 r1) >>= fun j5 =>
    some (j5, 0)
def M_slices_Equal_byte_byte_l0 (a0 : List Int) (a1 : List Int) (x0 : Int) : Option (Sum Bool Unit) :=
  if x0 < (a0.length : Int) then
    if 0 ≤ x0 ∧ x0 < (a0.length : Int) then
      if 0 ≤ x0 ∧ x0 < (a1.length : Int) then
        if (at' a0 x0) ≠ (at' a1 x0) then
          some (.inl false)
        else
          M_slices_Equal_byte_byte_l0 a0 a1 (IntKind.i64.wrap (x0 + 1))
      else none
    else none
  else
    some (.inr ())
  partial_fixpoint
def M_slices_Equal_byte_byte (a0 : List Int) (a1 : List Int) : Option Bool :=
  if (a0.length : Int) ≠ (a1.length : Int) then
    some false
  else
    (M_slices_Equal_byte_byte_l0 a0 a1 0) >>= fun e => match e with
    | .inl r => some r
    | .inr j1 =>
      some true
def M_crc_Open (a0 : List Int) : Option ((List Int) × Int) :=
  if (a0.length : Int) > 65536 then
    some ([], 3)
  else
    if (IntKind.i64.wrap ((a0.length : Int) - 4)) < 0 then
      some ([], 5)
    else
      if cutOk none (some (IntKind.i64.wrap ((a0.length : Int) - 4))) a0.length then
        some (cut' a0 none (some (IntKind.i64.wrap ((a0.length : Int) - 4)))) >>= fun y1 =>
        (M_crc_Seal y1) >>= fun r3 =>
        ((
          if r3.2 ≠ 0 then
            some true
          else
            (M_slices_Equal_byte_byte r3.1 a0) >>= fun r4 =>
            some (!r4)) : Option Bool) >>= fun j5 =>
        if j5 = true then
          some ([], 7)
        else
          if cutOk none (some (IntKind.i64.wrap ((a0.length : Int) - 4))) a0.length then
            some (cut' a0 none (some (IntKind.i64.wrap ((a0.length : Int) - 4)))) >>= fun y6 =>
            (M_slices_Clone_byte_byte y6) >>= fun r8 =>
            some (r8, 0)
          else none
      else none
def M_leb_Get_l0 (a1 : Int) (y1 : List Int) (x0 : Int) (x1 : Int) : Option (Sum (Int × Int × Int) Unit) :=
  if x0 < (y1.length : Int) then
    if 0 ≤ x0 ∧ x0 < (y1.length : Int) then
      ((
        if x0 = 9 then
          some (decide ((at' y1 x0) > 1))
        else
          some false) : Option Bool) >>= fun j3 =>
      ((
        if j3 = true then
          some true
        else
          ((
            if (at' y1 x0) < 128 then
              some ((at' y1 x0) == 0)
            else
              some false) : Option Bool) >>= fun j4 =>
          ((
            if j4 = true then
              some (decide (x0 > 0))
            else
              some false) : Option Bool) >>= fun j5 =>
          some j5) : Option Bool) >>= fun j6 =>
      if j6 = true then
        some (.inl (0, 0, 6))
      else
        if 0 ≤ IntKind.i64.wrap (7 * x0) then
          some (bOr .u64 x1 (sShl .u64 (IntKind.u64.wrap (bAnd .u8 (at' y1 x0) 127)) (IntKind.i64.wrap (7 * x0)))) >>= fun y7 =>
          if (at' y1 x0) < 128 then
            some (.inl (y7, IntKind.i64.wrap ((IntKind.i64.wrap (a1 + x0)) + 1), 0))
          else
            M_leb_Get_l0 a1 y1 (IntKind.i64.wrap (x0 + 1)) y7
        else none
    else none
  else
    some (.inr ())
  partial_fixpoint
def M_leb_Get (a0 : List Int) (a1 : Int) : Option (Int × Int × Int) :=
  if a1 < 0 then
    some (0, 0, 1)
  else
    if cutOk (some (if (a0.length : Int) < a1 then (a0.length : Int) else a1)) none a0.length then
      some (cut' a0 (some (if (a0.length : Int) < a1 then (a0.length : Int) else a1)) none) >>= fun y1 =>
      (M_leb_Get_l0 a1 y1 0 0) >>= fun e => match e with
      | .inl r => some r
      | .inr j9 =>
        some (0, 0, 5)
    else none
def M_leb_Many_l0 (a0 : List Int) (a2 : Int) (x0 : List Int) (x1 : Int) : Option (Sum ((List Int) × Int × Int) ((List Int) × Int)) :=
  if (x0.length : Int) < a2 then
    (M_leb_Get a0 x1) >>= fun r1 =>
    if r1.2.2 ≠ 0 then
      some (.inl ([], 0, r1.2.2))
    else
      if room 8 (x0 ++ [r1.1]).length then
        M_leb_Many_l0 a0 a2 (x0 ++ [r1.1]) r1.2.1
      else none
  else
    some (.inr (x0, x1))
  partial_fixpoint
def M_leb_Many (a0 : List Int) (a1 : Int) (a2 : Int) : Option ((List Int) × Int × Int) :=
  if a2 < 0 then
    some ([], 0, 1)
  else
    (M_leb_Many_l0 a0 a2 [] a1) >>= fun e => match e with
    | .inl r => some r
    | .inr j2 =>
      some (j2.1, j2.2, 0)
def M_store_half (a0 : T_api_Store) (a1 : Int) : Option (List (List Int)) :=
  some (IntKind.i64.wrap (2 + (IntKind.i64.wrap (a1 * (IntKind.i64.wrap (Int.tdiv (IntKind.i64.wrap ((a0.F_Cells.length : Int) - 2)) 2)))))) >>= fun y1 =>
  some (IntKind.i64.wrap (y1 + (IntKind.i64.wrap (Int.tdiv (IntKind.i64.wrap ((a0.F_Cells.length : Int) - 2)) 2)))) >>= fun y3 =>
  if cutOk (some y1) (some y3) a0.F_Cells.length then
    some (cut' a0.F_Cells (some y1) (some y3))
  else none
def M_store_kept_l0 (r2 : (List Int) × Int × Int) (x0 : Int) (x1 : List Int) (x2 : List (List Int)) : Option (Sum ((List Int) × Int) (List Int)) :=
  if x0 > 0 then
    if 0 ≤ (0 : Int) ∧ (0 : Int) < (x2.length : Int) then
      if ((at' x2 0).length : Int) ≠ (if (256 : Int) < x0 then 256 else x0) then
        some (.inl ([], 0))
      else
        if 0 ≤ (0 : Int) ∧ (0 : Int) < (x2.length : Int) then
          if room 1 (x1 ++ (at' x2 0)).length then
            if 0 ≤ (0 : Int) ∧ (0 : Int) < (x2.length : Int) then
              if cutOk (some 1) none x2.length then
                M_store_kept_l0 r2 (IntKind.i64.wrap (x0 - ((at' x2 0).length : Int))) (x1 ++ (at' x2 0)) (cut' x2 (some 1) none)
              else none
            else none
          else none
        else none
    else none
  else
    some (.inr x1)
  partial_fixpoint
def M_store_kept (a0 : T_api_Store) (a1 : Int) : Option ((List Int) × Int) :=
  if 0 ≤ a1 ∧ a1 < (a0.F_Cells.length : Int) then
    (M_crc_Open (at' a0.F_Cells a1)) >>= fun r1 =>
    if r1.2 ≠ 0 then
      some ([], 0)
    else
      (M_leb_Many r1.1 0 2) >>= fun r2 =>
      (M_store_half a0 a1) >>= fun r3 =>
      ((
        if r2.2.2 ≠ 0 then
          some true
        else
          some (decide (r2.2.1 < (r1.1.length : Int)))) : Option Bool) >>= fun j4 =>
      ((
        if j4 = true then
          some true
        else
          if 0 ≤ (0 : Int) ∧ (0 : Int) < (r2.1.length : Int) then
            some (decide ((at' r2.1 0) > 1073741824))
          else none) : Option Bool) >>= fun j5 =>
      ((
        if j5 = true then
          some true
        else
          if 0 ≤ (0 : Int) ∧ (0 : Int) < (r2.1.length : Int) then
            some ((bAnd .u64 (at' r2.1 0) 1) != (IntKind.u64.wrap a1))
          else none) : Option Bool) >>= fun j6 =>
      ((
        if j6 = true then
          some true
        else
          if 0 ≤ (1 : Int) ∧ (1 : Int) < (r2.1.length : Int) then
            some (decide ((at' r2.1 1) > (IntKind.u64.wrap (IntKind.i64.wrap ((r3.length : Int) * 256)))))
          else none) : Option Bool) >>= fun j7 =>
      if j7 = true then
        some ([], 0)
      else
        if 0 ≤ (1 : Int) ∧ (1 : Int) < (r2.1.length : Int) then
          (M_store_kept_l0 r2 (IntKind.i64.wrap (at' r2.1 1)) [] r3) >>= fun e => match e with
          | .inl r => some r
          | .inr j8 =>
            if 0 ≤ (0 : Int) ∧ (0 : Int) < (r2.1.length : Int) then
              some (j8, IntKind.i64.wrap (at' r2.1 0))
            else none
        else none
  else none
def M_store_Load (a0 : T_api_Store) : Option ((List Int) × Int × Int) :=
  (M_store_Check a0) >>= fun r1 =>
  if r1 ≠ 0 then
    some ([], 0, r1)
  else
    (M_store_kept a0 0) >>= fun r2 =>
    (M_store_kept a0 1) >>= fun r3 =>
    if r3.2 > r2.2 then
      if r3.2 = 0 then
        some ([], 0, 8)
      else
        some (r3.1, r3.2, 0)
    else
      if r2.2 = 0 then
        some ([], 0, 8)
      else
        some (r2.1, r2.2, 0)
def M_slices_Chunk_byte_byte (a0 : List Int) (a1 : Int) : Option ((List Int) × Int) :=
  if a1 < 1 then
    none
  else
    some (a0, a1)
def M_leb_put_l0 (x0 : List Int) (x1 : Int) : Option ((List Int) × Int) :=
  if x1 > 127 then
    if room 1 (x0 ++ [bOr .u8 (IntKind.u8.wrap x1) 128]).length then
      some (x0 ++ [bOr .u8 (IntKind.u8.wrap x1) 128]) >>= fun y1 =>
      M_leb_put_l0 y1 (sShr .u64 x1 7)
    else none
  else
    some (x0, x1)
  partial_fixpoint
def M_leb_put (a0 : List Int) (a1 : Int) : Option (List Int) :=
  (M_leb_put_l0 a0 a1) >>= fun j3 =>
  if room 1 (j3.1 ++ [IntKind.u8.wrap j3.2]).length then
    some (j3.1 ++ [IntKind.u8.wrap j3.2])
  else none
def M_leb_Put_l0 (a1 : List Int) (x0 : Int) (x1 : List Int) : Option (List Int) :=
  if x0 < (a1.length : Int) then
    if 0 ≤ x0 ∧ x0 < (a1.length : Int) then
      (M_leb_put x1 (at' a1 x0)) >>= fun r2 =>
      M_leb_Put_l0 a1 (IntKind.i64.wrap (x0 + 1)) r2
    else none
  else
    some x1
  partial_fixpoint
def M_leb_Put (a0 : List Int) (a1 : List Int) : Option (List Int) :=
  (M_slices_Clone_byte_byte a0) >>= fun r1 =>
  (M_leb_Put_l0 a1 0 r1) >>= fun j3 =>
  some j3
def M_store_Plan (a0 : T_api_Store) (a1 : List Int) : Option ((List T_api_Put) × Int) :=
  (M_store_Load a0) >>= fun r1 =>
  ((
    if r1.2.2 ≠ 0 then
      some (r1.2.2 != 8)
    else
      some false) : Option Bool) >>= fun j2 =>
  if j2 = true then
    some ([], r1.2.2)
  else
    (M_store_half a0 (bAnd .i64 (IntKind.i64.wrap (r1.2.1 + 1)) 1)) >>= fun r3 =>
    if (a1.length : Int) > (IntKind.i64.wrap ((r3.length : Int) * 256)) then
      some ([], 3)
    else
      if (IntKind.i64.wrap (r1.2.1 + 1)) > 1073741824 then
        some ([], 1)
      else
        (M_slices_Chunk_byte_byte a1 256) >>= fun r4 =>
        (if 1 ≤ r4.2 ∧ r4.2 ≤ 4611686018427387904 ∧ r4.1.length ≤ 4611686018427387904 then List.foldlM (fun (x_5 : (List T_api_Put)) (c_6 : List Int) => ((
          (M_slices_Clone_byte_byte c_6) >>= fun r7 =>
          if room 32 (x_5 ++ [(⟨IntKind.i64.wrap ((IntKind.i64.wrap (2 + (IntKind.i64.wrap ((bAnd .i64 (IntKind.i64.wrap (r1.2.1 + 1)) 1) * (r3.length : Int))))) + (x_5.length : Int)), r7⟩ : T_api_Put)]).length then
            some (x_5 ++ [(⟨IntKind.i64.wrap ((IntKind.i64.wrap (2 + (IntKind.i64.wrap ((bAnd .i64 (IntKind.i64.wrap (r1.2.1 + 1)) 1) * (r3.length : Int))))) + (x_5.length : Int)), r7⟩ : T_api_Put)])
          else none) : Option (List T_api_Put))) [] (chunksL (Int.toNat r4.2) r4.1) else none) >>= fun j8 =>
        (M_leb_Put [] [IntKind.u64.wrap (IntKind.i64.wrap (r1.2.1 + 1)), IntKind.u64.wrap (a1.length : Int)]) >>= fun r9 =>
        (M_crc_Seal r9) >>= fun r10 =>
        if r10.2 ≠ 0 then
          some ([], r10.2)
        else
          if room 32 (j8 ++ [(⟨bAnd .i64 (IntKind.i64.wrap (r1.2.1 + 1)) 1, r10.1⟩ : T_api_Put)]).length then
            some (j8 ++ [(⟨bAnd .i64 (IntKind.i64.wrap (r1.2.1 + 1)) 1, r10.1⟩ : T_api_Put)], 0)
          else none
def M_store_Do_l0 (y9 : List (List Int)) (x0 : Int) (x1 : List (List Int)) : Option (List (List Int)) :=
  if x0 < (y9.length : Int) then
    if 0 ≤ x0 ∧ x0 < (x1.length : Int) then
      (M_slices_Clone_byte_byte (at' x1 x0)) >>= fun r11 =>
      if 0 ≤ x0 ∧ x0 < (x1.length : Int) then
        some (x1.set (Int.toNat x0) r11) >>= fun y12 =>
        M_store_Do_l0 y9 (IntKind.i64.wrap (x0 + 1)) y12
      else none
    else none
  else
    some x1
  partial_fixpoint
def M_store_Do (a0 : T_api_Store) (a1 : T_api_Put) : Option ((List (List Int)) × Int) :=
  (M_store_Check a0) >>= fun r1 =>
  ((
    if r1 ≠ 0 then
      some true
    else
      some (decide (a1.F_At < 0))) : Option Bool) >>= fun j2 =>
  ((
    if j2 = true then
      some true
    else
      some (decide (a1.F_At ≥ (a0.F_Cells.length : Int)))) : Option Bool) >>= fun j3 =>
  ((
    if j3 = true then
      some true
    else
      some (decide ((a1.F_B.length : Int) > 256))) : Option Bool) >>= fun j4 =>
  if j4 = true then
    some ([], 1)
  else
    if 0 ≤ (a0.F_Cells.length : Int) ∧ (a0.F_Cells.length : Int) ≤ (a0.F_Cells.length : Int) ∧ (a0.F_Cells.length : Int) ≤ 140737488355328 ∧ (a0.F_Cells.length : Int) * ((24 : Nat) : Int) ≤ 140737488355328 then
      some (List.replicate (Int.toNat (a0.F_Cells.length : Int)) []) >>= fun y5 =>
      if 0 ≤ a1.F_At ∧ a1.F_At < ((cpyL y5 a0.F_Cells).length : Int) then
        some (at' (cpyL y5 a0.F_Cells) a1.F_At) >>= fun y7 =>
        some ((cpyL y5 a0.F_Cells).set (Int.toNat a1.F_At) a1.F_B) >>= fun y9 =>
        (M_store_Do_l0 y9 0 y9) >>= fun j14 =>
        some (j14, 0)
      else none
    else none
def M_store_Save_l0 (r1 : (List T_api_Put) × Int) (x0 : Int) (x1 : Int) (x2 : List (List Int)) : Option (Int × (List (List Int))) :=
  if x0 < (r1.1.length : Int) then
    if 0 ≤ x0 ∧ x0 < (r1.1.length : Int) then
      if x1 = 0 then
        (M_store_Do (⟨x2⟩ : T_api_Store) (at' r1.1 x0)) >>= fun r2 =>
        M_store_Save_l0 r1 (IntKind.i64.wrap (x0 + 1)) r2.2 r2.1
      else
        M_store_Save_l0 r1 (IntKind.i64.wrap (x0 + 1)) x1 x2
    else none
  else
    some (x1, x2)
  partial_fixpoint
def M_store_Save (a0 : T_api_Store) (a1 : List Int) : Option ((List (List Int)) × Int) :=
  (M_store_Plan a0 a1) >>= fun r1 =>
  (M_store_Save_l0 r1 0 r1.2 a0.F_Cells) >>= fun j3 =>
  if j3.1 ≠ 0 then
    some ([], j3.1)
  else
    some (j3.2, 0)
def M_thrumref03_Same (a0 : List Int) (a1 : List Int) : Option Bool :=
  some ((strB a0).toList == (strB a1).toList)
def M_thrumlaw20_live : Option Bool :=
  (M_store_New 1) >>= fun r1 =>
  (M_store_Plan (⟨r1.1⟩ : T_api_Store) [97]) >>= fun r2 =>
  (M_store_Save (⟨r1.1⟩ : T_api_Store) [97]) >>= fun r3 =>
  (M_store_Load (⟨r3.1⟩ : T_api_Store)) >>= fun r4 =>
  ((
    if r1.2 = 0 then
      some (r2.2 == 0)
    else
      some false) : Option Bool) >>= fun j5 =>
  ((
    if j5 = true then
      some ((r2.1.length : Int) == 2)
    else
      some false) : Option Bool) >>= fun j6 =>
  ((
    if j6 = true then
      if 0 ≤ (0 : Int) ∧ (0 : Int) < (r2.1.length : Int) then
        some (((at' r2.1 0).F_At) == 3)
      else none
    else
      some false) : Option Bool) >>= fun j7 =>
  ((
    if j7 = true then
      if 0 ≤ (1 : Int) ∧ (1 : Int) < (r2.1.length : Int) then
        some (((at' r2.1 1).F_At) == 1)
      else none
    else
      some false) : Option Bool) >>= fun j8 =>
  ((
    if j8 = true then
      some (r3.2 == 0)
    else
      some false) : Option Bool) >>= fun j9 =>
  ((
    if j9 = true then
      some (r4.2.2 == 0)
    else
      some false) : Option Bool) >>= fun j10 =>
  ((
    if j10 = true then
      some (r4.2.1 == 1)
    else
      some false) : Option Bool) >>= fun j11 =>
  ((
    if j11 = true then
      (M_thrumref03_Same r4.1 [97]) >>= fun r12 =>
      some r12
    else
      some false) : Option Bool) >>= fun j13 =>
  some j13
def M_thrumlaw20_StoreHalves_l1 (a1 : List (List Int)) (a2 : List Int) (r1 : Bool) (y2 : Int) (x0 : Int) (x1 : Int) (x2 : Bool) (x3 : List Int) (r7 : (List T_api_Put) × Int) (j13 : Int) (y14 : List T_api_Put) (x0_ : Int) (x1_ : List (List Int)) : Option (Sum Bool (List (List Int))) :=
  if x0_ < (y14.length : Int) then
    if 0 ≤ x0_ ∧ x0_ < (y14.length : Int) then
      (M_store_Do (⟨x1_⟩ : T_api_Store) (at' y14 x0_)) >>= fun r16 =>
      if r16.2 ≠ 0 then
        some (.inl false)
      else
        M_thrumlaw20_StoreHalves_l1 a1 a2 r1 y2 x0 x1 x2 x3 r7 j13 y14 (IntKind.i64.wrap (x0_ + 1)) r16.1
    else none
  else
    some (.inr x1_)
  partial_fixpoint
def M_thrumlaw20_StoreHalves_l0 (a1 : List (List Int)) (a2 : List Int) (r1 : Bool) (y2 : Int) (x0 : Int) (x1 : Int) (x2 : Bool) (x3 : List Int) (x4 : List (List Int)) : Option (Sum Bool (List (List Int))) :=
  if x0 < (a1.length : Int) then
    if 0 ≤ x0 ∧ x0 < (a1.length : Int) then
      (M_store_Plan (⟨x4⟩ : T_api_Store) (at' a1 x0)) >>= fun r7 =>
      if ((at' a1 x0).length : Int) > (IntKind.i64.wrap (y2 * 256)) then
        if r7.2 ≠ 3 then
          some (.inl false)
        else
          M_thrumlaw20_StoreHalves_l0 a1 a2 r1 y2 (IntKind.i64.wrap (x0 + 1)) x1 x2 x3 x4
      else
        ((
          if r7.2 ≠ 0 then
            some true
          else
            some ((r7.1.length : Int) == 0)) : Option Bool) >>= fun j8 =>
        if j8 = true then
          some (.inl false)
        else
          ((
            if x0 < (a2.length : Int) then
              if 0 ≤ x0 ∧ x0 < (a2.length : Int) then
                if IntKind.i64.wrap ((r7.1.length : Int) + 1) ≠ 0 then
                  some (Int.tmod (at' a2 x0) (IntKind.i64.wrap ((r7.1.length : Int) + 1))) >>= fun y9 =>
                  some (IntKind.i64.wrap ((IntKind.i64.wrap (y9 + (r7.1.length : Int))) + 1)) >>= fun y11 =>
                  if IntKind.i64.wrap ((r7.1.length : Int) + 1) ≠ 0 then
                    some (Int.tmod y11 (IntKind.i64.wrap ((r7.1.length : Int) + 1)))
                  else none
                else none
              else none
            else
              some (r7.1.length : Int)) : Option Int) >>= fun j13 =>
          if cutOk none (some j13) r7.1.length then
            some (cut' r7.1 none (some j13)) >>= fun y14 =>
            (M_thrumlaw20_StoreHalves_l1 a1 a2 r1 y2 x0 x1 x2 x3 r7 j13 y14 0 x4) >>= fun e => match e with
            | .inl r => some (.inl r)
            | .inr j17 =>
              ((
                if j13 = (r7.1.length : Int) then
                  some (IntKind.i64.wrap (x1 + 1), true, at' a1 x0)
                else
                  some (x1, x2, x3)) : Option (Int × Bool × (List Int))) >>= fun j18 =>
              (M_store_Load (⟨j17⟩ : T_api_Store)) >>= fun r19 =>
              if j18.2.1 = false then
                if r19.2.2 ≠ 8 then
                  some (.inl false)
                else
                  M_thrumlaw20_StoreHalves_l0 a1 a2 r1 y2 (IntKind.i64.wrap (x0 + 1)) j18.1 j18.2.1 j18.2.2 j17
              else
                ((
                  if r19.2.2 ≠ 0 then
                    some true
                  else
                    some (r19.2.1 != j18.1)) : Option Bool) >>= fun j20 =>
                ((
                  if j20 = true then
                    some true
                  else
                    (M_thrumref03_Same r19.1 j18.2.2) >>= fun r21 =>
                    some (!r21)) : Option Bool) >>= fun j22 =>
                if j22 = true then
                  some (.inl false)
                else
                  M_thrumlaw20_StoreHalves_l0 a1 a2 r1 y2 (IntKind.i64.wrap (x0 + 1)) j18.1 j18.2.1 j18.2.2 j17
          else none
    else none
  else
    some (.inr x4)
  partial_fixpoint
def M_thrumlaw20_StoreHalves (a0 : Int) (a1 : List (List Int)) (a2 : List Int) : Option Bool :=
  (M_thrumlaw20_live) >>= fun r1 =>
  if r1 = false then
    some false
  else
    some (IntKind.i64.wrap (1 + (Int.tmod (IntKind.i64.wrap ((Int.tmod a0 4) + 4)) 4))) >>= fun y2 =>
    (M_store_New y2) >>= fun r4 =>
    ((
      if r4.2 ≠ 0 then
        some true
      else
        some (decide ((a1.length : Int) > 20))) : Option Bool) >>= fun j5 =>
    if j5 = true then
      ((
        if r1 = true then
          some (r4.2 == 0)
        else
          some false) : Option Bool) >>= fun j6 =>
      some j6
    else
      (M_thrumlaw20_StoreHalves_l0 a1 a2 r1 y2 0 0 false [] r4.1) >>= fun e => match e with
      | .inl r => some r
      | .inr j23 =>
        ((
          if r1 = true then
            (M_store_Check (⟨j23⟩ : T_api_Store)) >>= fun r24 =>
            some (r24 == 0)
          else
            some false) : Option Bool) >>= fun j25 =>
        some j25
def M_thrumlaw20_StoreNumbers_l0 (a1 : List Int) (a2 : Int) (r1 : Bool) (y2 : Int) (x0 : Int) (x1 : List (List Int)) : Option (Sum Bool (List (List Int))) :=
  if x0 < (Int.tmod (IntKind.i64.wrap ((Int.tmod a2 6) + 6)) 6) then
    (M_store_Plan (⟨x1⟩ : T_api_Store) a1) >>= fun r5 =>
    (M_store_Save (⟨x1⟩ : T_api_Store) a1) >>= fun r6 =>
    (M_store_Load (⟨r6.1⟩ : T_api_Store)) >>= fun r7 =>
    ((
      if r5.2 ≠ 0 then
        some true
      else
        some (r6.2 != 0)) : Option Bool) >>= fun j8 =>
    ((
      if j8 = true then
        some true
      else
        some (r7.2.2 != 0)) : Option Bool) >>= fun j9 =>
    ((
      if j9 = true then
        some true
      else
        some (r7.2.1 != (IntKind.i64.wrap (x0 + 1)))) : Option Bool) >>= fun j10 =>
    ((
      if j10 = true then
        some true
      else
        (M_thrumref03_Same r7.1 a1) >>= fun r11 =>
        some (!r11)) : Option Bool) >>= fun j12 =>
    ((
      if j12 = true then
        some true
      else
        some ((r5.1.length : Int) != (IntKind.i64.wrap (1 + (IntKind.i64.wrap (Int.tdiv (IntKind.i64.wrap ((a1.length : Int) + 255)) 256)))))) : Option Bool) >>= fun j13 =>
    ((
      if j13 = true then
        some true
      else
        if 0 ≤ IntKind.i64.wrap ((r5.1.length : Int) - 1) ∧ IntKind.i64.wrap ((r5.1.length : Int) - 1) < (r5.1.length : Int) then
          some (((at' r5.1 (IntKind.i64.wrap ((r5.1.length : Int) - 1))).F_At) != (Int.tmod r7.2.1 2))
        else none) : Option Bool) >>= fun j14 =>
    if j14 = true then
      some (.inl false)
    else
      M_thrumlaw20_StoreNumbers_l0 a1 a2 r1 y2 (IntKind.i64.wrap (x0 + 1)) r6.1
  else
    some (.inr x1)
  partial_fixpoint
def M_thrumlaw20_StoreNumbers (a0 : Int) (a1 : List Int) (a2 : Int) : Option Bool :=
  (M_thrumlaw20_live) >>= fun r1 =>
  if r1 = false then
    some false
  else
    some (IntKind.i64.wrap (1 + (Int.tmod (IntKind.i64.wrap ((Int.tmod a0 8) + 8)) 8))) >>= fun y2 =>
    if (a1.length : Int) > (IntKind.i64.wrap (256 * y2)) then
      some r1
    else
      (M_store_New y2) >>= fun r4 =>
      if r4.2 ≠ 0 then
        some false
      else
        (M_thrumlaw20_StoreNumbers_l0 a1 a2 r1 y2 0 r4.1) >>= fun e => match e with
        | .inl r => some r
        | .inr j15 =>
          ((
            if r1 = true then
              some ((j15.length : Int) == (IntKind.i64.wrap (2 + (IntKind.i64.wrap (2 * y2)))))
            else
              some false) : Option Bool) >>= fun j16 =>
          some j16
def M_store_Lay_1 (a0 : List Int) : Option Bool :=
  some (decide ((a0.length : Int) > 4096))
def M_slices_IndexFunc_int64_int64_store_Lay_1_l0 (a0 : List (List Int)) (x0 : Int) : Option (Sum Int Unit) :=
  if x0 < (a0.length : Int) then
    if 0 ≤ x0 ∧ x0 < (a0.length : Int) then
      (M_store_Lay_1 (at' a0 x0)) >>= fun r1 =>
      if r1 = true then
        some (.inl x0)
      else
        M_slices_IndexFunc_int64_int64_store_Lay_1_l0 a0 (IntKind.i64.wrap (x0 + 1))
    else none
  else
    some (.inr ())
  partial_fixpoint
def M_slices_IndexFunc_int64_int64_store_Lay_1 (a0 : List (List Int)) : Option Int :=
  (M_slices_IndexFunc_int64_int64_store_Lay_1_l0 a0 0) >>= fun e => match e with
  | .inl r => some r
  | .inr j2 =>
    some (-1)
def M_slices_ContainsFunc_int64_int64_store_Lay_1 (a0 : List (List Int)) : Option Bool :=
  (M_slices_IndexFunc_int64_int64_store_Lay_1 a0) >>= fun r1 =>
  some (decide (r1 ≥ 0))
def M_leb_Zig (a0 : Int) : Option Int :=
  some (bXor .u64 (IntKind.u64.wrap (sShl .i64 a0 1)) (IntKind.u64.wrap (sShr .i64 a0 63)))
def M_leb_Signed_l0 (a1 : List Int) (x0 : Int) (x1 : List Int) : Option (List Int) :=
  if x0 < (a1.length : Int) then
    if 0 ≤ x0 ∧ x0 < (a1.length : Int) then
      (M_leb_Zig (at' a1 x0)) >>= fun r2 =>
      (M_leb_put x1 r2) >>= fun r3 =>
      M_leb_Signed_l0 a1 (IntKind.i64.wrap (x0 + 1)) r3
    else none
  else
    some x1
  partial_fixpoint
def M_leb_Signed (a0 : List Int) (a1 : List Int) : Option (List Int) :=
  (M_slices_Clone_byte_byte a0) >>= fun r1 =>
  (M_leb_Signed_l0 a1 0 r1) >>= fun j4 =>
  some j4
def M_store_Lay_l0 (a1 : List (List Int)) (x0 : Int) (x1 : List Int) : Option (List Int) :=
  if x0 < (a1.length : Int) then
    if 0 ≤ x0 ∧ x0 < (a1.length : Int) then
      (M_leb_Put x1 [IntKind.u64.wrap ((at' a1 x0).length : Int)]) >>= fun r4 =>
      (M_leb_Signed r4 (at' a1 x0)) >>= fun r5 =>
      M_store_Lay_l0 a1 (IntKind.i64.wrap (x0 + 1)) r5
    else none
  else
    some x1
  partial_fixpoint
def M_store_Lay (a0 : Int) (a1 : List (List Int)) : Option ((List Int) × Int) :=
  if a0 < 0 then
    some ([], 1)
  else
    ((
      if (a1.length : Int) > 8 then
        some true
      else
        (M_slices_ContainsFunc_int64_int64_store_Lay_1 a1) >>= fun r1 =>
        some r1) : Option Bool) >>= fun j2 =>
    if j2 = true then
      some ([], 3)
    else
      (M_leb_Put [] [IntKind.u64.wrap a0, IntKind.u64.wrap (a1.length : Int)]) >>= fun r3 =>
      (M_store_Lay_l0 a1 0 r3) >>= fun j6 =>
      some (j6, 0)
def M_thrumref03_code (a0 : Int) : Option (List Int) :=
  if a0 < 128 then
    some [IntKind.u8.wrap a0]
  else
    (M_thrumref03_code (IntKind.u64.wrap (Int.tdiv a0 128))) >>= fun r1 =>
    if room 1 ([IntKind.u8.wrap ((IntKind.u8.wrap (Int.tmod a0 128)) + 128)] ++ r1).length then
      some ([IntKind.u8.wrap ((IntKind.u8.wrap (Int.tmod a0 128)) + 128)] ++ r1)
    else none
  partial_fixpoint
def M_thrumref03_Put_l0 (a1 : List Int) (x0 : Int) (x1 : List Int) : Option (List Int) :=
  if x0 < (a1.length : Int) then
    if 0 ≤ x0 ∧ x0 < (a1.length : Int) then
      (M_thrumref03_code (at' a1 x0)) >>= fun r1 =>
      if room 1 (x1 ++ r1).length then
        M_thrumref03_Put_l0 a1 (IntKind.i64.wrap (x0 + 1)) (x1 ++ r1)
      else none
    else none
  else
    some x1
  partial_fixpoint
def M_thrumref03_Put (a0 : List Int) (a1 : List Int) : Option (List Int) :=
  if room 1 (a0 : List Int).length then
    (M_thrumref03_Put_l0 a1 0 a0) >>= fun j2 =>
    some j2
  else none
def M_thrumref03_Zig (a0 : Int) : Option Int :=
  if a0 < 0 then
    some (IntKind.u64.wrap ((IntKind.u64.wrap (2 * (IntKind.u64.wrap (IntKind.i64.wrap (0 - (IntKind.i64.wrap (a0 + 1))))))) + 1))
  else
    some (IntKind.u64.wrap (2 * (IntKind.u64.wrap a0)))
def M_thrumref03_Signed_l0 (a1 : List Int) (x0 : Int) (x1 : List Int) : Option (List Int) :=
  if x0 < (a1.length : Int) then
    if 0 ≤ x0 ∧ x0 < (a1.length : Int) then
      (M_thrumref03_Zig (at' a1 x0)) >>= fun r1 =>
      (M_thrumref03_code r1) >>= fun r2 =>
      if room 1 (x1 ++ r2).length then
        M_thrumref03_Signed_l0 a1 (IntKind.i64.wrap (x0 + 1)) (x1 ++ r2)
      else none
    else none
  else
    some x1
  partial_fixpoint
def M_thrumref03_Signed (a0 : List Int) (a1 : List Int) : Option (List Int) :=
  if room 1 (a0 : List Int).length then
    (M_thrumref03_Signed_l0 a1 0 a0) >>= fun j3 =>
    some j3
  else none
def M_thrumref20_Lay_l0 (a1 : List (List Int)) (x0 : Int) (x1 : List Int) : Option (Sum ((List Int) × Int) (List Int)) :=
  if x0 < (a1.length : Int) then
    if 0 ≤ x0 ∧ x0 < (a1.length : Int) then
      if ((at' a1 x0).length : Int) > 4096 then
        some (.inl ([], 3))
      else
        (M_thrumref03_Put x1 [IntKind.u64.wrap ((at' a1 x0).length : Int)]) >>= fun r2 =>
        (M_thrumref03_Signed r2 (at' a1 x0)) >>= fun r3 =>
        M_thrumref20_Lay_l0 a1 (IntKind.i64.wrap (x0 + 1)) r3
    else none
  else
    some (.inr x1)
  partial_fixpoint
def M_thrumref20_Lay (a0 : Int) (a1 : List (List Int)) : Option ((List Int) × Int) :=
  if a0 < 0 then
    some ([], 1)
  else
    if (a1.length : Int) > 8 then
      some ([], 3)
    else
      (M_thrumref03_Put [] [IntKind.u64.wrap a0, IntKind.u64.wrap (a1.length : Int)]) >>= fun r1 =>
      (M_thrumref20_Lay_l0 a1 0 r1) >>= fun e => match e with
      | .inl r => some r
      | .inr j4 =>
        some (j4, 0)
def M_thrum_store_text_number (a0 : T_store_text) (a1 : Int) : Option (Int × (List Int) × Int × Bool) :=
  (M_leb_Get a0.F_b a0.F_at) >>= fun r1 =>
  ((
    if a0.F_bad = true then
      some true
    else
      some (r1.2.2 != 0)) : Option Bool) >>= fun j2 =>
  ((
    if j2 = true then
      some true
    else
      some (decide (r1.1 > a1))) : Option Bool) >>= fun j3 =>
  if j3 = true then
    some (0, a0.F_b, a0.F_at, true)
  else
    some (IntKind.i64.wrap r1.1, a0.F_b, r1.2.1, a0.F_bad)
def M_leb_Zag (a0 : Int) : Option Int :=
  some (bXor .i64 (IntKind.i64.wrap (sShr .u64 a0 1)) (IntKind.i64.wrap (0 - (IntKind.i64.wrap (bAnd .u64 a0 1)))))
def M_leb_Take (a0 : List Int) (a1 : Int) : Option (Int × Int × Int) :=
  (M_leb_Get a0 a1) >>= fun r1 =>
  if r1.2.2 ≠ 0 then
    some (0, 0, r1.2.2)
  else
    (M_leb_Zag r1.1) >>= fun r2 =>
    some (r2, r1.2.1, 0)
def M_thrum_store_text_list_l0 (r3 : Int × (List Int) × Int × Bool) (x0 : Int) (x1 : List Int) (x2 : Int) (x3 : Bool) : Option ((List Int) × Int × Bool) :=
  ((
    if x0 > 0 then
      some (!x3)
    else
      some false) : Option Bool) >>= fun j4 =>
  if j4 = true then
    (M_leb_Take r3.2.1 x2) >>= fun r5 =>
    if room 8 (x1 ++ [r5.1]).length then
      M_thrum_store_text_list_l0 r3 (IntKind.i64.wrap (x0 - 1)) (x1 ++ [r5.1]) r5.2.1 (r5.2.2 != 0)
    else none
  else
    some (x1, x2, x3)
  partial_fixpoint
def M_thrum_store_text_list (a0 : T_store_text) : Option ((List Int) × (List Int) × Int × Bool) :=
  if 0 ≤ (0 : Int) ∧ (0 : Int) ≤ (0 : Int) ∧ (0 : Int) ≤ 140737488355328 ∧ (0 : Int) * ((8 : Nat) : Int) ≤ 140737488355328 then
    some (List.replicate (Int.toNat 0) 0) >>= fun y1 =>
    (M_thrum_store_text_number a0 4096) >>= fun r3 =>
    (M_thrum_store_text_list_l0 r3 r3.1 y1 r3.2.2.1 r3.2.2.2) >>= fun j6 =>
    some (j6.1, r3.2.1, j6.2.1, j6.2.2)
  else none
def M_store_Take_l0 (a0 : List Int) (r1 : Int × (List Int) × Int × Bool) (r2 : Int × (List Int) × Int × Bool) (x0 : List (List Int)) (x1 : List Int) (x2 : Int) (x3 : Bool) : Option ((List (List Int)) × (List Int) × Int × Bool) :=
  ((
    if (x0.length : Int) < r2.1 then
      some (!x3)
    else
      some false) : Option Bool) >>= fun j3 =>
  if j3 = true then
    (M_thrum_store_text_list (⟨x1, x2, x3⟩ : T_store_text)) >>= fun r4 =>
    if room 24 (x0 ++ [r4.1]).length then
      M_store_Take_l0 a0 r1 r2 (x0 ++ [r4.1]) r4.2.1 r4.2.2.1 r4.2.2.2
    else none
  else
    some (x0, x1, x2, x3)
  partial_fixpoint
def M_store_Take (a0 : List Int) : Option (Int × (List (List Int)) × Int) :=
  (M_thrum_store_text_number (⟨a0, 0, false⟩ : T_store_text) 1073741824) >>= fun r1 =>
  (M_thrum_store_text_number (⟨r1.2.1, r1.2.2.1, r1.2.2.2⟩ : T_store_text) 8) >>= fun r2 =>
  (M_store_Take_l0 a0 r1 r2 [] r2.2.1 r2.2.2.1 r2.2.2.2) >>= fun j5 =>
  ((
    if j5.2.2.2 = true then
      some true
    else
      some (decide (j5.2.2.1 < (a0.length : Int)))) : Option Bool) >>= fun j6 =>
  if j6 = true then
    some (0, [], 6)
  else
    some (r1.1, j5.1, 0)
def M_thrumref03_Get_l0 (a0 : List Int) (a1 : Int) (x0 : Int) (x1 : Int) : Option (Sum (Int × Int × Int) Unit) :=
  if x0 < 10 then
    ((
      if a1 ≥ (a0.length : Int) then
        some true
      else
        some (decide (x0 ≥ (IntKind.i64.wrap ((a0.length : Int) - a1))))) : Option Bool) >>= fun j1 =>
    if j1 = true then
      some (.inl (0, 0, 5))
    else
      if 0 ≤ IntKind.i64.wrap (a1 + x0) ∧ IntKind.i64.wrap (a1 + x0) < (a0.length : Int) then
        ((
          if x0 = 9 then
            some (decide ((at' a0 (IntKind.i64.wrap (a1 + x0))) > 1))
          else
            some false) : Option Bool) >>= fun j2 =>
        if j2 = true then
          some (.inl (0, 0, 6))
        else
          some (IntKind.u64.wrap (Int.tmod (at' a0 (IntKind.i64.wrap (a1 + x0))) 128)) >>= fun y3 =>
          if 0 ≤ IntKind.i64.wrap (7 * x0) then
            if (at' a0 (IntKind.i64.wrap (a1 + x0))) < 128 then
              ((
                if x0 > 0 then
                  some ((at' a0 (IntKind.i64.wrap (a1 + x0))) == 0)
                else
                  some false) : Option Bool) >>= fun j5 =>
              if j5 = true then
                some (.inl (0, 0, 6))
              else
                some (.inl (bOr .u64 x1 (sShl .u64 y3 (IntKind.i64.wrap (7 * x0))), IntKind.i64.wrap ((IntKind.i64.wrap (a1 + x0)) + 1), 0))
            else
              M_thrumref03_Get_l0 a0 a1 (IntKind.i64.wrap (x0 + 1)) (bOr .u64 x1 (sShl .u64 y3 (IntKind.i64.wrap (7 * x0))))
          else none
      else none
  else
    some (.inr ())
  partial_fixpoint
def M_thrumref03_Get (a0 : List Int) (a1 : Int) : Option (Int × Int × Int) :=
  if a1 < 0 then
    some (0, 0, 1)
  else
    (M_thrumref03_Get_l0 a0 a1 0 0) >>= fun e => match e with
    | .inl r => some r
    | .inr j6 =>
      some (0, 0, 6)
def M_thrumref03_Many_l0 (a0 : List Int) (a2 : Int) (x0 : Int) (x1 : List Int) (x2 : Int) : Option (Sum ((List Int) × Int × Int) ((List Int) × Int)) :=
  if x0 < a2 then
    (M_thrumref03_Get a0 x2) >>= fun r1 =>
    if r1.2.2 ≠ 0 then
      some (.inl ([], 0, r1.2.2))
    else
      if room 8 (x1 ++ [r1.1]).length then
        M_thrumref03_Many_l0 a0 a2 (IntKind.i64.wrap (x0 + 1)) (x1 ++ [r1.1]) r1.2.1
      else none
  else
    some (.inr (x1, x2))
  partial_fixpoint
def M_thrumref03_Many (a0 : List Int) (a1 : Int) (a2 : Int) : Option ((List Int) × Int × Int) :=
  if a2 < 0 then
    some ([], 0, 1)
  else
    (M_thrumref03_Many_l0 a0 a2 0 [] a1) >>= fun e => match e with
    | .inl r => some r
    | .inr j2 =>
      some (j2.1, j2.2, 0)
def M_thrumref03_Zag (a0 : Int) : Option Int :=
  if (Int.tmod a0 2) = 1 then
    some (IntKind.i64.wrap ((IntKind.i64.wrap (0 - (IntKind.i64.wrap (IntKind.u64.wrap (Int.tdiv a0 2))))) - 1))
  else
    some (IntKind.i64.wrap (IntKind.u64.wrap (Int.tdiv a0 2)))
def M_thrumref03_Take (a0 : List Int) (a1 : Int) : Option (Int × Int × Int) :=
  (M_thrumref03_Get a0 a1) >>= fun r1 =>
  if r1.2.2 ≠ 0 then
    some (0, 0, r1.2.2)
  else
    (M_thrumref03_Zag r1.1) >>= fun r2 =>
    some (r2, r1.2.1, 0)
def M_thrumref20_Take_l1 (a0 : List Int) (r1 : (List Int) × Int × Int) (x0 : Int) (x1 : List (List Int)) (r4 : Int × Int × Int) (x0_ : Int) (x1_ : List Int) (x2_ : Int) : Option (Sum (Int × (List (List Int)) × Int) ((List Int) × Int)) :=
  if x0_ < r4.1 then
    (M_thrumref03_Take a0 x2_) >>= fun r6 =>
    if r6.2.2 ≠ 0 then
      some (.inl (0, [], 6))
    else
      if room 8 (x1_ ++ [r6.1]).length then
        M_thrumref20_Take_l1 a0 r1 x0 x1 r4 (IntKind.u64.wrap (x0_ + 1)) (x1_ ++ [r6.1]) r6.2.1
      else none
  else
    some (.inr (x1_, x2_))
  partial_fixpoint
def M_thrumref20_Take_l0 (a0 : List Int) (r1 : (List Int) × Int × Int) (x0 : Int) (x1 : List (List Int)) (x2 : Int) : Option (Sum (Int × (List (List Int)) × Int) ((List (List Int)) × Int)) :=
  if x0 < (at' r1.1 1) then
    (M_thrumref03_Get a0 x2) >>= fun r4 =>
    ((
      if r4.2.2 ≠ 0 then
        some true
      else
        some (decide (r4.1 > 4096))) : Option Bool) >>= fun j5 =>
    if j5 = true then
      some (.inl (0, [], 6))
    else
      (M_thrumref20_Take_l1 a0 r1 x0 x1 r4 0 [] r4.2.1) >>= fun e => match e with
      | .inl r => some (.inl r)
      | .inr j7 =>
        if room 24 (x1 ++ [j7.1]).length then
          M_thrumref20_Take_l0 a0 r1 (IntKind.u64.wrap (x0 + 1)) (x1 ++ [j7.1]) j7.2
        else none
  else
    some (.inr (x1, x2))
  partial_fixpoint
def M_thrumref20_Take (a0 : List Int) : Option (Int × (List (List Int)) × Int) :=
  (M_thrumref03_Many a0 0 2) >>= fun r1 =>
  ((
    if r1.2.2 ≠ 0 then
      some true
    else
      if 0 ≤ (0 : Int) ∧ (0 : Int) < (r1.1.length : Int) then
        some (decide ((at' r1.1 0) > 1073741824))
      else none) : Option Bool) >>= fun j2 =>
  ((
    if j2 = true then
      some true
    else
      if 0 ≤ (1 : Int) ∧ (1 : Int) < (r1.1.length : Int) then
        some (decide ((at' r1.1 1) > 8))
      else none) : Option Bool) >>= fun j3 =>
  if j3 = true then
    some (0, [], 6)
  else
    if 0 ≤ (1 : Int) ∧ (1 : Int) < (r1.1.length : Int) then
      (M_thrumref20_Take_l0 a0 r1 0 [] r1.2.1) >>= fun e => match e with
      | .inl r => some r
      | .inr j8 =>
        if j8.2 ≠ (a0.length : Int) then
          some (0, [], 6)
        else
          if 0 ≤ (0 : Int) ∧ (0 : Int) < (r1.1.length : Int) then
            some (IntKind.i64.wrap (at' r1.1 0), j8.1, 0)
          else none
    else none
def M_thrumref02_Same_l0 (a0 : List Int) (a1 : List Int) (x0 : Int) : Option (Sum Bool Unit) :=
  if x0 < (a0.length : Int) then
    if 0 ≤ x0 ∧ x0 < (a0.length : Int) then
      if 0 ≤ x0 ∧ x0 < (a1.length : Int) then
        if (at' a0 x0) ≠ (at' a1 x0) then
          some (.inl false)
        else
          M_thrumref02_Same_l0 a0 a1 (IntKind.i64.wrap (x0 + 1))
      else none
    else none
  else
    some (.inr ())
  partial_fixpoint
def M_thrumref02_Same (a0 : List Int) (a1 : List Int) : Option Bool :=
  if (a0.length : Int) ≠ (a1.length : Int) then
    some false
  else
    (M_thrumref02_Same_l0 a0 a1 0) >>= fun e => match e with
    | .inl r => some r
    | .inr j1 =>
      some true
def M_thrumref15_SameLists_l0 (a0 : List (List Int)) (a1 : List (List Int)) (x0 : Int) : Option (Sum Bool Unit) :=
  if x0 < (a0.length : Int) then
    if 0 ≤ x0 ∧ x0 < (a0.length : Int) then
      if 0 ≤ x0 ∧ x0 < (a1.length : Int) then
        (M_thrumref02_Same (at' a0 x0) (at' a1 x0)) >>= fun r1 =>
        if r1 = false then
          some (.inl false)
        else
          M_thrumref15_SameLists_l0 a0 a1 (IntKind.i64.wrap (x0 + 1))
      else none
    else none
  else
    some (.inr ())
  partial_fixpoint
def M_thrumref15_SameLists (a0 : List (List Int)) (a1 : List (List Int)) : Option Bool :=
  if (a0.length : Int) ≠ (a1.length : Int) then
    some false
  else
    (M_thrumref15_SameLists_l0 a0 a1 0) >>= fun e => match e with
    | .inl r => some r
    | .inr j2 =>
      some true
def M_thrumlaw20_StoreLays_l0 (a0 : Int) (a1 : List (List Int)) (a2 : List Int) (r1 : Bool) (x0 : Int) : Option (Sum Bool Unit) :=
  if x0 < (a1.length : Int) then
    if 0 ≤ x0 ∧ x0 < (a1.length : Int) then
      if ((at' a1 x0).length : Int) > 5000 then
        some (.inl r1)
      else
        M_thrumlaw20_StoreLays_l0 a0 a1 a2 r1 (IntKind.i64.wrap (x0 + 1))
    else none
  else
    some (.inr ())
  partial_fixpoint
def M_thrumlaw20_StoreLays (a0 : Int) (a1 : List (List Int)) (a2 : List Int) : Option Bool :=
  (M_thrumlaw20_live) >>= fun r1 =>
  if r1 = false then
    some false
  else
    ((
      if (a1.length : Int) > 20 then
        some true
      else
        some (decide ((a2.length : Int) > 5000))) : Option Bool) >>= fun j2 =>
    if j2 = true then
      some r1
    else
      (M_thrumlaw20_StoreLays_l0 a0 a1 a2 r1 0) >>= fun e => match e with
      | .inl r => some r
      | .inr j3 =>
        (M_store_Lay a0 a1) >>= fun r4 =>
        (M_thrumref20_Lay a0 a1) >>= fun r5 =>
        (M_store_Take a2) >>= fun r6 =>
        (M_thrumref20_Take a2) >>= fun r7 =>
        ((
          if r1 = true then
            (M_thrumref03_Same r4.1 r5.1) >>= fun r8 =>
            some r8
          else
            some false) : Option Bool) >>= fun j9 =>
        ((
          if j9 = true then
            some (r4.2 == r5.2)
          else
            some false) : Option Bool) >>= fun j10 =>
        ((
          if j10 = true then
            some (r6.1 == r7.1)
          else
            some false) : Option Bool) >>= fun j11 =>
        ((
          if j11 = true then
            (M_thrumref15_SameLists r6.2.1 r7.2.1) >>= fun r12 =>
            some r12
          else
            some false) : Option Bool) >>= fun j13 =>
        ((
          if j13 = true then
            some (r6.2.2 == r7.2.2)
          else
            some false) : Option Bool) >>= fun j14 =>
        some j14
def M_thrumref20_Few_l0 (a0 : T_api_Store) (x0 : Int) : Option (Sum Bool Unit) :=
  if x0 < (a0.F_Cells.length : Int) then
    if 0 ≤ x0 ∧ x0 < (a0.F_Cells.length : Int) then
      if ((at' a0.F_Cells x0).length : Int) > 600 then
        some (.inl false)
      else
        M_thrumref20_Few_l0 a0 (IntKind.i64.wrap (x0 + 1))
    else none
  else
    some (.inr ())
  partial_fixpoint
def M_thrumref20_Few (a0 : T_api_Store) : Option Bool :=
  (M_thrumref20_Few_l0 a0 0) >>= fun e => match e with
  | .inl r => some r
  | .inr j1 =>
    some (decide ((a0.F_Cells.length : Int) ≤ 140))
def M_thrumlaw20_StoreBack_l0 (a0 : Int) (a1 : List (List Int)) (a2 : List Int) (a3 : T_api_Store) (r1 : Bool) (x0 : Int) : Option (Sum Bool Unit) :=
  if x0 < (a1.length : Int) then
    if 0 ≤ x0 ∧ x0 < (a1.length : Int) then
      if ((at' a1 x0).length : Int) > 5000 then
        some (.inl r1)
      else
        M_thrumlaw20_StoreBack_l0 a0 a1 a2 a3 r1 (IntKind.i64.wrap (x0 + 1))
    else none
  else
    some (.inr ())
  partial_fixpoint
def M_thrumlaw20_StoreBack (a0 : Int) (a1 : List (List Int)) (a2 : List Int) (a3 : T_api_Store) : Option Bool :=
  (M_thrumlaw20_live) >>= fun r1 =>
  if r1 = false then
    some false
  else
    ((
      if (a1.length : Int) > 20 then
        some true
      else
        some (decide ((a2.length : Int) > 5000))) : Option Bool) >>= fun j2 =>
    ((
      if j2 = true then
        some true
      else
        (M_thrumref20_Few a3) >>= fun r3 =>
        some (!r3)) : Option Bool) >>= fun j4 =>
    if j4 = true then
      some r1
    else
      (M_thrumlaw20_StoreBack_l0 a0 a1 a2 a3 r1 0) >>= fun e => match e with
      | .inl r => some r
      | .inr j5 =>
        (M_store_Lay a0 a1) >>= fun r6 =>
        ((
          if r6.2 = 0 then
            some (decide (a0 ≤ 1073741824))
          else
            some false) : Option Bool) >>= fun j7 =>
        ((
          if j7 = true then
            (M_store_Take r6.1) >>= fun r8 =>
            ((
              if r8.1 ≠ a0 then
                some true
              else
                (M_thrumref15_SameLists r8.2.1 a1) >>= fun r9 =>
                some (!r9)) : Option Bool) >>= fun j10 =>
            ((
              if j10 = true then
                some true
              else
                some (r8.2.2 != 0)) : Option Bool) >>= fun j11 =>
            if j11 = true then
              some (.inl false)
            else
              some (.inr ())
          else
            some (.inr ())) : Option (Sum Bool Unit)) >>= fun e => match e with
        | .inl r => some r
        | .inr j12 =>
          (M_store_Take a2) >>= fun r13 =>
          ((
            if r13.2.2 = 0 then
              (M_store_Lay r13.1 r13.2.1) >>= fun r14 =>
              ((
                if r14.2 ≠ 0 then
                  some true
                else
                  (M_thrumref03_Same r14.1 a2) >>= fun r15 =>
                  some (!r15)) : Option Bool) >>= fun j16 =>
              if j16 = true then
                some (.inl false)
              else
                some (.inr ())
            else
              some (.inr ())) : Option (Sum Bool Unit)) >>= fun e => match e with
          | .inl r => some r
          | .inr j17 =>
            (M_store_Load a3) >>= fun r18 =>
            (M_store_Save a3 a2) >>= fun r19 =>
            if r19.2 ≠ 0 then
              ((
                if r1 = true then
                  some ((r19.1.length : Int) == 0)
                else
                  some false) : Option Bool) >>= fun j20 =>
              some j20
            else
              (M_store_Load (⟨r19.1⟩ : T_api_Store)) >>= fun r21 =>
              if r1 = true then
                if r18.2.2 = 0 then
                  ((
                    if r21.2.2 = 0 then
                      (M_thrumref03_Same r21.1 a2) >>= fun r22 =>
                      some r22
                    else
                      some false) : Option Bool) >>= fun j23 =>
                  ((
                    if j23 = true then
                      some (r21.2.1 == (IntKind.i64.wrap (r18.2.1 + 1)))
                    else
                      some false) : Option Bool) >>= fun j24 =>
                  some j24
                else
                  ((
                    if r18.2.2 = 8 then
                      some (r21.2.2 == 0)
                    else
                      some false) : Option Bool) >>= fun j25 =>
                  ((
                    if j25 = true then
                      (M_thrumref03_Same r21.1 a2) >>= fun r26 =>
                      some r26
                    else
                      some false) : Option Bool) >>= fun j27 =>
                  ((
                    if j27 = true then
                      some (r21.2.1 == (IntKind.i64.wrap (r18.2.1 + 1)))
                    else
                      some false) : Option Bool) >>= fun j28 =>
                  some j28
              else
                some false
end Go.Proofs.Ythhcgcaefjmekaa.Abs
