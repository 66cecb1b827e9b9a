/- Models of functions, printed by a program. Conditions: none. -/
import Derived.Test.YtelobmiooldoaaaGreatCrcD
import Derived.Test.YtelobmiooldoaaaGreatSrtS
import Derived.Test.YtelobmiooldoaaaGreatAbs5
namespace Go.Proofs.YtelobmiooldoaaaGreat.Abs
open Go Go.RowKit
set_option linter.unusedVariables false
set_option maxRecDepth 100000

structure T_api_Sent where
  F_Scheme : Int
  F_Dim : Int
  F_L : List Int
  F_V : List Int
  F_Scale : Int
  F_Wide : Int
  F_Lev : List Int
  F_Neg : List Bool
  deriving Inhabited, DecidableEq
structure T_api_Frame where
  F_Kind : Int
  F_From : Int
  F_Step : Int
  F_S : T_api_Sent
  deriving Inhabited, DecidableEq
structure T_frame_pen where
  F_b : List Int
  F_e : Int
  deriving Inhabited, DecidableEq
structure T_frame_text where
  F_b : List Int
  F_at : Int
  deriving Inhabited, DecidableEq
structure T_frame_reader where
  F_text : T_frame_text
  F_bad : Bool
  deriving Inhabited, DecidableEq
structure T_thrumref07_text where
  F_B : List Int
  F_Bad : Bool
  deriving Inhabited, DecidableEq
structure T_topk_one where
  F_place : Int
  F_size : Int
  deriving Inhabited, DecidableEq
def T_api_Sent.en (x : T_api_Sent) : D := .agg [.int .i64 x.F_Scheme, .int .i64 x.F_Dim, .lst (List.map (D.int .i64) x.F_L), .lst (List.map (D.int .i64) x.F_V), .int .i64 x.F_Scale, .int .i64 x.F_Wide, .lst (List.map (D.int .u64) x.F_Lev), .lst (List.map D.bool x.F_Neg)]
def T_api_Frame.en (x : T_api_Frame) : D := .agg [.int .i64 x.F_Kind, .int .i64 x.F_From, .int .i64 x.F_Step, .int .i64 x.F_S.F_Scheme, .int .i64 x.F_S.F_Dim, .lst (List.map (D.int .i64) x.F_S.F_L), .lst (List.map (D.int .i64) x.F_S.F_V), .int .i64 x.F_S.F_Scale, .int .i64 x.F_S.F_Wide, .lst (List.map (D.int .u64) x.F_S.F_Lev), .lst (List.map D.bool x.F_S.F_Neg)]
def T_frame_pen.en (x : T_frame_pen) : D := .agg [.lst (List.map (D.int .u8) x.F_b), .int .i64 x.F_e]
def T_frame_text.en (x : T_frame_text) : D := .agg [.lst (List.map (D.int .u8) x.F_b), .int .i64 x.F_at]
def T_frame_reader.en (x : T_frame_reader) : D := .agg [.lst (List.map (D.int .u8) x.F_text.F_b), .int .i64 x.F_text.F_at, .bool x.F_bad]
def T_thrumref07_text.en (x : T_thrumref07_text) : D := .agg [.lst (List.map (D.int .u8) x.F_B), .bool x.F_Bad]
def T_topk_one.en (x : T_topk_one) : D := .agg [.int .i64 x.F_place, .int .u64 x.F_size]
def M_frame_Ack (a0 : Int) (a1 : Int) : Option (Int × Int × Int × Int × Int × Int × Int) :=
  some (2, a0, a1, 0, 0, 0, 0)
def M_index_measure (a0 : Int) : Option Bool :=
  ((
    if a0 > 0 then
      some (decide (a0 ≤ 4096))
    else
      some false) : Option Bool) >>= fun j1 =>
  some j1
def M_index_rises_l0 (a0 : List Int) (x0 : Int) : Option (Sum Bool Unit) :=
  if x0 < (a0.length : Int) then
    if 0 ≤ IntKind.i64.wrap (x0 - 1) ∧ IntKind.i64.wrap (x0 - 1) < (a0.length : Int) then
      if 0 ≤ x0 ∧ x0 < (a0.length : Int) then
        if (at' a0 (IntKind.i64.wrap (x0 - 1))) ≥ (at' a0 x0) then
          some (.inl false)
        else
          M_index_rises_l0 a0 (IntKind.i64.wrap (x0 + 1))
      else none
    else none
  else
    some (.inr ())
  partial_fixpoint
def M_index_rises (a0 : List Int) : Option Bool :=
  (M_index_rises_l0 a0 1) >>= fun e => match e with
  | .inl r => some r
  | .inr j1 =>
    some true
def M_index_Check (a0 : Int) (a1 : List Int) : Option Int :=
  (M_index_measure a0) >>= fun r1 =>
  ((
    if r1 = false then
      some true
    else
      (M_index_rises a1) >>= fun r2 =>
      some (!r2)) : Option Bool) >>= fun j3 =>
  if j3 = true then
    some 1
  else
    if (a1.length : Int) > 0 then
      if 0 ≤ (0 : Int) ∧ (0 : Int) < (a1.length : Int) then
        if (at' a1 0) < 0 then
          some 1
        else
          if 0 ≤ IntKind.i64.wrap ((a1.length : Int) - 1) ∧ IntKind.i64.wrap ((a1.length : Int) - 1) < (a1.length : Int) then
            if (at' a1 (IntKind.i64.wrap ((a1.length : Int) - 1))) ≥ a0 then
              some 1
            else
              some 0
          else none
      else none
    else
      some 0
def M_math_bits_Len64 (a0 : Int) : Option Int :=
  ((
    if a0 ≥ 4294967296 then
      some (32, sShr .u64 a0 32)
    else
      some (0, a0)) : Option (Int × Int)) >>= fun j1 =>
  ((
    if j1.2 ≥ 65536 then
      some (IntKind.i64.wrap (j1.1 + 16), sShr .u64 j1.2 16)
    else
      some (j1.1, j1.2)) : Option (Int × Int)) >>= fun j2 =>
  if j2.2 ≥ 256 then
    if 0 ≤ (IntKind.u8.wrap (sShr .u64 j2.2 8)) ∧ (IntKind.u8.wrap (sShr .u64 j2.2 8)) < ((ByteArray.mk #[0, 1, 2, 2, 3, 3, 3, 3, 4, 4, 4, 4, 4, 4, 4, 4, 5, 5, 5, 5, 5, 5, 5, 5, 5, 5, 5, 5, 5, 5, 5, 5, 6, 6, 6, 6, 6, 6, 6, 6, 6, 6, 6, 6, 6, 6, 6, 6, 6, 6, 6, 6, 6, 6, 6, 6, 6, 6, 6, 6, 6, 6, 6, 6, 7, 7, 7, 7, 7, 7, 7, 7, 7, 7, 7, 7, 7, 7, 7, 7, 7, 7, 7, 7, 7, 7, 7, 7, 7, 7, 7, 7, 7, 7, 7, 7, 7, 7, 7, 7, 7, 7, 7, 7, 7, 7, 7, 7, 7, 7, 7, 7, 7, 7, 7, 7, 7, 7, 7, 7, 7, 7, 7, 7, 7, 7, 7, 7, 8, 8, 8, 8, 8, 8, 8, 8, 8, 8, 8, 8, 8, 8, 8, 8, 8, 8, 8, 8, 8, 8, 8, 8, 8, 8, 8, 8, 8, 8, 8, 8, 8, 8, 8, 8, 8, 8, 8, 8, 8, 8, 8, 8, 8, 8, 8, 8, 8, 8, 8, 8, 8, 8, 8, 8, 8, 8, 8, 8, 8, 8, 8, 8, 8, 8, 8, 8, 8, 8, 8, 8, 8, 8, 8, 8, 8, 8, 8, 8, 8, 8, 8, 8, 8, 8, 8, 8, 8, 8, 8, 8, 8, 8, 8, 8, 8, 8, 8, 8, 8, 8, 8, 8, 8, 8, 8, 8, 8, 8, 8, 8, 8, 8, 8, 8, 8, 8, 8, 8, 8, 8, 8, 8, 8, 8, 8, 8]).size : Int) then
      some (IntKind.i64.wrap ((IntKind.i64.wrap (j2.1 + 8)) + (IntKind.i64.wrap (((ByteArray.mk #[0, 1, 2, 2, 3, 3, 3, 3, 4, 4, 4, 4, 4, 4, 4, 4, 5, 5, 5, 5, 5, 5, 5, 5, 5, 5, 5, 5, 5, 5, 5, 5, 6, 6, 6, 6, 6, 6, 6, 6, 6, 6, 6, 6, 6, 6, 6, 6, 6, 6, 6, 6, 6, 6, 6, 6, 6, 6, 6, 6, 6, 6, 6, 6, 7, 7, 7, 7, 7, 7, 7, 7, 7, 7, 7, 7, 7, 7, 7, 7, 7, 7, 7, 7, 7, 7, 7, 7, 7, 7, 7, 7, 7, 7, 7, 7, 7, 7, 7, 7, 7, 7, 7, 7, 7, 7, 7, 7, 7, 7, 7, 7, 7, 7, 7, 7, 7, 7, 7, 7, 7, 7, 7, 7, 7, 7, 7, 7, 8, 8, 8, 8, 8, 8, 8, 8, 8, 8, 8, 8, 8, 8, 8, 8, 8, 8, 8, 8, 8, 8, 8, 8, 8, 8, 8, 8, 8, 8, 8, 8, 8, 8, 8, 8, 8, 8, 8, 8, 8, 8, 8, 8, 8, 8, 8, 8, 8, 8, 8, 8, 8, 8, 8, 8, 8, 8, 8, 8, 8, 8, 8, 8, 8, 8, 8, 8, 8, 8, 8, 8, 8, 8, 8, 8, 8, 8, 8, 8, 8, 8, 8, 8, 8, 8, 8, 8, 8, 8, 8, 8, 8, 8, 8, 8, 8, 8, 8, 8, 8, 8, 8, 8, 8, 8, 8, 8, 8, 8, 8, 8, 8, 8, 8, 8, 8, 8, 8, 8, 8, 8, 8, 8, 8, 8, 8, 8]).data.getD (Int.toNat (IntKind.u8.wrap (sShr .u64 j2.2 8))) 0).toNat : Int))))
    else none
  else
    if 0 ≤ (IntKind.u8.wrap j2.2) ∧ (IntKind.u8.wrap j2.2) < ((ByteArray.mk #[0, 1, 2, 2, 3, 3, 3, 3, 4, 4, 4, 4, 4, 4, 4, 4, 5, 5, 5, 5, 5, 5, 5, 5, 5, 5, 5, 5, 5, 5, 5, 5, 6, 6, 6, 6, 6, 6, 6, 6, 6, 6, 6, 6, 6, 6, 6, 6, 6, 6, 6, 6, 6, 6, 6, 6, 6, 6, 6, 6, 6, 6, 6, 6, 7, 7, 7, 7, 7, 7, 7, 7, 7, 7, 7, 7, 7, 7, 7, 7, 7, 7, 7, 7, 7, 7, 7, 7, 7, 7, 7, 7, 7, 7, 7, 7, 7, 7, 7, 7, 7, 7, 7, 7, 7, 7, 7, 7, 7, 7, 7, 7, 7, 7, 7, 7, 7, 7, 7, 7, 7, 7, 7, 7, 7, 7, 7, 7, 8, 8, 8, 8, 8, 8, 8, 8, 8, 8, 8, 8, 8, 8, 8, 8, 8, 8, 8, 8, 8, 8, 8, 8, 8, 8, 8, 8, 8, 8, 8, 8, 8, 8, 8, 8, 8, 8, 8, 8, 8, 8, 8, 8, 8, 8, 8, 8, 8, 8, 8, 8, 8, 8, 8, 8, 8, 8, 8, 8, 8, 8, 8, 8, 8, 8, 8, 8, 8, 8, 8, 8, 8, 8, 8, 8, 8, 8, 8, 8, 8, 8, 8, 8, 8, 8, 8, 8, 8, 8, 8, 8, 8, 8, 8, 8, 8, 8, 8, 8, 8, 8, 8, 8, 8, 8, 8, 8, 8, 8, 8, 8, 8, 8, 8, 8, 8, 8, 8, 8, 8, 8, 8, 8, 8, 8, 8, 8]).size : Int) then
      some (IntKind.i64.wrap (j2.1 + (IntKind.i64.wrap (((ByteArray.mk #[0, 1, 2, 2, 3, 3, 3, 3, 4, 4, 4, 4, 4, 4, 4, 4, 5, 5, 5, 5, 5, 5, 5, 5, 5, 5, 5, 5, 5, 5, 5, 5, 6, 6, 6, 6, 6, 6, 6, 6, 6, 6, 6, 6, 6, 6, 6, 6, 6, 6, 6, 6, 6, 6, 6, 6, 6, 6, 6, 6, 6, 6, 6, 6, 7, 7, 7, 7, 7, 7, 7, 7, 7, 7, 7, 7, 7, 7, 7, 7, 7, 7, 7, 7, 7, 7, 7, 7, 7, 7, 7, 7, 7, 7, 7, 7, 7, 7, 7, 7, 7, 7, 7, 7, 7, 7, 7, 7, 7, 7, 7, 7, 7, 7, 7, 7, 7, 7, 7, 7, 7, 7, 7, 7, 7, 7, 7, 7, 8, 8, 8, 8, 8, 8, 8, 8, 8, 8, 8, 8, 8, 8, 8, 8, 8, 8, 8, 8, 8, 8, 8, 8, 8, 8, 8, 8, 8, 8, 8, 8, 8, 8, 8, 8, 8, 8, 8, 8, 8, 8, 8, 8, 8, 8, 8, 8, 8, 8, 8, 8, 8, 8, 8, 8, 8, 8, 8, 8, 8, 8, 8, 8, 8, 8, 8, 8, 8, 8, 8, 8, 8, 8, 8, 8, 8, 8, 8, 8, 8, 8, 8, 8, 8, 8, 8, 8, 8, 8, 8, 8, 8, 8, 8, 8, 8, 8, 8, 8, 8, 8, 8, 8, 8, 8, 8, 8, 8, 8, 8, 8, 8, 8, 8, 8, 8, 8, 8, 8, 8, 8, 8, 8, 8, 8, 8, 8]).data.getD (Int.toNat (IntKind.u8.wrap j2.2)) 0).toNat : Int))))
    else none
def M_plane_Width (a0 : Int) : Option Int :=
  (M_math_bits_Len64 a0) >>= fun r1 =>
  some r1
def M_frame_bare_1_c (a0 : Int) (a1 : Int) (a2 : Int) (a3 : List Int) (a4 : List Int) (a5 : Int) (a6 : Int) (a7 : List Int) (a8 : List Bool) : Option Bool :=
  (M_plane_Width a0) >>= fun r1 =>
  some (decide (r1 > a6))
def M_slices_IndexFunc_uint64_uint64_frame_bare_1_l0 (a0 : List Int) (a1 : Int) (a2 : Int) (a3 : List Int) (a4 : List Int) (a5 : Int) (a6 : Int) (a7 : List Int) (a8 : List Bool) (x0 : Int) : Option (Sum Int Unit) :=
  if x0 < (a0.length : Int) then
    if 0 ≤ x0 ∧ x0 < (a0.length : Int) then
      (M_frame_bare_1_c (at' a0 x0) a1 a2 a3 a4 a5 a6 a7 a8) >>= fun r1 =>
      if r1 = true then
        some (.inl x0)
      else
        M_slices_IndexFunc_uint64_uint64_frame_bare_1_l0 a0 a1 a2 a3 a4 a5 a6 a7 a8 (IntKind.i64.wrap (x0 + 1))
    else none
  else
    some (.inr ())
  partial_fixpoint
def M_slices_IndexFunc_uint64_uint64_frame_bare_1 (a0 : List Int) (a1 : Int) (a2 : Int) (a3 : List Int) (a4 : List Int) (a5 : Int) (a6 : Int) (a7 : List Int) (a8 : List Bool) : Option Int :=
  (M_slices_IndexFunc_uint64_uint64_frame_bare_1_l0 a0 a1 a2 a3 a4 a5 a6 a7 a8 0) >>= fun e => match e with
  | .inl r => some r
  | .inr j2 =>
    some (-1)
def M_slices_ContainsFunc_uint64_uint64_frame_bare_1 (a0 : List Int) (a1 : Int) (a2 : Int) (a3 : List Int) (a4 : List Int) (a5 : Int) (a6 : Int) (a7 : List Int) (a8 : List Bool) : Option Bool :=
  (M_slices_IndexFunc_uint64_uint64_frame_bare_1 a0 a1 a2 a3 a4 a5 a6 a7 a8) >>= fun r1 =>
  some (decide (r1 ≥ 0))
def M_frame_bare (a0 : T_api_Sent) : Option (Int × Int × (List Int) × (List Int) × Int × Int × (List Int) × (List Bool) × Bool) :=
  ((
    if a0.F_Dim > 0 then
      some (decide (a0.F_Dim ≤ 4096))
    else
      some false) : Option Bool) >>= fun j1 =>
  if a0.F_Scheme = 0 then
    ((
      if j1 = true then
        some ((a0.F_V.length : Int) == a0.F_Dim)
      else
        some false) : Option Bool) >>= fun j2 =>
    some (0, 0, a0.F_L, [], a0.F_Scale, a0.F_Wide, a0.F_Lev, a0.F_Neg, j2)
  else
    if a0.F_Scheme = 1 then
      ((
        if j1 = true then
          (M_index_Check a0.F_Dim a0.F_L) >>= fun r3 =>
          some (r3 == 0)
        else
          some false) : Option Bool) >>= fun j4 =>
      ((
        if j4 = true then
          some ((a0.F_L.length : Int) == (a0.F_V.length : Int))
        else
          some false) : Option Bool) >>= fun j5 =>
      some (0, 0, [], [], a0.F_Scale, a0.F_Wide, a0.F_Lev, a0.F_Neg, j5)
    else
      if a0.F_Scheme = 2 then
        ((
          if j1 = true then
            some (decide (a0.F_Wide > 0))
          else
            some false) : Option Bool) >>= fun j6 =>
        ((
          if j6 = true then
            some (decide (a0.F_Wide ≤ 8))
          else
            some false) : Option Bool) >>= fun j7 =>
        ((
          if j7 = true then
            some ((a0.F_Lev.length : Int) == a0.F_Dim)
          else
            some false) : Option Bool) >>= fun j8 =>
        ((
          if j8 = true then
            (M_slices_ContainsFunc_uint64_uint64_frame_bare_1 a0.F_Lev a0.F_Scheme a0.F_Dim a0.F_L a0.F_V a0.F_Scale a0.F_Wide a0.F_Lev a0.F_Neg) >>= fun r9 =>
            some (!r9)
          else
            some false) : Option Bool) >>= fun j10 =>
        ((
          if j10 = true then
            some (decide (a0.F_Scale ≥ 0))
          else
            some false) : Option Bool) >>= fun j11 =>
        ((
          if j11 = true then
            some ((a0.F_Neg.length : Int) == a0.F_Dim)
          else
            some false) : Option Bool) >>= fun j12 =>
        some (0, 0, a0.F_L, a0.F_V, 0, 0, [], [], j12)
      else
        if a0.F_Scheme = 3 then
          ((
            if j1 = true then
              some (decide (a0.F_Scale ≥ 0))
            else
              some false) : Option Bool) >>= fun j13 =>
          ((
            if j13 = true then
              some ((a0.F_Neg.length : Int) == a0.F_Dim)
            else
              some false) : Option Bool) >>= fun j14 =>
          some (0, 0, a0.F_L, a0.F_V, 0, a0.F_Wide, a0.F_Lev, [], j14)
        else
          some (0, 0, a0.F_L, a0.F_V, a0.F_Scale, a0.F_Wide, a0.F_Lev, a0.F_Neg, false)
def M_slices_Equal_int_int_l0 (a0 : List Int) (a1 : List Int) (x0 : Int) : Option (Sum Bool Unit) :=
  if x0 < (a0.length : Int) then
    if 0 ≤ x0 ∧ x0 < (a0.length : Int) then
      if 0 ≤ x0 ∧ x0 < (a1.length : Int) then
        if (at' a0 x0) ≠ (at' a1 x0) then
          some (.inl false)
        else
          M_slices_Equal_int_int_l0 a0 a1 (IntKind.i64.wrap (x0 + 1))
      else none
    else none
  else
    some (.inr ())
  partial_fixpoint
def M_slices_Equal_int_int (a0 : List Int) (a1 : List Int) : Option Bool :=
  if (a0.length : Int) ≠ (a1.length : Int) then
    some false
  else
    (M_slices_Equal_int_int_l0 a0 a1 0) >>= fun e => match e with
    | .inl r => some r
    | .inr j1 =>
      some true
def M_slices_Equal_int64_int64_l0 (a0 : List Int) (a1 : List Int) (x0 : Int) : Option (Sum Bool Unit) :=
  if x0 < (a0.length : Int) then
    if 0 ≤ x0 ∧ x0 < (a0.length : Int) then
      if 0 ≤ x0 ∧ x0 < (a1.length : Int) then
        if (at' a0 x0) ≠ (at' a1 x0) then
          some (.inl false)
        else
          M_slices_Equal_int64_int64_l0 a0 a1 (IntKind.i64.wrap (x0 + 1))
      else none
    else none
  else
    some (.inr ())
  partial_fixpoint
def M_slices_Equal_int64_int64 (a0 : List Int) (a1 : List Int) : Option Bool :=
  if (a0.length : Int) ≠ (a1.length : Int) then
    some false
  else
    (M_slices_Equal_int64_int64_l0 a0 a1 0) >>= fun e => match e with
    | .inl r => some r
    | .inr j1 =>
      some true
def M_slices_Equal_uint64_uint64_l0 (a0 : List Int) (a1 : List Int) (x0 : Int) : Option (Sum Bool Unit) :=
  if x0 < (a0.length : Int) then
    if 0 ≤ x0 ∧ x0 < (a0.length : Int) then
      if 0 ≤ x0 ∧ x0 < (a1.length : Int) then
        if (at' a0 x0) ≠ (at' a1 x0) then
          some (.inl false)
        else
          M_slices_Equal_uint64_uint64_l0 a0 a1 (IntKind.i64.wrap (x0 + 1))
      else none
    else none
  else
    some (.inr ())
  partial_fixpoint
def M_slices_Equal_uint64_uint64 (a0 : List Int) (a1 : List Int) : Option Bool :=
  if (a0.length : Int) ≠ (a1.length : Int) then
    some false
  else
    (M_slices_Equal_uint64_uint64_l0 a0 a1 0) >>= fun e => match e with
    | .inl r => some r
    | .inr j1 =>
      some true
def M_slices_Equal_bool_bool_l0 (a0 : List Bool) (a1 : List Bool) (x0 : Int) : Option (Sum Bool Unit) :=
  if x0 < (a0.length : Int) then
    if 0 ≤ x0 ∧ x0 < (a0.length : Int) then
      if 0 ≤ x0 ∧ x0 < (a1.length : Int) then
        if (at' a0 x0) ≠ (at' a1 x0) then
          some (.inl false)
        else
          M_slices_Equal_bool_bool_l0 a0 a1 (IntKind.i64.wrap (x0 + 1))
      else none
    else none
  else
    some (.inr ())
  partial_fixpoint
def M_slices_Equal_bool_bool (a0 : List Bool) (a1 : List Bool) : Option Bool :=
  if (a0.length : Int) ≠ (a1.length : Int) then
    some false
  else
    (M_slices_Equal_bool_bool_l0 a0 a1 0) >>= fun e => match e with
    | .inl r => some r
    | .inr j1 =>
      some true
def M_frame_same (a0 : T_api_Sent) (a1 : T_api_Sent) : Option Bool :=
  ((
    if ([a0.F_Scheme, a0.F_Dim, a0.F_Scale, a0.F_Wide] : List Int) = [a1.F_Scheme, a1.F_Dim, a1.F_Scale, a1.F_Wide] then
      (M_slices_Equal_int_int a0.F_L a1.F_L) >>= fun r1 =>
      some r1
    else
      some false) : Option Bool) >>= fun j2 =>
  ((
    if j2 = true then
      (M_slices_Equal_int64_int64 a0.F_V a1.F_V) >>= fun r3 =>
      some r3
    else
      some false) : Option Bool) >>= fun j4 =>
  ((
    if j4 = true then
      (M_slices_Equal_uint64_uint64 a0.F_Lev a1.F_Lev) >>= fun r5 =>
      some r5
    else
      some false) : Option Bool) >>= fun j6 =>
  ((
    if j6 = true then
      (M_slices_Equal_bool_bool a0.F_Neg a1.F_Neg) >>= fun r7 =>
      some r7
    else
      some false) : Option Bool) >>= fun j8 =>
  some j8
def M_frame_May (a0 : T_api_Sent) : Option Bool :=
  (M_frame_bare a0) >>= fun r1 =>
  ((
    if r1.2.2.2.2.2.2.2.2 = true then
      (M_frame_same (⟨r1.1, r1.2.1, r1.2.2.1, r1.2.2.2.1, r1.2.2.2.2.1, r1.2.2.2.2.2.1, r1.2.2.2.2.2.2.1, r1.2.2.2.2.2.2.2.1⟩ : T_api_Sent) (⟨0, 0, [], [], 0, 0, [], []⟩ : T_api_Sent)) >>= fun r2 =>
      some r2
    else
      some false) : Option Bool) >>= fun j3 =>
  some j3
def M_frame_Check (a0 : T_api_Frame) : Option Int :=
  ((
    if a0.F_From ≥ 0 then
      some (decide (a0.F_From < 64))
    else
      some false) : Option Bool) >>= fun j1 =>
  ((
    if j1 = true then
      some (decide (a0.F_Step ≥ 0))
    else
      some false) : Option Bool) >>= fun j2 =>
  ((
    if j2 = true then
      some (decide (a0.F_Step ≤ 1073741824))
    else
      some false) : Option Bool) >>= fun j3 =>
  if j3 = true then
    if a0.F_Kind = 1 then
      (M_frame_May a0.F_S) >>= fun r4 =>
      if r4 = true then
        some 0
      else
        if a0.F_Kind = 2 then
          (M_frame_same a0.F_S (⟨0, 0, [], [], 0, 0, [], []⟩ : T_api_Sent)) >>= fun r5 =>
          if r5 = true then
            some 0
          else
            some 1
        else
          some 1
    else
      if a0.F_Kind = 2 then
        (M_frame_same a0.F_S (⟨0, 0, [], [], 0, 0, [], []⟩ : T_api_Sent)) >>= fun r6 =>
        if r6 = true then
          some 0
        else
          some 1
      else
        some 1
  else
    some 1
def M_slices_Clone_byte_byte (a0 : List Int) : Option (List Int) :=
  if room 1 ([] ++ a0).length then
    some ([] ++ a0)
  else none
def M_leb_put_l0 (x0 : List Int) (x1 : Int) : Option ((List Int) × Int) :=
  if x1 > 127 then
    if room 1 (x0 ++ [bOr .u8 (IntKind.u8.wrap x1) 128]).length then
      some (x0 ++ [bOr .u8 (IntKind.u8.wrap x1) 128]) >>= fun y1 =>
      M_leb_put_l0 y1 (sShr .u64 x1 7)
    else none
  else
    some (x0, x1)
  partial_fixpoint
def M_leb_put (a0 : List Int) (a1 : Int) : Option (List Int) :=
  (M_leb_put_l0 a0 a1) >>= fun j3 =>
  if room 1 (j3.1 ++ [IntKind.u8.wrap j3.2]).length then
    some (j3.1 ++ [IntKind.u8.wrap j3.2])
  else none
def M_leb_Put_l0 (a1 : List Int) (x0 : Int) (x1 : List Int) : Option (List Int) :=
  if x0 < (a1.length : Int) then
    if 0 ≤ x0 ∧ x0 < (a1.length : Int) then
      (M_leb_put x1 (at' a1 x0)) >>= fun r2 =>
      M_leb_Put_l0 a1 (IntKind.i64.wrap (x0 + 1)) r2
    else none
  else
    some x1
  partial_fixpoint
def M_leb_Put (a0 : List Int) (a1 : List Int) : Option (List Int) :=
  (M_slices_Clone_byte_byte a0) >>= fun r1 =>
  (M_leb_Put_l0 a1 0 r1) >>= fun j3 =>
  some j3
def M_leb_Zig (a0 : Int) : Option Int :=
  some (bXor .u64 (IntKind.u64.wrap (sShl .i64 a0 1)) (IntKind.u64.wrap (sShr .i64 a0 63)))
def M_leb_Signed_l0 (a1 : List Int) (x0 : Int) (x1 : List Int) : Option (List Int) :=
  if x0 < (a1.length : Int) then
    if 0 ≤ x0 ∧ x0 < (a1.length : Int) then
      (M_leb_Zig (at' a1 x0)) >>= fun r2 =>
      (M_leb_put x1 r2) >>= fun r3 =>
      M_leb_Signed_l0 a1 (IntKind.i64.wrap (x0 + 1)) r3
    else none
  else
    some x1
  partial_fixpoint
def M_leb_Signed (a0 : List Int) (a1 : List Int) : Option (List Int) :=
  (M_slices_Clone_byte_byte a0) >>= fun r1 =>
  (M_leb_Signed_l0 a1 0 r1) >>= fun j4 =>
  some j4
def M_thrum_frame_pen_dense (a0 : T_frame_pen) (a1 : T_api_Sent) : Option ((List Int) × Int) :=
  (M_leb_Signed a0.F_b a1.F_V) >>= fun r1 =>
  some (r1, a0.F_e)
def M_index_Put_l0 (a1 : List Int) (x0 : Int) (x1 : Int) (x2 : List Int) : Option (List Int) :=
  if x0 < (a1.length : Int) then
    if 0 ≤ x0 ∧ x0 < (a1.length : Int) then
      if room 8 (x2 ++ [IntKind.u64.wrap (IntKind.i64.wrap ((IntKind.i64.wrap ((at' a1 x0) - x1)) - 1))]).length then
        some (x2 ++ [IntKind.u64.wrap (IntKind.i64.wrap ((IntKind.i64.wrap ((at' a1 x0) - x1)) - 1))]) >>= fun y6 =>
        M_index_Put_l0 a1 (IntKind.i64.wrap (x0 + 1)) (at' a1 x0) y6
      else none
    else none
  else
    some x2
  partial_fixpoint
def M_index_Put (a0 : Int) (a1 : List Int) : Option ((List Int) × Int) :=
  (M_index_Check a0 a1) >>= fun r1 =>
  if r1 ≠ 0 then
    some ([], r1)
  else
    if 0 ≤ (0 : Int) ∧ (0 : Int) ≤ IntKind.i64.wrap ((a1.length : Int) + 1) ∧ IntKind.i64.wrap ((a1.length : Int) + 1) ≤ 140737488355328 ∧ (IntKind.i64.wrap ((a1.length : Int) + 1)) * ((8 : Nat) : Int) ≤ 140737488355328 then
      some (List.replicate (Int.toNat 0) 0) >>= fun y2 =>
      if room 8 (y2 ++ [IntKind.u64.wrap (a1.length : Int)]).length then
        some (y2 ++ [IntKind.u64.wrap (a1.length : Int)]) >>= fun y4 =>
        (M_index_Put_l0 a1 0 (-1) y4) >>= fun j8 =>
        (M_leb_Put [] j8) >>= fun r9 =>
        some (r9, 0)
      else none
    else none
def M_thrum_frame_pen_bytes (a0 : T_frame_pen) (a1 : List Int) (a2 : Int) : Option ((List Int) × Int) :=
  if room 1 (a0.F_b ++ a1).length then
    if a2 ≠ 0 then
      some (a0.F_b ++ a1, a2)
    else
      some (a0.F_b ++ a1, a0.F_e)
  else none
def M_thrum_frame_pen_top (a0 : T_frame_pen) (a1 : T_api_Sent) : Option ((List Int) × Int) :=
  (M_index_Put a1.F_Dim a1.F_L) >>= fun r1 =>
  (M_thrum_frame_pen_bytes a0 r1.1 r1.2) >>= fun r2 =>
  (M_thrum_frame_pen_dense (⟨r2.1, r2.2⟩ : T_frame_pen) a1) >>= fun r3 =>
  some (r3.1, r3.2)
def M_plane_woven (a0 : Int) : Option Int :=
  some a0
def M_plane_Bytes (a0 : Int) (a1 : Int) : Option (Int × Int) :=
  ((
    if a0 < 0 then
      some true
    else
      some (decide (a0 > 32))) : Option Bool) >>= fun j1 =>
  ((
    if j1 = true then
      some true
    else
      some (decide (a1 < 0))) : Option Bool) >>= fun j2 =>
  if j2 = true then
    some (0, 1)
  else
    if a1 > 4096 then
      some (0, 3)
    else
      some (sShr .i64 (IntKind.i64.wrap ((IntKind.i64.wrap (a0 * a1)) + 7)) 3, 0)
def M_plane_put_1_c (a0 : Int) (a1 : Int) : Option Bool :=
  if 0 ≤ a1 then
    some ((sShr .u64 a0 a1) != 0)
  else none
def M_slices_IndexFunc_uint64_uint64_plane_put_1_l0 (a0 : List Int) (a1 : Int) (x0 : Int) : Option (Sum Int Unit) :=
  if x0 < (a0.length : Int) then
    if 0 ≤ x0 ∧ x0 < (a0.length : Int) then
      (M_plane_put_1_c (at' a0 x0) a1) >>= fun r1 =>
      if r1 = true then
        some (.inl x0)
      else
        M_slices_IndexFunc_uint64_uint64_plane_put_1_l0 a0 a1 (IntKind.i64.wrap (x0 + 1))
    else none
  else
    some (.inr ())
  partial_fixpoint
def M_slices_IndexFunc_uint64_uint64_plane_put_1 (a0 : List Int) (a1 : Int) : Option Int :=
  (M_slices_IndexFunc_uint64_uint64_plane_put_1_l0 a0 a1 0) >>= fun e => match e with
  | .inl r => some r
  | .inr j2 =>
    some (-1)
def M_slices_ContainsFunc_uint64_uint64_plane_put_1 (a0 : List Int) (a1 : Int) : Option Bool :=
  (M_slices_IndexFunc_uint64_uint64_plane_put_1 a0 a1) >>= fun r1 =>
  some (decide (r1 ≥ 0))
def M_plane_woven_1_c (a0 : Int) (a1 : Int) (a2 : Int) : Option Int :=
  some (IntKind.i64.wrap ((IntKind.i64.wrap (a1 * a2)) + a0))
def M_plane_put_plane_woven_1_l1 (a0 : Int) (a1 : List Int) (a2 : Int) (x0 : Int) (x0_ : Int) (x1_ : List Int) : Option (List Int) :=
  if x0_ < a0 then
    (M_plane_woven_1_c x0 x0_ a2) >>= fun r5 =>
    if 0 ≤ sShr .i64 r5 3 ∧ sShr .i64 r5 3 < (x1_.length : Int) then
      if 0 ≤ IntKind.i64.wrap ((IntKind.i64.wrap (a0 - 1)) - x0_) then
        if 0 ≤ IntKind.i64.wrap (7 - (bAnd .i64 r5 7)) then
          if 0 ≤ sShr .i64 r5 3 ∧ sShr .i64 r5 3 < (x1_.length : Int) then
            some (x1_.set (Int.toNat (sShr .i64 r5 3)) (bOr .u8 (at' x1_ (sShr .i64 r5 3)) (sShl .u8 (IntKind.u8.wrap (bAnd .u64 (sShr .u64 (at' a1 x0) (IntKind.i64.wrap ((IntKind.i64.wrap (a0 - 1)) - x0_))) 1)) (IntKind.i64.wrap (7 - (bAnd .i64 r5 7)))))) >>= fun y6 =>
            M_plane_put_plane_woven_1_l1 a0 a1 a2 x0 (IntKind.i64.wrap (x0_ + 1)) y6
          else none
        else none
      else none
    else none
  else
    some x1_
  partial_fixpoint
def M_plane_put_plane_woven_1_l0 (a0 : Int) (a1 : List Int) (a2 : Int) (x0 : Int) (x1 : List Int) : Option (List Int) :=
  if x0 < (a1.length : Int) then
    if 0 ≤ x0 ∧ x0 < (a1.length : Int) then
      (M_plane_put_plane_woven_1_l1 a0 a1 a2 x0 0 x1) >>= fun j8 =>
      M_plane_put_plane_woven_1_l0 a0 a1 a2 (IntKind.i64.wrap (x0 + 1)) j8
    else none
  else
    some x1
  partial_fixpoint
def M_plane_put_plane_woven_1 (a0 : Int) (a1 : List Int) (a2 : Int) : Option ((List Int) × Int) :=
  (M_plane_Bytes a0 (a1.length : Int)) >>= fun r1 =>
  if r1.2 ≠ 0 then
    some ([], r1.2)
  else
    (M_slices_ContainsFunc_uint64_uint64_plane_put_1 a1 a0) >>= fun r2 =>
    if r2 = true then
      some ([], 1)
    else
      if 0 ≤ r1.1 ∧ r1.1 ≤ r1.1 ∧ r1.1 ≤ 140737488355328 ∧ r1.1 * ((1 : Nat) : Int) ≤ 140737488355328 then
        some (List.replicate (Int.toNat r1.1) 0) >>= fun y3 =>
        (M_plane_put_plane_woven_1_l0 a0 a1 a2 0 y3) >>= fun j9 =>
        some (j9, 0)
      else none
def M_plane_Weave (a0 : Int) (a1 : List Int) : Option ((List Int) × Int) :=
  (M_plane_woven (a1.length : Int)) >>= fun r1 =>
  (M_plane_put_plane_woven_1 a0 a1 r1) >>= fun r2 =>
  some (r2.1, r2.2)
def M_plane_side (a0 : Int) : Option Int :=
  some a0
def M_plane_side_1_c (a0 : Int) (a1 : Int) (a2 : Int) : Option Int :=
  some (IntKind.i64.wrap ((IntKind.i64.wrap (a0 * a2)) + a1))
def M_plane_put_plane_side_1_l1 (a0 : Int) (a1 : List Int) (a2 : Int) (x0 : Int) (x0_ : Int) (x1_ : List Int) : Option (List Int) :=
  if x0_ < a0 then
    (M_plane_side_1_c x0 x0_ a2) >>= fun r5 =>
    if 0 ≤ sShr .i64 r5 3 ∧ sShr .i64 r5 3 < (x1_.length : Int) then
      if 0 ≤ IntKind.i64.wrap ((IntKind.i64.wrap (a0 - 1)) - x0_) then
        if 0 ≤ IntKind.i64.wrap (7 - (bAnd .i64 r5 7)) then
          if 0 ≤ sShr .i64 r5 3 ∧ sShr .i64 r5 3 < (x1_.length : Int) then
            some (x1_.set (Int.toNat (sShr .i64 r5 3)) (bOr .u8 (at' x1_ (sShr .i64 r5 3)) (sShl .u8 (IntKind.u8.wrap (bAnd .u64 (sShr .u64 (at' a1 x0) (IntKind.i64.wrap ((IntKind.i64.wrap (a0 - 1)) - x0_))) 1)) (IntKind.i64.wrap (7 - (bAnd .i64 r5 7)))))) >>= fun y6 =>
            M_plane_put_plane_side_1_l1 a0 a1 a2 x0 (IntKind.i64.wrap (x0_ + 1)) y6
          else none
        else none
      else none
    else none
  else
    some x1_
  partial_fixpoint
def M_plane_put_plane_side_1_l0 (a0 : Int) (a1 : List Int) (a2 : Int) (x0 : Int) (x1 : List Int) : Option (List Int) :=
  if x0 < (a1.length : Int) then
    if 0 ≤ x0 ∧ x0 < (a1.length : Int) then
      (M_plane_put_plane_side_1_l1 a0 a1 a2 x0 0 x1) >>= fun j8 =>
      M_plane_put_plane_side_1_l0 a0 a1 a2 (IntKind.i64.wrap (x0 + 1)) j8
    else none
  else
    some x1
  partial_fixpoint
def M_plane_put_plane_side_1 (a0 : Int) (a1 : List Int) (a2 : Int) : Option ((List Int) × Int) :=
  (M_plane_Bytes a0 (a1.length : Int)) >>= fun r1 =>
  if r1.2 ≠ 0 then
    some ([], r1.2)
  else
    (M_slices_ContainsFunc_uint64_uint64_plane_put_1 a1 a0) >>= fun r2 =>
    if r2 = true then
      some ([], 1)
    else
      if 0 ≤ r1.1 ∧ r1.1 ≤ r1.1 ∧ r1.1 ≤ 140737488355328 ∧ r1.1 * ((1 : Nat) : Int) ≤ 140737488355328 then
        some (List.replicate (Int.toNat r1.1) 0) >>= fun y3 =>
        (M_plane_put_plane_side_1_l0 a0 a1 a2 0 y3) >>= fun j9 =>
        some (j9, 0)
      else none
def M_plane_Pack (a0 : Int) (a1 : List Int) : Option ((List Int) × Int) :=
  (M_plane_side a0) >>= fun r1 =>
  (M_plane_put_plane_side_1 a0 a1 r1) >>= fun r2 =>
  some (r2.1, r2.2)
def M_plane_Signs_l0 (a0 : List Bool) (x0 : Int) (x1 : List Int) : Option (List Int) :=
  if x0 < (a0.length : Int) then
    if 0 ≤ x0 ∧ x0 < (a0.length : Int) then
      if (at' a0 x0) = true then
        if 0 ≤ x0 ∧ x0 < (x1.length : Int) then
          M_plane_Signs_l0 a0 (IntKind.i64.wrap (x0 + 1)) (x1.set (Int.toNat x0) 1)
        else none
      else
        M_plane_Signs_l0 a0 (IntKind.i64.wrap (x0 + 1)) x1
    else none
  else
    some x1
  partial_fixpoint
def M_plane_Signs (a0 : List Bool) : Option ((List Int) × Int) :=
  if 0 ≤ (a0.length : Int) ∧ (a0.length : Int) ≤ (a0.length : Int) ∧ (a0.length : Int) ≤ 140737488355328 ∧ (a0.length : Int) * ((8 : Nat) : Int) ≤ 140737488355328 then
    some (List.replicate (Int.toNat (a0.length : Int)) 0) >>= fun y1 =>
    (M_plane_Signs_l0 a0 0 y1) >>= fun j3 =>
    (M_plane_Pack 1 j3) >>= fun r4 =>
    some (r4.1, r4.2)
  else none
def M_thrum_frame_pen_level (a0 : T_frame_pen) (a1 : T_api_Sent) : Option ((List Int) × Int) :=
  ((
    (M_leb_Put a0.F_b [IntKind.u64.wrap a1.F_Scale]) >>= fun r1 =>
    if room 1 (r1 ++ [IntKind.u8.wrap a1.F_Wide]).length then
      some (r1 ++ [IntKind.u8.wrap a1.F_Wide])
    else none) : Option (List Int)) >>= fun j2 =>
  (M_plane_Weave a1.F_Wide a1.F_Lev) >>= fun r3 =>
  (M_thrum_frame_pen_bytes (⟨j2, a0.F_e⟩ : T_frame_pen) r3.1 r3.2) >>= fun r4 =>
  (M_plane_Signs a1.F_Neg) >>= fun r5 =>
  (M_thrum_frame_pen_bytes (⟨r4.1, r4.2⟩ : T_frame_pen) r5.1 r5.2) >>= fun r6 =>
  some (r6.1, r6.2)
def M_thrum_frame_pen_sign (a0 : T_frame_pen) (a1 : T_api_Sent) : Option ((List Int) × Int) :=
  (M_leb_Put a0.F_b [IntKind.u64.wrap a1.F_Scale]) >>= fun r1 =>
  (M_plane_Signs a1.F_Neg) >>= fun r2 =>
  (M_thrum_frame_pen_bytes (⟨r1, a0.F_e⟩ : T_frame_pen) r2.1 r2.2) >>= fun r3 =>
  some (r3.1, r3.2)
def M_frame_Body (a0 : T_api_Sent) : Option ((List Int) × Int) :=
  (M_frame_May a0) >>= fun r1 =>
  if r1 = false then
    some ([], 1)
  else
    (M_leb_Put [IntKind.u8.wrap a0.F_Scheme] [IntKind.u64.wrap a0.F_Dim]) >>= fun r2 =>
    ((
      if a0.F_Scheme = (0 : Int) then
        (M_thrum_frame_pen_dense (⟨r2, 0⟩ : T_frame_pen) a0) >>= fun r3 =>
        some (r3.1, r3.2)
      else
        if a0.F_Scheme = (1 : Int) then
          (M_thrum_frame_pen_top (⟨r2, 0⟩ : T_frame_pen) a0) >>= fun r4 =>
          some (r4.1, r4.2)
        else
          if a0.F_Scheme = (2 : Int) then
            (M_thrum_frame_pen_level (⟨r2, 0⟩ : T_frame_pen) a0) >>= fun r5 =>
            some (r5.1, r5.2)
          else
            if a0.F_Scheme = (3 : Int) then
              (M_thrum_frame_pen_sign (⟨r2, 0⟩ : T_frame_pen) a0) >>= fun r6 =>
              some (r6.1, r6.2)
            else
              none) : Option ((List Int) × Int)) >>= fun j7 =>
    if j7.2 ≠ 0 then
      some ([], j7.2)
    else
      some (j7.1, 0)
def M_crc_Sum (a0 : List Int) : Option Int :=
  (M_crc_More 0 a0) >>= fun r1 =>
  some r1
def M_crc_Seal_l0 (x0 : Int) (x1 : Int) (x2 : List Int) : Option (List Int) :=
  if x0 < 4 then
    if room 1 (x2 ++ [IntKind.u8.wrap x1]).length then
      some (x2 ++ [IntKind.u8.wrap x1]) >>= fun y3 =>
      M_crc_Seal_l0 (IntKind.i64.wrap (x0 + 1)) (sShr .u32 x1 8) y3
    else none
  else
    some x2
  partial_fixpoint
def M_crc_Seal (a0 : List Int) : Option ((List Int) × Int) :=
  if (a0.length : Int) > 65532 then
    some ([], 3)
  else
    (M_slices_Clone_byte_byte a0) >>= fun r1 =>
    (M_crc_Sum a0) >>= fun r2 =>
    (M_crc_Seal_l0 0 r2 r1) >>= fun j5 =>
    some (j5, 0)
def M_frame_Write (a0 : T_api_Frame) : Option ((List Int) × Int) :=
  (M_frame_Check a0) >>= fun r1 =>
  if r1 ≠ 0 then
    some ([], r1)
  else
    (M_leb_Put [1, IntKind.u8.wrap a0.F_Kind] [IntKind.u64.wrap a0.F_From, IntKind.u64.wrap a0.F_Step]) >>= fun r2 =>
    if a0.F_Kind = 1 then
      (M_frame_Body a0.F_S) >>= fun r3 =>
      if r3.2 ≠ 0 then
        some ([], r3.2)
      else
        if room 1 (r2 ++ r3.1).length then
          (M_crc_Seal (r2 ++ r3.1)) >>= fun r4 =>
          some (r4.1, r4.2)
        else none
    else
      (M_crc_Seal r2) >>= fun r5 =>
      some (r5.1, r5.2)
def M_thrumref03_Same (a0 : List Int) (a1 : List Int) : Option Bool :=
  some ((strB a0).toList == (strB a1).toList)
def M_thrumlaw07_live : Option Bool :=
  (M_frame_Ack 3 300) >>= fun r1 =>
  (M_frame_Write (⟨r1.1, r1.2.1, r1.2.2.1, (⟨r1.2.2.2.1, r1.2.2.2.2.1, [], [], r1.2.2.2.2.2.1, r1.2.2.2.2.2.2, [], []⟩ : T_api_Sent)⟩ : T_api_Frame)) >>= fun r2 =>
  ((
    if r2.2 = 0 then
      some ((r2.1.length : Int) == 9)
    else
      some false) : Option Bool) >>= fun j3 =>
  ((
    if j3 = true then
      if cutOk none (some 5) r2.1.length then
        (M_thrumref03_Same (cut' r2.1 none (some 5)) [1, 2, 3, 172, 2]) >>= fun r4 =>
        some r4
      else none
    else
      some false) : Option Bool) >>= fun j5 =>
  some j5
def M_thrumref07_Big (a0 : T_api_Sent) : Option Bool :=
  ((
    if (a0.F_L.length : Int) > 500 then
      some true
    else
      some (decide ((a0.F_V.length : Int) > 500))) : Option Bool) >>= fun j1 =>
  ((
    if j1 = true then
      some true
    else
      some (decide ((a0.F_Lev.length : Int) > 500))) : Option Bool) >>= fun j2 =>
  ((
    if j2 = true then
      some true
    else
      some (decide ((a0.F_Neg.length : Int) > 500))) : Option Bool) >>= fun j3 =>
  some j3
def M_thrumref06_rises_l0 (a0 : List Int) (x0 : Int) : Option (Sum Bool Unit) :=
  if x0 < (a0.length : Int) then
    if 0 ≤ x0 ∧ x0 < (a0.length : Int) then
      if 0 ≤ IntKind.i64.wrap (x0 - 1) ∧ IntKind.i64.wrap (x0 - 1) < (a0.length : Int) then
        if (at' a0 x0) ≤ (at' a0 (IntKind.i64.wrap (x0 - 1))) then
          some (.inl false)
        else
          M_thrumref06_rises_l0 a0 (IntKind.i64.wrap (x0 + 1))
      else none
    else none
  else
    some (.inr ())
  partial_fixpoint
def M_thrumref06_rises (a0 : List Int) : Option Bool :=
  (M_thrumref06_rises_l0 a0 1) >>= fun e => match e with
  | .inl r => some r
  | .inr j1 =>
    some true
def M_thrumref06_Check_l0 (a0 : Int) (a1 : List Int) (x0 : Int) : Option (Sum Int Unit) :=
  if x0 < (a1.length : Int) then
    if 0 ≤ x0 ∧ x0 < (a1.length : Int) then
      ((
        if (at' a1 x0) < 0 then
          some true
        else
          some (decide ((at' a1 x0) ≥ a0))) : Option Bool) >>= fun j4 =>
      if j4 = true then
        some (.inl 1)
      else
        M_thrumref06_Check_l0 a0 a1 (IntKind.i64.wrap (x0 + 1))
    else none
  else
    some (.inr ())
  partial_fixpoint
def M_thrumref06_Check (a0 : Int) (a1 : List Int) : Option Int :=
  ((
    if a0 < 1 then
      some true
    else
      some (decide (a0 > 4096))) : Option Bool) >>= fun j1 =>
  ((
    if j1 = true then
      some true
    else
      (M_thrumref06_rises a1) >>= fun r2 =>
      some (!r2)) : Option Bool) >>= fun j3 =>
  if j3 = true then
    some 1
  else
    (M_thrumref06_Check_l0 a0 a1 0) >>= fun e => match e with
    | .inl r => some r
    | .inr j5 =>
      some 0
def M_thrumref05_Width_l0 (x0 : Int) (x1 : Int) : Option Int :=
  if x1 > 0 then
    M_thrumref05_Width_l0 (IntKind.i64.wrap (x0 + 1)) (IntKind.u64.wrap (Int.tdiv x1 2))
  else
    some x0
  partial_fixpoint
def M_thrumref05_Width (a0 : Int) : Option Int :=
  (M_thrumref05_Width_l0 0 a0) >>= fun j1 =>
  some j1
def M_thrumref07_May_l0 (a0 : T_api_Sent) (j2 : Bool) (x0 : Int) : Option (Sum Bool Unit) :=
  if x0 < (a0.F_Lev.length : Int) then
    if 0 ≤ x0 ∧ x0 < (a0.F_Lev.length : Int) then
      (M_thrumref05_Width (at' a0.F_Lev x0)) >>= fun r14 =>
      if r14 > a0.F_Wide then
        some (.inl false)
      else
        M_thrumref07_May_l0 a0 j2 (IntKind.i64.wrap (x0 + 1))
    else none
  else
    some (.inr ())
  partial_fixpoint
def M_thrumref07_May (a0 : T_api_Sent) : Option Bool :=
  ((
    if a0.F_Dim < 1 then
      some true
    else
      some (decide (a0.F_Dim > 4096))) : Option Bool) >>= fun j1 =>
  if j1 = true then
    some false
  else
    ((
      if (a0.F_L.length : Int) = 0 then
        some ((a0.F_V.length : Int) == 0)
      else
        some false) : Option Bool) >>= fun j2 =>
    ((
      if a0.F_Wide = 0 then
        some ((a0.F_Lev.length : Int) == 0)
      else
        some false) : Option Bool) >>= fun j3 =>
    ((
      if a0.F_Scale = 0 then
        some ((a0.F_Neg.length : Int) == 0)
      else
        some false) : Option Bool) >>= fun j4 =>
    if a0.F_Scheme = 0 then
      ((
        if (a0.F_L.length : Int) = 0 then
          some ((a0.F_V.length : Int) == a0.F_Dim)
        else
          some false) : Option Bool) >>= fun j5 =>
      ((
        if j5 = true then
          some j3
        else
          some false) : Option Bool) >>= fun j6 =>
      ((
        if j6 = true then
          some j4
        else
          some false) : Option Bool) >>= fun j7 =>
      some j7
    else
      if a0.F_Scheme = 1 then
        (M_thrumref06_Check a0.F_Dim a0.F_L) >>= fun r8 =>
        ((
          if r8 = 0 then
            some ((a0.F_V.length : Int) == (a0.F_L.length : Int))
          else
            some false) : Option Bool) >>= fun j9 =>
        ((
          if j9 = true then
            some j3
          else
            some false) : Option Bool) >>= fun j10 =>
        ((
          if j10 = true then
            some j4
          else
            some false) : Option Bool) >>= fun j11 =>
        some j11
      else
        if a0.F_Scheme = 2 then
          ((
            if a0.F_Wide < 1 then
              some true
            else
              some (decide (a0.F_Wide > 8))) : Option Bool) >>= fun j12 =>
          ((
            if j12 = true then
              some true
            else
              some ((a0.F_Lev.length : Int) != a0.F_Dim)) : Option Bool) >>= fun j13 =>
          if j13 = true then
            some false
          else
            (M_thrumref07_May_l0 a0 j2 0) >>= fun e => match e with
            | .inl r => some r
            | .inr j15 =>
              ((
                if j2 = true then
                  some (decide (a0.F_Scale ≥ 0))
                else
                  some false) : Option Bool) >>= fun j16 =>
              ((
                if j16 = true then
                  some ((a0.F_Neg.length : Int) == a0.F_Dim)
                else
                  some false) : Option Bool) >>= fun j17 =>
              some j17
        else
          if a0.F_Scheme = 3 then
            ((
              if j2 = true then
                some j3
              else
                some false) : Option Bool) >>= fun j18 =>
            ((
              if j18 = true then
                some (decide (a0.F_Scale ≥ 0))
              else
                some false) : Option Bool) >>= fun j19 =>
            ((
              if j19 = true then
                some ((a0.F_Neg.length : Int) == a0.F_Dim)
              else
                some false) : Option Bool) >>= fun j20 =>
            some j20
          else
            some false
def M_thrumref06_Equal_l0 (a0 : List Int) (a1 : List Int) (x0 : Int) : Option (Sum Bool Unit) :=
  if x0 < (a0.length : Int) then
    if 0 ≤ x0 ∧ x0 < (a0.length : Int) then
      if 0 ≤ x0 ∧ x0 < (a1.length : Int) then
        if (at' a0 x0) ≠ (at' a1 x0) then
          some (.inl false)
        else
          M_thrumref06_Equal_l0 a0 a1 (IntKind.i64.wrap (x0 + 1))
      else none
    else none
  else
    some (.inr ())
  partial_fixpoint
def M_thrumref06_Equal (a0 : List Int) (a1 : List Int) : Option Bool :=
  if (a0.length : Int) ≠ (a1.length : Int) then
    some false
  else
    (M_thrumref06_Equal_l0 a0 a1 0) >>= fun e => match e with
    | .inl r => some r
    | .inr j1 =>
      some true
def M_thrumref02_Same_l0 (a0 : List Int) (a1 : List Int) (x0 : Int) : Option (Sum Bool Unit) :=
  if x0 < (a0.length : Int) then
    if 0 ≤ x0 ∧ x0 < (a0.length : Int) then
      if 0 ≤ x0 ∧ x0 < (a1.length : Int) then
        if (at' a0 x0) ≠ (at' a1 x0) then
          some (.inl false)
        else
          M_thrumref02_Same_l0 a0 a1 (IntKind.i64.wrap (x0 + 1))
      else none
    else none
  else
    some (.inr ())
  partial_fixpoint
def M_thrumref02_Same (a0 : List Int) (a1 : List Int) : Option Bool :=
  if (a0.length : Int) ≠ (a1.length : Int) then
    some false
  else
    (M_thrumref02_Same_l0 a0 a1 0) >>= fun e => match e with
    | .inl r => some r
    | .inr j1 =>
      some true
def M_thrumref03_SameNumbers_l0 (a0 : List Int) (a1 : List Int) (x0 : Int) : Option (Sum Bool Unit) :=
  if x0 < (a0.length : Int) then
    if 0 ≤ x0 ∧ x0 < (a0.length : Int) then
      if 0 ≤ x0 ∧ x0 < (a1.length : Int) then
        if (at' a0 x0) ≠ (at' a1 x0) then
          some (.inl false)
        else
          M_thrumref03_SameNumbers_l0 a0 a1 (IntKind.i64.wrap (x0 + 1))
      else none
    else none
  else
    some (.inr ())
  partial_fixpoint
def M_thrumref03_SameNumbers (a0 : List Int) (a1 : List Int) : Option Bool :=
  if (a0.length : Int) ≠ (a1.length : Int) then
    some false
  else
    (M_thrumref03_SameNumbers_l0 a0 a1 0) >>= fun e => match e with
    | .inl r => some r
    | .inr j1 =>
      some true
def M_thrumref05_SameSigns_l0 (a0 : List Bool) (a1 : List Bool) (x0 : Int) : Option (Sum Bool Unit) :=
  if x0 < (a0.length : Int) then
    if 0 ≤ x0 ∧ x0 < (a0.length : Int) then
      if 0 ≤ x0 ∧ x0 < (a1.length : Int) then
        if (at' a0 x0) ≠ (at' a1 x0) then
          some (.inl false)
        else
          M_thrumref05_SameSigns_l0 a0 a1 (IntKind.i64.wrap (x0 + 1))
      else none
    else none
  else
    some (.inr ())
  partial_fixpoint
def M_thrumref05_SameSigns (a0 : List Bool) (a1 : List Bool) : Option Bool :=
  if (a0.length : Int) ≠ (a1.length : Int) then
    some false
  else
    (M_thrumref05_SameSigns_l0 a0 a1 0) >>= fun e => match e with
    | .inl r => some r
    | .inr j1 =>
      some true
def M_thrumref07_SameSent (a0 : T_api_Sent) (a1 : T_api_Sent) : Option Bool :=
  ((
    if a0.F_Scheme = a1.F_Scheme then
      some (a0.F_Dim == a1.F_Dim)
    else
      some false) : Option Bool) >>= fun j1 =>
  ((
    if j1 = true then
      (M_thrumref06_Equal a0.F_L a1.F_L) >>= fun r2 =>
      some r2
    else
      some false) : Option Bool) >>= fun j3 =>
  ((
    if j3 = true then
      (M_thrumref02_Same a0.F_V a1.F_V) >>= fun r4 =>
      some r4
    else
      some false) : Option Bool) >>= fun j5 =>
  ((
    if j5 = true then
      some (a0.F_Scale == a1.F_Scale)
    else
      some false) : Option Bool) >>= fun j6 =>
  ((
    if j6 = true then
      some (a0.F_Wide == a1.F_Wide)
    else
      some false) : Option Bool) >>= fun j7 =>
  ((
    if j7 = true then
      (M_thrumref03_SameNumbers a0.F_Lev a1.F_Lev) >>= fun r8 =>
      some r8
    else
      some false) : Option Bool) >>= fun j9 =>
  ((
    if j9 = true then
      (M_thrumref05_SameSigns a0.F_Neg a1.F_Neg) >>= fun r10 =>
      some r10
    else
      some false) : Option Bool) >>= fun j11 =>
  some j11
def M_thrumref07_Check (a0 : T_api_Frame) : Option Int :=
  ((
    if a0.F_From ≥ 0 then
      some (decide (a0.F_From < 64))
    else
      some false) : Option Bool) >>= fun j1 =>
  ((
    if j1 = true then
      some (decide (a0.F_Step ≥ 0))
    else
      some false) : Option Bool) >>= fun j2 =>
  ((
    if j2 = true then
      some (decide (a0.F_Step ≤ 1073741824))
    else
      some false) : Option Bool) >>= fun j3 =>
  if a0.F_Kind = 1 then
    ((
      if j3 = true then
        (M_thrumref07_May a0.F_S) >>= fun r4 =>
        some r4
      else
        some false) : Option Bool) >>= fun j5 =>
    if j5 = false then
      some 1
    else
      some 0
  else
    if a0.F_Kind = 2 then
      ((
        if j3 = true then
          (M_thrumref07_SameSent a0.F_S (⟨0, 0, [], [], 0, 0, [], []⟩ : T_api_Sent)) >>= fun r6 =>
          some r6
        else
          some false) : Option Bool) >>= fun j7 =>
      if j7 = false then
        some 1
      else
        some 0
    else
      some 1
def M_thrumref03_code (a0 : Int) : Option (List Int) :=
  if a0 < 128 then
    some [IntKind.u8.wrap a0]
  else
    (M_thrumref03_code (IntKind.u64.wrap (Int.tdiv a0 128))) >>= fun r1 =>
    if room 1 ([IntKind.u8.wrap ((IntKind.u8.wrap (Int.tmod a0 128)) + 128)] ++ r1).length then
      some ([IntKind.u8.wrap ((IntKind.u8.wrap (Int.tmod a0 128)) + 128)] ++ r1)
    else none
  partial_fixpoint
def M_thrumref03_Put_l0 (a1 : List Int) (x0 : Int) (x1 : List Int) : Option (List Int) :=
  if x0 < (a1.length : Int) then
    if 0 ≤ x0 ∧ x0 < (a1.length : Int) then
      (M_thrumref03_code (at' a1 x0)) >>= fun r1 =>
      if room 1 (x1 ++ r1).length then
        M_thrumref03_Put_l0 a1 (IntKind.i64.wrap (x0 + 1)) (x1 ++ r1)
      else none
    else none
  else
    some x1
  partial_fixpoint
def M_thrumref03_Put (a0 : List Int) (a1 : List Int) : Option (List Int) :=
  if room 1 (a0 : List Int).length then
    (M_thrumref03_Put_l0 a1 0 a0) >>= fun j2 =>
    some j2
  else none
def M_thrumref03_Zig (a0 : Int) : Option Int :=
  if a0 < 0 then
    some (IntKind.u64.wrap ((IntKind.u64.wrap (2 * (IntKind.u64.wrap (IntKind.i64.wrap (0 - (IntKind.i64.wrap (a0 + 1))))))) + 1))
  else
    some (IntKind.u64.wrap (2 * (IntKind.u64.wrap a0)))
def M_thrumref03_Signed_l0 (a1 : List Int) (x0 : Int) (x1 : List Int) : Option (List Int) :=
  if x0 < (a1.length : Int) then
    if 0 ≤ x0 ∧ x0 < (a1.length : Int) then
      (M_thrumref03_Zig (at' a1 x0)) >>= fun r1 =>
      (M_thrumref03_code r1) >>= fun r2 =>
      if room 1 (x1 ++ r2).length then
        M_thrumref03_Signed_l0 a1 (IntKind.i64.wrap (x0 + 1)) (x1 ++ r2)
      else none
    else none
  else
    some x1
  partial_fixpoint
def M_thrumref03_Signed (a0 : List Int) (a1 : List Int) : Option (List Int) :=
  if room 1 (a0 : List Int).length then
    (M_thrumref03_Signed_l0 a1 0 a0) >>= fun j3 =>
    some j3
  else none
def M_thrumref06_Put_l0 (a1 : List Int) (x0 : Int) (x1 : Int) (x2 : List Int) : Option (List Int) :=
  if x0 < (a1.length : Int) then
    if 0 ≤ x0 ∧ x0 < (a1.length : Int) then
      (M_thrumref03_Put x2 [IntKind.u64.wrap (IntKind.i64.wrap ((IntKind.i64.wrap ((at' a1 x0) - x1)) - 1))]) >>= fun r3 =>
      M_thrumref06_Put_l0 a1 (IntKind.i64.wrap (x0 + 1)) (at' a1 x0) r3
    else none
  else
    some x2
  partial_fixpoint
def M_thrumref06_Put (a0 : Int) (a1 : List Int) : Option ((List Int) × Int) :=
  (M_thrumref06_Check a0 a1) >>= fun r1 =>
  if r1 ≠ 0 then
    some ([], r1)
  else
    (M_thrumref03_Put [] [IntKind.u64.wrap (a1.length : Int)]) >>= fun r2 =>
    (M_thrumref06_Put_l0 a1 0 (-1) r2) >>= fun j4 =>
    some (j4, 0)
def M_thrumref05_Bytes (a0 : Int) (a1 : Int) : Option (Int × Int) :=
  ((
    if a0 < 0 then
      some true
    else
      some (decide (a0 > 32))) : Option Bool) >>= fun j1 =>
  ((
    if j1 = true then
      some true
    else
      some (decide (a1 < 0))) : Option Bool) >>= fun j2 =>
  if j2 = true then
    some (0, 1)
  else
    if a1 > 4096 then
      some (0, 3)
    else
      some (IntKind.i64.wrap (Int.tdiv (IntKind.i64.wrap ((IntKind.i64.wrap (a0 * a1)) + 7)) 8), 0)
def M_thrumref05_may_l0 (a0 : Int) (a1 : List Int) (x0 : Int) : Option (Sum Int Unit) :=
  if x0 < (a1.length : Int) then
    if 0 ≤ x0 ∧ x0 < (a1.length : Int) then
      (M_thrumref05_Width (at' a1 x0)) >>= fun r2 =>
      if r2 > a0 then
        some (.inl 1)
      else
        M_thrumref05_may_l0 a0 a1 (IntKind.i64.wrap (x0 + 1))
    else none
  else
    some (.inr ())
  partial_fixpoint
def M_thrumref05_may (a0 : Int) (a1 : List Int) : Option Int :=
  (M_thrumref05_Bytes a0 (a1.length : Int)) >>= fun r1 =>
  if r1.2 ≠ 0 then
    some r1.2
  else
    (M_thrumref05_may_l0 a0 a1 0) >>= fun e => match e with
    | .inl r => some r
    | .inr j3 =>
      some 0
def M_thrumref05_pack_l0 (a0 : List Bool) (x0 : Int) (x1 : List Int) : Option (List Int) :=
  if x0 < (a0.length : Int) then
    if 0 ≤ x0 ∧ x0 < (a0.length : Int) then
      if (at' a0 x0) = true then
        if 0 ≤ IntKind.i64.wrap (Int.tdiv x0 8) ∧ IntKind.i64.wrap (Int.tdiv x0 8) < (x1.length : Int) then
          if 0 ≤ Int.tmod x0 8 then
            if 0 ≤ IntKind.i64.wrap (Int.tdiv x0 8) ∧ IntKind.i64.wrap (Int.tdiv x0 8) < (x1.length : Int) then
              some (x1.set (Int.toNat (IntKind.i64.wrap (Int.tdiv x0 8))) (IntKind.u8.wrap ((at' x1 (IntKind.i64.wrap (Int.tdiv x0 8))) + (sShr .u8 128 (Int.tmod x0 8))))) >>= fun y5 =>
              M_thrumref05_pack_l0 a0 (IntKind.i64.wrap (x0 + 1)) y5
            else none
          else none
        else none
      else
        M_thrumref05_pack_l0 a0 (IntKind.i64.wrap (x0 + 1)) x1
    else none
  else
    some x1
  partial_fixpoint
def M_thrumref05_pack (a0 : List Bool) : Option (List Int) :=
  some (IntKind.i64.wrap (Int.tdiv (IntKind.i64.wrap ((a0.length : Int) + 7)) 8)) >>= fun y1 =>
  if 0 ≤ y1 ∧ y1 ≤ y1 ∧ y1 ≤ 140737488355328 ∧ y1 * ((1 : Nat) : Int) ≤ 140737488355328 then
    some (List.replicate (Int.toNat y1) 0) >>= fun y3 =>
    (M_thrumref05_pack_l0 a0 0 y3) >>= fun j7 =>
    some j7
  else none
def M_thrumref05_Weave_l1 (a1 : List Int) (x0 : Int) (x0_ : Int) (x1_ : List Bool) : Option (List Bool) :=
  if x0_ < (a1.length : Int) then
    if 0 ≤ x0_ ∧ x0_ < (a1.length : Int) then
      if 0 ≤ x0 then
        if room 1 (x1_ ++ [(Int.tmod (sShr .u64 (at' a1 x0_) x0) 2) == 1]).length then
          some (x1_ ++ [(Int.tmod (sShr .u64 (at' a1 x0_) x0) 2) == 1]) >>= fun y2 =>
          M_thrumref05_Weave_l1 a1 x0 (IntKind.i64.wrap (x0_ + 1)) y2
        else none
      else none
    else none
  else
    some x1_
  partial_fixpoint
def M_thrumref05_Weave_l0 (a1 : List Int) (x0 : Int) (x1 : List Bool) : Option (List Bool) :=
  if x0 ≥ 0 then
    (M_thrumref05_Weave_l1 a1 x0 0 x1) >>= fun j4 =>
    M_thrumref05_Weave_l0 a1 (IntKind.i64.wrap (x0 - 1)) j4
  else
    some x1
  partial_fixpoint
def M_thrumref05_Weave (a0 : Int) (a1 : List Int) : Option ((List Int) × Int) :=
  (M_thrumref05_may a0 a1) >>= fun r1 =>
  if r1 ≠ 0 then
    some ([], r1)
  else
    (M_thrumref05_Weave_l0 a1 (IntKind.i64.wrap (a0 - 1)) []) >>= fun j5 =>
    (M_thrumref05_pack j5) >>= fun r6 =>
    some (r6, 0)
def M_thrumref05_Signs (a0 : List Bool) : Option ((List Int) × Int) :=
  if (a0.length : Int) > 4096 then
    some ([], 3)
  else
    (M_thrumref05_pack a0) >>= fun r1 =>
    some (r1, 0)
def M_thrumref07_Body (a0 : T_api_Sent) : Option ((List Int) × Int) :=
  (M_thrumref07_May a0) >>= fun r1 =>
  if r1 = false then
    some ([], 1)
  else
    (M_thrumref03_Put [IntKind.u8.wrap a0.F_Scheme] [IntKind.u64.wrap a0.F_Dim]) >>= fun r2 =>
    if a0.F_Scheme = 0 then
      (M_thrumref03_Signed r2 a0.F_V) >>= fun r3 =>
      some (r3, 0)
    else
      if a0.F_Scheme = 1 then
        (M_thrumref06_Put a0.F_Dim a0.F_L) >>= fun r4 =>
        if room 1 (r2 ++ r4.1).length then
          (M_thrumref03_Signed (r2 ++ r4.1) a0.F_V) >>= fun r5 =>
          some (r5, 0)
        else none
      else
        (M_thrumref03_Put r2 [IntKind.u64.wrap a0.F_Scale]) >>= fun r6 =>
        if a0.F_Scheme = 2 then
          (M_thrumref05_Weave a0.F_Wide a0.F_Lev) >>= fun r7 =>
          if room 1 (r6 ++ [IntKind.u8.wrap a0.F_Wide]).length then
            some (r6 ++ [IntKind.u8.wrap a0.F_Wide]) >>= fun y8 =>
            if room 1 (y8 ++ r7.1).length then
              (M_thrumref05_Signs a0.F_Neg) >>= fun r10 =>
              if room 1 ((y8 ++ r7.1) ++ r10.1).length then
                some ((y8 ++ r7.1) ++ r10.1, 0)
              else none
            else none
          else none
        else
          (M_thrumref05_Signs a0.F_Neg) >>= fun r11 =>
          if room 1 (r6 ++ r11.1).length then
            some (r6 ++ r11.1, 0)
          else none
def M_thrumref04_More_l1 (a1 : List Int) (x0 : Int) (x0_ : Int) (x1_ : Int) : Option Int :=
  if x0_ < 8 then
    if (bAnd .u32 x1_ 1) = 1 then
      M_thrumref04_More_l1 a1 x0 (IntKind.i64.wrap (x0_ + 1)) (bXor .u32 (sShr .u32 x1_ 1) 3988292384)
    else
      M_thrumref04_More_l1 a1 x0 (IntKind.i64.wrap (x0_ + 1)) (sShr .u32 x1_ 1)
  else
    some x1_
  partial_fixpoint
def M_thrumref04_More_l0 (a1 : List Int) (x0 : Int) (x1 : Int) : Option Int :=
  if x0 < (a1.length : Int) then
    if 0 ≤ x0 ∧ x0 < (a1.length : Int) then
      (M_thrumref04_More_l1 a1 x0 0 (bXor .u32 x1 (IntKind.u32.wrap (at' a1 x0)))) >>= fun j3 =>
      M_thrumref04_More_l0 a1 (IntKind.i64.wrap (x0 + 1)) j3
    else none
  else
    some x1
  partial_fixpoint
def M_thrumref04_More (a0 : Int) (a1 : List Int) : Option Int :=
  some (bXor .u32 (if IntKind.signed .u32 then -1 else IntKind.max .u32) a0) >>= fun y1 =>
  (M_thrumref04_More_l0 a1 0 y1) >>= fun j4 =>
  some (bXor .u32 (if IntKind.signed .u32 then -1 else IntKind.max .u32) j4)
def M_thrumref04_Sum (a0 : List Int) : Option Int :=
  (M_thrumref04_More 0 a0) >>= fun r1 =>
  some r1
def M_thrumref04_Seal (a0 : List Int) : Option ((List Int) × Int) :=
  if (a0.length : Int) > 65532 then
    some ([], 3)
  else
    (M_thrumref04_Sum a0) >>= fun r1 =>
    if room 1 (a0 : List Int).length then
      if room 1 (a0 ++ [IntKind.u8.wrap r1, IntKind.u8.wrap (sShr .u32 r1 8), IntKind.u8.wrap (sShr .u32 r1 16), IntKind.u8.wrap (sShr .u32 r1 24)]).length then
        some (a0 ++ [IntKind.u8.wrap r1, IntKind.u8.wrap (sShr .u32 r1 8), IntKind.u8.wrap (sShr .u32 r1 16), IntKind.u8.wrap (sShr .u32 r1 24)], 0)
      else none
    else none
def M_thrumref07_Write (a0 : T_api_Frame) : Option ((List Int) × Int) :=
  (M_thrumref07_Check a0) >>= fun r1 =>
  if r1 ≠ 0 then
    some ([], r1)
  else
    (M_thrumref03_Put [1, IntKind.u8.wrap a0.F_Kind] [IntKind.u64.wrap a0.F_From, IntKind.u64.wrap a0.F_Step]) >>= fun r2 =>
    if a0.F_Kind = 1 then
      (M_thrumref07_Body a0.F_S) >>= fun r3 =>
      if room 1 (r2 ++ r3.1).length then
        (M_thrumref04_Seal (r2 ++ r3.1)) >>= fun r4 =>
        some (r4.1, r4.2)
      else none
    else
      (M_thrumref04_Seal r2) >>= fun r5 =>
      some (r5.1, r5.2)
def M_frame_Size (a0 : T_api_Frame) : Option (Int × Int) :=
  (M_frame_Write a0) >>= fun r1 =>
  some ((r1.1.length : Int), r1.2)
def M_thrumref07_Size (a0 : T_api_Frame) : Option (Int × Int) :=
  (M_thrumref07_Write a0) >>= fun r1 =>
  some ((r1.1.length : Int), r1.2)
def M_frame_Same (a0 : T_api_Frame) (a1 : T_api_Frame) : Option Bool :=
  ((
    if ([a0.F_Kind, a0.F_From, a0.F_Step] : List Int) = [a1.F_Kind, a1.F_From, a1.F_Step] then
      (M_frame_same a0.F_S a1.F_S) >>= fun r1 =>
      some r1
    else
      some false) : Option Bool) >>= fun j2 =>
  some j2
def M_thrumref07_Same (a0 : T_api_Frame) (a1 : T_api_Frame) : Option Bool :=
  ((
    if a0.F_Kind = a1.F_Kind then
      some (a0.F_From == a1.F_From)
    else
      some false) : Option Bool) >>= fun j1 =>
  ((
    if j1 = true then
      some (a0.F_Step == a1.F_Step)
    else
      some false) : Option Bool) >>= fun j2 =>
  ((
    if j2 = true then
      (M_thrumref07_SameSent a0.F_S a1.F_S) >>= fun r3 =>
      some r3
    else
      some false) : Option Bool) >>= fun j4 =>
  some j4
def M_thrumref07_Ack (a0 : Int) (a1 : Int) : Option (Int × Int × Int × Int × Int × Int × Int) :=
  some (2, a0, a1, 0, 0, 0, 0)
def M_thrumlaw07_FrameWrites (a0 : T_api_Frame) (a1 : T_api_Frame) : Option Bool :=
  (M_thrumlaw07_live) >>= fun r1 =>
  if r1 = false then
    some false
  else
    (M_thrumref07_Big a0.F_S) >>= fun r2 =>
    ((
      if r2 = true then
        some true
      else
        (M_thrumref07_Big a1.F_S) >>= fun r3 =>
        some r3) : Option Bool) >>= fun j4 =>
    if j4 = true then
      some r1
    else
      (M_frame_Write a0) >>= fun r5 =>
      (M_thrumref07_Write a0) >>= fun r6 =>
      (M_frame_Body a0.F_S) >>= fun r7 =>
      (M_thrumref07_Body a0.F_S) >>= fun r8 =>
      (M_frame_Size a0) >>= fun r9 =>
      (M_thrumref07_Size a0) >>= fun r10 =>
      if r1 = true then
        (M_thrumref03_Same r5.1 r6.1) >>= fun r11 =>
        if r11 = true then
          if r5.2 = r6.2 then
            (M_thrumref03_Same r7.1 r8.1) >>= fun r12 =>
            if r12 = true then
              if r7.2 = r8.2 then
                if r9.1 = r10.1 then
                  if r9.2 = r10.2 then
                    (M_frame_May a0.F_S) >>= fun r13 =>
                    (M_thrumref07_May a0.F_S) >>= fun r14 =>
                    if r13 = r14 then
                      (M_frame_Check a0) >>= fun r15 =>
                      (M_thrumref07_Check a0) >>= fun r16 =>
                      if r15 = r16 then
                        (M_frame_Same a0 a1) >>= fun r17 =>
                        (M_thrumref07_Same a0 a1) >>= fun r18 =>
                        if r17 = r18 then
                          (M_frame_Ack a0.F_From a0.F_Step) >>= fun r19 =>
                          (M_thrumref07_Ack a0.F_From a0.F_Step) >>= fun r20 =>
                          (M_thrumref07_Same (⟨r19.1, r19.2.1, r19.2.2.1, (⟨r19.2.2.2.1, r19.2.2.2.2.1, [], [], r19.2.2.2.2.2.1, r19.2.2.2.2.2.2, [], []⟩ : T_api_Sent)⟩ : T_api_Frame) (⟨r20.1, r20.2.1, r20.2.2.1, (⟨r20.2.2.2.1, r20.2.2.2.2.1, [], [], r20.2.2.2.2.2.1, r20.2.2.2.2.2.2, [], []⟩ : T_api_Sent)⟩ : T_api_Frame)) >>= fun r21 =>
                          some r21
                        else
                          some false
                      else
                        some false
                    else
                      some false
                  else
                    some false
                else
                  some false
              else
                some false
            else
              some false
          else
            some false
        else
          some false
      else
        some false
end Go.Proofs.YtelobmiooldoaaaGreat.Abs
