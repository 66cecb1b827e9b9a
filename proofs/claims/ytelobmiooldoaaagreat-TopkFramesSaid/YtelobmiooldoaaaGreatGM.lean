/- Models of functions, printed by a program. Conditions: none. -/
import Derived.Test.YtelobmiooldoaaaGreatCrcD
import Derived.Test.YtelobmiooldoaaaGreatSrtS
import Derived.Test.YtelobmiooldoaaaGreatAbs5
namespace Go.Proofs.YtelobmiooldoaaaGreat.Abs
open Go Go.RowKit
set_option linter.unusedVariables false
set_option maxRecDepth 100000

structure T_api_Sent where
  F_Scheme : Int
  F_Dim : Int
  F_L : List Int
  F_V : List Int
  F_Scale : Int
  F_Wide : Int
  F_Lev : List Int
  F_Neg : List Bool
  deriving Inhabited, DecidableEq
structure T_api_Frame where
  F_Kind : Int
  F_From : Int
  F_Step : Int
  F_S : T_api_Sent
  deriving Inhabited, DecidableEq
structure T_frame_pen where
  F_b : List Int
  F_e : Int
  deriving Inhabited, DecidableEq
structure T_frame_text where
  F_b : List Int
  F_at : Int
  deriving Inhabited, DecidableEq
structure T_frame_reader where
  F_text : T_frame_text
  F_bad : Bool
  deriving Inhabited, DecidableEq
structure T_thrumref07_text where
  F_B : List Int
  F_Bad : Bool
  deriving Inhabited, DecidableEq
structure T_topk_one where
  F_place : Int
  F_size : Int
  deriving Inhabited, DecidableEq
def T_api_Sent.en (x : T_api_Sent) : D := .agg [.int .i64 x.F_Scheme, .int .i64 x.F_Dim, .lst (List.map (D.int .i64) x.F_L), .lst (List.map (D.int .i64) x.F_V), .int .i64 x.F_Scale, .int .i64 x.F_Wide, .lst (List.map (D.int .u64) x.F_Lev), .lst (List.map D.bool x.F_Neg)]
def T_api_Frame.en (x : T_api_Frame) : D := .agg [.int .i64 x.F_Kind, .int .i64 x.F_From, .int .i64 x.F_Step, .int .i64 x.F_S.F_Scheme, .int .i64 x.F_S.F_Dim, .lst (List.map (D.int .i64) x.F_S.F_L), .lst (List.map (D.int .i64) x.F_S.F_V), .int .i64 x.F_S.F_Scale, .int .i64 x.F_S.F_Wide, .lst (List.map (D.int .u64) x.F_S.F_Lev), .lst (List.map D.bool x.F_S.F_Neg)]
def T_frame_pen.en (x : T_frame_pen) : D := .agg [.lst (List.map (D.int .u8) x.F_b), .int .i64 x.F_e]
def T_frame_text.en (x : T_frame_text) : D := .agg [.lst (List.map (D.int .u8) x.F_b), .int .i64 x.F_at]
def T_frame_reader.en (x : T_frame_reader) : D := .agg [.lst (List.map (D.int .u8) x.F_text.F_b), .int .i64 x.F_text.F_at, .bool x.F_bad]
def T_thrumref07_text.en (x : T_thrumref07_text) : D := .agg [.lst (List.map (D.int .u8) x.F_B), .bool x.F_Bad]
def T_topk_one.en (x : T_topk_one) : D := .agg [.int .i64 x.F_place, .int .u64 x.F_size]
def M_index_measure (a0 : Int) : Option Bool :=
  ((
    if a0 > 0 then
      some (decide (a0 ≤ 4096))
    else
      some false) : Option Bool) >>= fun j1 =>
  some j1
def M_index_rises_l0 (a0 : List Int) (x0 : Int) : Option (Sum Bool Unit) :=
  if x0 < (a0.length : Int) then
    if 0 ≤ IntKind.i64.wrap (x0 - 1) ∧ IntKind.i64.wrap (x0 - 1) < (a0.length : Int) then
      if 0 ≤ x0 ∧ x0 < (a0.length : Int) then
        if (at' a0 (IntKind.i64.wrap (x0 - 1))) ≥ (at' a0 x0) then
          some (.inl false)
        else
          M_index_rises_l0 a0 (IntKind.i64.wrap (x0 + 1))
      else none
    else none
  else
    some (.inr ())
  partial_fixpoint
def M_index_rises (a0 : List Int) : Option Bool :=
  (M_index_rises_l0 a0 1) >>= fun e => match e with
  | .inl r => some r
  | .inr j1 =>
    some true
def M_index_Check (a0 : Int) (a1 : List Int) : Option Int :=
  (M_index_measure a0) >>= fun r1 =>
  ((
    if r1 = false then
      some true
    else
      (M_index_rises a1) >>= fun r2 =>
      some (!r2)) : Option Bool) >>= fun j3 =>
  if j3 = true then
    some 1
  else
    if (a1.length : Int) > 0 then
      if 0 ≤ (0 : Int) ∧ (0 : Int) < (a1.length : Int) then
        if (at' a1 0) < 0 then
          some 1
        else
          if 0 ≤ IntKind.i64.wrap ((a1.length : Int) - 1) ∧ IntKind.i64.wrap ((a1.length : Int) - 1) < (a1.length : Int) then
            if (at' a1 (IntKind.i64.wrap ((a1.length : Int) - 1))) ≥ a0 then
              some 1
            else
              some 0
          else none
      else none
    else
      some 0
def M_math_bits_Len64 (a0 : Int) : Option Int :=
  ((
    if a0 ≥ 4294967296 then
      some (32, sShr .u64 a0 32)
    else
      some (0, a0)) : Option (Int × Int)) >>= fun j1 =>
  ((
    if j1.2 ≥ 65536 then
      some (IntKind.i64.wrap (j1.1 + 16), sShr .u64 j1.2 16)
    else
      some (j1.1, j1.2)) : Option (Int × Int)) >>= fun j2 =>
  if j2.2 ≥ 256 then
    if 0 ≤ (IntKind.u8.wrap (sShr .u64 j2.2 8)) ∧ (IntKind.u8.wrap (sShr .u64 j2.2 8)) < ((ByteArray.mk #[0, 1, 2, 2, 3, 3, 3, 3, 4, 4, 4, 4, 4, 4, 4, 4, 5, 5, 5, 5, 5, 5, 5, 5, 5, 5, 5, 5, 5, 5, 5, 5, 6, 6, 6, 6, 6, 6, 6, 6, 6, 6, 6, 6, 6, 6, 6, 6, 6, 6, 6, 6, 6, 6, 6, 6, 6, 6, 6, 6, 6, 6, 6, 6, 7, 7, 7, 7, 7, 7, 7, 7, 7, 7, 7, 7, 7, 7, 7, 7, 7, 7, 7, 7, 7, 7, 7, 7, 7, 7, 7, 7, 7, 7, 7, 7, 7, 7, 7, 7, 7, 7, 7, 7, 7, 7, 7, 7, 7, 7, 7, 7, 7, 7, 7, 7, 7, 7, 7, 7, 7, 7, 7, 7, 7, 7, 7, 7, 8, 8, 8, 8, 8, 8, 8, 8, 8, 8, 8, 8, 8, 8, 8, 8, 8, 8, 8, 8, 8, 8, 8, 8, 8, 8, 8, 8, 8, 8, 8, 8, 8, 8, 8, 8, 8, 8, 8, 8, 8, 8, 8, 8, 8, 8, 8, 8, 8, 8, 8, 8, 8, 8, 8, 8, 8, 8, 8, 8, 8, 8, 8, 8, 8, 8, 8, 8, 8, 8, 8, 8, 8, 8, 8, 8, 8, 8, 8, 8, 8, 8, 8, 8, 8, 8, 8, 8, 8, 8, 8, 8, 8, 8, 8, 8, 8, 8, 8, 8, 8, 8, 8, 8, 8, 8, 8, 8, 8, 8, 8, 8, 8, 8, 8, 8, 8, 8, 8, 8, 8, 8, 8, 8, 8, 8, 8, 8]).size : Int) then
      some (IntKind.i64.wrap ((IntKind.i64.wrap (j2.1 + 8)) + (IntKind.i64.wrap (((ByteArray.mk #[0, 1, 2, 2, 3, 3, 3, 3, 4, 4, 4, 4, 4, 4, 4, 4, 5, 5, 5, 5, 5, 5, 5, 5, 5, 5, 5, 5, 5, 5, 5, 5, 6, 6, 6, 6, 6, 6, 6, 6, 6, 6, 6, 6, 6, 6, 6, 6, 6, 6, 6, 6, 6, 6, 6, 6, 6, 6, 6, 6, 6, 6, 6, 6, 7, 7, 7, 7, 7, 7, 7, 7, 7, 7, 7, 7, 7, 7, 7, 7, 7, 7, 7, 7, 7, 7, 7, 7, 7, 7, 7, 7, 7, 7, 7, 7, 7, 7, 7, 7, 7, 7, 7, 7, 7, 7, 7, 7, 7, 7, 7, 7, 7, 7, 7, 7, 7, 7, 7, 7, 7, 7, 7, 7, 7, 7, 7, 7, 8, 8, 8, 8, 8, 8, 8, 8, 8, 8, 8, 8, 8, 8, 8, 8, 8, 8, 8, 8, 8, 8, 8, 8, 8, 8, 8, 8, 8, 8, 8, 8, 8, 8, 8, 8, 8, 8, 8, 8, 8, 8, 8, 8, 8, 8, 8, 8, 8, 8, 8, 8, 8, 8, 8, 8, 8, 8, 8, 8, 8, 8, 8, 8, 8, 8, 8, 8, 8, 8, 8, 8, 8, 8, 8, 8, 8, 8, 8, 8, 8, 8, 8, 8, 8, 8, 8, 8, 8, 8, 8, 8, 8, 8, 8, 8, 8, 8, 8, 8, 8, 8, 8, 8, 8, 8, 8, 8, 8, 8, 8, 8, 8, 8, 8, 8, 8, 8, 8, 8, 8, 8, 8, 8, 8, 8, 8, 8]).data.getD (Int.toNat (IntKind.u8.wrap (sShr .u64 j2.2 8))) 0).toNat : Int))))
    else none
  else
    if 0 ≤ (IntKind.u8.wrap j2.2) ∧ (IntKind.u8.wrap j2.2) < ((ByteArray.mk #[0, 1, 2, 2, 3, 3, 3, 3, 4, 4, 4, 4, 4, 4, 4, 4, 5, 5, 5, 5, 5, 5, 5, 5, 5, 5, 5, 5, 5, 5, 5, 5, 6, 6, 6, 6, 6, 6, 6, 6, 6, 6, 6, 6, 6, 6, 6, 6, 6, 6, 6, 6, 6, 6, 6, 6, 6, 6, 6, 6, 6, 6, 6, 6, 7, 7, 7, 7, 7, 7, 7, 7, 7, 7, 7, 7, 7, 7, 7, 7, 7, 7, 7, 7, 7, 7, 7, 7, 7, 7, 7, 7, 7, 7, 7, 7, 7, 7, 7, 7, 7, 7, 7, 7, 7, 7, 7, 7, 7, 7, 7, 7, 7, 7, 7, 7, 7, 7, 7, 7, 7, 7, 7, 7, 7, 7, 7, 7, 8, 8, 8, 8, 8, 8, 8, 8, 8, 8, 8, 8, 8, 8, 8, 8, 8, 8, 8, 8, 8, 8, 8, 8, 8, 8, 8, 8, 8, 8, 8, 8, 8, 8, 8, 8, 8, 8, 8, 8, 8, 8, 8, 8, 8, 8, 8, 8, 8, 8, 8, 8, 8, 8, 8, 8, 8, 8, 8, 8, 8, 8, 8, 8, 8, 8, 8, 8, 8, 8, 8, 8, 8, 8, 8, 8, 8, 8, 8, 8, 8, 8, 8, 8, 8, 8, 8, 8, 8, 8, 8, 8, 8, 8, 8, 8, 8, 8, 8, 8, 8, 8, 8, 8, 8, 8, 8, 8, 8, 8, 8, 8, 8, 8, 8, 8, 8, 8, 8, 8, 8, 8, 8, 8, 8, 8, 8, 8]).size : Int) then
      some (IntKind.i64.wrap (j2.1 + (IntKind.i64.wrap (((ByteArray.mk #[0, 1, 2, 2, 3, 3, 3, 3, 4, 4, 4, 4, 4, 4, 4, 4, 5, 5, 5, 5, 5, 5, 5, 5, 5, 5, 5, 5, 5, 5, 5, 5, 6, 6, 6, 6, 6, 6, 6, 6, 6, 6, 6, 6, 6, 6, 6, 6, 6, 6, 6, 6, 6, 6, 6, 6, 6, 6, 6, 6, 6, 6, 6, 6, 7, 7, 7, 7, 7, 7, 7, 7, 7, 7, 7, 7, 7, 7, 7, 7, 7, 7, 7, 7, 7, 7, 7, 7, 7, 7, 7, 7, 7, 7, 7, 7, 7, 7, 7, 7, 7, 7, 7, 7, 7, 7, 7, 7, 7, 7, 7, 7, 7, 7, 7, 7, 7, 7, 7, 7, 7, 7, 7, 7, 7, 7, 7, 7, 8, 8, 8, 8, 8, 8, 8, 8, 8, 8, 8, 8, 8, 8, 8, 8, 8, 8, 8, 8, 8, 8, 8, 8, 8, 8, 8, 8, 8, 8, 8, 8, 8, 8, 8, 8, 8, 8, 8, 8, 8, 8, 8, 8, 8, 8, 8, 8, 8, 8, 8, 8, 8, 8, 8, 8, 8, 8, 8, 8, 8, 8, 8, 8, 8, 8, 8, 8, 8, 8, 8, 8, 8, 8, 8, 8, 8, 8, 8, 8, 8, 8, 8, 8, 8, 8, 8, 8, 8, 8, 8, 8, 8, 8, 8, 8, 8, 8, 8, 8, 8, 8, 8, 8, 8, 8, 8, 8, 8, 8, 8, 8, 8, 8, 8, 8, 8, 8, 8, 8, 8, 8, 8, 8, 8, 8, 8, 8]).data.getD (Int.toNat (IntKind.u8.wrap j2.2)) 0).toNat : Int))))
    else none
def M_plane_Width (a0 : Int) : Option Int :=
  (M_math_bits_Len64 a0) >>= fun r1 =>
  some r1
def M_frame_bare_1_c (a0 : Int) (a1 : Int) (a2 : Int) (a3 : List Int) (a4 : List Int) (a5 : Int) (a6 : Int) (a7 : List Int) (a8 : List Bool) : Option Bool :=
  (M_plane_Width a0) >>= fun r1 =>
  some (decide (r1 > a6))
def M_slices_IndexFunc_uint64_uint64_frame_bare_1_l0 (a0 : List Int) (a1 : Int) (a2 : Int) (a3 : List Int) (a4 : List Int) (a5 : Int) (a6 : Int) (a7 : List Int) (a8 : List Bool) (x0 : Int) : Option (Sum Int Unit) :=
  if x0 < (a0.length : Int) then
    if 0 ≤ x0 ∧ x0 < (a0.length : Int) then
      (M_frame_bare_1_c (at' a0 x0) a1 a2 a3 a4 a5 a6 a7 a8) >>= fun r1 =>
      if r1 = true then
        some (.inl x0)
      else
        M_slices_IndexFunc_uint64_uint64_frame_bare_1_l0 a0 a1 a2 a3 a4 a5 a6 a7 a8 (IntKind.i64.wrap (x0 + 1))
    else none
  else
    some (.inr ())
  partial_fixpoint
def M_slices_IndexFunc_uint64_uint64_frame_bare_1 (a0 : List Int) (a1 : Int) (a2 : Int) (a3 : List Int) (a4 : List Int) (a5 : Int) (a6 : Int) (a7 : List Int) (a8 : List Bool) : Option Int :=
  (M_slices_IndexFunc_uint64_uint64_frame_bare_1_l0 a0 a1 a2 a3 a4 a5 a6 a7 a8 0) >>= fun e => match e with
  | .inl r => some r
  | .inr j2 =>
    some (-1)
def M_slices_ContainsFunc_uint64_uint64_frame_bare_1 (a0 : List Int) (a1 : Int) (a2 : Int) (a3 : List Int) (a4 : List Int) (a5 : Int) (a6 : Int) (a7 : List Int) (a8 : List Bool) : Option Bool :=
  (M_slices_IndexFunc_uint64_uint64_frame_bare_1 a0 a1 a2 a3 a4 a5 a6 a7 a8) >>= fun r1 =>
  some (decide (r1 ≥ 0))
def M_frame_bare (a0 : T_api_Sent) : Option (Int × Int × (List Int) × (List Int) × Int × Int × (List Int) × (List Bool) × Bool) :=
  ((
    if a0.F_Dim > 0 then
      some (decide (a0.F_Dim ≤ 4096))
    else
      some false) : Option Bool) >>= fun j1 =>
  if a0.F_Scheme = 0 then
    ((
      if j1 = true then
        some ((a0.F_V.length : Int) == a0.F_Dim)
      else
        some false) : Option Bool) >>= fun j2 =>
    some (0, 0, a0.F_L, [], a0.F_Scale, a0.F_Wide, a0.F_Lev, a0.F_Neg, j2)
  else
    if a0.F_Scheme = 1 then
      ((
        if j1 = true then
          (M_index_Check a0.F_Dim a0.F_L) >>= fun r3 =>
          some (r3 == 0)
        else
          some false) : Option Bool) >>= fun j4 =>
      ((
        if j4 = true then
          some ((a0.F_L.length : Int) == (a0.F_V.length : Int))
        else
          some false) : Option Bool) >>= fun j5 =>
      some (0, 0, [], [], a0.F_Scale, a0.F_Wide, a0.F_Lev, a0.F_Neg, j5)
    else
      if a0.F_Scheme = 2 then
        ((
          if j1 = true then
            some (decide (a0.F_Wide > 0))
          else
            some false) : Option Bool) >>= fun j6 =>
        ((
          if j6 = true then
            some (decide (a0.F_Wide ≤ 8))
          else
            some false) : Option Bool) >>= fun j7 =>
        ((
          if j7 = true then
            some ((a0.F_Lev.length : Int) == a0.F_Dim)
          else
            some false) : Option Bool) >>= fun j8 =>
        ((
          if j8 = true then
            (M_slices_ContainsFunc_uint64_uint64_frame_bare_1 a0.F_Lev a0.F_Scheme a0.F_Dim a0.F_L a0.F_V a0.F_Scale a0.F_Wide a0.F_Lev a0.F_Neg) >>= fun r9 =>
            some (!r9)
          else
            some false) : Option Bool) >>= fun j10 =>
        ((
          if j10 = true then
            some (decide (a0.F_Scale ≥ 0))
          else
            some false) : Option Bool) >>= fun j11 =>
        ((
          if j11 = true then
            some ((a0.F_Neg.length : Int) == a0.F_Dim)
          else
            some false) : Option Bool) >>= fun j12 =>
        some (0, 0, a0.F_L, a0.F_V, 0, 0, [], [], j12)
      else
        if a0.F_Scheme = 3 then
          ((
            if j1 = true then
              some (decide (a0.F_Scale ≥ 0))
            else
              some false) : Option Bool) >>= fun j13 =>
          ((
            if j13 = true then
              some ((a0.F_Neg.length : Int) == a0.F_Dim)
            else
              some false) : Option Bool) >>= fun j14 =>
          some (0, 0, a0.F_L, a0.F_V, 0, a0.F_Wide, a0.F_Lev, [], j14)
        else
          some (0, 0, a0.F_L, a0.F_V, a0.F_Scale, a0.F_Wide, a0.F_Lev, a0.F_Neg, false)
def M_slices_Equal_int_int_l0 (a0 : List Int) (a1 : List Int) (x0 : Int) : Option (Sum Bool Unit) :=
  if x0 < (a0.length : Int) then
    if 0 ≤ x0 ∧ x0 < (a0.length : Int) then
      if 0 ≤ x0 ∧ x0 < (a1.length : Int) then
        if (at' a0 x0) ≠ (at' a1 x0) then
          some (.inl false)
        else
          M_slices_Equal_int_int_l0 a0 a1 (IntKind.i64.wrap (x0 + 1))
      else none
    else none
  else
    some (.inr ())
  partial_fixpoint
def M_slices_Equal_int_int (a0 : List Int) (a1 : List Int) : Option Bool :=
  if (a0.length : Int) ≠ (a1.length : Int) then
    some false
  else
    (M_slices_Equal_int_int_l0 a0 a1 0) >>= fun e => match e with
    | .inl r => some r
    | .inr j1 =>
      some true
def M_slices_Equal_int64_int64_l0 (a0 : List Int) (a1 : List Int) (x0 : Int) : Option (Sum Bool Unit) :=
  if x0 < (a0.length : Int) then
    if 0 ≤ x0 ∧ x0 < (a0.length : Int) then
      if 0 ≤ x0 ∧ x0 < (a1.length : Int) then
        if (at' a0 x0) ≠ (at' a1 x0) then
          some (.inl false)
        else
          M_slices_Equal_int64_int64_l0 a0 a1 (IntKind.i64.wrap (x0 + 1))
      else none
    else none
  else
    some (.inr ())
  partial_fixpoint
def M_slices_Equal_int64_int64 (a0 : List Int) (a1 : List Int) : Option Bool :=
  if (a0.length : Int) ≠ (a1.length : Int) then
    some false
  else
    (M_slices_Equal_int64_int64_l0 a0 a1 0) >>= fun e => match e with
    | .inl r => some r
    | .inr j1 =>
      some true
def M_slices_Equal_uint64_uint64_l0 (a0 : List Int) (a1 : List Int) (x0 : Int) : Option (Sum Bool Unit) :=
  if x0 < (a0.length : Int) then
    if 0 ≤ x0 ∧ x0 < (a0.length : Int) then
      if 0 ≤ x0 ∧ x0 < (a1.length : Int) then
        if (at' a0 x0) ≠ (at' a1 x0) then
          some (.inl false)
        else
          M_slices_Equal_uint64_uint64_l0 a0 a1 (IntKind.i64.wrap (x0 + 1))
      else none
    else none
  else
    some (.inr ())
  partial_fixpoint
def M_slices_Equal_uint64_uint64 (a0 : List Int) (a1 : List Int) : Option Bool :=
  if (a0.length : Int) ≠ (a1.length : Int) then
    some false
  else
    (M_slices_Equal_uint64_uint64_l0 a0 a1 0) >>= fun e => match e with
    | .inl r => some r
    | .inr j1 =>
      some true
def M_slices_Equal_bool_bool_l0 (a0 : List Bool) (a1 : List Bool) (x0 : Int) : Option (Sum Bool Unit) :=
  if x0 < (a0.length : Int) then
    if 0 ≤ x0 ∧ x0 < (a0.length : Int) then
      if 0 ≤ x0 ∧ x0 < (a1.length : Int) then
        if (at' a0 x0) ≠ (at' a1 x0) then
          some (.inl false)
        else
          M_slices_Equal_bool_bool_l0 a0 a1 (IntKind.i64.wrap (x0 + 1))
      else none
    else none
  else
    some (.inr ())
  partial_fixpoint
def M_slices_Equal_bool_bool (a0 : List Bool) (a1 : List Bool) : Option Bool :=
  if (a0.length : Int) ≠ (a1.length : Int) then
    some false
  else
    (M_slices_Equal_bool_bool_l0 a0 a1 0) >>= fun e => match e with
    | .inl r => some r
    | .inr j1 =>
      some true
def M_frame_same (a0 : T_api_Sent) (a1 : T_api_Sent) : Option Bool :=
  ((
    if ([a0.F_Scheme, a0.F_Dim, a0.F_Scale, a0.F_Wide] : List Int) = [a1.F_Scheme, a1.F_Dim, a1.F_Scale, a1.F_Wide] then
      (M_slices_Equal_int_int a0.F_L a1.F_L) >>= fun r1 =>
      some r1
    else
      some false) : Option Bool) >>= fun j2 =>
  ((
    if j2 = true then
      (M_slices_Equal_int64_int64 a0.F_V a1.F_V) >>= fun r3 =>
      some r3
    else
      some false) : Option Bool) >>= fun j4 =>
  ((
    if j4 = true then
      (M_slices_Equal_uint64_uint64 a0.F_Lev a1.F_Lev) >>= fun r5 =>
      some r5
    else
      some false) : Option Bool) >>= fun j6 =>
  ((
    if j6 = true then
      (M_slices_Equal_bool_bool a0.F_Neg a1.F_Neg) >>= fun r7 =>
      some r7
    else
      some false) : Option Bool) >>= fun j8 =>
  some j8
def M_frame_May (a0 : T_api_Sent) : Option Bool :=
  (M_frame_bare a0) >>= fun r1 =>
  ((
    if r1.2.2.2.2.2.2.2.2 = true then
      (M_frame_same (⟨r1.1, r1.2.1, r1.2.2.1, r1.2.2.2.1, r1.2.2.2.2.1, r1.2.2.2.2.2.1, r1.2.2.2.2.2.2.1, r1.2.2.2.2.2.2.2.1⟩ : T_api_Sent) (⟨0, 0, [], [], 0, 0, [], []⟩ : T_api_Sent)) >>= fun r2 =>
      some r2
    else
      some false) : Option Bool) >>= fun j3 =>
  some j3
def M_frame_Check (a0 : T_api_Frame) : Option Int :=
  ((
    if a0.F_From ≥ 0 then
      some (decide (a0.F_From < 64))
    else
      some false) : Option Bool) >>= fun j1 =>
  ((
    if j1 = true then
      some (decide (a0.F_Step ≥ 0))
    else
      some false) : Option Bool) >>= fun j2 =>
  ((
    if j2 = true then
      some (decide (a0.F_Step ≤ 1073741824))
    else
      some false) : Option Bool) >>= fun j3 =>
  if j3 = true then
    if a0.F_Kind = 1 then
      (M_frame_May a0.F_S) >>= fun r4 =>
      if r4 = true then
        some 0
      else
        if a0.F_Kind = 2 then
          (M_frame_same a0.F_S (⟨0, 0, [], [], 0, 0, [], []⟩ : T_api_Sent)) >>= fun r5 =>
          if r5 = true then
            some 0
          else
            some 1
        else
          some 1
    else
      if a0.F_Kind = 2 then
        (M_frame_same a0.F_S (⟨0, 0, [], [], 0, 0, [], []⟩ : T_api_Sent)) >>= fun r6 =>
        if r6 = true then
          some 0
        else
          some 1
      else
        some 1
  else
    some 1
def M_slices_Clone_byte_byte (a0 : List Int) : Option (List Int) :=
  if room 1 ([] ++ a0).length then
    some ([] ++ a0)
  else none
def M_leb_put_l0 (x0 : List Int) (x1 : Int) : Option ((List Int) × Int) :=
  if x1 > 127 then
    if room 1 (x0 ++ [bOr .u8 (IntKind.u8.wrap x1) 128]).length then
      some (x0 ++ [bOr .u8 (IntKind.u8.wrap x1) 128]) >>= fun y1 =>
      M_leb_put_l0 y1 (sShr .u64 x1 7)
    else none
  else
    some (x0, x1)
  partial_fixpoint
def M_leb_put (a0 : List Int) (a1 : Int) : Option (List Int) :=
  (M_leb_put_l0 a0 a1) >>= fun j3 =>
  if room 1 (j3.1 ++ [IntKind.u8.wrap j3.2]).length then
    some (j3.1 ++ [IntKind.u8.wrap j3.2])
  else none
def M_leb_Put_l0 (a1 : List Int) (x0 : Int) (x1 : List Int) : Option (List Int) :=
  if x0 < (a1.length : Int) then
    if 0 ≤ x0 ∧ x0 < (a1.length : Int) then
      (M_leb_put x1 (at' a1 x0)) >>= fun r2 =>
      M_leb_Put_l0 a1 (IntKind.i64.wrap (x0 + 1)) r2
    else none
  else
    some x1
  partial_fixpoint
def M_leb_Put (a0 : List Int) (a1 : List Int) : Option (List Int) :=
  (M_slices_Clone_byte_byte a0) >>= fun r1 =>
  (M_leb_Put_l0 a1 0 r1) >>= fun j3 =>
  some j3
def M_leb_Zig (a0 : Int) : Option Int :=
  some (bXor .u64 (IntKind.u64.wrap (sShl .i64 a0 1)) (IntKind.u64.wrap (sShr .i64 a0 63)))
def M_leb_Signed_l0 (a1 : List Int) (x0 : Int) (x1 : List Int) : Option (List Int) :=
  if x0 < (a1.length : Int) then
    if 0 ≤ x0 ∧ x0 < (a1.length : Int) then
      (M_leb_Zig (at' a1 x0)) >>= fun r2 =>
      (M_leb_put x1 r2) >>= fun r3 =>
      M_leb_Signed_l0 a1 (IntKind.i64.wrap (x0 + 1)) r3
    else none
  else
    some x1
  partial_fixpoint
def M_leb_Signed (a0 : List Int) (a1 : List Int) : Option (List Int) :=
  (M_slices_Clone_byte_byte a0) >>= fun r1 =>
  (M_leb_Signed_l0 a1 0 r1) >>= fun j4 =>
  some j4
def M_thrum_frame_pen_dense (a0 : T_frame_pen) (a1 : T_api_Sent) : Option ((List Int) × Int) :=
  (M_leb_Signed a0.F_b a1.F_V) >>= fun r1 =>
  some (r1, a0.F_e)
def M_index_Put_l0 (a1 : List Int) (x0 : Int) (x1 : Int) (x2 : List Int) : Option (List Int) :=
  if x0 < (a1.length : Int) then
    if 0 ≤ x0 ∧ x0 < (a1.length : Int) then
      if room 8 (x2 ++ [IntKind.u64.wrap (IntKind.i64.wrap ((IntKind.i64.wrap ((at' a1 x0) - x1)) - 1))]).length then
        some (x2 ++ [IntKind.u64.wrap (IntKind.i64.wrap ((IntKind.i64.wrap ((at' a1 x0) - x1)) - 1))]) >>= fun y6 =>
        M_index_Put_l0 a1 (IntKind.i64.wrap (x0 + 1)) (at' a1 x0) y6
      else none
    else none
  else
    some x2
  partial_fixpoint
def M_index_Put (a0 : Int) (a1 : List Int) : Option ((List Int) × Int) :=
  (M_index_Check a0 a1) >>= fun r1 =>
  if r1 ≠ 0 then
    some ([], r1)
  else
    if 0 ≤ (0 : Int) ∧ (0 : Int) ≤ IntKind.i64.wrap ((a1.length : Int) + 1) ∧ IntKind.i64.wrap ((a1.length : Int) + 1) ≤ 140737488355328 ∧ (IntKind.i64.wrap ((a1.length : Int) + 1)) * ((8 : Nat) : Int) ≤ 140737488355328 then
      some (List.replicate (Int.toNat 0) 0) >>= fun y2 =>
      if room 8 (y2 ++ [IntKind.u64.wrap (a1.length : Int)]).length then
        some (y2 ++ [IntKind.u64.wrap (a1.length : Int)]) >>= fun y4 =>
        (M_index_Put_l0 a1 0 (-1) y4) >>= fun j8 =>
        (M_leb_Put [] j8) >>= fun r9 =>
        some (r9, 0)
      else none
    else none
def M_thrum_frame_pen_bytes (a0 : T_frame_pen) (a1 : List Int) (a2 : Int) : Option ((List Int) × Int) :=
  if room 1 (a0.F_b ++ a1).length then
    if a2 ≠ 0 then
      some (a0.F_b ++ a1, a2)
    else
      some (a0.F_b ++ a1, a0.F_e)
  else none
def M_thrum_frame_pen_top (a0 : T_frame_pen) (a1 : T_api_Sent) : Option ((List Int) × Int) :=
  (M_index_Put a1.F_Dim a1.F_L) >>= fun r1 =>
  (M_thrum_frame_pen_bytes a0 r1.1 r1.2) >>= fun r2 =>
  (M_thrum_frame_pen_dense (⟨r2.1, r2.2⟩ : T_frame_pen) a1) >>= fun r3 =>
  some (r3.1, r3.2)
def M_plane_woven (a0 : Int) : Option Int :=
  some a0
def M_plane_Bytes (a0 : Int) (a1 : Int) : Option (Int × Int) :=
  ((
    if a0 < 0 then
      some true
    else
      some (decide (a0 > 32))) : Option Bool) >>= fun j1 =>
  ((
    if j1 = true then
      some true
    else
      some (decide (a1 < 0))) : Option Bool) >>= fun j2 =>
  if j2 = true then
    some (0, 1)
  else
    if a1 > 4096 then
      some (0, 3)
    else
      some (sShr .i64 (IntKind.i64.wrap ((IntKind.i64.wrap (a0 * a1)) + 7)) 3, 0)
def M_plane_put_1_c (a0 : Int) (a1 : Int) : Option Bool :=
  if 0 ≤ a1 then
    some ((sShr .u64 a0 a1) != 0)
  else none
def M_slices_IndexFunc_uint64_uint64_plane_put_1_l0 (a0 : List Int) (a1 : Int) (x0 : Int) : Option (Sum Int Unit) :=
  if x0 < (a0.length : Int) then
    if 0 ≤ x0 ∧ x0 < (a0.length : Int) then
      (M_plane_put_1_c (at' a0 x0) a1) >>= fun r1 =>
      if r1 = true then
        some (.inl x0)
      else
        M_slices_IndexFunc_uint64_uint64_plane_put_1_l0 a0 a1 (IntKind.i64.wrap (x0 + 1))
    else none
  else
    some (.inr ())
  partial_fixpoint
def M_slices_IndexFunc_uint64_uint64_plane_put_1 (a0 : List Int) (a1 : Int) : Option Int :=
  (M_slices_IndexFunc_uint64_uint64_plane_put_1_l0 a0 a1 0) >>= fun e => match e with
  | .inl r => some r
  | .inr j2 =>
    some (-1)
def M_slices_ContainsFunc_uint64_uint64_plane_put_1 (a0 : List Int) (a1 : Int) : Option Bool :=
  (M_slices_IndexFunc_uint64_uint64_plane_put_1 a0 a1) >>= fun r1 =>
  some (decide (r1 ≥ 0))
def M_plane_woven_1_c (a0 : Int) (a1 : Int) (a2 : Int) : Option Int :=
  some (IntKind.i64.wrap ((IntKind.i64.wrap (a1 * a2)) + a0))
def M_plane_put_plane_woven_1_l1 (a0 : Int) (a1 : List Int) (a2 : Int) (x0 : Int) (x0_ : Int) (x1_ : List Int) : Option (List Int) :=
  if x0_ < a0 then
    (M_plane_woven_1_c x0 x0_ a2) >>= fun r5 =>
    if 0 ≤ sShr .i64 r5 3 ∧ sShr .i64 r5 3 < (x1_.length : Int) then
      if 0 ≤ IntKind.i64.wrap ((IntKind.i64.wrap (a0 - 1)) - x0_) then
        if 0 ≤ IntKind.i64.wrap (7 - (bAnd .i64 r5 7)) then
          if 0 ≤ sShr .i64 r5 3 ∧ sShr .i64 r5 3 < (x1_.length : Int) then
            some (x1_.set (Int.toNat (sShr .i64 r5 3)) (bOr .u8 (at' x1_ (sShr .i64 r5 3)) (sShl .u8 (IntKind.u8.wrap (bAnd .u64 (sShr .u64 (at' a1 x0) (IntKind.i64.wrap ((IntKind.i64.wrap (a0 - 1)) - x0_))) 1)) (IntKind.i64.wrap (7 - (bAnd .i64 r5 7)))))) >>= fun y6 =>
            M_plane_put_plane_woven_1_l1 a0 a1 a2 x0 (IntKind.i64.wrap (x0_ + 1)) y6
          else none
        else none
      else none
    else none
  else
    some x1_
  partial_fixpoint
def M_plane_put_plane_woven_1_l0 (a0 : Int) (a1 : List Int) (a2 : Int) (x0 : Int) (x1 : List Int) : Option (List Int) :=
  if x0 < (a1.length : Int) then
    if 0 ≤ x0 ∧ x0 < (a1.length : Int) then
      (M_plane_put_plane_woven_1_l1 a0 a1 a2 x0 0 x1) >>= fun j8 =>
      M_plane_put_plane_woven_1_l0 a0 a1 a2 (IntKind.i64.wrap (x0 + 1)) j8
    else none
  else
    some x1
  partial_fixpoint
def M_plane_put_plane_woven_1 (a0 : Int) (a1 : List Int) (a2 : Int) : Option ((List Int) × Int) :=
  (M_plane_Bytes a0 (a1.length : Int)) >>= fun r1 =>
  if r1.2 ≠ 0 then
    some ([], r1.2)
  else
    (M_slices_ContainsFunc_uint64_uint64_plane_put_1 a1 a0) >>= fun r2 =>
    if r2 = true then
      some ([], 1)
    else
      if 0 ≤ r1.1 ∧ r1.1 ≤ r1.1 ∧ r1.1 ≤ 140737488355328 ∧ r1.1 * ((1 : Nat) : Int) ≤ 140737488355328 then
        some (List.replicate (Int.toNat r1.1) 0) >>= fun y3 =>
        (M_plane_put_plane_woven_1_l0 a0 a1 a2 0 y3) >>= fun j9 =>
        some (j9, 0)
      else none
def M_plane_Weave (a0 : Int) (a1 : List Int) : Option ((List Int) × Int) :=
  (M_plane_woven (a1.length : Int)) >>= fun r1 =>
  (M_plane_put_plane_woven_1 a0 a1 r1) >>= fun r2 =>
  some (r2.1, r2.2)
def M_plane_side (a0 : Int) : Option Int :=
  some a0
def M_plane_side_1_c (a0 : Int) (a1 : Int) (a2 : Int) : Option Int :=
  some (IntKind.i64.wrap ((IntKind.i64.wrap (a0 * a2)) + a1))
def M_plane_put_plane_side_1_l1 (a0 : Int) (a1 : List Int) (a2 : Int) (x0 : Int) (x0_ : Int) (x1_ : List Int) : Option (List Int) :=
  if x0_ < a0 then
    (M_plane_side_1_c x0 x0_ a2) >>= fun r5 =>
    if 0 ≤ sShr .i64 r5 3 ∧ sShr .i64 r5 3 < (x1_.length : Int) then
      if 0 ≤ IntKind.i64.wrap ((IntKind.i64.wrap (a0 - 1)) - x0_) then
        if 0 ≤ IntKind.i64.wrap (7 - (bAnd .i64 r5 7)) then
          if 0 ≤ sShr .i64 r5 3 ∧ sShr .i64 r5 3 < (x1_.length : Int) then
            some (x1_.set (Int.toNat (sShr .i64 r5 3)) (bOr .u8 (at' x1_ (sShr .i64 r5 3)) (sShl .u8 (IntKind.u8.wrap (bAnd .u64 (sShr .u64 (at' a1 x0) (IntKind.i64.wrap ((IntKind.i64.wrap (a0 - 1)) - x0_))) 1)) (IntKind.i64.wrap (7 - (bAnd .i64 r5 7)))))) >>= fun y6 =>
            M_plane_put_plane_side_1_l1 a0 a1 a2 x0 (IntKind.i64.wrap (x0_ + 1)) y6
          else none
        else none
      else none
    else none
  else
    some x1_
  partial_fixpoint
def M_plane_put_plane_side_1_l0 (a0 : Int) (a1 : List Int) (a2 : Int) (x0 : Int) (x1 : List Int) : Option (List Int) :=
  if x0 < (a1.length : Int) then
    if 0 ≤ x0 ∧ x0 < (a1.length : Int) then
      (M_plane_put_plane_side_1_l1 a0 a1 a2 x0 0 x1) >>= fun j8 =>
      M_plane_put_plane_side_1_l0 a0 a1 a2 (IntKind.i64.wrap (x0 + 1)) j8
    else none
  else
    some x1
  partial_fixpoint
def M_plane_put_plane_side_1 (a0 : Int) (a1 : List Int) (a2 : Int) : Option ((List Int) × Int) :=
  (M_plane_Bytes a0 (a1.length : Int)) >>= fun r1 =>
  if r1.2 ≠ 0 then
    some ([], r1.2)
  else
    (M_slices_ContainsFunc_uint64_uint64_plane_put_1 a1 a0) >>= fun r2 =>
    if r2 = true then
      some ([], 1)
    else
      if 0 ≤ r1.1 ∧ r1.1 ≤ r1.1 ∧ r1.1 ≤ 140737488355328 ∧ r1.1 * ((1 : Nat) : Int) ≤ 140737488355328 then
        some (List.replicate (Int.toNat r1.1) 0) >>= fun y3 =>
        (M_plane_put_plane_side_1_l0 a0 a1 a2 0 y3) >>= fun j9 =>
        some (j9, 0)
      else none
def M_plane_Pack (a0 : Int) (a1 : List Int) : Option ((List Int) × Int) :=
  (M_plane_side a0) >>= fun r1 =>
  (M_plane_put_plane_side_1 a0 a1 r1) >>= fun r2 =>
  some (r2.1, r2.2)
def M_plane_Signs_l0 (a0 : List Bool) (x0 : Int) (x1 : List Int) : Option (List Int) :=
  if x0 < (a0.length : Int) then
    if 0 ≤ x0 ∧ x0 < (a0.length : Int) then
      if (at' a0 x0) = true then
        if 0 ≤ x0 ∧ x0 < (x1.length : Int) then
          M_plane_Signs_l0 a0 (IntKind.i64.wrap (x0 + 1)) (x1.set (Int.toNat x0) 1)
        else none
      else
        M_plane_Signs_l0 a0 (IntKind.i64.wrap (x0 + 1)) x1
    else none
  else
    some x1
  partial_fixpoint
def M_plane_Signs (a0 : List Bool) : Option ((List Int) × Int) :=
  if 0 ≤ (a0.length : Int) ∧ (a0.length : Int) ≤ (a0.length : Int) ∧ (a0.length : Int) ≤ 140737488355328 ∧ (a0.length : Int) * ((8 : Nat) : Int) ≤ 140737488355328 then
    some (List.replicate (Int.toNat (a0.length : Int)) 0) >>= fun y1 =>
    (M_plane_Signs_l0 a0 0 y1) >>= fun j3 =>
    (M_plane_Pack 1 j3) >>= fun r4 =>
    some (r4.1, r4.2)
  else none
def M_thrum_frame_pen_level (a0 : T_frame_pen) (a1 : T_api_Sent) : Option ((List Int) × Int) :=
  ((
    (M_leb_Put a0.F_b [IntKind.u64.wrap a1.F_Scale]) >>= fun r1 =>
    if room 1 (r1 ++ [IntKind.u8.wrap a1.F_Wide]).length then
      some (r1 ++ [IntKind.u8.wrap a1.F_Wide])
    else none) : Option (List Int)) >>= fun j2 =>
  (M_plane_Weave a1.F_Wide a1.F_Lev) >>= fun r3 =>
  (M_thrum_frame_pen_bytes (⟨j2, a0.F_e⟩ : T_frame_pen) r3.1 r3.2) >>= fun r4 =>
  (M_plane_Signs a1.F_Neg) >>= fun r5 =>
  (M_thrum_frame_pen_bytes (⟨r4.1, r4.2⟩ : T_frame_pen) r5.1 r5.2) >>= fun r6 =>
  some (r6.1, r6.2)
def M_thrum_frame_pen_sign (a0 : T_frame_pen) (a1 : T_api_Sent) : Option ((List Int) × Int) :=
  (M_leb_Put a0.F_b [IntKind.u64.wrap a1.F_Scale]) >>= fun r1 =>
  (M_plane_Signs a1.F_Neg) >>= fun r2 =>
  (M_thrum_frame_pen_bytes (⟨r1, a0.F_e⟩ : T_frame_pen) r2.1 r2.2) >>= fun r3 =>
  some (r3.1, r3.2)
def M_frame_Body (a0 : T_api_Sent) : Option ((List Int) × Int) :=
  (M_frame_May a0) >>= fun r1 =>
  if r1 = false then
    some ([], 1)
  else
    (M_leb_Put [IntKind.u8.wrap a0.F_Scheme] [IntKind.u64.wrap a0.F_Dim]) >>= fun r2 =>
    ((
      if a0.F_Scheme = (0 : Int) then
        (M_thrum_frame_pen_dense (⟨r2, 0⟩ : T_frame_pen) a0) >>= fun r3 =>
        some (r3.1, r3.2)
      else
        if a0.F_Scheme = (1 : Int) then
          (M_thrum_frame_pen_top (⟨r2, 0⟩ : T_frame_pen) a0) >>= fun r4 =>
          some (r4.1, r4.2)
        else
          if a0.F_Scheme = (2 : Int) then
            (M_thrum_frame_pen_level (⟨r2, 0⟩ : T_frame_pen) a0) >>= fun r5 =>
            some (r5.1, r5.2)
          else
            if a0.F_Scheme = (3 : Int) then
              (M_thrum_frame_pen_sign (⟨r2, 0⟩ : T_frame_pen) a0) >>= fun r6 =>
              some (r6.1, r6.2)
            else
              none) : Option ((List Int) × Int)) >>= fun j7 =>
    if j7.2 ≠ 0 then
      some ([], j7.2)
    else
      some (j7.1, 0)
def M_crc_Sum (a0 : List Int) : Option Int :=
  (M_crc_More 0 a0) >>= fun r1 =>
  some r1
def M_crc_Seal_l0 (x0 : Int) (x1 : Int) (x2 : List Int) : Option (List Int) :=
  if x0 < 4 then
    if room 1 (x2 ++ [IntKind.u8.wrap x1]).length then
      some (x2 ++ [IntKind.u8.wrap x1]) >>= fun y3 =>
      M_crc_Seal_l0 (IntKind.i64.wrap (x0 + 1)) (sShr .u32 x1 8) y3
    else none
  else
    some x2
  partial_fixpoint
def M_crc_Seal (a0 : List Int) : Option ((List Int) × Int) :=
  if (a0.length : Int) > 65532 then
    some ([], 3)
  else
    (M_slices_Clone_byte_byte a0) >>= fun r1 =>
    (M_crc_Sum a0) >>= fun r2 =>
    (M_crc_Seal_l0 0 r2 r1) >>= fun j5 =>
    some (j5, 0)
def M_frame_Write (a0 : T_api_Frame) : Option ((List Int) × Int) :=
  (M_frame_Check a0) >>= fun r1 =>
  if r1 ≠ 0 then
    some ([], r1)
  else
    (M_leb_Put [1, IntKind.u8.wrap a0.F_Kind] [IntKind.u64.wrap a0.F_From, IntKind.u64.wrap a0.F_Step]) >>= fun r2 =>
    if a0.F_Kind = 1 then
      (M_frame_Body a0.F_S) >>= fun r3 =>
      if r3.2 ≠ 0 then
        some ([], r3.2)
      else
        if room 1 (r2 ++ r3.1).length then
          (M_crc_Seal (r2 ++ r3.1)) >>= fun r4 =>
          some (r4.1, r4.2)
        else none
    else
      (M_crc_Seal r2) >>= fun r5 =>
      some (r5.1, r5.2)
def M_thrumref06_Equal_l0 (a0 : List Int) (a1 : List Int) (x0 : Int) : Option (Sum Bool Unit) :=
  if x0 < (a0.length : Int) then
    if 0 ≤ x0 ∧ x0 < (a0.length : Int) then
      if 0 ≤ x0 ∧ x0 < (a1.length : Int) then
        if (at' a0 x0) ≠ (at' a1 x0) then
          some (.inl false)
        else
          M_thrumref06_Equal_l0 a0 a1 (IntKind.i64.wrap (x0 + 1))
      else none
    else none
  else
    some (.inr ())
  partial_fixpoint
def M_thrumref06_Equal (a0 : List Int) (a1 : List Int) : Option Bool :=
  if (a0.length : Int) ≠ (a1.length : Int) then
    some false
  else
    (M_thrumref06_Equal_l0 a0 a1 0) >>= fun e => match e with
    | .inl r => some r
    | .inr j1 =>
      some true
def M_thrumref02_Same_l0 (a0 : List Int) (a1 : List Int) (x0 : Int) : Option (Sum Bool Unit) :=
  if x0 < (a0.length : Int) then
    if 0 ≤ x0 ∧ x0 < (a0.length : Int) then
      if 0 ≤ x0 ∧ x0 < (a1.length : Int) then
        if (at' a0 x0) ≠ (at' a1 x0) then
          some (.inl false)
        else
          M_thrumref02_Same_l0 a0 a1 (IntKind.i64.wrap (x0 + 1))
      else none
    else none
  else
    some (.inr ())
  partial_fixpoint
def M_thrumref02_Same (a0 : List Int) (a1 : List Int) : Option Bool :=
  if (a0.length : Int) ≠ (a1.length : Int) then
    some false
  else
    (M_thrumref02_Same_l0 a0 a1 0) >>= fun e => match e with
    | .inl r => some r
    | .inr j1 =>
      some true
def M_thrumref03_SameNumbers_l0 (a0 : List Int) (a1 : List Int) (x0 : Int) : Option (Sum Bool Unit) :=
  if x0 < (a0.length : Int) then
    if 0 ≤ x0 ∧ x0 < (a0.length : Int) then
      if 0 ≤ x0 ∧ x0 < (a1.length : Int) then
        if (at' a0 x0) ≠ (at' a1 x0) then
          some (.inl false)
        else
          M_thrumref03_SameNumbers_l0 a0 a1 (IntKind.i64.wrap (x0 + 1))
      else none
    else none
  else
    some (.inr ())
  partial_fixpoint
def M_thrumref03_SameNumbers (a0 : List Int) (a1 : List Int) : Option Bool :=
  if (a0.length : Int) ≠ (a1.length : Int) then
    some false
  else
    (M_thrumref03_SameNumbers_l0 a0 a1 0) >>= fun e => match e with
    | .inl r => some r
    | .inr j1 =>
      some true
def M_thrumref05_SameSigns_l0 (a0 : List Bool) (a1 : List Bool) (x0 : Int) : Option (Sum Bool Unit) :=
  if x0 < (a0.length : Int) then
    if 0 ≤ x0 ∧ x0 < (a0.length : Int) then
      if 0 ≤ x0 ∧ x0 < (a1.length : Int) then
        if (at' a0 x0) ≠ (at' a1 x0) then
          some (.inl false)
        else
          M_thrumref05_SameSigns_l0 a0 a1 (IntKind.i64.wrap (x0 + 1))
      else none
    else none
  else
    some (.inr ())
  partial_fixpoint
def M_thrumref05_SameSigns (a0 : List Bool) (a1 : List Bool) : Option Bool :=
  if (a0.length : Int) ≠ (a1.length : Int) then
    some false
  else
    (M_thrumref05_SameSigns_l0 a0 a1 0) >>= fun e => match e with
    | .inl r => some r
    | .inr j1 =>
      some true
def M_thrumref07_SameSent (a0 : T_api_Sent) (a1 : T_api_Sent) : Option Bool :=
  ((
    if a0.F_Scheme = a1.F_Scheme then
      some (a0.F_Dim == a1.F_Dim)
    else
      some false) : Option Bool) >>= fun j1 =>
  ((
    if j1 = true then
      (M_thrumref06_Equal a0.F_L a1.F_L) >>= fun r2 =>
      some r2
    else
      some false) : Option Bool) >>= fun j3 =>
  ((
    if j3 = true then
      (M_thrumref02_Same a0.F_V a1.F_V) >>= fun r4 =>
      some r4
    else
      some false) : Option Bool) >>= fun j5 =>
  ((
    if j5 = true then
      some (a0.F_Scale == a1.F_Scale)
    else
      some false) : Option Bool) >>= fun j6 =>
  ((
    if j6 = true then
      some (a0.F_Wide == a1.F_Wide)
    else
      some false) : Option Bool) >>= fun j7 =>
  ((
    if j7 = true then
      (M_thrumref03_SameNumbers a0.F_Lev a1.F_Lev) >>= fun r8 =>
      some r8
    else
      some false) : Option Bool) >>= fun j9 =>
  ((
    if j9 = true then
      (M_thrumref05_SameSigns a0.F_Neg a1.F_Neg) >>= fun r10 =>
      some r10
    else
      some false) : Option Bool) >>= fun j11 =>
  some j11
def M_slices_Equal_byte_byte_l0 (a0 : List Int) (a1 : List Int) (x0 : Int) : Option (Sum Bool Unit) :=
  if x0 < (a0.length : Int) then
    if 0 ≤ x0 ∧ x0 < (a0.length : Int) then
      if 0 ≤ x0 ∧ x0 < (a1.length : Int) then
        if (at' a0 x0) ≠ (at' a1 x0) then
          some (.inl false)
        else
          M_slices_Equal_byte_byte_l0 a0 a1 (IntKind.i64.wrap (x0 + 1))
      else none
    else none
  else
    some (.inr ())
  partial_fixpoint
def M_slices_Equal_byte_byte (a0 : List Int) (a1 : List Int) : Option Bool :=
  if (a0.length : Int) ≠ (a1.length : Int) then
    some false
  else
    (M_slices_Equal_byte_byte_l0 a0 a1 0) >>= fun e => match e with
    | .inl r => some r
    | .inr j1 =>
      some true
def M_crc_Open (a0 : List Int) : Option ((List Int) × Int) :=
  if (a0.length : Int) > 65536 then
    some ([], 3)
  else
    if (IntKind.i64.wrap ((a0.length : Int) - 4)) < 0 then
      some ([], 5)
    else
      if cutOk none (some (IntKind.i64.wrap ((a0.length : Int) - 4))) a0.length then
        some (cut' a0 none (some (IntKind.i64.wrap ((a0.length : Int) - 4)))) >>= fun y1 =>
        (M_crc_Seal y1) >>= fun r3 =>
        ((
          if r3.2 ≠ 0 then
            some true
          else
            (M_slices_Equal_byte_byte r3.1 a0) >>= fun r4 =>
            some (!r4)) : Option Bool) >>= fun j5 =>
        if j5 = true then
          some ([], 7)
        else
          if cutOk none (some (IntKind.i64.wrap ((a0.length : Int) - 4))) a0.length then
            some (cut' a0 none (some (IntKind.i64.wrap ((a0.length : Int) - 4)))) >>= fun y6 =>
            (M_slices_Clone_byte_byte y6) >>= fun r8 =>
            some (r8, 0)
          else none
      else none
def M_thrum_frame_reader_part (a0 : T_frame_reader) (a1 : Int) : Option ((List Int) × (List Int) × Int × Bool) :=
  if a0.F_bad = true then
    if 0 ≤ a1 ∧ a1 ≤ a1 ∧ a1 ≤ 140737488355328 ∧ a1 * ((1 : Nat) : Int) ≤ 140737488355328 then
      some (List.replicate (Int.toNat a1) 0, a0.F_text.F_b, a0.F_text.F_at, true)
    else none
  else
    if a1 > (IntKind.i64.wrap ((a0.F_text.F_b.length : Int) - a0.F_text.F_at)) then
      if 0 ≤ a1 ∧ a1 ≤ a1 ∧ a1 ≤ 140737488355328 ∧ a1 * ((1 : Nat) : Int) ≤ 140737488355328 then
        some (List.replicate (Int.toNat a1) 0, a0.F_text.F_b, a0.F_text.F_at, true)
      else none
    else
      if cutOk (some (IntKind.i64.wrap ((IntKind.i64.wrap (a0.F_text.F_at + a1)) - a1))) (some (IntKind.i64.wrap (a0.F_text.F_at + a1))) a0.F_text.F_b.length then
        some (cut' a0.F_text.F_b (some (IntKind.i64.wrap ((IntKind.i64.wrap (a0.F_text.F_at + a1)) - a1))) (some (IntKind.i64.wrap (a0.F_text.F_at + a1))), a0.F_text.F_b, IntKind.i64.wrap (a0.F_text.F_at + a1), a0.F_bad)
      else none
def M_thrum_frame_reader_small (a0 : T_frame_reader) : Option (Int × (List Int) × Int × Bool) :=
  (M_thrum_frame_reader_part a0 1) >>= fun r1 =>
  if 0 ≤ (0 : Int) ∧ (0 : Int) < (r1.1.length : Int) then
    some (IntKind.i64.wrap (at' r1.1 0), r1.2.1, r1.2.2.1, r1.2.2.2)
  else none
def M_thrum_frame_reader_must (a0 : T_frame_reader) (a1 : Bool) : Option ((List Int) × Int × Bool) :=
  ((
    if a0.F_bad = true then
      some true
    else
      some (!a1)) : Option Bool) >>= fun j1 =>
  some (a0.F_text.F_b, a0.F_text.F_at, j1)
def M_leb_Get_l0 (a1 : Int) (y1 : List Int) (x0 : Int) (x1 : Int) : Option (Sum (Int × Int × Int) Unit) :=
  if x0 < (y1.length : Int) then
    if 0 ≤ x0 ∧ x0 < (y1.length : Int) then
      ((
        if x0 = 9 then
          some (decide ((at' y1 x0) > 1))
        else
          some false) : Option Bool) >>= fun j3 =>
      ((
        if j3 = true then
          some true
        else
          ((
            if (at' y1 x0) < 128 then
              some ((at' y1 x0) == 0)
            else
              some false) : Option Bool) >>= fun j4 =>
          ((
            if j4 = true then
              some (decide (x0 > 0))
            else
              some false) : Option Bool) >>= fun j5 =>
          some j5) : Option Bool) >>= fun j6 =>
      if j6 = true then
        some (.inl (0, 0, 6))
      else
        if 0 ≤ IntKind.i64.wrap (7 * x0) then
          some (bOr .u64 x1 (sShl .u64 (IntKind.u64.wrap (bAnd .u8 (at' y1 x0) 127)) (IntKind.i64.wrap (7 * x0)))) >>= fun y7 =>
          if (at' y1 x0) < 128 then
            some (.inl (y7, IntKind.i64.wrap ((IntKind.i64.wrap (a1 + x0)) + 1), 0))
          else
            M_leb_Get_l0 a1 y1 (IntKind.i64.wrap (x0 + 1)) y7
        else none
    else none
  else
    some (.inr ())
  partial_fixpoint
def M_leb_Get (a0 : List Int) (a1 : Int) : Option (Int × Int × Int) :=
  if a1 < 0 then
    some (0, 0, 1)
  else
    if cutOk (some (if (a0.length : Int) < a1 then (a0.length : Int) else a1)) none a0.length then
      some (cut' a0 (some (if (a0.length : Int) < a1 then (a0.length : Int) else a1)) none) >>= fun y1 =>
      (M_leb_Get_l0 a1 y1 0 0) >>= fun e => match e with
      | .inl r => some r
      | .inr j9 =>
        some (0, 0, 5)
    else none
def M_thrum_frame_reader_number (a0 : T_frame_reader) (a1 : Int) : Option (Int × (List Int) × Int × Bool) :=
  (M_leb_Get a0.F_text.F_b a0.F_text.F_at) >>= fun r1 =>
  ((
    if a0.F_bad = true then
      some true
    else
      some (r1.2.2 != 0)) : Option Bool) >>= fun j2 =>
  ((
    if j2 = true then
      some true
    else
      some (decide (r1.1 > a1))) : Option Bool) >>= fun j3 =>
  if j3 = true then
    some (0, a0.F_text.F_b, a0.F_text.F_at, true)
  else
    some (r1.1, a0.F_text.F_b, r1.2.1, a0.F_bad)
def M_leb_Zag (a0 : Int) : Option Int :=
  some (bXor .i64 (IntKind.i64.wrap (sShr .u64 a0 1)) (IntKind.i64.wrap (0 - (IntKind.i64.wrap (bAnd .u64 a0 1)))))
def M_thrum_frame_reader_signed_l0 (a1 : Int) (x0 : List Int) (x1 : List Int) (x2 : Int) (x3 : Bool) : Option ((List Int) × (List Int) × Int × Bool) :=
  ((
    if x3 = false then
      some (decide ((x0.length : Int) < a1))
    else
      some false) : Option Bool) >>= fun j3 =>
  if j3 = true then
    (M_thrum_frame_reader_number (⟨(⟨x1, x2⟩ : T_frame_text), x3⟩ : T_frame_reader) 18446744073709551615) >>= fun r4 =>
    (M_leb_Zag r4.1) >>= fun r5 =>
    if room 8 (x0 ++ [r5]).length then
      M_thrum_frame_reader_signed_l0 a1 (x0 ++ [r5]) r4.2.1 r4.2.2.1 r4.2.2.2
    else none
  else
    some (x0, x1, x2, x3)
  partial_fixpoint
def M_thrum_frame_reader_signed (a0 : T_frame_reader) (a1 : Int) : Option ((List Int) × (List Int) × Int × Bool) :=
  if 0 ≤ (0 : Int) ∧ (0 : Int) ≤ a1 ∧ a1 ≤ 140737488355328 ∧ a1 * ((8 : Nat) : Int) ≤ 140737488355328 then
    some (List.replicate (Int.toNat 0) 0) >>= fun y1 =>
    (M_thrum_frame_reader_signed_l0 a1 y1 a0.F_text.F_b a0.F_text.F_at a0.F_bad) >>= fun j6 =>
    some (j6.1, j6.2.1, j6.2.2.1, j6.2.2.2)
  else none
def M_index_Get_l0 (a0 : Int) (a1 : List Int) (r2 : Int × Int × Int) (x0 : Int) (x1 : Int) (x2 : List Int) (x3 : Int) (x4 : Int) : Option (Int × Int × (List Int)) :=
  ((
    if x3 = 0 then
      some (decide (x0 < r2.1))
    else
      some false) : Option Bool) >>= fun j5 =>
  if j5 = true then
    (M_leb_Get a1 x4) >>= fun r6 =>
    if r6.2.2 ≠ 0 then
      some (r6.2.2, r6.2.1, x2)
    else
      if r6.1 ≥ (IntKind.u64.wrap (IntKind.i64.wrap ((IntKind.i64.wrap (a0 - 1)) - x1))) then
        some (6, r6.2.1, x2)
      else
        some (IntKind.i64.wrap (x1 + (IntKind.i64.wrap (1 + (IntKind.i64.wrap r6.1))))) >>= fun y7 =>
        if room 8 (x2 ++ [IntKind.i64.wrap (x1 + (IntKind.i64.wrap (1 + (IntKind.i64.wrap r6.1))))]).length then
          some (x2 ++ [IntKind.i64.wrap (x1 + (IntKind.i64.wrap (1 + (IntKind.i64.wrap r6.1))))]) >>= fun y9 =>
          M_index_Get_l0 a0 a1 r2 (IntKind.u64.wrap (x0 + 1)) y7 y9 r6.2.2 r6.2.1
        else none
  else
    some (x3, x4, x2)
  partial_fixpoint
def M_index_Get (a0 : Int) (a1 : List Int) (a2 : Int) : Option ((List Int) × Int × Int) :=
  (M_index_measure a0) >>= fun r1 =>
  if r1 = false then
    some ([], 0, 1)
  else
    (M_leb_Get a1 a2) >>= fun r2 =>
    ((
      if r2.2.2 = 0 then
        some (decide (r2.1 > (IntKind.u64.wrap a0)))
      else
        some false) : Option Bool) >>= fun j3 =>
    ((
      if j3 = true then
        some 6
      else
        some r2.2.2) : Option Int) >>= fun j4 =>
    (M_index_Get_l0 a0 a1 r2 0 (-1) [] j4 r2.2.1) >>= fun j11 =>
    if j11.1 ≠ 0 then
      some ([], 0, j11.1)
    else
      some (j11.2.2, j11.2.1, 0)
def M_thrum_frame_reader_places (a0 : T_frame_reader) (a1 : Int) : Option ((List Int) × (List Int) × Int × Bool) :=
  if a0.F_bad = true then
    some ([], a0.F_text.F_b, a0.F_text.F_at, a0.F_bad)
  else
    (M_index_Get a1 a0.F_text.F_b a0.F_text.F_at) >>= fun r1 =>
    if r1.2.2 ≠ 0 then
      some ([], a0.F_text.F_b, a0.F_text.F_at, true)
    else
      some (r1.1, a0.F_text.F_b, r1.2.1, a0.F_bad)
def M_plane_take_plane_woven_1_l1 (a0 : Int) (a2 : List Int) (a3 : Int) (y4 : List Int) (x0 : Int) (x0_ : Int) (x1_ : List Int) : Option (List Int) :=
  if x0_ < a0 then
    (M_plane_woven_1_c x0 x0_ a3) >>= fun r6 =>
    if 0 ≤ x0 ∧ x0 < (x1_.length : Int) then
      if 0 ≤ sShr .i64 r6 3 ∧ sShr .i64 r6 3 < (a2.length : Int) then
        if 0 ≤ IntKind.i64.wrap (7 - (bAnd .i64 r6 7)) then
          if 0 ≤ x0 ∧ x0 < (x1_.length : Int) then
            some (x1_.set (Int.toNat x0) (bOr .u64 (sShl .u64 (at' x1_ x0) 1) (IntKind.u64.wrap (bAnd .u8 (sShr .u8 (at' a2 (sShr .i64 r6 3)) (IntKind.i64.wrap (7 - (bAnd .i64 r6 7)))) 1)))) >>= fun y7 =>
            M_plane_take_plane_woven_1_l1 a0 a2 a3 y4 x0 (IntKind.i64.wrap (x0_ + 1)) y7
          else none
        else none
      else none
    else none
  else
    some x1_
  partial_fixpoint
def M_plane_take_plane_woven_1_l0 (a0 : Int) (a2 : List Int) (a3 : Int) (y4 : List Int) (x0 : Int) (x1 : List Int) : Option (List Int) :=
  if x0 < (y4.length : Int) then
    (M_plane_take_plane_woven_1_l1 a0 a2 a3 y4 x0 0 x1) >>= fun j9 =>
    M_plane_take_plane_woven_1_l0 a0 a2 a3 y4 (IntKind.i64.wrap (x0 + 1)) j9
  else
    some x1
  partial_fixpoint
def M_plane_take_plane_woven_1_l3 (a0 : Int) (a2 : List Int) (a3 : Int) (y11 : List Int) (x0 : Int) (x0_ : Int) (x1_ : List Int) : Option (List Int) :=
  if x0_ < a0 then
    (M_plane_woven_1_c x0 x0_ a3) >>= fun r13 =>
    if 0 ≤ x0 ∧ x0 < (x1_.length : Int) then
      if 0 ≤ sShr .i64 r13 3 ∧ sShr .i64 r13 3 < (a2.length : Int) then
        if 0 ≤ IntKind.i64.wrap (7 - (bAnd .i64 r13 7)) then
          if 0 ≤ x0 ∧ x0 < (x1_.length : Int) then
            some (x1_.set (Int.toNat x0) (bOr .u64 (sShl .u64 (at' x1_ x0) 1) (IntKind.u64.wrap (bAnd .u8 (sShr .u8 (at' a2 (sShr .i64 r13 3)) (IntKind.i64.wrap (7 - (bAnd .i64 r13 7)))) 1)))) >>= fun y14 =>
            M_plane_take_plane_woven_1_l3 a0 a2 a3 y11 x0 (IntKind.i64.wrap (x0_ + 1)) y14
          else none
        else none
      else none
    else none
  else
    some x1_
  partial_fixpoint
def M_plane_take_plane_woven_1_l2 (a0 : Int) (a2 : List Int) (a3 : Int) (y11 : List Int) (x0 : Int) (x1 : List Int) : Option (List Int) :=
  if x0 < (y11.length : Int) then
    (M_plane_take_plane_woven_1_l3 a0 a2 a3 y11 x0 0 x1) >>= fun j16 =>
    M_plane_take_plane_woven_1_l2 a0 a2 a3 y11 (IntKind.i64.wrap (x0 + 1)) j16
  else
    some x1
  partial_fixpoint
def M_plane_take_plane_woven_1 (a0 : Int) (a1 : Int) (a2 : List Int) (a3 : Int) : Option ((List Int) × Int) :=
  (M_plane_Bytes a0 a1) >>= fun r1 =>
  if r1.2 ≠ 0 then
    some ([], r1.2)
  else
    if (a2.length : Int) ≠ r1.1 then
      some ([], 4)
    else
      some (IntKind.i64.wrap ((IntKind.i64.wrap (8 * r1.1)) - (IntKind.i64.wrap (a0 * a1)))) >>= fun y2 =>
      if y2 > 0 then
        if 0 ≤ IntKind.i64.wrap (r1.1 - 1) ∧ IntKind.i64.wrap (r1.1 - 1) < (a2.length : Int) then
          if 0 ≤ y2 then
            if (bAnd .u8 (at' a2 (IntKind.i64.wrap (r1.1 - 1))) (IntKind.u8.wrap ((sShl .u8 1 y2) - 1))) ≠ 0 then
              some ([], 6)
            else
              if 0 ≤ a1 ∧ a1 ≤ a1 ∧ a1 ≤ 140737488355328 ∧ a1 * ((8 : Nat) : Int) ≤ 140737488355328 then
                some (List.replicate (Int.toNat a1) 0) >>= fun y4 =>
                (M_plane_take_plane_woven_1_l0 a0 a2 a3 y4 0 y4) >>= fun j10 =>
                some (j10, 0)
              else none
          else none
        else none
      else
        if 0 ≤ a1 ∧ a1 ≤ a1 ∧ a1 ≤ 140737488355328 ∧ a1 * ((8 : Nat) : Int) ≤ 140737488355328 then
          some (List.replicate (Int.toNat a1) 0) >>= fun y11 =>
          (M_plane_take_plane_woven_1_l2 a0 a2 a3 y11 0 y11) >>= fun j17 =>
          some (j17, 0)
        else none
def M_plane_Unweave (a0 : Int) (a1 : Int) (a2 : List Int) : Option ((List Int) × Int) :=
  (M_plane_woven a1) >>= fun r1 =>
  (M_plane_take_plane_woven_1 a0 a1 a2 r1) >>= fun r2 =>
  some (r2.1, r2.2)
def M_plane_take_plane_side_1_l1 (a0 : Int) (a2 : List Int) (a3 : Int) (y4 : List Int) (x0 : Int) (x0_ : Int) (x1_ : List Int) : Option (List Int) :=
  if x0_ < a0 then
    (M_plane_side_1_c x0 x0_ a3) >>= fun r6 =>
    if 0 ≤ x0 ∧ x0 < (x1_.length : Int) then
      if 0 ≤ sShr .i64 r6 3 ∧ sShr .i64 r6 3 < (a2.length : Int) then
        if 0 ≤ IntKind.i64.wrap (7 - (bAnd .i64 r6 7)) then
          if 0 ≤ x0 ∧ x0 < (x1_.length : Int) then
            some (x1_.set (Int.toNat x0) (bOr .u64 (sShl .u64 (at' x1_ x0) 1) (IntKind.u64.wrap (bAnd .u8 (sShr .u8 (at' a2 (sShr .i64 r6 3)) (IntKind.i64.wrap (7 - (bAnd .i64 r6 7)))) 1)))) >>= fun y7 =>
            M_plane_take_plane_side_1_l1 a0 a2 a3 y4 x0 (IntKind.i64.wrap (x0_ + 1)) y7
          else none
        else none
      else none
    else none
  else
    some x1_
  partial_fixpoint
def M_plane_take_plane_side_1_l0 (a0 : Int) (a2 : List Int) (a3 : Int) (y4 : List Int) (x0 : Int) (x1 : List Int) : Option (List Int) :=
  if x0 < (y4.length : Int) then
    (M_plane_take_plane_side_1_l1 a0 a2 a3 y4 x0 0 x1) >>= fun j9 =>
    M_plane_take_plane_side_1_l0 a0 a2 a3 y4 (IntKind.i64.wrap (x0 + 1)) j9
  else
    some x1
  partial_fixpoint
def M_plane_take_plane_side_1_l3 (a0 : Int) (a2 : List Int) (a3 : Int) (y11 : List Int) (x0 : Int) (x0_ : Int) (x1_ : List Int) : Option (List Int) :=
  if x0_ < a0 then
    (M_plane_side_1_c x0 x0_ a3) >>= fun r13 =>
    if 0 ≤ x0 ∧ x0 < (x1_.length : Int) then
      if 0 ≤ sShr .i64 r13 3 ∧ sShr .i64 r13 3 < (a2.length : Int) then
        if 0 ≤ IntKind.i64.wrap (7 - (bAnd .i64 r13 7)) then
          if 0 ≤ x0 ∧ x0 < (x1_.length : Int) then
            some (x1_.set (Int.toNat x0) (bOr .u64 (sShl .u64 (at' x1_ x0) 1) (IntKind.u64.wrap (bAnd .u8 (sShr .u8 (at' a2 (sShr .i64 r13 3)) (IntKind.i64.wrap (7 - (bAnd .i64 r13 7)))) 1)))) >>= fun y14 =>
            M_plane_take_plane_side_1_l3 a0 a2 a3 y11 x0 (IntKind.i64.wrap (x0_ + 1)) y14
          else none
        else none
      else none
    else none
  else
    some x1_
  partial_fixpoint
def M_plane_take_plane_side_1_l2 (a0 : Int) (a2 : List Int) (a3 : Int) (y11 : List Int) (x0 : Int) (x1 : List Int) : Option (List Int) :=
  if x0 < (y11.length : Int) then
    (M_plane_take_plane_side_1_l3 a0 a2 a3 y11 x0 0 x1) >>= fun j16 =>
    M_plane_take_plane_side_1_l2 a0 a2 a3 y11 (IntKind.i64.wrap (x0 + 1)) j16
  else
    some x1
  partial_fixpoint
def M_plane_take_plane_side_1 (a0 : Int) (a1 : Int) (a2 : List Int) (a3 : Int) : Option ((List Int) × Int) :=
  (M_plane_Bytes a0 a1) >>= fun r1 =>
  if r1.2 ≠ 0 then
    some ([], r1.2)
  else
    if (a2.length : Int) ≠ r1.1 then
      some ([], 4)
    else
      some (IntKind.i64.wrap ((IntKind.i64.wrap (8 * r1.1)) - (IntKind.i64.wrap (a0 * a1)))) >>= fun y2 =>
      if y2 > 0 then
        if 0 ≤ IntKind.i64.wrap (r1.1 - 1) ∧ IntKind.i64.wrap (r1.1 - 1) < (a2.length : Int) then
          if 0 ≤ y2 then
            if (bAnd .u8 (at' a2 (IntKind.i64.wrap (r1.1 - 1))) (IntKind.u8.wrap ((sShl .u8 1 y2) - 1))) ≠ 0 then
              some ([], 6)
            else
              if 0 ≤ a1 ∧ a1 ≤ a1 ∧ a1 ≤ 140737488355328 ∧ a1 * ((8 : Nat) : Int) ≤ 140737488355328 then
                some (List.replicate (Int.toNat a1) 0) >>= fun y4 =>
                (M_plane_take_plane_side_1_l0 a0 a2 a3 y4 0 y4) >>= fun j10 =>
                some (j10, 0)
              else none
          else none
        else none
      else
        if 0 ≤ a1 ∧ a1 ≤ a1 ∧ a1 ≤ 140737488355328 ∧ a1 * ((8 : Nat) : Int) ≤ 140737488355328 then
          some (List.replicate (Int.toNat a1) 0) >>= fun y11 =>
          (M_plane_take_plane_side_1_l2 a0 a2 a3 y11 0 y11) >>= fun j17 =>
          some (j17, 0)
        else none
def M_plane_Unpack (a0 : Int) (a1 : Int) (a2 : List Int) : Option ((List Int) × Int) :=
  (M_plane_side a0) >>= fun r1 =>
  (M_plane_take_plane_side_1 a0 a1 a2 r1) >>= fun r2 =>
  some (r2.1, r2.2)
def M_plane_Read_l0 (r1 : (List Int) × Int) (x0 : Int) (x1 : List Bool) : Option (List Bool) :=
  if x0 < (r1.1.length : Int) then
    if 0 ≤ x0 ∧ x0 < (r1.1.length : Int) then
      if 0 ≤ x0 ∧ x0 < (x1.length : Int) then
        some (x1.set (Int.toNat x0) ((at' r1.1 x0) == 1)) >>= fun y4 =>
        M_plane_Read_l0 r1 (IntKind.i64.wrap (x0 + 1)) y4
      else none
    else none
  else
    some x1
  partial_fixpoint
def M_plane_Read (a0 : Int) (a1 : List Int) : Option ((List Bool) × Int) :=
  (M_plane_Unpack 1 a0 a1) >>= fun r1 =>
  if r1.2 ≠ 0 then
    some ([], r1.2)
  else
    if 0 ≤ (r1.1.length : Int) ∧ (r1.1.length : Int) ≤ (r1.1.length : Int) ∧ (r1.1.length : Int) ≤ 140737488355328 ∧ (r1.1.length : Int) * ((1 : Nat) : Int) ≤ 140737488355328 then
      some (List.replicate (Int.toNat (r1.1.length : Int)) false) >>= fun y2 =>
      (M_plane_Read_l0 r1 0 y2) >>= fun j6 =>
      some (j6, 0)
    else none
def M_thrum_frame_reader_signs (a0 : T_frame_reader) (a1 : Int) : Option ((List Bool) × (List Int) × Int × Bool) :=
  (M_thrum_frame_reader_part a0 (IntKind.i64.wrap (Int.tdiv (IntKind.i64.wrap (a1 + 7)) 8))) >>= fun r1 =>
  (M_plane_Read a1 r1.1) >>= fun r2 =>
  (M_thrum_frame_reader_must (⟨(⟨r1.2.1, r1.2.2.1⟩ : T_frame_text), r1.2.2.2⟩ : T_frame_reader) (r2.2 == 0)) >>= fun r3 =>
  some (r2.1, r3.1, r3.2.1, r3.2.2)
def M_thrum_frame_reader_sent (a0 : T_frame_reader) : Option (Int × Int × (List Int) × (List Int) × Int × Int × (List Int) × (List Bool) × (List Int) × Int × Bool) :=
  (M_thrum_frame_reader_small a0) >>= fun r1 =>
  (M_thrum_frame_reader_number (⟨(⟨r1.2.1, r1.2.2.1⟩ : T_frame_text), r1.2.2.2⟩ : T_frame_reader) 4096) >>= fun r2 =>
  (M_thrum_frame_reader_must (⟨(⟨r2.2.1, r2.2.2.1⟩ : T_frame_text), r2.2.2.2⟩ : T_frame_reader) (decide ((IntKind.i64.wrap r2.1) > 0))) >>= fun r3 =>
  if r3.2.2 = true then
    some (r1.1, IntKind.i64.wrap r2.1, [], [], 0, 0, [], [], r3.1, r3.2.1, r3.2.2)
  else
    if r1.1 = 0 then
      (M_thrum_frame_reader_signed (⟨(⟨r3.1, r3.2.1⟩ : T_frame_text), r3.2.2⟩ : T_frame_reader) (IntKind.i64.wrap r2.1)) >>= fun r4 =>
      some (r1.1, IntKind.i64.wrap r2.1, [], r4.1, 0, 0, [], [], r4.2.1, r4.2.2.1, r4.2.2.2)
    else
      if r1.1 = 1 then
        (M_thrum_frame_reader_places (⟨(⟨r3.1, r3.2.1⟩ : T_frame_text), r3.2.2⟩ : T_frame_reader) (IntKind.i64.wrap r2.1)) >>= fun r5 =>
        (M_thrum_frame_reader_signed (⟨(⟨r5.2.1, r5.2.2.1⟩ : T_frame_text), r5.2.2.2⟩ : T_frame_reader) (r5.1.length : Int)) >>= fun r6 =>
        some (r1.1, IntKind.i64.wrap r2.1, r5.1, r6.1, 0, 0, [], [], r6.2.1, r6.2.2.1, r6.2.2.2)
      else
        if r1.1 = 2 then
          (M_thrum_frame_reader_number (⟨(⟨r3.1, r3.2.1⟩ : T_frame_text), r3.2.2⟩ : T_frame_reader) 9223372036854775807) >>= fun r7 =>
          (M_thrum_frame_reader_small (⟨(⟨r7.2.1, r7.2.2.1⟩ : T_frame_text), r7.2.2.2⟩ : T_frame_reader)) >>= fun r8 =>
          ((
            if r8.1 > 0 then
              some (decide (r8.1 ≤ 8))
            else
              some false) : Option Bool) >>= fun j9 =>
          (M_thrum_frame_reader_must (⟨(⟨r8.2.1, r8.2.2.1⟩ : T_frame_text), r8.2.2.2⟩ : T_frame_reader) j9) >>= fun r10 =>
          if r10.2.2 = true then
            some (r1.1, IntKind.i64.wrap r2.1, [], [], IntKind.i64.wrap r7.1, r8.1, [], [], r10.1, r10.2.1, r10.2.2)
          else
            (M_plane_Bytes r8.1 (IntKind.i64.wrap r2.1)) >>= fun r11 =>
            (M_thrum_frame_reader_must (⟨(⟨r10.1, r10.2.1⟩ : T_frame_text), r10.2.2⟩ : T_frame_reader) (r11.2 == 0)) >>= fun r12 =>
            (M_thrum_frame_reader_part (⟨(⟨r12.1, r12.2.1⟩ : T_frame_text), r12.2.2⟩ : T_frame_reader) r11.1) >>= fun r13 =>
            (M_plane_Unweave r8.1 (IntKind.i64.wrap r2.1) r13.1) >>= fun r14 =>
            (M_thrum_frame_reader_must (⟨(⟨r13.2.1, r13.2.2.1⟩ : T_frame_text), r13.2.2.2⟩ : T_frame_reader) (r14.2 == 0)) >>= fun r15 =>
            (M_thrum_frame_reader_signs (⟨(⟨r15.1, r15.2.1⟩ : T_frame_text), r15.2.2⟩ : T_frame_reader) (IntKind.i64.wrap r2.1)) >>= fun r16 =>
            some (r1.1, IntKind.i64.wrap r2.1, [], [], IntKind.i64.wrap r7.1, r8.1, r14.1, r16.1, r16.2.1, r16.2.2.1, r16.2.2.2)
        else
          if r1.1 = 3 then
            (M_thrum_frame_reader_number (⟨(⟨r3.1, r3.2.1⟩ : T_frame_text), r3.2.2⟩ : T_frame_reader) 9223372036854775807) >>= fun r17 =>
            (M_thrum_frame_reader_signs (⟨(⟨r17.2.1, r17.2.2.1⟩ : T_frame_text), r17.2.2.2⟩ : T_frame_reader) (IntKind.i64.wrap r2.1)) >>= fun r18 =>
            some (r1.1, IntKind.i64.wrap r2.1, [], [], IntKind.i64.wrap r17.1, 0, [], r18.1, r18.2.1, r18.2.2.1, r18.2.2.2)
          else
            some (r1.1, IntKind.i64.wrap r2.1, [], [], 0, 0, [], [], r3.1, r3.2.1, true)
def M_frame_Read (a0 : List Int) : Option (Int × Int × Int × Int × Int × (List Int) × (List Int) × Int × Int × (List Int) × (List Bool) × Int) :=
  (M_crc_Open a0) >>= fun r1 =>
  if r1.2 ≠ 0 then
    some (0, 0, 0, 0, 0, [], [], 0, 0, [], [], r1.2)
  else
    (M_thrum_frame_reader_small (⟨(⟨r1.1, 0⟩ : T_frame_text), false⟩ : T_frame_reader)) >>= fun r2 =>
    (M_thrum_frame_reader_must (⟨(⟨r2.2.1, r2.2.2.1⟩ : T_frame_text), r2.2.2.2⟩ : T_frame_reader) (r2.1 == 1)) >>= fun r3 =>
    (M_thrum_frame_reader_small (⟨(⟨r3.1, r3.2.1⟩ : T_frame_text), r3.2.2⟩ : T_frame_reader)) >>= fun r4 =>
    (M_thrum_frame_reader_number (⟨(⟨r4.2.1, r4.2.2.1⟩ : T_frame_text), r4.2.2.2⟩ : T_frame_reader) 63) >>= fun r5 =>
    (M_thrum_frame_reader_number (⟨(⟨r5.2.1, r5.2.2.1⟩ : T_frame_text), r5.2.2.2⟩ : T_frame_reader) 1073741824) >>= fun r6 =>
    ((
      if r4.1 = 1 then
        some (!r6.2.2.2)
      else
        some false) : Option Bool) >>= fun j7 =>
    ((
      if j7 = true then
        (M_thrum_frame_reader_sent (⟨(⟨r6.2.1, r6.2.2.1⟩ : T_frame_text), r6.2.2.2⟩ : T_frame_reader)) >>= fun r8 =>
        some (r8.1, r8.2.1, r8.2.2.1, r8.2.2.2.1, r8.2.2.2.2.1, r8.2.2.2.2.2.1, r8.2.2.2.2.2.2.1, r8.2.2.2.2.2.2.2.1, r8.2.2.2.2.2.2.2.2.1, r8.2.2.2.2.2.2.2.2.2.1, r8.2.2.2.2.2.2.2.2.2.2)
      else
        some (0, 0, [], [], 0, 0, [], [], r6.2.1, r6.2.2.1, r6.2.2.2)) : Option (Int × Int × (List Int) × (List Int) × Int × Int × (List Int) × (List Bool) × (List Int) × Int × Bool)) >>= fun j9 =>
    if j9.2.2.2.2.2.2.2.2.2.2 = true then
      some (0, 0, 0, 0, 0, [], [], 0, 0, [], [], 6)
    else
      if j9.2.2.2.2.2.2.2.2.2.1 < (j9.2.2.2.2.2.2.2.2.1.length : Int) then
        some (0, 0, 0, 0, 0, [], [], 0, 0, [], [], 6)
      else
        (M_frame_Check (⟨r4.1, IntKind.i64.wrap r5.1, IntKind.i64.wrap r6.1, (⟨j9.1, j9.2.1, j9.2.2.1, j9.2.2.2.1, j9.2.2.2.2.1, j9.2.2.2.2.2.1, j9.2.2.2.2.2.2.1, j9.2.2.2.2.2.2.2.1⟩ : T_api_Sent)⟩ : T_api_Frame)) >>= fun r10 =>
        if r10 ≠ 0 then
          some (0, 0, 0, 0, 0, [], [], 0, 0, [], [], 6)
        else
          some (r4.1, IntKind.i64.wrap r5.1, IntKind.i64.wrap r6.1, j9.1, j9.2.1, j9.2.2.1, j9.2.2.2.1, j9.2.2.2.2.1, j9.2.2.2.2.2.1, j9.2.2.2.2.2.2.1, j9.2.2.2.2.2.2.2.1, 0)
def M_topk_size (a0 : Int) : Option Int :=
  if a0 < 0 then
    some (IntKind.u64.wrap (0 - (IntKind.u64.wrap a0)))
  else
    some (IntKind.u64.wrap a0)
def M_topk_ones_l0 (a0 : List Int) (x0 : Int) (x1 : List T_topk_one) : Option (List T_topk_one) :=
  if x0 < (a0.length : Int) then
    if 0 ≤ x0 ∧ x0 < (a0.length : Int) then
      (M_topk_size (at' a0 x0)) >>= fun r3 =>
      if 0 ≤ x0 ∧ x0 < (x1.length : Int) then
        some (x1.set (Int.toNat x0) (⟨x0, r3⟩ : T_topk_one)) >>= fun y4 =>
        M_topk_ones_l0 a0 (IntKind.i64.wrap (x0 + 1)) y4
      else none
    else none
  else
    some x1
  partial_fixpoint
def M_topk_ones (a0 : List Int) : Option (List T_topk_one) :=
  if 0 ≤ (a0.length : Int) ∧ (a0.length : Int) ≤ (a0.length : Int) ∧ (a0.length : Int) ≤ 140737488355328 ∧ (a0.length : Int) * ((16 : Nat) : Int) ≤ 140737488355328 then
    some (List.replicate (Int.toNat (a0.length : Int)) (⟨0, 0⟩ : T_topk_one)) >>= fun y1 =>
    (M_topk_ones_l0 a0 0 y1) >>= fun j6 =>
    some j6
  else none
def M_thrum_topk_best_Push_c (a0 : List T_topk_one) (a1 : Int) (a2 : Int) : Option (List T_topk_one) :=
  if room 16 (a0 ++ [(⟨a1, a2⟩ : T_topk_one)]).length then
    some (a0 ++ [(⟨a1, a2⟩ : T_topk_one)])
  else none
def M_thrum_topk_best_Len (a0 : List T_topk_one) : Option Int :=
  some (a0.length : Int)
def M_cmp_isNaN_uint64 (a0 : Int) : Option Bool :=
  some (a0 != a0)
def M_cmp_Compare_uint64 (a0 : Int) (a1 : Int) : Option Int :=
  (M_cmp_isNaN_uint64 a0) >>= fun r1 =>
  (M_cmp_isNaN_uint64 a1) >>= fun r2 =>
  if r1 = true then
    if r2 = true then
      some 0
    else
      some (-1)
  else
    if r2 = true then
      some 1
    else
      if a0 < a1 then
        some (-1)
      else
        if a0 > a1 then
          some 1
        else
          some 0
def M_cmp_isNaN_int (a0 : Int) : Option Bool :=
  some (a0 != a0)
def M_cmp_Compare_int (a0 : Int) (a1 : Int) : Option Int :=
  (M_cmp_isNaN_int a0) >>= fun r1 =>
  (M_cmp_isNaN_int a1) >>= fun r2 =>
  if r1 = true then
    if r2 = true then
      some 0
    else
      some (-1)
  else
    if r2 = true then
      some 1
    else
      if a0 < a1 then
        some (-1)
      else
        if a0 > a1 then
          some 1
        else
          some 0
def M_cmp_Or_int_l0 (a0 : List Int) (x0 : Int) : Option (Sum Int Unit) :=
  if x0 < (a0.length : Int) then
    if 0 ≤ x0 ∧ x0 < (a0.length : Int) then
      if (at' a0 x0) ≠ 0 then
        some (.inl (at' a0 x0))
      else
        M_cmp_Or_int_l0 a0 (IntKind.i64.wrap (x0 + 1))
    else none
  else
    some (.inr ())
  partial_fixpoint
def M_cmp_Or_int (a0 : List Int) : Option Int :=
  (M_cmp_Or_int_l0 a0 0) >>= fun e => match e with
  | .inl r => some r
  | .inr j1 =>
    some 0
def M_thrum_topk_one_compare (a0 : T_topk_one) (a1 : T_topk_one) : Option Int :=
  (M_cmp_Compare_uint64 a1.F_size a0.F_size) >>= fun r1 =>
  (M_cmp_Compare_int a0.F_place a1.F_place) >>= fun r2 =>
  (M_cmp_Or_int [r1, r2]) >>= fun r3 =>
  some r3
def M_thrum_topk_best_Less (a0 : List T_topk_one) (a1 : Int) (a2 : Int) : Option Bool :=
  if 0 ≤ a1 ∧ a1 < (a0.length : Int) then
    if 0 ≤ a2 ∧ a2 < (a0.length : Int) then
      (M_thrum_topk_one_compare (at' a0 a1) (at' a0 a2)) >>= fun r1 =>
      some (decide (r1 > 0))
    else none
  else none
def M_thrum_topk_best_Swap_g (a0 : List T_topk_one) (a1 : Int) (a2 : Int) : Option (List T_topk_one) :=
  if 0 ≤ a2 ∧ a2 < (a0.length : Int) then
    if 0 ≤ a1 ∧ a1 < (a0.length : Int) then
      if 0 ≤ a1 ∧ a1 < (a0.length : Int) then
        if 0 ≤ a2 ∧ a2 < ((a0.set (Int.toNat a1) (at' a0 a2)).length : Int) then
          some ((a0.set (Int.toNat a1) (at' a0 a2)).set (Int.toNat a2) (at' a0 a1))
        else none
      else none
    else none
  else none
def M_container_heap_up_c_l0 (x0 : Int) (x1 : List T_topk_one) : Option (List T_topk_one) :=
  ((
    if (IntKind.i64.wrap (Int.tdiv (IntKind.i64.wrap (x0 - 1)) 2)) = x0 then
      some true
    else
      (M_thrum_topk_best_Less x1 x0 (IntKind.i64.wrap (Int.tdiv (IntKind.i64.wrap (x0 - 1)) 2))) >>= fun r1 =>
      some (!r1)) : Option Bool) >>= fun j2 =>
  if j2 = true then
    some x1
  else
    (M_thrum_topk_best_Swap_g x1 (IntKind.i64.wrap (Int.tdiv (IntKind.i64.wrap (x0 - 1)) 2)) x0) >>= fun r3 =>
    M_container_heap_up_c_l0 (IntKind.i64.wrap (Int.tdiv (IntKind.i64.wrap (x0 - 1)) 2)) r3
  partial_fixpoint
def M_container_heap_up_c (a0 : List T_topk_one) (a1 : Int) : Option (List T_topk_one) :=
  (M_container_heap_up_c_l0 a1 a0) >>= fun j4 =>
  some j4
def M_container_heap_Push_c_c (a0 : List T_topk_one) (a1 : Int) (a2 : Int) : Option (List T_topk_one) :=
  (M_thrum_topk_best_Push_c a0 a1 a2) >>= fun r1 =>
  (M_thrum_topk_best_Len r1) >>= fun r2 =>
  (M_container_heap_up_c r1 (IntKind.i64.wrap (r2 - 1))) >>= fun r3 =>
  some r3
def M_container_heap_down_c_l0 (a1 : Int) (a2 : Int) (x0 : Int) (x1 : List T_topk_one) : Option (Int × (List T_topk_one)) :=
  ((
    if (IntKind.i64.wrap ((IntKind.i64.wrap (2 * x0)) + 1)) ≥ a2 then
      some true
    else
      some (decide ((IntKind.i64.wrap ((IntKind.i64.wrap (2 * x0)) + 1)) < 0))) : Option Bool) >>= fun j1 =>
  if j1 = true then
    some (x0, x1)
  else
    some (IntKind.i64.wrap ((IntKind.i64.wrap ((IntKind.i64.wrap (2 * x0)) + 1)) + 1)) >>= fun y2 =>
    ((
      if y2 < a2 then
        (M_thrum_topk_best_Less x1 y2 (IntKind.i64.wrap ((IntKind.i64.wrap (2 * x0)) + 1))) >>= fun r4 =>
        some r4
      else
        some false) : Option Bool) >>= fun j5 =>
    if j5 = true then
      (M_thrum_topk_best_Less x1 y2 x0) >>= fun r6 =>
      if r6 = false then
        some (x0, x1)
      else
        (M_thrum_topk_best_Swap_g x1 x0 y2) >>= fun r7 =>
        M_container_heap_down_c_l0 a1 a2 y2 r7
    else
      (M_thrum_topk_best_Less x1 (IntKind.i64.wrap ((IntKind.i64.wrap (2 * x0)) + 1)) x0) >>= fun r8 =>
      if r8 = false then
        some (x0, x1)
      else
        (M_thrum_topk_best_Swap_g x1 x0 (IntKind.i64.wrap ((IntKind.i64.wrap (2 * x0)) + 1))) >>= fun r9 =>
        M_container_heap_down_c_l0 a1 a2 (IntKind.i64.wrap ((IntKind.i64.wrap (2 * x0)) + 1)) r9
  partial_fixpoint
def M_container_heap_down_c (a0 : List T_topk_one) (a1 : Int) (a2 : Int) : Option (Bool × (List T_topk_one)) :=
  (M_container_heap_down_c_l0 a1 a2 a1 a0) >>= fun j10 =>
  some (decide (j10.1 > a1), j10.2)
def M_thrum_topk_best_Pop (a0 : List T_topk_one) : Option (Int × Int × (List T_topk_one)) :=
  if cutOk none (some (IntKind.i64.wrap ((a0.length : Int) - 1))) a0.length then
    some (cut' a0 none (some (IntKind.i64.wrap ((a0.length : Int) - 1)))) >>= fun y1 =>
    if 0 ≤ IntKind.i64.wrap ((a0.length : Int) - 1) ∧ IntKind.i64.wrap ((a0.length : Int) - 1) < (a0.length : Int) then
      some ((at' a0 (IntKind.i64.wrap ((a0.length : Int) - 1))).F_place, (at' a0 (IntKind.i64.wrap ((a0.length : Int) - 1))).F_size, y1)
    else none
  else none
def M_container_heap_Pop_c (a0 : List T_topk_one) : Option (Int × Int × (List T_topk_one)) :=
  (M_thrum_topk_best_Len a0) >>= fun r1 =>
  (M_thrum_topk_best_Swap_g a0 0 (IntKind.i64.wrap (r1 - 1))) >>= fun r2 =>
  (M_container_heap_down_c r2 0 (IntKind.i64.wrap (r1 - 1))) >>= fun r3 =>
  (M_thrum_topk_best_Pop r3.2) >>= fun r4 =>
  some (r4.1, r4.2.1, r4.2.2)
def M_topk_places_l0 (a0 : List T_topk_one) (x0 : Int) (x1 : List Int) : Option (List Int) :=
  if x0 < (a0.length : Int) then
    if 0 ≤ x0 ∧ x0 < (a0.length : Int) then
      if room 8 (x1 ++ [(at' a0 x0).F_place]).length then
        some (x1 ++ [(at' a0 x0).F_place]) >>= fun y3 =>
        M_topk_places_l0 a0 (IntKind.i64.wrap (x0 + 1)) y3
      else none
    else none
  else
    some x1
  partial_fixpoint
def M_topk_places (a0 : List T_topk_one) : Option (List Int) :=
  if 0 ≤ (0 : Int) ∧ (0 : Int) ≤ (a0.length : Int) ∧ (a0.length : Int) ≤ 140737488355328 ∧ (a0.length : Int) * ((8 : Nat) : Int) ≤ 140737488355328 then
    some (List.replicate (Int.toNat 0) 0) >>= fun y1 =>
    (M_topk_places_l0 a0 0 y1) >>= fun j5 =>
    some j5
  else none
def M_topk_Pick_l0 (a0 : Int) (r2 : (List T_topk_one)) (x0 : Int) (x1 : List T_topk_one) : Option (List T_topk_one) :=
  if x0 < (r2.length : Int) then
    if 0 ≤ x0 ∧ x0 < (r2.length : Int) then
      (M_container_heap_Push_c_c x1 ((at' r2 x0).F_place) ((at' r2 x0).F_size)) >>= fun r3 =>
      (M_thrum_topk_best_Len r3) >>= fun r4 =>
      if r4 > a0 then
        (M_container_heap_Pop_c r3) >>= fun r5 =>
        M_topk_Pick_l0 a0 r2 (IntKind.i64.wrap (x0 + 1)) r5.2.2
      else
        M_topk_Pick_l0 a0 r2 (IntKind.i64.wrap (x0 + 1)) r3
    else none
  else
    some x1
  partial_fixpoint
def M_topk_Pick (a0 : Int) (a1 : List Int) : Option ((List Int) × Int) :=
  if (a1.length : Int) > 4096 then
    some ([], 3)
  else
    ((
      if a0 < 0 then
        some true
      else
        some (decide (a0 > (a1.length : Int)))) : Option Bool) >>= fun j1 =>
    if j1 = true then
      some ([], 1)
    else
      (M_topk_ones a1) >>= fun r2 =>
      (M_topk_Pick_l0 a0 r2 0 []) >>= fun j6 =>
      (M_topk_places j6) >>= fun r7 =>
      (M_slices_Sort_int r7) >>= fun r8 =>
      some (r8, 0)
def M_topk_Least_l0 (a0 : List Int) (a1 : List Int) (x0 : Int) (x1 : Bool) (x2 : Int) : Option (Bool × Int) :=
  if x0 < (a0.length : Int) then
    if 0 ≤ x0 ∧ x0 < (a0.length : Int) then
      ((
        if (at' a0 x0) < 0 then
          some true
        else
          some (decide ((at' a0 x0) ≥ (a1.length : Int)))) : Option Bool) >>= fun j1 =>
      if j1 = true then
        M_topk_Least_l0 a0 a1 (IntKind.i64.wrap (x0 + 1)) x1 x2
      else
        if 0 ≤ at' a0 x0 ∧ at' a0 x0 < (a1.length : Int) then
          (M_topk_size (at' a1 (at' a0 x0))) >>= fun r2 =>
          ((
            if x1 = false then
              some true
            else
              some (decide (r2 < x2))) : Option Bool) >>= fun j3 =>
          if j3 = true then
            M_topk_Least_l0 a0 a1 (IntKind.i64.wrap (x0 + 1)) true r2
          else
            M_topk_Least_l0 a0 a1 (IntKind.i64.wrap (x0 + 1)) x1 x2
        else none
    else none
  else
    some (x1, x2)
  partial_fixpoint
def M_topk_Least (a0 : List Int) (a1 : List Int) : Option (Int × Bool) :=
  (M_topk_Least_l0 a0 a1 0 false 0) >>= fun j4 =>
  some (j4.2, j4.1)
def M_thrumlaw09_live : Option Bool :=
  (M_topk_Pick 2 [3, -5, 5, 1]) >>= fun r1 =>
  (M_topk_Least r1.1 [3, -5, 5, 1]) >>= fun r2 =>
  ((
    if r1.2 = 0 then
      (M_thrumref06_Equal r1.1 [1, 2]) >>= fun r3 =>
      some r3
    else
      some false) : Option Bool) >>= fun j4 =>
  ((
    if j4 = true then
      some (r2.1 == 5)
    else
      some false) : Option Bool) >>= fun j5 =>
  ((
    if j5 = true then
      some r2.2
    else
      some false) : Option Bool) >>= fun j6 =>
  some j6
def M_thrumlaw09_few (a0 : List Int) : Option Bool :=
  if (a0.length : Int) ≤ 200 then
    some true
  else
    if (a0.length : Int) > 4096 then
      some (decide ((a0.length : Int) ≤ 5000))
    else
      some false
def M_index_Gather_1_c (a0 : Int) (a1 : List Int) : Option Bool :=
  ((
    if a0 < 0 then
      some true
    else
      some (decide (a0 ≥ (a1.length : Int)))) : Option Bool) >>= fun j1 =>
  some j1
def M_slices_IndexFunc_int_int_index_Gather_1_l0 (a0 : List Int) (a1 : List Int) (x0 : Int) : Option (Sum Int Unit) :=
  if x0 < (a0.length : Int) then
    if 0 ≤ x0 ∧ x0 < (a0.length : Int) then
      (M_index_Gather_1_c (at' a0 x0) a1) >>= fun r1 =>
      if r1 = true then
        some (.inl x0)
      else
        M_slices_IndexFunc_int_int_index_Gather_1_l0 a0 a1 (IntKind.i64.wrap (x0 + 1))
    else none
  else
    some (.inr ())
  partial_fixpoint
def M_slices_IndexFunc_int_int_index_Gather_1 (a0 : List Int) (a1 : List Int) : Option Int :=
  (M_slices_IndexFunc_int_int_index_Gather_1_l0 a0 a1 0) >>= fun e => match e with
  | .inl r => some r
  | .inr j2 =>
    some (-1)
def M_slices_ContainsFunc_int_int_index_Gather_1 (a0 : List Int) (a1 : List Int) : Option Bool :=
  (M_slices_IndexFunc_int_int_index_Gather_1 a0 a1) >>= fun r1 =>
  some (decide (r1 ≥ 0))
def M_index_Gather_l0 (a0 : List Int) (a1 : List Int) (x0 : Int) (x1 : List Int) : Option (List Int) :=
  if x0 < (a0.length : Int) then
    if 0 ≤ x0 ∧ x0 < (a0.length : Int) then
      if 0 ≤ at' a0 x0 ∧ at' a0 x0 < (a1.length : Int) then
        if room 8 (x1 ++ [at' a1 (at' a0 x0)]).length then
          some (x1 ++ [at' a1 (at' a0 x0)]) >>= fun y6 =>
          M_index_Gather_l0 a0 a1 (IntKind.i64.wrap (x0 + 1)) y6
        else none
      else none
    else none
  else
    some x1
  partial_fixpoint
def M_index_Gather (a0 : List Int) (a1 : List Int) : Option ((List Int) × Int) :=
  (M_index_rises a0) >>= fun r1 =>
  ((
    if r1 = false then
      some true
    else
      (M_slices_ContainsFunc_int_int_index_Gather_1 a0 a1) >>= fun r2 =>
      some r2) : Option Bool) >>= fun j3 =>
  if j3 = true then
    some ([], 1)
  else
    if 0 ≤ (0 : Int) ∧ (0 : Int) ≤ (a0.length : Int) ∧ (a0.length : Int) ≤ 140737488355328 ∧ (a0.length : Int) * ((8 : Nat) : Int) ≤ 140737488355328 then
      some (List.replicate (Int.toNat 0) 0) >>= fun y4 =>
      (M_index_Gather_l0 a0 a1 0 y4) >>= fun j8 =>
      some (j8, 0)
    else none
def M_topk_Press (a0 : Int) (a1 : List Int) : Option (Int × Int × (List Int) × (List Int) × Int × Int × Int) :=
  if (a1.length : Int) = 0 then
    some (0, 0, [], [], 0, 0, 1)
  else
    (M_topk_Pick a0 a1) >>= fun r1 =>
    if r1.2 ≠ 0 then
      some (0, 0, [], [], 0, 0, r1.2)
    else
      (M_index_Gather r1.1 a1) >>= fun r2 =>
      if r2.2 ≠ 0 then
        some (0, 0, [], [], 0, 0, r2.2)
      else
        some (1, (a1.length : Int), r1.1, r2.1, 0, 0, 0)
def M_thrumlaw09_TopkFrames_l0 (r1 : Bool) (r3 : Int × Int × (List Int) × (List Int) × Int × Int × Int) (r7 : (List Int) × Int) (x0 : Int) : Option (Sum Bool Unit) :=
  if x0 < (r7.1.length : Int) then
    if 0 ≤ x0 ∧ x0 < (r7.1.length : Int) then
      if 0 ≤ x0 ∧ x0 < (r3.2.2.2.1.length : Int) then
        if (at' r7.1 x0) ≠ (at' r3.2.2.2.1 x0) then
          some (.inl false)
        else
          M_thrumlaw09_TopkFrames_l0 r1 r3 r7 (IntKind.i64.wrap (x0 + 1))
      else none
    else none
  else
    some (.inr ())
  partial_fixpoint
def M_thrumlaw09_TopkFrames (a0 : Int) (a1 : List Int) : Option Bool :=
  (M_thrumlaw09_live) >>= fun r1 =>
  if r1 = false then
    some false
  else
    (M_thrumlaw09_few a1) >>= fun r2 =>
    if r2 = false then
      some r1
    else
      (M_topk_Press a0 a1) >>= fun r3 =>
      if r3.2.2.2.2.2.2 ≠ 0 then
        ((
          if r1 = true then
            some (r3.2.1 == 0)
          else
            some false) : Option Bool) >>= fun j4 =>
        some j4
      else
        (M_frame_Write (⟨1, 0, 0, (⟨r3.1, r3.2.1, r3.2.2.1, r3.2.2.2.1, r3.2.2.2.2.1, r3.2.2.2.2.2.1, [], []⟩ : T_api_Sent)⟩ : T_api_Frame)) >>= fun r5 =>
        (M_frame_Read r5.1) >>= fun r6 =>
        (M_index_Gather r3.2.2.1 a1) >>= fun r7 =>
        ((
          if r5.2 ≠ 0 then
            some true
          else
            some (r6.2.2.2.2.2.2.2.2.2.2.2 != 0)) : Option Bool) >>= fun j8 =>
        ((
          if j8 = true then
            some true
          else
            some (r7.2 != 0)) : Option Bool) >>= fun j9 =>
        ((
          if j9 = true then
            some true
          else
            (M_frame_May (⟨r3.1, r3.2.1, r3.2.2.1, r3.2.2.2.1, r3.2.2.2.2.1, r3.2.2.2.2.2.1, [], []⟩ : T_api_Sent)) >>= fun r10 =>
            some (!r10)) : Option Bool) >>= fun j11 =>
        ((
          if j11 = true then
            some true
          else
            (M_thrumref07_SameSent (⟨r6.2.2.2.1, r6.2.2.2.2.1, r6.2.2.2.2.2.1, r6.2.2.2.2.2.2.1, r6.2.2.2.2.2.2.2.1, r6.2.2.2.2.2.2.2.2.1, r6.2.2.2.2.2.2.2.2.2.1, r6.2.2.2.2.2.2.2.2.2.2.1⟩ : T_api_Sent) (⟨r3.1, r3.2.1, r3.2.2.1, r3.2.2.2.1, r3.2.2.2.2.1, r3.2.2.2.2.2.1, [], []⟩ : T_api_Sent)) >>= fun r12 =>
            some (!r12)) : Option Bool) >>= fun j13 =>
        ((
          if j13 = true then
            some true
          else
            some (r3.2.1 != (a1.length : Int))) : Option Bool) >>= fun j14 =>
        ((
          if j14 = true then
            some true
          else
            some ((r7.1.length : Int) != (r3.2.2.2.1.length : Int))) : Option Bool) >>= fun j15 =>
        if j15 = true then
          some false
        else
          (M_thrumlaw09_TopkFrames_l0 r1 r3 r7 0) >>= fun e => match e with
          | .inl r => some r
          | .inr j16 =>
            some r1
end Go.Proofs.YtelobmiooldoaaaGreat.Abs
