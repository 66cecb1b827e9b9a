/- Models of functions, printed by a program. Conditions: none. -/
import Derived.Test.YtnmlihfpenjeiaaGreatAbs5
namespace Go.Proofs.YtnmlihfpenjeiaaGreat.Abs
open Go Go.RowKit
set_option linter.unusedVariables false
set_option maxRecDepth 100000

structure T_api_Model where
  F_Kind : Int
  F_In : Int
  F_Out : Int
  F_Hid : Int
  F_Frac : Int
  deriving Inhabited, DecidableEq
structure T_api_How where
  F_Scheme : Int
  F_K : Int
  F_Wide : Int
  deriving Inhabited, DecidableEq
structure T_api_Sample where
  F_X : List Int
  F_Y : Int
  deriving Inhabited, DecidableEq
structure T_api_Conf where
  F_N : Int
  F_M : T_api_Model
  F_H : T_api_How
  F_Warm : Int
  F_Rate : Int
  F_Mom : Int
  F_Clip : Int
  F_Batch : Int
  F_Seed : Int
  F_L : List T_api_Sample
  deriving Inhabited, DecidableEq
structure T_model_straight where
  F_Model : T_api_Model
  deriving Inhabited, DecidableEq
structure T_model_classes where
  F_Model : T_api_Model
  deriving Inhabited, DecidableEq
structure T_model_layers where
  F_Model : T_api_Model
  deriving Inhabited, DecidableEq
def T_api_Model.en (x : T_api_Model) : D := .agg [.int .i64 x.F_Kind, .int .i64 x.F_In, .int .i64 x.F_Out, .int .i64 x.F_Hid, .int .i64 x.F_Frac]
def T_api_How.en (x : T_api_How) : D := .agg [.int .i64 x.F_Scheme, .int .i64 x.F_K, .int .i64 x.F_Wide]
def T_api_Sample.en (x : T_api_Sample) : D := .agg [.lst (List.map (D.int .i64) x.F_X), .int .i64 x.F_Y]
def T_api_Conf.en (x : T_api_Conf) : D := .agg [.int .i64 x.F_N, .int .i64 x.F_M.F_Kind, .int .i64 x.F_M.F_In, .int .i64 x.F_M.F_Out, .int .i64 x.F_M.F_Hid, .int .i64 x.F_M.F_Frac, .int .i64 x.F_H.F_Scheme, .int .i64 x.F_H.F_K, .int .i64 x.F_H.F_Wide, .int .i64 x.F_Warm, .int .i64 x.F_Rate, .int .i64 x.F_Mom, .int .i64 x.F_Clip, .int .i64 x.F_Batch, .int .u64 x.F_Seed, .lst (List.map T_api_Sample.en x.F_L)]
def T_model_straight.en (x : T_model_straight) : D := .agg [.int .i64 x.F_Model.F_Kind, .int .i64 x.F_Model.F_In, .int .i64 x.F_Model.F_Out, .int .i64 x.F_Model.F_Hid, .int .i64 x.F_Model.F_Frac]
def T_model_classes.en (x : T_model_classes) : D := .agg [.int .i64 x.F_Model.F_Kind, .int .i64 x.F_Model.F_In, .int .i64 x.F_Model.F_Out, .int .i64 x.F_Model.F_Hid, .int .i64 x.F_Model.F_Frac]
def T_model_layers.en (x : T_model_layers) : D := .agg [.int .i64 x.F_Model.F_Kind, .int .i64 x.F_Model.F_In, .int .i64 x.F_Model.F_Out, .int .i64 x.F_Model.F_Hid, .int .i64 x.F_Model.F_Frac]
def M_conf_within_int (a0 : Int) (a1 : Int) (a2 : Int) : Option Bool :=
  ((
    if a0 ≥ a1 then
      some (decide (a0 ≤ a2))
    else
      some false) : Option Bool) >>= fun j1 =>
  some j1
def M_conf_Keep (a0 : Int) (a1 : Int) (a2 : Int) (a3 : Int) : Option (Int × Int) :=
  (M_conf_within_int a0 1 4096) >>= fun r1 =>
  ((
    if r1 = false then
      some true
    else
      (M_conf_within_int a1 0 a0) >>= fun r2 =>
      some (!r2)) : Option Bool) >>= fun j3 =>
  ((
    if j3 = true then
      some true
    else
      (M_conf_within_int a2 0 1048576) >>= fun r4 =>
      some (!r4)) : Option Bool) >>= fun j5 =>
  ((
    if j5 = true then
      some true
    else
      (M_conf_within_int a3 0 1073741824) >>= fun r6 =>
      some (!r6)) : Option Bool) >>= fun j7 =>
  if j7 = true then
    some (0, 1)
  else
    if a3 ≥ a2 then
      some (a1, 0)
    else
      if a2 ≠ 0 then
        some (IntKind.i64.wrap (a0 - (IntKind.i64.wrap (Int.tdiv (IntKind.i64.wrap ((IntKind.i64.wrap (a0 - a1)) * a3)) a2))), 0)
      else none
def M_linear_Dim (a0 : Int) : Option (Int × Int) :=
  ((
    if a0 < 1 then
      some true
    else
      some (decide (a0 > 16))) : Option Bool) >>= fun j1 =>
  if j1 = true then
    some (0, 1)
  else
    some (IntKind.i64.wrap (a0 + 1), 0)
def M_thrum_model_straight_dim (a0 : T_model_straight) : Option (Int × Int) :=
  (M_linear_Dim a0.F_Model.F_In) >>= fun r1 =>
  some (r1.1, r1.2)
def M_soft_classes (a0 : Int) : Option Bool :=
  ((
    if a0 > 1 then
      some (decide (a0 ≤ 8))
    else
      some false) : Option Bool) >>= fun j1 =>
  some j1
def M_soft_Dim (a0 : Int) (a1 : Int) : Option (Int × Int) :=
  (M_linear_Dim a0) >>= fun r1 =>
  ((
    if r1.2 ≠ 0 then
      some true
    else
      (M_soft_classes a1) >>= fun r2 =>
      some (!r2)) : Option Bool) >>= fun j3 =>
  if j3 = true then
    some (0, 1)
  else
    some (IntKind.i64.wrap (r1.1 * a1), 0)
def M_thrum_model_classes_dim (a0 : T_model_classes) : Option (Int × Int) :=
  (M_soft_Dim a0.F_Model.F_In a0.F_Model.F_Out) >>= fun r1 =>
  some (r1.1, r1.2)
def M_mlp_hides (a0 : Int) : Option Bool :=
  ((
    if a0 > 0 then
      some (decide (a0 ≤ 8))
    else
      some false) : Option Bool) >>= fun j1 =>
  some j1
def M_mlp_Dim (a0 : Int) (a1 : Int) : Option (Int × Int) :=
  (M_linear_Dim a0) >>= fun r1 =>
  ((
    if r1.2 ≠ 0 then
      some true
    else
      (M_mlp_hides a1) >>= fun r2 =>
      some (!r2)) : Option Bool) >>= fun j3 =>
  if j3 = true then
    some (0, 1)
  else
    some (IntKind.i64.wrap ((IntKind.i64.wrap ((IntKind.i64.wrap (a1 * r1.1)) + a1)) + 1), 0)
def M_thrum_model_layers_dim (a0 : T_model_layers) : Option (Int × Int) :=
  (M_mlp_Dim a0.F_Model.F_In a0.F_Model.F_Hid) >>= fun r1 =>
  some (r1.1, r1.2)
abbrev R_model_of : Type := (Int × Int) ⊕ (Int × Int × Int × Int × Int × Int × Int) ⊕ (Int × Int × Int × Int × Int × Int × Int) ⊕ (Int × Int × Int × Int × Int × Int × Int)
def M_model_of (a0 : T_api_Model) : Option R_model_of :=
  if a0.F_Kind = (0 : Int) then
    ((
      if a0.F_Frac < 0 then
        some true
      else
        some (decide (a0.F_Frac > 30))) : Option Bool) >>= fun j1 =>
    if j1 = true then
      some (.inl (0, 1) : R_model_of)
    else
      if a0.F_Kind ≠ 1 then
        if a0.F_Out ≠ 0 then
          some (.inl (0, 1) : R_model_of)
        else
          if a0.F_Kind ≠ 2 then
            if a0.F_Hid ≠ 0 then
              some (.inl (0, 1) : R_model_of)
            else
              (M_thrum_model_straight_dim (⟨a0⟩ : T_model_straight)) >>= fun r2 =>
              some (.inr (.inl (a0.F_Kind, a0.F_In, a0.F_Out, a0.F_Hid, a0.F_Frac, r2.1, r2.2)) : R_model_of)
          else
            (M_thrum_model_straight_dim (⟨a0⟩ : T_model_straight)) >>= fun r3 =>
            some (.inr (.inl (a0.F_Kind, a0.F_In, a0.F_Out, a0.F_Hid, a0.F_Frac, r3.1, r3.2)) : R_model_of)
      else
        if a0.F_Kind ≠ 2 then
          if a0.F_Hid ≠ 0 then
            some (.inl (0, 1) : R_model_of)
          else
            (M_thrum_model_straight_dim (⟨a0⟩ : T_model_straight)) >>= fun r4 =>
            some (.inr (.inl (a0.F_Kind, a0.F_In, a0.F_Out, a0.F_Hid, a0.F_Frac, r4.1, r4.2)) : R_model_of)
        else
          (M_thrum_model_straight_dim (⟨a0⟩ : T_model_straight)) >>= fun r5 =>
          some (.inr (.inl (a0.F_Kind, a0.F_In, a0.F_Out, a0.F_Hid, a0.F_Frac, r5.1, r5.2)) : R_model_of)
  else
    if a0.F_Kind = (1 : Int) then
      ((
        if a0.F_Frac < 0 then
          some true
        else
          some (decide (a0.F_Frac > 30))) : Option Bool) >>= fun j6 =>
      if j6 = true then
        some (.inl (0, 1) : R_model_of)
      else
        if a0.F_Kind ≠ 1 then
          if a0.F_Out ≠ 0 then
            some (.inl (0, 1) : R_model_of)
          else
            if a0.F_Kind ≠ 2 then
              if a0.F_Hid ≠ 0 then
                some (.inl (0, 1) : R_model_of)
              else
                (M_thrum_model_classes_dim (⟨a0⟩ : T_model_classes)) >>= fun r7 =>
                some (.inr (.inr (.inl (a0.F_Kind, a0.F_In, a0.F_Out, a0.F_Hid, a0.F_Frac, r7.1, r7.2))) : R_model_of)
            else
              (M_thrum_model_classes_dim (⟨a0⟩ : T_model_classes)) >>= fun r8 =>
              some (.inr (.inr (.inl (a0.F_Kind, a0.F_In, a0.F_Out, a0.F_Hid, a0.F_Frac, r8.1, r8.2))) : R_model_of)
        else
          if a0.F_Kind ≠ 2 then
            if a0.F_Hid ≠ 0 then
              some (.inl (0, 1) : R_model_of)
            else
              (M_thrum_model_classes_dim (⟨a0⟩ : T_model_classes)) >>= fun r9 =>
              some (.inr (.inr (.inl (a0.F_Kind, a0.F_In, a0.F_Out, a0.F_Hid, a0.F_Frac, r9.1, r9.2))) : R_model_of)
          else
            (M_thrum_model_classes_dim (⟨a0⟩ : T_model_classes)) >>= fun r10 =>
            some (.inr (.inr (.inl (a0.F_Kind, a0.F_In, a0.F_Out, a0.F_Hid, a0.F_Frac, r10.1, r10.2))) : R_model_of)
    else
      if a0.F_Kind = (2 : Int) then
        ((
          if a0.F_Frac < 0 then
            some true
          else
            some (decide (a0.F_Frac > 30))) : Option Bool) >>= fun j11 =>
        if j11 = true then
          some (.inl (0, 1) : R_model_of)
        else
          if a0.F_Kind ≠ 1 then
            if a0.F_Out ≠ 0 then
              some (.inl (0, 1) : R_model_of)
            else
              if a0.F_Kind ≠ 2 then
                if a0.F_Hid ≠ 0 then
                  some (.inl (0, 1) : R_model_of)
                else
                  (M_thrum_model_layers_dim (⟨a0⟩ : T_model_layers)) >>= fun r12 =>
                  some (.inr (.inr (.inr (a0.F_Kind, a0.F_In, a0.F_Out, a0.F_Hid, a0.F_Frac, r12.1, r12.2))) : R_model_of)
              else
                (M_thrum_model_layers_dim (⟨a0⟩ : T_model_layers)) >>= fun r13 =>
                some (.inr (.inr (.inr (a0.F_Kind, a0.F_In, a0.F_Out, a0.F_Hid, a0.F_Frac, r13.1, r13.2))) : R_model_of)
          else
            if a0.F_Kind ≠ 2 then
              if a0.F_Hid ≠ 0 then
                some (.inl (0, 1) : R_model_of)
              else
                (M_thrum_model_layers_dim (⟨a0⟩ : T_model_layers)) >>= fun r14 =>
                some (.inr (.inr (.inr (a0.F_Kind, a0.F_In, a0.F_Out, a0.F_Hid, a0.F_Frac, r14.1, r14.2))) : R_model_of)
            else
              (M_thrum_model_layers_dim (⟨a0⟩ : T_model_layers)) >>= fun r15 =>
              some (.inr (.inr (.inr (a0.F_Kind, a0.F_In, a0.F_Out, a0.F_Hid, a0.F_Frac, r15.1, r15.2))) : R_model_of)
      else
        some (.inl (0, 1) : R_model_of)
def M_model_Dim (a0 : T_api_Model) : Option (Int × Int) :=
  (M_model_of a0) >>= fun e => match e with
  | .inl r1 =>
    some (r1.1, r1.2)
  | .inr (.inl r2) =>
    some (r2.2.2.2.2.2.1, r2.2.2.2.2.2.2)
  | .inr (.inr (.inl r3)) =>
    some (r3.2.2.2.2.2.1, r3.2.2.2.2.2.2)
  | .inr (.inr (.inr r4)) =>
    some (r4.2.2.2.2.2.1, r4.2.2.2.2.2.2)
def M_press_ways : Option Unit :=
  some ()
def M_press_bare (a0 : T_api_How) (a1 : Int) : Option Bool :=
  ((
    if a0.F_K = 0 then
      some (a0.F_Wide == 0)
    else
      some false) : Option Bool) >>= fun j1 =>
  some j1
def M_press_ways_3 (a0 : T_api_How) (a1 : Int) : Option Bool :=
  ((
    if a0.F_K ≥ 0 then
      some (decide (a0.F_K ≤ a1))
    else
      some false) : Option Bool) >>= fun j1 =>
  ((
    if j1 = true then
      some (a0.F_Wide == 0)
    else
      some false) : Option Bool) >>= fun j2 =>
  some j2
def M_press_ways_7 (a0 : T_api_How) (a1 : Int) : Option Bool :=
  ((
    if a0.F_K = 0 then
      some (decide (a0.F_Wide > 0))
    else
      some false) : Option Bool) >>= fun j1 =>
  ((
    if j1 = true then
      some (decide (a0.F_Wide ≤ 8))
    else
      some false) : Option Bool) >>= fun j2 =>
  some j2
def M_press_Check (a0 : T_api_How) (a1 : Int) : Option Int :=
  (M_press_ways) >>= fun r1 =>
  if a0.F_Scheme = (0 : Int) then
    ((
      if (hasK a0.F_Scheme [0, 1, 2, 3]) = false then
        some true
      else
        some (decide (a1 < 1))) : Option Bool) >>= fun j2 =>
    ((
      if j2 = true then
        some true
      else
        some (decide (a1 > 4096))) : Option Bool) >>= fun j3 =>
    ((
      if j3 = true then
        some true
      else
        (M_press_bare a0 a1) >>= fun r4 =>
        some (!r4)) : Option Bool) >>= fun j5 =>
    if j5 = true then
      some 1
    else
      some 0
  else
    if a0.F_Scheme = (1 : Int) then
      ((
        if (hasK a0.F_Scheme [0, 1, 2, 3]) = false then
          some true
        else
          some (decide (a1 < 1))) : Option Bool) >>= fun j6 =>
      ((
        if j6 = true then
          some true
        else
          some (decide (a1 > 4096))) : Option Bool) >>= fun j7 =>
      ((
        if j7 = true then
          some true
        else
          (M_press_ways_3 a0 a1) >>= fun r8 =>
          some (!r8)) : Option Bool) >>= fun j9 =>
      if j9 = true then
        some 1
      else
        some 0
    else
      if a0.F_Scheme = (2 : Int) then
        ((
          if (hasK a0.F_Scheme [0, 1, 2, 3]) = false then
            some true
          else
            some (decide (a1 < 1))) : Option Bool) >>= fun j10 =>
        ((
          if j10 = true then
            some true
          else
            some (decide (a1 > 4096))) : Option Bool) >>= fun j11 =>
        ((
          if j11 = true then
            some true
          else
            (M_press_ways_7 a0 a1) >>= fun r12 =>
            some (!r12)) : Option Bool) >>= fun j13 =>
        if j13 = true then
          some 1
        else
          some 0
      else
        if a0.F_Scheme = (3 : Int) then
          ((
            if (hasK a0.F_Scheme [0, 1, 2, 3]) = false then
              some true
            else
              some (decide (a1 < 1))) : Option Bool) >>= fun j14 =>
          ((
            if j14 = true then
              some true
            else
              some (decide (a1 > 4096))) : Option Bool) >>= fun j15 =>
          ((
            if j15 = true then
              some true
            else
              (M_press_bare a0 a1) >>= fun r16 =>
              some (!r16)) : Option Bool) >>= fun j17 =>
          if j17 = true then
            some 1
          else
            some 0
        else
          ((
            if (hasK a0.F_Scheme [0, 1, 2, 3]) = false then
              some true
            else
              some (decide (a1 < 1))) : Option Bool) >>= fun j18 =>
          ((
            if j18 = true then
              some true
            else
              some (decide (a1 > 4096))) : Option Bool) >>= fun j19 =>
          ((
            if j19 = true then
              some ()
            else
              none) : Option Unit) >>= fun j20 =>
          some 1
def M_conf_within_int64 (a0 : Int) (a1 : Int) (a2 : Int) : Option Bool :=
  ((
    if a0 ≥ a1 then
      some (decide (a0 ≤ a2))
    else
      some false) : Option Bool) >>= fun j1 =>
  some j1
def M_linear_Check_l0 (a0 : Int) (a2 : List T_api_Sample) (x0 : Int) (x1 : Bool) : Option Bool :=
  if x0 < (a2.length : Int) then
    if 0 ≤ x0 ∧ x0 < (a2.length : Int) then
      ((
        if x1 = true then
          some ((((at' a2 x0).F_X).length : Int) == a0)
        else
          some false) : Option Bool) >>= fun j2 =>
      M_linear_Check_l0 a0 a2 (IntKind.i64.wrap (x0 + 1)) j2
    else none
  else
    some x1
  partial_fixpoint
def M_linear_Check (a0 : Int) (a1 : List Int) (a2 : List T_api_Sample) : Option Int :=
  (M_linear_Dim a0) >>= fun r1 =>
  if r1.2 ≠ 0 then
    some r1.2
  else
    (M_linear_Check_l0 a0 a2 0 ((a1.length : Int) == r1.1)) >>= fun j3 =>
    if j3 = false then
      some 4
    else
      ((
        if (a2.length : Int) = 0 then
          some true
        else
          some (decide ((a2.length : Int) > 64))) : Option Bool) >>= fun j4 =>
      if j4 = true then
        some 1
      else
        some 0
def M_thrum_model_straight_fits (a0 : T_model_straight) (a1 : List Int) (a2 : List T_api_Sample) : Option Int :=
  (M_linear_Check a0.F_Model.F_In a1 a2) >>= fun r1 =>
  some r1
def M_soft_Check_1_c (a0 : T_api_Sample) (a1 : Int) : Option Bool :=
  some ((a0.F_X.length : Int) != a1)
def M_slices_IndexFunc_thrum_api_Sample_thrum_api_Sample_soft_Check_1_l0 (a0 : List T_api_Sample) (a1 : Int) (x0 : Int) : Option (Sum Int Unit) :=
  if x0 < (a0.length : Int) then
    if 0 ≤ x0 ∧ x0 < (a0.length : Int) then
      (M_soft_Check_1_c (at' a0 x0) a1) >>= fun r1 =>
      if r1 = true then
        some (.inl x0)
      else
        M_slices_IndexFunc_thrum_api_Sample_thrum_api_Sample_soft_Check_1_l0 a0 a1 (IntKind.i64.wrap (x0 + 1))
    else none
  else
    some (.inr ())
  partial_fixpoint
def M_slices_IndexFunc_thrum_api_Sample_thrum_api_Sample_soft_Check_1 (a0 : List T_api_Sample) (a1 : Int) : Option Int :=
  (M_slices_IndexFunc_thrum_api_Sample_thrum_api_Sample_soft_Check_1_l0 a0 a1 0) >>= fun e => match e with
  | .inl r => some r
  | .inr j2 =>
    some (-1)
def M_slices_ContainsFunc_thrum_api_Sample_thrum_api_Sample_soft_Check_1 (a0 : List T_api_Sample) (a1 : Int) : Option Bool :=
  (M_slices_IndexFunc_thrum_api_Sample_thrum_api_Sample_soft_Check_1 a0 a1) >>= fun r1 =>
  some (decide (r1 ≥ 0))
def M_soft_Check_2_c (a0 : T_api_Sample) (a1 : Int) : Option Bool :=
  ((
    if a0.F_Y < 0 then
      some true
    else
      some (decide (a0.F_Y ≥ a1))) : Option Bool) >>= fun j1 =>
  some j1
def M_slices_IndexFunc_thrum_api_Sample_thrum_api_Sample_soft_Check_2_l0 (a0 : List T_api_Sample) (a1 : Int) (x0 : Int) : Option (Sum Int Unit) :=
  if x0 < (a0.length : Int) then
    if 0 ≤ x0 ∧ x0 < (a0.length : Int) then
      (M_soft_Check_2_c (at' a0 x0) a1) >>= fun r1 =>
      if r1 = true then
        some (.inl x0)
      else
        M_slices_IndexFunc_thrum_api_Sample_thrum_api_Sample_soft_Check_2_l0 a0 a1 (IntKind.i64.wrap (x0 + 1))
    else none
  else
    some (.inr ())
  partial_fixpoint
def M_slices_IndexFunc_thrum_api_Sample_thrum_api_Sample_soft_Check_2 (a0 : List T_api_Sample) (a1 : Int) : Option Int :=
  (M_slices_IndexFunc_thrum_api_Sample_thrum_api_Sample_soft_Check_2_l0 a0 a1 0) >>= fun e => match e with
  | .inl r => some r
  | .inr j2 =>
    some (-1)
def M_slices_ContainsFunc_thrum_api_Sample_thrum_api_Sample_soft_Check_2 (a0 : List T_api_Sample) (a1 : Int) : Option Bool :=
  (M_slices_IndexFunc_thrum_api_Sample_thrum_api_Sample_soft_Check_2 a0 a1) >>= fun r1 =>
  some (decide (r1 ≥ 0))
def M_soft_Check (a0 : Int) (a1 : Int) (a2 : List Int) (a3 : List T_api_Sample) : Option Int :=
  (M_soft_Dim a0 a1) >>= fun r1 =>
  if r1.2 ≠ 0 then
    some r1.2
  else
    ((
      if (a2.length : Int) ≠ r1.1 then
        some true
      else
        (M_slices_ContainsFunc_thrum_api_Sample_thrum_api_Sample_soft_Check_1 a3 a0) >>= fun r2 =>
        some r2) : Option Bool) >>= fun j3 =>
    if j3 = true then
      some 4
    else
      ((
        if (a3.length : Int) = 0 then
          some true
        else
          some (decide ((a3.length : Int) > 64))) : Option Bool) >>= fun j4 =>
      ((
        if j4 = true then
          some true
        else
          (M_slices_ContainsFunc_thrum_api_Sample_thrum_api_Sample_soft_Check_2 a3 a1) >>= fun r5 =>
          some r5) : Option Bool) >>= fun j6 =>
      if j6 = true then
        some 1
      else
        some 0
def M_thrum_model_classes_fits (a0 : T_model_classes) (a1 : List Int) (a2 : List T_api_Sample) : Option Int :=
  (M_soft_Check a0.F_Model.F_In a0.F_Model.F_Out a1 a2) >>= fun r1 =>
  some r1
def M_mlp_Check_1_c (a0 : T_api_Sample) (a1 : Int) : Option Bool :=
  some ((a0.F_X.length : Int) != a1)
def M_slices_IndexFunc_thrum_api_Sample_thrum_api_Sample_mlp_Check_1_l0 (a0 : List T_api_Sample) (a1 : Int) (x0 : Int) : Option (Sum Int Unit) :=
  if x0 < (a0.length : Int) then
    if 0 ≤ x0 ∧ x0 < (a0.length : Int) then
      (M_mlp_Check_1_c (at' a0 x0) a1) >>= fun r1 =>
      if r1 = true then
        some (.inl x0)
      else
        M_slices_IndexFunc_thrum_api_Sample_thrum_api_Sample_mlp_Check_1_l0 a0 a1 (IntKind.i64.wrap (x0 + 1))
    else none
  else
    some (.inr ())
  partial_fixpoint
def M_slices_IndexFunc_thrum_api_Sample_thrum_api_Sample_mlp_Check_1 (a0 : List T_api_Sample) (a1 : Int) : Option Int :=
  (M_slices_IndexFunc_thrum_api_Sample_thrum_api_Sample_mlp_Check_1_l0 a0 a1 0) >>= fun e => match e with
  | .inl r => some r
  | .inr j2 =>
    some (-1)
def M_slices_ContainsFunc_thrum_api_Sample_thrum_api_Sample_mlp_Check_1 (a0 : List T_api_Sample) (a1 : Int) : Option Bool :=
  (M_slices_IndexFunc_thrum_api_Sample_thrum_api_Sample_mlp_Check_1 a0 a1) >>= fun r1 =>
  some (decide (r1 ≥ 0))
def M_mlp_Check (a0 : Int) (a1 : Int) (a2 : List Int) (a3 : List T_api_Sample) : Option Int :=
  (M_mlp_Dim a0 a1) >>= fun r1 =>
  if r1.2 ≠ 0 then
    some r1.2
  else
    ((
      if (a2.length : Int) ≠ r1.1 then
        some true
      else
        (M_slices_ContainsFunc_thrum_api_Sample_thrum_api_Sample_mlp_Check_1 a3 a0) >>= fun r2 =>
        some r2) : Option Bool) >>= fun j3 =>
    if j3 = true then
      some 4
    else
      ((
        if (a3.length : Int) = 0 then
          some true
        else
          some (decide ((a3.length : Int) > 64))) : Option Bool) >>= fun j4 =>
      if j4 = true then
        some 1
      else
        some 0
def M_thrum_model_layers_fits (a0 : T_model_layers) (a1 : List Int) (a2 : List T_api_Sample) : Option Int :=
  (M_mlp_Check a0.F_Model.F_In a0.F_Model.F_Hid a1 a2) >>= fun r1 =>
  some r1
def M_model_Fits (a0 : T_api_Model) (a1 : List Int) (a2 : List T_api_Sample) : Option Int :=
  (M_model_of a0) >>= fun e => match e with
  | .inl r1 =>
    if r1.2 ≠ 0 then
      some r1.2
    else
      none
  | .inr (.inl r2) =>
    if r2.2.2.2.2.2.2 ≠ 0 then
      some r2.2.2.2.2.2.2
    else
      (M_thrum_model_straight_fits (⟨(⟨r2.1, r2.2.1, r2.2.2.1, r2.2.2.2.1, r2.2.2.2.2.1⟩ : T_api_Model)⟩ : T_model_straight) a1 a2) >>= fun r3 =>
      some r3
  | .inr (.inr (.inl r4)) =>
    if r4.2.2.2.2.2.2 ≠ 0 then
      some r4.2.2.2.2.2.2
    else
      (M_thrum_model_classes_fits (⟨(⟨r4.1, r4.2.1, r4.2.2.1, r4.2.2.2.1, r4.2.2.2.2.1⟩ : T_api_Model)⟩ : T_model_classes) a1 a2) >>= fun r5 =>
      some r5
  | .inr (.inr (.inr r6)) =>
    if r6.2.2.2.2.2.2 ≠ 0 then
      some r6.2.2.2.2.2.2
    else
      (M_thrum_model_layers_fits (⟨(⟨r6.1, r6.2.1, r6.2.2.1, r6.2.2.2.1, r6.2.2.2.2.1⟩ : T_api_Model)⟩ : T_model_layers) a1 a2) >>= fun r7 =>
      some r7
def M_conf_Check_1_c_c (a0 : T_api_Sample) (a1 : Int) (a2 : Int) (a3 : Int) (a4 : Int) (a5 : Int) (a6 : Int) (a7 : Int) (a8 : Int) (a9 : Int) (a10 : Int) (a11 : Int) (a12 : Int) (a13 : Int) (a14 : Int) (a15 : Int) (a16 : List T_api_Sample) (a17 : List Int) : Option Bool :=
  (M_model_Fits (⟨a2, a3, a4, a5, a6⟩ : T_api_Model) a17 [a0]) >>= fun r1 =>
  some (r1 != 0)
def M_slices_IndexFunc_thrum_api_Sample_thrum_api_Sample_conf_Check_1_l0 (a0 : List T_api_Sample) (a1 : Int) (a2 : Int) (a3 : Int) (a4 : Int) (a5 : Int) (a6 : Int) (a7 : Int) (a8 : Int) (a9 : Int) (a10 : Int) (a11 : Int) (a12 : Int) (a13 : Int) (a14 : Int) (a15 : Int) (a16 : List T_api_Sample) (a17 : List Int) (x0 : Int) : Option (Sum Int Unit) :=
  if x0 < (a0.length : Int) then
    if 0 ≤ x0 ∧ x0 < (a0.length : Int) then
      (M_conf_Check_1_c_c (at' a0 x0) a1 a2 a3 a4 a5 a6 a7 a8 a9 a10 a11 a12 a13 a14 a15 a16 a17) >>= fun r1 =>
      if r1 = true then
        some (.inl x0)
      else
        M_slices_IndexFunc_thrum_api_Sample_thrum_api_Sample_conf_Check_1_l0 a0 a1 a2 a3 a4 a5 a6 a7 a8 a9 a10 a11 a12 a13 a14 a15 a16 a17 (IntKind.i64.wrap (x0 + 1))
    else none
  else
    some (.inr ())
  partial_fixpoint
def M_slices_IndexFunc_thrum_api_Sample_thrum_api_Sample_conf_Check_1 (a0 : List T_api_Sample) (a1 : Int) (a2 : Int) (a3 : Int) (a4 : Int) (a5 : Int) (a6 : Int) (a7 : Int) (a8 : Int) (a9 : Int) (a10 : Int) (a11 : Int) (a12 : Int) (a13 : Int) (a14 : Int) (a15 : Int) (a16 : List T_api_Sample) (a17 : List Int) : Option Int :=
  (M_slices_IndexFunc_thrum_api_Sample_thrum_api_Sample_conf_Check_1_l0 a0 a1 a2 a3 a4 a5 a6 a7 a8 a9 a10 a11 a12 a13 a14 a15 a16 a17 0) >>= fun e => match e with
  | .inl r => some r
  | .inr j2 =>
    some (-1)
def M_slices_ContainsFunc_thrum_api_Sample_thrum_api_Sample_conf_Check_1 (a0 : List T_api_Sample) (a1 : Int) (a2 : Int) (a3 : Int) (a4 : Int) (a5 : Int) (a6 : Int) (a7 : Int) (a8 : Int) (a9 : Int) (a10 : Int) (a11 : Int) (a12 : Int) (a13 : Int) (a14 : Int) (a15 : Int) (a16 : List T_api_Sample) (a17 : List Int) : Option Bool :=
  (M_slices_IndexFunc_thrum_api_Sample_thrum_api_Sample_conf_Check_1 a0 a1 a2 a3 a4 a5 a6 a7 a8 a9 a10 a11 a12 a13 a14 a15 a16 a17) >>= fun r1 =>
  some (decide (r1 ≥ 0))
def M_conf_Check (a0 : T_api_Conf) : Option Int :=
  (M_model_Dim a0.F_M) >>= fun r1 =>
  ((
    if r1.2 ≠ 0 then
      some true
    else
      (M_press_Check a0.F_H r1.1) >>= fun r2 =>
      some (r2 != 0)) : Option Bool) >>= fun j3 =>
  if j3 = true then
    some 1
  else
    if 0 ≤ a0.F_M.F_Frac then
      (M_conf_within_int a0.F_N 1 64) >>= fun r4 =>
      ((
        if r4 = false then
          some true
        else
          (M_conf_within_int a0.F_Warm 0 1048576) >>= fun r5 =>
          some (!r5)) : Option Bool) >>= fun j6 =>
      ((
        if j6 = true then
          some true
        else
          (M_conf_within_int64 a0.F_Rate 0 (sShl .i64 1 a0.F_M.F_Frac)) >>= fun r7 =>
          some (!r7)) : Option Bool) >>= fun j8 =>
      ((
        if j8 = true then
          some true
        else
          (M_conf_within_int64 a0.F_Mom 0 (sShl .i64 1 a0.F_M.F_Frac)) >>= fun r9 =>
          some (!r9)) : Option Bool) >>= fun j10 =>
      ((
        if j10 = true then
          some true
        else
          some (decide (a0.F_Clip < 0))) : Option Bool) >>= fun j11 =>
      if j11 = true then
        some 1
      else
        ((
          if (a0.F_L.length : Int) > 256 then
            some true
          else
            some (if (a0.F_L.length : Int) < 64 then (a0.F_L.length : Int) else 64) >>= fun y12 =>
            (M_conf_within_int a0.F_Batch 1 y12) >>= fun r14 =>
            some (!r14)) : Option Bool) >>= fun j15 =>
        if j15 = true then
          some 1
        else
          if 0 ≤ r1.1 ∧ r1.1 ≤ r1.1 ∧ r1.1 ≤ 140737488355328 ∧ r1.1 * ((8 : Nat) : Int) ≤ 140737488355328 then
            some (List.replicate (Int.toNat r1.1) 0) >>= fun y16 =>
            (M_slices_ContainsFunc_thrum_api_Sample_thrum_api_Sample_conf_Check_1 a0.F_L a0.F_N a0.F_M.F_Kind a0.F_M.F_In a0.F_M.F_Out a0.F_M.F_Hid a0.F_M.F_Frac a0.F_H.F_Scheme a0.F_H.F_K a0.F_H.F_Wide a0.F_Warm a0.F_Rate a0.F_Mom a0.F_Clip a0.F_Batch a0.F_Seed a0.F_L y16) >>= fun r18 =>
            if r18 = true then
              some 1
            else
              some 0
          else none
    else none
def M_thrumlaw18_live_l0 (x0 : Int) : Option (Sum Bool Unit) :=
  if x0 < ([10, 8, 6, 4, 2, 2].length : Int) then
    if 0 ≤ x0 ∧ x0 < ([10, 8, 6, 4, 2, 2].length : Int) then
      (M_conf_Keep 10 2 4 x0) >>= fun r1 =>
      ((
        if r1.1 ≠ (at' [10, 8, 6, 4, 2, 2] x0) then
          some true
        else
          some (r1.2 != 0)) : Option Bool) >>= fun j2 =>
      if j2 = true then
        some (.inl false)
      else
        M_thrumlaw18_live_l0 (IntKind.i64.wrap (x0 + 1))
    else none
  else
    some (.inr ())
  partial_fixpoint
def M_thrumlaw18_live : Option Bool :=
  (M_thrumlaw18_live_l0 0) >>= fun e => match e with
  | .inl r => some r
  | .inr j3 =>
    (M_conf_Check (⟨1, (⟨0, 1, 0, 0, 0⟩ : T_api_Model), (⟨0, 0, 0⟩ : T_api_How), 0, 0, 0, 0, 1, 0, [(⟨[1], 0⟩ : T_api_Sample)]⟩ : T_api_Conf)) >>= fun r4 =>
    ((
      if r4 = 0 then
        (M_conf_Check (⟨0, (⟨0, 0, 0, 0, 0⟩ : T_api_Model), (⟨0, 0, 0⟩ : T_api_How), 0, 0, 0, 0, 0, 0, []⟩ : T_api_Conf)) >>= fun r5 =>
        some (r5 == 1)
      else
        some false) : Option Bool) >>= fun j6 =>
    some j6
def M_thrumref18_Few_l0 (a0 : T_api_Conf) (x0 : Int) : Option (Sum Bool Unit) :=
  if x0 < (a0.F_L.length : Int) then
    if 0 ≤ x0 ∧ x0 < (a0.F_L.length : Int) then
      if (((at' a0.F_L x0).F_X).length : Int) > 100 then
        some (.inl false)
      else
        M_thrumref18_Few_l0 a0 (IntKind.i64.wrap (x0 + 1))
    else none
  else
    some (.inr ())
  partial_fixpoint
def M_thrumref18_Few (a0 : T_api_Conf) : Option Bool :=
  (M_thrumref18_Few_l0 a0 0) >>= fun e => match e with
  | .inl r => some r
  | .inr j1 =>
    some (decide ((a0.F_L.length : Int) ≤ 300))
def M_conf_at (a0 : T_api_Conf) (a1 : Int) : Option Bool :=
  (M_conf_within_int a1 0 1073741824) >>= fun r1 =>
  ((
    if r1 = true then
      (M_conf_Check a0) >>= fun r2 =>
      some (r2 == 0)
    else
      some false) : Option Bool) >>= fun j3 =>
  some j3
def M_conf_How (a0 : T_api_Conf) (a1 : Int) : Option (Int × Int × Int × Int) :=
  (M_conf_at a0 a1) >>= fun r1 =>
  if r1 = false then
    some (0, 0, 0, 1)
  else
    if a0.F_H.F_Scheme = 1 then
      (M_model_Dim a0.F_M) >>= fun r2 =>
      if r2.2 = 0 then
        (M_conf_Keep r2.1 a0.F_H.F_K a0.F_Warm a1) >>= fun r3 =>
        if r3.2 ≠ 0 then
          some (0, 0, 0, r3.2)
        else
          some (a0.F_H.F_Scheme, r3.1, a0.F_H.F_Wide, 0)
      else
        if r2.2 ≠ 0 then
          some (0, 0, 0, r2.2)
        else
          some (a0.F_H.F_Scheme, a0.F_H.F_K, a0.F_H.F_Wide, 0)
    else
      some (a0.F_H.F_Scheme, a0.F_H.F_K, a0.F_H.F_Wide, 0)
def M_thrumref17_Check (a0 : T_api_Model) : Option Int :=
  ((
    if a0.F_In ≥ 1 then
      some (decide (a0.F_In ≤ 16))
    else
      some false) : Option Bool) >>= fun j1 =>
  ((
    if j1 = true then
      some (decide (a0.F_Frac ≥ 0))
    else
      some false) : Option Bool) >>= fun j2 =>
  ((
    if j2 = true then
      some (decide (a0.F_Frac ≤ 30))
    else
      some false) : Option Bool) >>= fun j3 =>
  if a0.F_Kind = 0 then
    ((
      if j3 = true then
        some (a0.F_Out == 0)
      else
        some false) : Option Bool) >>= fun j4 =>
    ((
      if j4 = true then
        some (a0.F_Hid == 0)
      else
        some false) : Option Bool) >>= fun j5 =>
    if j5 = false then
      some 1
    else
      some 0
  else
    if a0.F_Kind = 1 then
      ((
        if j3 = true then
          some (decide (a0.F_Out ≥ 2))
        else
          some false) : Option Bool) >>= fun j6 =>
      ((
        if j6 = true then
          some (decide (a0.F_Out ≤ 8))
        else
          some false) : Option Bool) >>= fun j7 =>
      ((
        if j7 = true then
          some (a0.F_Hid == 0)
        else
          some false) : Option Bool) >>= fun j8 =>
      if j8 = false then
        some 1
      else
        some 0
    else
      if a0.F_Kind = 2 then
        ((
          if j3 = true then
            some (a0.F_Out == 0)
          else
            some false) : Option Bool) >>= fun j9 =>
        ((
          if j9 = true then
            some (decide (a0.F_Hid ≥ 1))
          else
            some false) : Option Bool) >>= fun j10 =>
        ((
          if j10 = true then
            some (decide (a0.F_Hid ≤ 8))
          else
            some false) : Option Bool) >>= fun j11 =>
        if j11 = false then
          some 1
        else
          some 0
      else
        some 1
def M_thrumref15_Dim (a0 : Int) (a1 : Int) : Option (Int × Int) :=
  ((
    if a0 < 1 then
      some true
    else
      some (decide (a0 > 16))) : Option Bool) >>= fun j1 =>
  ((
    if j1 = true then
      some true
    else
      some (decide (a1 < 2))) : Option Bool) >>= fun j2 =>
  ((
    if j2 = true then
      some true
    else
      some (decide (a1 > 8))) : Option Bool) >>= fun j3 =>
  if j3 = true then
    some (0, 1)
  else
    some (IntKind.i64.wrap (a1 * (IntKind.i64.wrap (a0 + 1))), 0)
def M_thrumref16_Dim (a0 : Int) (a1 : Int) : Option (Int × Int) :=
  ((
    if a0 < 1 then
      some true
    else
      some (decide (a0 > 16))) : Option Bool) >>= fun j1 =>
  ((
    if j1 = true then
      some true
    else
      some (decide (a1 < 1))) : Option Bool) >>= fun j2 =>
  ((
    if j2 = true then
      some true
    else
      some (decide (a1 > 8))) : Option Bool) >>= fun j3 =>
  if j3 = true then
    some (0, 1)
  else
    some (IntKind.i64.wrap ((IntKind.i64.wrap ((IntKind.i64.wrap (a1 * (IntKind.i64.wrap (a0 + 1)))) + a1)) + 1), 0)
def M_thrumref14_Dim (a0 : Int) : Option (Int × Int) :=
  ((
    if a0 < 1 then
      some true
    else
      some (decide (a0 > 16))) : Option Bool) >>= fun j1 =>
  if j1 = true then
    some (0, 1)
  else
    some (IntKind.i64.wrap (a0 + 1), 0)
def M_thrumref17_Dim (a0 : T_api_Model) : Option (Int × Int) :=
  (M_thrumref17_Check a0) >>= fun r1 =>
  if r1 ≠ 0 then
    some (0, r1)
  else
    if a0.F_Kind = 1 then
      (M_thrumref15_Dim a0.F_In a0.F_Out) >>= fun r2 =>
      some (r2.1, r2.2)
    else
      if a0.F_Kind = 2 then
        (M_thrumref16_Dim a0.F_In a0.F_Hid) >>= fun r3 =>
        some (r3.1, r3.2)
      else
        (M_thrumref14_Dim a0.F_In) >>= fun r4 =>
        some (r4.1, r4.2)
def M_thrumref12_Check (a0 : T_api_How) (a1 : Int) : Option Int :=
  ((
    if a1 ≥ 1 then
      some (decide (a1 ≤ 4096))
    else
      some false) : Option Bool) >>= fun j1 =>
  ((
    if a0.F_Scheme = 0 then
      some true
    else
      some (a0.F_Scheme == 3)) : Option Bool) >>= fun j2 =>
  if j2 = true then
    ((
      if j1 = true then
        some (a0.F_K == 0)
      else
        some false) : Option Bool) >>= fun j3 =>
    ((
      if j3 = true then
        some (a0.F_Wide == 0)
      else
        some false) : Option Bool) >>= fun j4 =>
    if j4 = false then
      some 1
    else
      some 0
  else
    if a0.F_Scheme = 1 then
      ((
        if j1 = true then
          some (decide (a0.F_K ≥ 0))
        else
          some false) : Option Bool) >>= fun j5 =>
      ((
        if j5 = true then
          some (decide (a0.F_K ≤ a1))
        else
          some false) : Option Bool) >>= fun j6 =>
      ((
        if j6 = true then
          some (a0.F_Wide == 0)
        else
          some false) : Option Bool) >>= fun j7 =>
      if j7 = false then
        some 1
      else
        some 0
    else
      if a0.F_Scheme = 2 then
        ((
          if j1 = true then
            some (a0.F_K == 0)
          else
            some false) : Option Bool) >>= fun j8 =>
        ((
          if j8 = true then
            some (decide (a0.F_Wide ≥ 1))
          else
            some false) : Option Bool) >>= fun j9 =>
        ((
          if j9 = true then
            some (decide (a0.F_Wide ≤ 8))
          else
            some false) : Option Bool) >>= fun j10 =>
        if j10 = false then
          some 1
        else
          some 0
      else
        some 1
def M_thrumref15_Check_l0 (a0 : Int) (a1 : Int) (a3 : List T_api_Sample) (x0 : Int) : Option (Sum Int Unit) :=
  if x0 < (a3.length : Int) then
    if 0 ≤ x0 ∧ x0 < (a3.length : Int) then
      if (((at' a3 x0).F_X).length : Int) ≠ a0 then
        some (.inl 4)
      else
        M_thrumref15_Check_l0 a0 a1 a3 (IntKind.i64.wrap (x0 + 1))
    else none
  else
    some (.inr ())
  partial_fixpoint
def M_thrumref15_Check_l1 (a1 : Int) (a3 : List T_api_Sample) (x0 : Int) : Option (Sum Int Unit) :=
  if x0 < (a3.length : Int) then
    if 0 ≤ x0 ∧ x0 < (a3.length : Int) then
      ((
        if ((at' a3 x0).F_Y) < 0 then
          some true
        else
          some (decide (((at' a3 x0).F_Y) ≥ a1))) : Option Bool) >>= fun j4 =>
      if j4 = true then
        some (.inl 1)
      else
        M_thrumref15_Check_l1 a1 a3 (IntKind.i64.wrap (x0 + 1))
    else none
  else
    some (.inr ())
  partial_fixpoint
def M_thrumref15_Check (a0 : Int) (a1 : Int) (a2 : List Int) (a3 : List T_api_Sample) : Option Int :=
  (M_thrumref15_Dim a0 a1) >>= fun r1 =>
  if r1.2 ≠ 0 then
    some r1.2
  else
    if (a2.length : Int) ≠ r1.1 then
      some 4
    else
      (M_thrumref15_Check_l0 a0 a1 a3 0) >>= fun e => match e with
      | .inl r => some r
      | .inr j2 =>
        ((
          if (a3.length : Int) = 0 then
            some true
          else
            some (decide ((a3.length : Int) > 64))) : Option Bool) >>= fun j3 =>
        if j3 = true then
          some 1
        else
          (M_thrumref15_Check_l1 a1 a3 0) >>= fun e => match e with
          | .inl r => some r
          | .inr j5 =>
            some 0
def M_thrumref16_Check_l0 (a0 : Int) (a3 : List T_api_Sample) (x0 : Int) : Option (Sum Int Unit) :=
  if x0 < (a3.length : Int) then
    if 0 ≤ x0 ∧ x0 < (a3.length : Int) then
      if (((at' a3 x0).F_X).length : Int) ≠ a0 then
        some (.inl 4)
      else
        M_thrumref16_Check_l0 a0 a3 (IntKind.i64.wrap (x0 + 1))
    else none
  else
    some (.inr ())
  partial_fixpoint
def M_thrumref16_Check (a0 : Int) (a1 : Int) (a2 : List Int) (a3 : List T_api_Sample) : Option Int :=
  (M_thrumref16_Dim a0 a1) >>= fun r1 =>
  if r1.2 ≠ 0 then
    some r1.2
  else
    if (a2.length : Int) ≠ r1.1 then
      some 4
    else
      (M_thrumref16_Check_l0 a0 a3 0) >>= fun e => match e with
      | .inl r => some r
      | .inr j2 =>
        ((
          if (a3.length : Int) = 0 then
            some true
          else
            some (decide ((a3.length : Int) > 64))) : Option Bool) >>= fun j3 =>
        if j3 = true then
          some 1
        else
          some 0
def M_thrumref14_Check_l0 (a0 : Int) (a2 : List T_api_Sample) (x0 : Int) : Option (Sum Int Unit) :=
  if x0 < (a2.length : Int) then
    if 0 ≤ x0 ∧ x0 < (a2.length : Int) then
      if (((at' a2 x0).F_X).length : Int) ≠ a0 then
        some (.inl 4)
      else
        M_thrumref14_Check_l0 a0 a2 (IntKind.i64.wrap (x0 + 1))
    else none
  else
    some (.inr ())
  partial_fixpoint
def M_thrumref14_Check (a0 : Int) (a1 : List Int) (a2 : List T_api_Sample) : Option Int :=
  (M_thrumref14_Dim a0) >>= fun r1 =>
  if r1.2 ≠ 0 then
    some r1.2
  else
    if (a1.length : Int) ≠ r1.1 then
      some 4
    else
      (M_thrumref14_Check_l0 a0 a2 0) >>= fun e => match e with
      | .inl r => some r
      | .inr j2 =>
        ((
          if (a2.length : Int) = 0 then
            some true
          else
            some (decide ((a2.length : Int) > 64))) : Option Bool) >>= fun j3 =>
        if j3 = true then
          some 1
        else
          some 0
def M_thrumref17_Fits (a0 : T_api_Model) (a1 : List Int) (a2 : List T_api_Sample) : Option Int :=
  (M_thrumref17_Check a0) >>= fun r1 =>
  if r1 ≠ 0 then
    some r1
  else
    if a0.F_Kind = 1 then
      (M_thrumref15_Check a0.F_In a0.F_Out a1 a2) >>= fun r2 =>
      some r2
    else
      if a0.F_Kind = 2 then
        (M_thrumref16_Check a0.F_In a0.F_Hid a1 a2) >>= fun r3 =>
        some r3
      else
        (M_thrumref14_Check a0.F_In a1 a2) >>= fun r4 =>
        some r4
def M_thrumref18_Check_l0 (a0 : T_api_Conf) (r1 : Int × Int) (x0 : Int) : Option (Sum Int Unit) :=
  if x0 < (a0.F_L.length : Int) then
    if 0 ≤ x0 ∧ x0 < (a0.F_L.length : Int) then
      ((
        if 0 ≤ r1.1 ∧ r1.1 ≤ r1.1 ∧ r1.1 ≤ 140737488355328 ∧ r1.1 * ((8 : Nat) : Int) ≤ 140737488355328 then
          (M_thrumref17_Fits a0.F_M (List.replicate (Int.toNat r1.1) 0) [at' a0.F_L x0]) >>= fun r15 =>
          some (r15 != 0)
        else none) : Option Bool) >>= fun j16 =>
      if j16 = true then
        some (.inl 1)
      else
        M_thrumref18_Check_l0 a0 r1 (IntKind.i64.wrap (x0 + 1))
    else none
  else
    some (.inr ())
  partial_fixpoint
def M_thrumref18_Check (a0 : T_api_Conf) : Option Int :=
  (M_thrumref17_Dim a0.F_M) >>= fun r1 =>
  ((
    if r1.2 ≠ 0 then
      some true
    else
      some (decide (a0.F_N < 1))) : Option Bool) >>= fun j2 =>
  ((
    if j2 = true then
      some true
    else
      some (decide (a0.F_N > 64))) : Option Bool) >>= fun j3 =>
  ((
    if j3 = true then
      some true
    else
      (M_thrumref12_Check a0.F_H r1.1) >>= fun r4 =>
      some (r4 != 0)) : Option Bool) >>= fun j5 =>
  ((
    if j5 = true then
      some true
    else
      some (decide (a0.F_Warm < 0))) : Option Bool) >>= fun j6 =>
  ((
    if j6 = true then
      some true
    else
      some (decide (a0.F_Warm > 1048576))) : Option Bool) >>= fun j7 =>
  if j7 = true then
    some 1
  else
    if 0 ≤ a0.F_M.F_Frac then
      ((
        if a0.F_Rate < 0 then
          some true
        else
          some (decide (a0.F_Rate > (sShl .i64 1 a0.F_M.F_Frac)))) : Option Bool) >>= fun j8 =>
      ((
        if j8 = true then
          some true
        else
          some (decide (a0.F_Mom < 0))) : Option Bool) >>= fun j9 =>
      ((
        if j9 = true then
          some true
        else
          some (decide (a0.F_Mom > (sShl .i64 1 a0.F_M.F_Frac)))) : Option Bool) >>= fun j10 =>
      ((
        if j10 = true then
          some true
        else
          some (decide (a0.F_Clip < 0))) : Option Bool) >>= fun j11 =>
      if j11 = true then
        some 1
      else
        ((
          if (a0.F_L.length : Int) > 256 then
            some true
          else
            some (decide (a0.F_Batch < 1))) : Option Bool) >>= fun j12 =>
        ((
          if j12 = true then
            some true
          else
            some (decide (a0.F_Batch > 64))) : Option Bool) >>= fun j13 =>
        ((
          if j13 = true then
            some true
          else
            some (decide (a0.F_Batch > (a0.F_L.length : Int)))) : Option Bool) >>= fun j14 =>
        if j14 = true then
          some 1
        else
          (M_thrumref18_Check_l0 a0 r1 0) >>= fun e => match e with
          | .inl r => some r
          | .inr j17 =>
            some 0
    else none
def M_thrumref18_Keep (a0 : Int) (a1 : Int) (a2 : Int) (a3 : Int) : Option (Int × Int) :=
  ((
    if a0 < 1 then
      some true
    else
      some (decide (a0 > 4096))) : Option Bool) >>= fun j1 =>
  ((
    if j1 = true then
      some true
    else
      some (decide (a1 < 0))) : Option Bool) >>= fun j2 =>
  ((
    if j2 = true then
      some true
    else
      some (decide (a1 > a0))) : Option Bool) >>= fun j3 =>
  ((
    if j3 = true then
      some true
    else
      some (decide (a2 < 0))) : Option Bool) >>= fun j4 =>
  ((
    if j4 = true then
      some true
    else
      some (decide (a2 > 1048576))) : Option Bool) >>= fun j5 =>
  ((
    if j5 = true then
      some true
    else
      some (decide (a3 < 0))) : Option Bool) >>= fun j6 =>
  ((
    if j6 = true then
      some true
    else
      some (decide (a3 > 1073741824))) : Option Bool) >>= fun j7 =>
  if j7 = true then
    some (0, 1)
  else
    if a3 ≥ a2 then
      some (a1, 0)
    else
      if a2 ≠ 0 then
        some (IntKind.i64.wrap (a0 - (IntKind.i64.wrap (Int.tdiv (IntKind.i64.wrap ((IntKind.i64.wrap (a0 - a1)) * a3)) a2))), 0)
      else none
def M_thrumref18_How (a0 : T_api_Conf) (a1 : Int) : Option (Int × Int × Int × Int) :=
  (M_thrumref18_Check a0) >>= fun r1 =>
  ((
    if r1 ≠ 0 then
      some true
    else
      some (decide (a1 < 0))) : Option Bool) >>= fun j2 =>
  ((
    if j2 = true then
      some true
    else
      some (decide (a1 > 1073741824))) : Option Bool) >>= fun j3 =>
  if j3 = true then
    some (0, 0, 0, 1)
  else
    if a0.F_H.F_Scheme = 1 then
      (M_thrumref17_Dim a0.F_M) >>= fun r4 =>
      (M_thrumref18_Keep r4.1 a0.F_H.F_K a0.F_Warm a1) >>= fun r5 =>
      some (a0.F_H.F_Scheme, r5.1, a0.F_H.F_Wide, 0)
    else
      some (a0.F_H.F_Scheme, a0.F_H.F_K, a0.F_H.F_Wide, 0)
def M_thrum_draw_stir_with (a0 : Int) (a1 : Int) : Option Int :=
  some (bXor .u64 (IntKind.u64.wrap ((bXor .u64 a0 (IntKind.u64.wrap a1)) * 11400714819323198485)) (sShr .u64 (IntKind.u64.wrap ((bXor .u64 a0 (IntKind.u64.wrap a1)) * 11400714819323198485)) 29))
def M_draw_over_l0 (a1 : List Int) (x0 : Int) (x1 : Int) : Option Int :=
  if x0 < (a1.length : Int) then
    if 0 ≤ x0 ∧ x0 < (a1.length : Int) then
      (M_thrum_draw_stir_with x1 (at' a1 x0)) >>= fun r1 =>
      M_draw_over_l0 a1 (IntKind.i64.wrap (x0 + 1)) r1
    else none
  else
    some x1
  partial_fixpoint
def M_draw_over (a0 : Int) (a1 : List Int) : Option Int :=
  (M_draw_over_l0 a1 0 a0) >>= fun j2 =>
  some j2
def M_thrum_draw_stir_end (a0 : Int) : Option Int :=
  some (bXor .u64 (IntKind.u64.wrap (a0 * 13787848793156543929)) (sShr .u64 (IntKind.u64.wrap (a0 * 13787848793156543929)) 32))
def M_draw_Order_l0 (a0 : Int) (a1 : Int) (a2 : List Int) (y1 : List Int) (x0 : Int) (x1 : List Int) : Option (List Int) :=
  if x0 < (y1.length : Int) then
    if 0 ≤ x0 ∧ x0 < (x1.length : Int) then
      M_draw_Order_l0 a0 a1 a2 y1 (IntKind.i64.wrap (x0 + 1)) (x1.set (Int.toNat x0) x0)
    else none
  else
    some x1
  partial_fixpoint
def M_draw_Order_l1 (r4 : Int) (x0 : Int) (x1 : List Int) : Option (List Int) :=
  if x0 > 0 then
    (M_thrum_draw_stir_with r4 x0) >>= fun r5 =>
    (M_thrum_draw_stir_end r5) >>= fun r6 =>
    if IntKind.u64.wrap (IntKind.i64.wrap (x0 + 1)) ≠ 0 then
      if 0 ≤ Int.tmod r6 (IntKind.u64.wrap (IntKind.i64.wrap (x0 + 1))) ∧ Int.tmod r6 (IntKind.u64.wrap (IntKind.i64.wrap (x0 + 1))) < (x1.length : Int) then
        if 0 ≤ x0 ∧ x0 < (x1.length : Int) then
          if 0 ≤ x0 ∧ x0 < (x1.length : Int) then
            if 0 ≤ Int.tmod r6 (IntKind.u64.wrap (IntKind.i64.wrap (x0 + 1))) ∧ Int.tmod r6 (IntKind.u64.wrap (IntKind.i64.wrap (x0 + 1))) < ((x1.set (Int.toNat x0) (at' x1 (Int.tmod r6 (IntKind.u64.wrap (IntKind.i64.wrap (x0 + 1)))))).length : Int) then
              some ((x1.set (Int.toNat x0) (at' x1 (Int.tmod r6 (IntKind.u64.wrap (IntKind.i64.wrap (x0 + 1)))))).set (Int.toNat (Int.tmod r6 (IntKind.u64.wrap (IntKind.i64.wrap (x0 + 1))))) (at' x1 x0)) >>= fun y7 =>
              M_draw_Order_l1 r4 (IntKind.i64.wrap (x0 - 1)) y7
            else none
          else none
        else none
      else none
    else none
  else
    some x1
  partial_fixpoint
def M_draw_Order (a0 : Int) (a1 : Int) (a2 : List Int) : Option ((List Int) × Int) :=
  if a0 < 0 then
    some ([], 1)
  else
    if a0 > 4096 then
      some ([], 3)
    else
      if 0 ≤ a0 ∧ a0 ≤ a0 ∧ a0 ≤ 140737488355328 ∧ a0 * ((8 : Nat) : Int) ≤ 140737488355328 then
        some (List.replicate (Int.toNat a0) 0) >>= fun y1 =>
        (M_draw_Order_l0 a0 a1 a2 y1 0 y1) >>= fun j3 =>
        (M_draw_over a1 a2) >>= fun r4 =>
        (M_draw_Order_l1 r4 (IntKind.i64.wrap (a0 - 1)) j3) >>= fun j9 =>
        some (j9, 0)
      else none
def M_draw_Pick (a0 : Int) (a1 : Int) (a2 : Int) (a3 : List Int) : Option ((List Int) × Int) :=
  ((
    if a0 < 0 then
      some true
    else
      some (decide (a0 > a1))) : Option Bool) >>= fun j1 =>
  if j1 = true then
    some ([], 1)
  else
    (M_draw_Order a1 a2 a3) >>= fun r2 =>
    if r2.2 ≠ 0 then
      some ([], r2.2)
    else
      if cutOk none (some a0) r2.1.length then
        some (cut' r2.1 none (some a0), 0)
      else none
def M_conf_Picks (a0 : T_api_Conf) (a1 : Int) (a2 : Int) : Option ((List Int) × Int) :=
  (M_conf_at a0 a2) >>= fun r1 =>
  ((
    if r1 = false then
      some true
    else
      (M_conf_within_int a1 0 (IntKind.i64.wrap (a0.F_N - 1))) >>= fun r2 =>
      some (!r2)) : Option Bool) >>= fun j3 =>
  if j3 = true then
    some ([], 1)
  else
    (M_draw_Pick a0.F_Batch (a0.F_L.length : Int) a0.F_Seed [a1, a2]) >>= fun r4 =>
    some (r4.1, r4.2)
def M_thrumref08_At_l0 (a1 : List Int) (x0 : Int) (x1 : Int) : Option Int :=
  if x0 < (a1.length : Int) then
    if 0 ≤ x0 ∧ x0 < (a1.length : Int) then
      some (bXor .u64 (IntKind.u64.wrap ((bXor .u64 x1 (IntKind.u64.wrap (at' a1 x0))) * 11400714819323198485)) (sShr .u64 (IntKind.u64.wrap ((bXor .u64 x1 (IntKind.u64.wrap (at' a1 x0))) * 11400714819323198485)) 29)) >>= fun y1 =>
      M_thrumref08_At_l0 a1 (IntKind.i64.wrap (x0 + 1)) y1
    else none
  else
    some x1
  partial_fixpoint
def M_thrumref08_At (a0 : Int) (a1 : List Int) : Option Int :=
  (M_thrumref08_At_l0 a1 0 a0) >>= fun j3 =>
  some (bXor .u64 (IntKind.u64.wrap (j3 * 13787848793156543929)) (sShr .u64 (IntKind.u64.wrap (j3 * 13787848793156543929)) 32))
def M_thrumref08_Below (a0 : Int) (a1 : Int) (a2 : List Int) : Option (Int × Int) :=
  if a0 = 0 then
    some (0, 1)
  else
    (M_thrumref08_At a1 a2) >>= fun r1 =>
    if a0 ≠ 0 then
      some (Int.tmod r1 a0, 0)
    else none
def M_thrumref08_Order_l0 (a0 : Int) (a1 : Int) (a2 : List Int) (y1 : List Int) (x0 : Int) (x1 : List Int) : Option (List Int) :=
  if x0 < (y1.length : Int) then
    if 0 ≤ x0 ∧ x0 < (x1.length : Int) then
      M_thrumref08_Order_l0 a0 a1 a2 y1 (IntKind.i64.wrap (x0 + 1)) (x1.set (Int.toNat x0) x0)
    else none
  else
    some x1
  partial_fixpoint
def M_thrumref08_Order_l1 (a1 : Int) (a2 : List Int) (x0 : Int) (x1 : List Int) : Option (List Int) :=
  if x0 ≥ 1 then
    if room 8 (a2 : List Int).length then
      if room 8 (a2 ++ [x0]).length then
        (M_thrumref08_Below (IntKind.u64.wrap (IntKind.i64.wrap (x0 + 1))) a1 (a2 ++ [x0])) >>= fun r4 =>
        if 0 ≤ x0 ∧ x0 < (x1.length : Int) then
          if 0 ≤ r4.1 ∧ r4.1 < (x1.length : Int) then
            if 0 ≤ x0 ∧ x0 < (x1.length : Int) then
              some (x1.set (Int.toNat x0) (at' x1 r4.1)) >>= fun y5 =>
              if 0 ≤ r4.1 ∧ r4.1 < (y5.length : Int) then
                some (y5.set (Int.toNat r4.1) (at' x1 x0)) >>= fun y7 =>
                M_thrumref08_Order_l1 a1 a2 (IntKind.i64.wrap (x0 - 1)) y7
              else none
            else none
          else none
        else none
      else none
    else none
  else
    some x1
  partial_fixpoint
def M_thrumref08_Order (a0 : Int) (a1 : Int) (a2 : List Int) : Option ((List Int) × Int) :=
  if a0 < 0 then
    some ([], 1)
  else
    if a0 > 4096 then
      some ([], 3)
    else
      if 0 ≤ a0 ∧ a0 ≤ a0 ∧ a0 ≤ 140737488355328 ∧ a0 * ((8 : Nat) : Int) ≤ 140737488355328 then
        some (List.replicate (Int.toNat a0) 0) >>= fun y1 =>
        (M_thrumref08_Order_l0 a0 a1 a2 y1 0 y1) >>= fun j3 =>
        (M_thrumref08_Order_l1 a1 a2 (IntKind.i64.wrap (a0 - 1)) j3) >>= fun j9 =>
        some (j9, 0)
      else none
def M_thrumref08_Pick (a0 : Int) (a1 : Int) (a2 : Int) (a3 : List Int) : Option ((List Int) × Int) :=
  ((
    if a0 < 0 then
      some true
    else
      some (decide (a0 > a1))) : Option Bool) >>= fun j1 =>
  if j1 = true then
    some ([], 1)
  else
    (M_thrumref08_Order a1 a2 a3) >>= fun r2 =>
    if r2.2 ≠ 0 then
      some ([], r2.2)
    else
      if cutOk none (some a0) r2.1.length then
        some (cut' r2.1 none (some a0), 0)
      else none
def M_thrumref18_Picks (a0 : T_api_Conf) (a1 : Int) (a2 : Int) : Option ((List Int) × Int) :=
  (M_thrumref18_Check a0) >>= fun r1 =>
  ((
    if r1 ≠ 0 then
      some true
    else
      some (decide (a2 < 0))) : Option Bool) >>= fun j2 =>
  ((
    if j2 = true then
      some true
    else
      some (decide (a2 > 1073741824))) : Option Bool) >>= fun j3 =>
  ((
    if j3 = true then
      some true
    else
      some (decide (a1 < 0))) : Option Bool) >>= fun j4 =>
  ((
    if j4 = true then
      some true
    else
      some (decide (a1 ≥ a0.F_N))) : Option Bool) >>= fun j5 =>
  if j5 = true then
    some ([], 1)
  else
    (M_thrumref08_Pick a0.F_Batch (a0.F_L.length : Int) a0.F_Seed [a1, a2]) >>= fun r6 =>
    some (r6.1, r6.2)
def M_thrumref06_Equal_l0 (a0 : List Int) (a1 : List Int) (x0 : Int) : Option (Sum Bool Unit) :=
  if x0 < (a0.length : Int) then
    if 0 ≤ x0 ∧ x0 < (a0.length : Int) then
      if 0 ≤ x0 ∧ x0 < (a1.length : Int) then
        if (at' a0 x0) ≠ (at' a1 x0) then
          some (.inl false)
        else
          M_thrumref06_Equal_l0 a0 a1 (IntKind.i64.wrap (x0 + 1))
      else none
    else none
  else
    some (.inr ())
  partial_fixpoint
def M_thrumref06_Equal (a0 : List Int) (a1 : List Int) : Option Bool :=
  if (a0.length : Int) ≠ (a1.length : Int) then
    some false
  else
    (M_thrumref06_Equal_l0 a0 a1 0) >>= fun e => match e with
    | .inl r => some r
    | .inr j1 =>
      some true
def M_thrumlaw18_ConfTells (a0 : T_api_Conf) (a1 : Int) (a2 : Int) (a3 : Int) : Option Bool :=
  (M_thrumlaw18_live) >>= fun r1 =>
  if r1 = false then
    some false
  else
    (M_thrumref18_Few a0) >>= fun r2 =>
    if r2 = false then
      some r1
    else
      (M_conf_How a0 a2) >>= fun r3 =>
      (M_thrumref18_How a0 a2) >>= fun r4 =>
      (M_conf_Picks a0 a1 a2) >>= fun r5 =>
      (M_thrumref18_Picks a0 a1 a2) >>= fun r6 =>
      (M_conf_Keep a0.F_Batch a3 a0.F_Warm a2) >>= fun r7 =>
      (M_thrumref18_Keep a0.F_Batch a3 a0.F_Warm a2) >>= fun r8 =>
      if r1 = true then
        (M_conf_Check a0) >>= fun r9 =>
        (M_thrumref18_Check a0) >>= fun r10 =>
        if r9 = r10 then
          if ([r3.1, r3.2.1, r3.2.2.1] : List Int) = [r4.1, r4.2.1, r4.2.2.1] then
            if r3.2.2.2 = r4.2.2.2 then
              (M_thrumref06_Equal r5.1 r6.1) >>= fun r11 =>
              if r11 = true then
                if r5.2 = r6.2 then
                  if r7.1 = r8.1 then
                    some (r7.2 == r8.2)
                  else
                    some false
                else
                  some false
              else
                some false
            else
              some false
          else
            some false
        else
          some false
      else
        some false
end Go.Proofs.YtnmlihfpenjeiaaGreat.Abs
