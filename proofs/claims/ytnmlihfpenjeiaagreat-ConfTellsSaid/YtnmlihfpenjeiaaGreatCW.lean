/- Walks of functions, printed by a program. Conditions: none. -/
import Derived.Test.YtnmlihfpenjeiaaGreatProg
import Derived.Test.YtnmlihfpenjeiaaGreatAbsG8
import Derived.Test.YtnmlihfpenjeiaaGreatCM
namespace Go.Proofs.YtnmlihfpenjeiaaGreat.Abs
open Go Go.RowKit
set_option linter.unusedVariables false
set_option maxRecDepth 100000
open Z
def T_api_Model.e : Enc T_api_Model := ⟨T_api_Model.en, 5, fun _ => rfl⟩
def T_api_How.e : Enc T_api_How := ⟨T_api_How.en, 3, fun _ => rfl⟩
def T_api_Sample.e : Enc T_api_Sample := ⟨T_api_Sample.en, 2, fun _ => rfl⟩
def T_api_Conf.e : Enc T_api_Conf := ⟨T_api_Conf.en, 16, fun _ => rfl⟩
def T_model_straight.e : Enc T_model_straight := ⟨T_model_straight.en, 5, fun _ => rfl⟩
def T_model_classes.e : Enc T_model_classes := ⟨T_model_classes.en, 5, fun _ => rfl⟩
def T_model_layers.e : Enc T_model_layers := ⟨T_model_layers.en, 5, fun _ => rfl⟩
abbrev HS {ρ : Type} (n : Nat) (m : Option ρ) (ds : List D) (en : ρ → PV) : Prop := Sg.Holds (P := Tryz.prog) ⟨n, m, ds, en⟩
abbrev HG {ρ : Type} (n : Nat) (m : Option ρ) (ps : List PV) (bx : List (Tg × List PV)) (en : ρ → PV) (bx' : ρ → List (Tg × List PV)) : Prop := SgG.Holds (P := Tryz.prog) ⟨n, m, ps, bx, en, bx'⟩
def en_conf_within_int (v : Bool) : PV := bB v
noncomputable abbrev F_conf_within_int : Fe := .of Tryz.prog 24 en_conf_within_int
theorem nl_conf_within_int : ∀ v, (en_conf_within_int v).noLst := fun _ => trivial
theorem ok_conf_within_int (a0 : Int) (a1 : Int) (a2 : Int) : HS 24 (M_conf_within_int a0 a1 a2) [.int .i64 a0, .int .i64 a1, .int .i64 a2] en_conf_within_int := Tr.fn (F := F_conf_within_int)
 (.join 10 4 (γ := Bool) ⟨fun x => [(14, bB x)], [], fun _ => [], []⟩
  (.ite 0 10 (a0 ≥ a1)
  (.ret 5 (decide (a0 ≤ a2)))
  (.ret 5 false))
  fun j1 => .ret 3 j1)
def en_conf_Keep (v : Int × Int) : PV := .tup [nI v.1, nI v.2]
noncomputable abbrev F_conf_Keep : Fe := .of Tryz.prog 17 en_conf_Keep
theorem nl_conf_Keep : ∀ v, (en_conf_Keep v).noLst := fun _ => ⟨trivial, trivial, trivial⟩
theorem ok_conf_Keep (a0 : Int) (a1 : Int) (a2 : Int) (a3 : Int) : HS 17 (M_conf_Keep a0 a1 a2 a3) [.int .i64 a0, .int .i64 a1, .int .i64 a2, .int .i64 a3] en_conf_Keep := Tr.fn (F := F_conf_Keep)
 (.call 10 (ok_conf_within_int a0 1 4096) nl_conf_within_int fun r1 => .join 2 5 (γ := Bool) ⟨fun x => [(19, bB x)], [0, 1, 2, 3], fun _ => [], []⟩
  (.iteX 0 14 (r1)
  (.ret 6 true)
  (.call 2 (ok_conf_within_int a1 0 a0) nl_conf_within_int fun r2 => .ret 3 (!r2)))
  fun j3 => .join 1 4 (γ := Bool) ⟨fun x => [(24, bB x)], [0, 1, 2, 3], fun _ => [], []⟩
  (.iteB 0 20 (j3)
  (.ret 5 true)
  (.call 1 (ok_conf_within_int a2 0 1048576) nl_conf_within_int fun r4 => .ret 3 (!r4)))
  fun j5 => .join 1 4 (γ := Bool) ⟨fun x => [(29, bB x)], [0, 1, 2, 3], fun _ => [], []⟩
  (.iteB 0 25 (j5)
  (.ret 5 true)
  (.call 1 (ok_conf_within_int a3 0 1073741824) nl_conf_within_int fun r6 => .ret 3 (!r6)))
  fun j7 => .iteB 2 10 (j7)
  (.ret 9 (0, 1))
  (.ite 8 30 (a3 ≥ a2)
  (.ret 10 (a1, 0))
  (.rd 12 (a2 ≠ 0) (nI (IntKind.i64.wrap (Int.tdiv (IntKind.i64.wrap ((IntKind.i64.wrap (a0 - a1)) * a3)) a2))) <| .ret 5 (IntKind.i64.wrap (a0 - (IntKind.i64.wrap (Int.tdiv (IntKind.i64.wrap ((IntKind.i64.wrap (a0 - a1)) * a3)) a2))), 0))))
noncomputable abbrev F_linear_Dim : Fe := .of Tryz.prog 216 en_conf_Keep
theorem ok_linear_Dim (a0 : Int) : HS 216 (M_linear_Dim a0) [.int .i64 a0] en_conf_Keep := Tr.fn (F := F_linear_Dim)
 (.join 11 3 (γ := Bool) ⟨fun x => [(9, bB x)], [0], fun _ => [], []⟩
  (.ite 0 6 (a0 < 1)
  (.ret 4 true)
  (.ret 4 (decide (a0 > 16))))
  fun j1 => .iteB 1 9 (j1)
  (.ret 8 (0, 1))
  (.ret 10 (IntKind.i64.wrap (a0 + 1), 0)))
noncomputable abbrev F_thrum_model_straight_dim : Fe := .of Tryz.prog 212 en_conf_Keep
theorem ok_thrum_model_straight_dim (a0 : T_model_straight) : HS 212 (M_thrum_model_straight_dim a0) [.agg [.int .i64 a0.F_Model.F_Kind, .int .i64 a0.F_Model.F_In, .int .i64 a0.F_Model.F_Out, .int .i64 a0.F_Model.F_Hid, .int .i64 a0.F_Model.F_Frac]] en_conf_Keep := Tr.fn (F := F_thrum_model_straight_dim)
 (.call 11 (ok_linear_Dim a0.F_Model.F_In) nl_conf_Keep fun r1 => .ret 6 (r1.1, r1.2))
noncomputable abbrev F_soft_classes : Fe := .of Tryz.prog 248 en_conf_within_int
theorem ok_soft_classes (a0 : Int) : HS 248 (M_soft_classes a0) [.int .i64 a0] en_conf_within_int := Tr.fn (F := F_soft_classes)
 (.join 9 3 (γ := Bool) ⟨fun x => [(8, bB x)], [], fun _ => [], []⟩
  (.ite 0 5 (a0 > 1)
  (.ret 4 (decide (a0 ≤ 8)))
  (.ret 4 false))
  fun j1 => .ret 3 j1)
noncomputable abbrev F_soft_Dim : Fe := .of Tryz.prog 245 en_conf_Keep
theorem ok_soft_Dim (a0 : Int) (a1 : Int) : HS 245 (M_soft_Dim a0 a1) [.int .i64 a0, .int .i64 a1] en_conf_Keep := Tr.fn (F := F_soft_Dim)
 (.call 8 (ok_linear_Dim a0) nl_conf_Keep fun r1 => .join 12 4 (γ := Bool) ⟨fun x => [(19, bB x)], [6, 1], fun _ => [], []⟩
  (.iteN 0 15 (r1.2 = 0)
  (.ret 5 true)
  (.call 1 (ok_soft_classes a1) nl_conf_within_int fun r2 => .ret 3 (!r2)))
  fun j3 => .iteB 1 19 (j3)
  (.ret 8 (0, 1))
  (.ret 11 (IntKind.i64.wrap (r1.1 * a1), 0)))
noncomputable abbrev F_thrum_model_classes_dim : Fe := .of Tryz.prog 241 en_conf_Keep
theorem ok_thrum_model_classes_dim (a0 : T_model_classes) : HS 241 (M_thrum_model_classes_dim a0) [.agg [.int .i64 a0.F_Model.F_Kind, .int .i64 a0.F_Model.F_In, .int .i64 a0.F_Model.F_Out, .int .i64 a0.F_Model.F_Hid, .int .i64 a0.F_Model.F_Frac]] en_conf_Keep := Tr.fn (F := F_thrum_model_classes_dim)
 (.call 14 (ok_soft_Dim a0.F_Model.F_In a0.F_Model.F_Out) nl_conf_Keep fun r1 => .ret 6 (r1.1, r1.2))
noncomputable abbrev F_mlp_hides : Fe := .of Tryz.prog 275 en_conf_within_int
theorem ok_mlp_hides (a0 : Int) : HS 275 (M_mlp_hides a0) [.int .i64 a0] en_conf_within_int := Tr.fn (F := F_mlp_hides)
 (.join 9 3 (γ := Bool) ⟨fun x => [(8, bB x)], [], fun _ => [], []⟩
  (.ite 0 5 (a0 > 0)
  (.ret 4 (decide (a0 ≤ 8)))
  (.ret 4 false))
  fun j1 => .ret 3 j1)
noncomputable abbrev F_mlp_Dim : Fe := .of Tryz.prog 272 en_conf_Keep
theorem ok_mlp_Dim (a0 : Int) (a1 : Int) : HS 272 (M_mlp_Dim a0 a1) [.int .i64 a0, .int .i64 a1] en_conf_Keep := Tr.fn (F := F_mlp_Dim)
 (.call 8 (ok_linear_Dim a0) nl_conf_Keep fun r1 => .join 12 4 (γ := Bool) ⟨fun x => [(19, bB x)], [6, 1], fun _ => [], []⟩
  (.iteN 0 15 (r1.2 = 0)
  (.ret 5 true)
  (.call 1 (ok_mlp_hides a1) nl_conf_within_int fun r2 => .ret 3 (!r2)))
  fun j3 => .iteB 1 19 (j3)
  (.ret 8 (0, 1))
  (.ret 14 (IntKind.i64.wrap ((IntKind.i64.wrap ((IntKind.i64.wrap (a1 * r1.1)) + a1)) + 1), 0)))
noncomputable abbrev F_thrum_model_layers_dim : Fe := .of Tryz.prog 268 en_conf_Keep
theorem ok_thrum_model_layers_dim (a0 : T_model_layers) : HS 268 (M_thrum_model_layers_dim a0) [.agg [.int .i64 a0.F_Model.F_Kind, .int .i64 a0.F_Model.F_In, .int .i64 a0.F_Model.F_Out, .int .i64 a0.F_Model.F_Hid, .int .i64 a0.F_Model.F_Frac]] en_conf_Keep := Tr.fn (F := F_thrum_model_layers_dim)
 (.call 14 (ok_mlp_Dim a0.F_Model.F_In a0.F_Model.F_Hid) nl_conf_Keep fun r1 => .ret 6 (r1.1, r1.2))
def en_model_of : R_model_of → PV
 | .inl v => .tup [.d (.nilif), nI v.1, nI v.2]
 | .inr (.inl v) => .tup [.ifc 78 (.agg [nI v.1, nI v.2.1, nI v.2.2.1, nI v.2.2.2.1, nI v.2.2.2.2.1]), nI v.2.2.2.2.2.1, nI v.2.2.2.2.2.2]
 | .inr (.inr (.inl v)) => .tup [.ifc 79 (.agg [nI v.1, nI v.2.1, nI v.2.2.1, nI v.2.2.2.1, nI v.2.2.2.2.1]), nI v.2.2.2.2.2.1, nI v.2.2.2.2.2.2]
 | .inr (.inr (.inr v)) => .tup [.ifc 80 (.agg [nI v.1, nI v.2.1, nI v.2.2.1, nI v.2.2.2.1, nI v.2.2.2.2.1]), nI v.2.2.2.2.2.1, nI v.2.2.2.2.2.2]
noncomputable abbrev F_model_of : Fe := .of Tryz.prog 29 en_model_of
theorem nl_model_of : ∀ v, (en_model_of v).noLst
 | .inl _ => ⟨trivial, trivial, trivial, trivial⟩
 | .inr (.inl _) => ⟨⟨trivial, trivial, trivial, trivial, trivial, trivial⟩, trivial, trivial, trivial⟩
 | .inr (.inr (.inl _)) => ⟨⟨trivial, trivial, trivial, trivial, trivial, trivial⟩, trivial, trivial, trivial⟩
 | .inr (.inr (.inr _)) => ⟨⟨trivial, trivial, trivial, trivial, trivial, trivial⟩, trivial, trivial, trivial⟩
theorem ok_model_of (a0 : T_api_Model) : HS 29 (M_model_of a0) [.agg [.int .i64 a0.F_Kind, .int .i64 a0.F_In, .int .i64 a0.F_Out, .int .i64 a0.F_Hid, .int .i64 a0.F_Frac]] en_model_of := Tr.fn (F := F_model_of)
 (.look 30 <| .lk a0.F_Kind 0
  (.join 17 4 (γ := Bool) ⟨fun x => [(39, bB x)], [6, 1], fun _ => [], [.s 15]⟩
  (.ite 0 35 (a0.F_Frac < 0)
  (.ret 5 true)
  (.ret 5 (decide (a0.F_Frac > 30))))
  fun j1 => .iteB 1 40 (j1)
  (.ret 29 (.inl (0, 1) : R_model_of))
  (.iteN 4 44 (a0.F_Kind = 1)
  (.iteN 6 50 (a0.F_Out = 0)
  (.ret 19 (.inl (0, 1) : R_model_of))
  (.iteN 4 54 (a0.F_Kind = 2)
  (.iteN 6 59 (a0.F_Hid = 0)
  (.ret 9 (.inl (0, 1) : R_model_of))
  (.call 5 (ok_thrum_model_straight_dim (⟨a0⟩ : T_model_straight)) nl_conf_Keep fun r2 => .ret 16 (.inr (.inl (a0.F_Kind, a0.F_In, a0.F_Out, a0.F_Hid, a0.F_Frac, r2.1, r2.2)) : R_model_of)))
  (.call 11 (ok_thrum_model_straight_dim (⟨a0⟩ : T_model_straight)) nl_conf_Keep fun r3 => .ret 16 (.inr (.inl (a0.F_Kind, a0.F_In, a0.F_Out, a0.F_Hid, a0.F_Frac, r3.1, r3.2)) : R_model_of))))
  (.iteN 10 54 (a0.F_Kind = 2)
  (.iteN 6 59 (a0.F_Hid = 0)
  (.ret 9 (.inl (0, 1) : R_model_of))
  (.call 5 (ok_thrum_model_straight_dim (⟨a0⟩ : T_model_straight)) nl_conf_Keep fun r4 => .ret 16 (.inr (.inl (a0.F_Kind, a0.F_In, a0.F_Out, a0.F_Hid, a0.F_Frac, r4.1, r4.2)) : R_model_of)))
  (.call 11 (ok_thrum_model_straight_dim (⟨a0⟩ : T_model_straight)) nl_conf_Keep fun r5 => .ret 16 (.inr (.inl (a0.F_Kind, a0.F_In, a0.F_Out, a0.F_Hid, a0.F_Frac, r5.1, r5.2)) : R_model_of)))))
  (.lk a0.F_Kind 1
  (.join 17 4 (γ := Bool) ⟨fun x => [(39, bB x)], [6, 1], fun _ => [], [.s 15]⟩
  (.ite 0 35 (a0.F_Frac < 0)
  (.ret 5 true)
  (.ret 5 (decide (a0.F_Frac > 30))))
  fun j6 => .iteB 1 40 (j6)
  (.ret 29 (.inl (0, 1) : R_model_of))
  (.iteN 4 44 (a0.F_Kind = 1)
  (.iteN 6 50 (a0.F_Out = 0)
  (.ret 19 (.inl (0, 1) : R_model_of))
  (.iteN 4 54 (a0.F_Kind = 2)
  (.iteN 6 59 (a0.F_Hid = 0)
  (.ret 9 (.inl (0, 1) : R_model_of))
  (.call 5 (ok_thrum_model_classes_dim (⟨a0⟩ : T_model_classes)) nl_conf_Keep fun r7 => .ret 16 (.inr (.inr (.inl (a0.F_Kind, a0.F_In, a0.F_Out, a0.F_Hid, a0.F_Frac, r7.1, r7.2))) : R_model_of)))
  (.call 11 (ok_thrum_model_classes_dim (⟨a0⟩ : T_model_classes)) nl_conf_Keep fun r8 => .ret 16 (.inr (.inr (.inl (a0.F_Kind, a0.F_In, a0.F_Out, a0.F_Hid, a0.F_Frac, r8.1, r8.2))) : R_model_of))))
  (.iteN 10 54 (a0.F_Kind = 2)
  (.iteN 6 59 (a0.F_Hid = 0)
  (.ret 9 (.inl (0, 1) : R_model_of))
  (.call 5 (ok_thrum_model_classes_dim (⟨a0⟩ : T_model_classes)) nl_conf_Keep fun r9 => .ret 16 (.inr (.inr (.inl (a0.F_Kind, a0.F_In, a0.F_Out, a0.F_Hid, a0.F_Frac, r9.1, r9.2))) : R_model_of)))
  (.call 11 (ok_thrum_model_classes_dim (⟨a0⟩ : T_model_classes)) nl_conf_Keep fun r10 => .ret 16 (.inr (.inr (.inl (a0.F_Kind, a0.F_In, a0.F_Out, a0.F_Hid, a0.F_Frac, r10.1, r10.2))) : R_model_of)))))
  (.lk a0.F_Kind 2
  (.join 17 4 (γ := Bool) ⟨fun x => [(39, bB x)], [6, 1], fun _ => [], [.s 15]⟩
  (.ite 0 35 (a0.F_Frac < 0)
  (.ret 5 true)
  (.ret 5 (decide (a0.F_Frac > 30))))
  fun j11 => .iteB 1 40 (j11)
  (.ret 29 (.inl (0, 1) : R_model_of))
  (.iteN 4 44 (a0.F_Kind = 1)
  (.iteN 6 50 (a0.F_Out = 0)
  (.ret 19 (.inl (0, 1) : R_model_of))
  (.iteN 4 54 (a0.F_Kind = 2)
  (.iteN 6 59 (a0.F_Hid = 0)
  (.ret 9 (.inl (0, 1) : R_model_of))
  (.call 5 (ok_thrum_model_layers_dim (⟨a0⟩ : T_model_layers)) nl_conf_Keep fun r12 => .ret 16 (.inr (.inr (.inr (a0.F_Kind, a0.F_In, a0.F_Out, a0.F_Hid, a0.F_Frac, r12.1, r12.2))) : R_model_of)))
  (.call 11 (ok_thrum_model_layers_dim (⟨a0⟩ : T_model_layers)) nl_conf_Keep fun r13 => .ret 16 (.inr (.inr (.inr (a0.F_Kind, a0.F_In, a0.F_Out, a0.F_Hid, a0.F_Frac, r13.1, r13.2))) : R_model_of))))
  (.iteN 10 54 (a0.F_Kind = 2)
  (.iteN 6 59 (a0.F_Hid = 0)
  (.ret 9 (.inl (0, 1) : R_model_of))
  (.call 5 (ok_thrum_model_layers_dim (⟨a0⟩ : T_model_layers)) nl_conf_Keep fun r14 => .ret 16 (.inr (.inr (.inr (a0.F_Kind, a0.F_In, a0.F_Out, a0.F_Hid, a0.F_Frac, r14.1, r14.2))) : R_model_of)))
  (.call 11 (ok_thrum_model_layers_dim (⟨a0⟩ : T_model_layers)) nl_conf_Keep fun r15 => .ret 16 (.inr (.inr (.inr (a0.F_Kind, a0.F_In, a0.F_Out, a0.F_Hid, a0.F_Frac, r15.1, r15.2))) : R_model_of)))))
  (.lk0 <| .ret 51 (.inl (0, 1) : R_model_of)))))
noncomputable abbrev F_model_Dim : Fe := .of Tryz.prog 11 en_conf_Keep
theorem ok_model_Dim (a0 : T_api_Model) : HS 11 (M_model_Dim a0) [.agg [.int .i64 a0.F_Kind, .int .i64 a0.F_In, .int .i64 a0.F_Out, .int .i64 a0.F_Hid, .int .i64 a0.F_Frac]] en_conf_Keep := Tr.fn (F := F_model_Dim)
 (.callS4 9 (ok_model_of a0) nl_model_of
  (fun r1 => .ret 16 (r1.1, r1.2))
  (fun r2 => .ret 16 (r2.2.2.2.2.2.1, r2.2.2.2.2.2.2))
  (fun r3 => .ret 16 (r3.2.2.2.2.2.1, r3.2.2.2.2.2.2))
  (fun r4 => .ret 16 (r4.2.2.2.2.2.1, r4.2.2.2.2.2.2)))
def en_press_ways (v : Unit) : PV := .ptr (.s 14) 0
def bx_press_ways (v : Unit) : List (Tg × List PV) := [(.s 14, [.d (.int .i64 0), .d (.agg [.clo (.func 40) [] [], .clo (.func 41) [] [], .clo (.func 42) [] [], .clo (.func 44) [] []]), .d (.int .i64 1), .d (.agg [.clo (.func 46) [] [], .clo (.func 47) [] [], .clo (.func 49) [] [], .clo (.func 51) [] []]), .d (.int .i64 2), .d (.agg [.clo (.func 53) [] [], .clo (.func 54) [] [], .clo (.func 56) [] [], .clo (.func 57) [] []]), .d (.int .i64 3), .d (.agg [.clo (.func 40) [] [], .clo (.func 59) [] [], .clo (.func 61) [] [], .clo (.func 62) [] []])])]
noncomputable abbrev F_press_ways : Fe := .of Tryz.prog 31 en_press_ways bx_press_ways
theorem ok_press_ways : HG 31 M_press_ways [] [] en_press_ways bx_press_ways := Tr.fnG (F := F_press_ways)
 (.ret 19 ())
noncomputable abbrev F_press_bare : Fe := .of Tryz.prog 40 en_conf_within_int
theorem ok_press_bare (a0 : T_api_How) (a1 : Int) : HS 40 (M_press_bare a0 a1) [.agg [.int .i64 a0.F_Scheme, .int .i64 a0.F_K, .int .i64 a0.F_Wide], .int .i64 a1] en_conf_within_int := Tr.fn (F := F_press_bare)
 (.join 11 4 (γ := Bool) ⟨fun x => [(12, bB x)], [], fun _ => [], []⟩
  (.ite 0 8 (a0.F_K = 0)
  (.ret 5 (a0.F_Wide == 0))
  (.ret 5 false))
  fun j1 => .ret 3 j1)
noncomputable abbrev F_press_ways_3 : Fe := .of Tryz.prog 46 en_conf_within_int
theorem ok_press_ways_3 (a0 : T_api_How) (a1 : Int) : HS 46 (M_press_ways_3 a0 a1) [.agg [.int .i64 a0.F_Scheme, .int .i64 a0.F_K, .int .i64 a0.F_Wide], .int .i64 a1] en_conf_within_int := Tr.fn (F := F_press_ways_3)
 (.join 11 5 (γ := Bool) ⟨fun x => [(13, bB x)], [2], fun _ => [], [.s 15]⟩
  (.ite 0 8 (a0.F_K ≥ 0)
  (.ret 6 (decide (a0.F_K ≤ a1)))
  (.ret 6 false))
  fun j1 => .join 1 4 (γ := Bool) ⟨fun x => [(18, bB x)], [], fun _ => [], []⟩
  (.iteB 0 14 (j1)
  (.ret 5 (a0.F_Wide == 0))
  (.ret 5 false))
  fun j2 => .ret 3 j2)
noncomputable abbrev F_press_ways_7 : Fe := .of Tryz.prog 53 en_conf_within_int
theorem ok_press_ways_7 (a0 : T_api_How) (a1 : Int) : HS 53 (M_press_ways_7 a0 a1) [.agg [.int .i64 a0.F_Scheme, .int .i64 a0.F_K, .int .i64 a0.F_Wide], .int .i64 a1] en_conf_within_int := Tr.fn (F := F_press_ways_7)
 (.join 11 4 (γ := Bool) ⟨fun x => [(12, bB x)], [2], fun _ => [], [.s 15]⟩
  (.ite 0 8 (a0.F_K = 0)
  (.ret 5 (decide (a0.F_Wide > 0)))
  (.ret 5 false))
  fun j1 => .join 1 4 (γ := Bool) ⟨fun x => [(17, bB x)], [], fun _ => [], []⟩
  (.iteB 0 13 (j1)
  (.ret 5 (decide (a0.F_Wide ≤ 8)))
  (.ret 5 false))
  fun j2 => .ret 3 j2)
def en_press_Check (v : Int) : PV := nI v
noncomputable abbrev F_press_Check : Fe := .of Tryz.prog 13 en_press_Check
theorem nl_press_Check : ∀ v, (en_press_Check v).noLst := fun _ => trivial
theorem ok_press_Check (a0 : T_api_How) (a1 : Int) : HS 13 (M_press_Check a0 a1) [.agg [.int .i64 a0.F_Scheme, .int .i64 a0.F_K, .int .i64 a0.F_Wide], .int .i64 a1] en_press_Check := Tr.fn (F := F_press_Check)
 (.draws 6 (.callG 2 [] [] ok_press_ways fun r1 => .hold 1 [] <| .hold 6 [] <| .cas 0 12 (a0.F_Scheme = (0 : Int)) (.d (.agg [.clo (.func 40) [] [], .clo (.func 41) [] [], .clo (.func 42) [] [], .clo (.func 44) [] []])) (.d (lookD a0.F_Scheme [(1, .agg [.clo (.func 46) [] [], .clo (.func 47) [] [], .clo (.func 49) [] [], .clo (.func 51) [] []]), (2, .agg [.clo (.func 53) [] [], .clo (.func 54) [] [], .clo (.func 56) [] [], .clo (.func 57) [] []]), (3, .agg [.clo (.func 40) [] [], .clo (.func 59) [] [], .clo (.func 61) [] [], .clo (.func 62) [] []])] (.agg [.nilfn, .nilfn, .nilfn, .nilfn]))) (.d (lookD a0.F_Scheme [(0, .agg [.clo (.func 40) [] [], .clo (.func 41) [] [], .clo (.func 42) [] [], .clo (.func 44) [] []]), (1, .agg [.clo (.func 46) [] [], .clo (.func 47) [] [], .clo (.func 49) [] [], .clo (.func 51) [] []]), (2, .agg [.clo (.func 53) [] [], .clo (.func 54) [] [], .clo (.func 56) [] [], .clo (.func 57) [] []]), (3, .agg [.clo (.func 40) [] [], .clo (.func 59) [] [], .clo (.func 61) [] [], .clo (.func 62) [] []])] (.agg [.nilfn, .nilfn, .nilfn, .nilfn]))) lookD_t lookD_f
  (.hold 2 [] <| .join 9 3 (γ := Bool) ⟨fun x => [(19, bB x)], [5, 2, 1], fun _ => [], [.s 1727, .s 15]⟩
  (.iteX 0 16 ((hasK a0.F_Scheme [0, 1, 2, 3]))
  (.ret 4 true)
  (.ret 4 (decide (a1 < 1))))
  fun j2 => .join 1 3 (γ := Bool) ⟨fun x => [(23, bB x)], [5, 2, 1], fun _ => [], [.s 1727, .s 15]⟩
  (.iteB 0 20 (j2)
  (.ret 4 true)
  (.ret 4 (decide (a1 > 4096))))
  fun j3 => .join 1 7 (γ := Bool) ⟨fun x => [(31, bB x)], [], fun _ => [], []⟩
  (.iteB 0 24 (j3)
  (.ret 8 true)
  (.call 4 (ok_press_bare a0 a1) nl_conf_within_int fun r4 => .ret 3 (!r4)))
  fun j5 => .iteB 1 31 (j5)
  (.ret 7 1)
  (.ret 7 0))
  (.cas 0 12 (a0.F_Scheme = (1 : Int)) (.d (.agg [.clo (.func 46) [] [], .clo (.func 47) [] [], .clo (.func 49) [] [], .clo (.func 51) [] []])) (.d (lookD a0.F_Scheme [(2, .agg [.clo (.func 53) [] [], .clo (.func 54) [] [], .clo (.func 56) [] [], .clo (.func 57) [] []]), (3, .agg [.clo (.func 40) [] [], .clo (.func 59) [] [], .clo (.func 61) [] [], .clo (.func 62) [] []])] (.agg [.nilfn, .nilfn, .nilfn, .nilfn]))) (.d (lookD a0.F_Scheme [(1, .agg [.clo (.func 46) [] [], .clo (.func 47) [] [], .clo (.func 49) [] [], .clo (.func 51) [] []]), (2, .agg [.clo (.func 53) [] [], .clo (.func 54) [] [], .clo (.func 56) [] [], .clo (.func 57) [] []]), (3, .agg [.clo (.func 40) [] [], .clo (.func 59) [] [], .clo (.func 61) [] [], .clo (.func 62) [] []])] (.agg [.nilfn, .nilfn, .nilfn, .nilfn]))) lookD_t lookD_f
  (.hold 2 [] <| .join 9 3 (γ := Bool) ⟨fun x => [(19, bB x)], [5, 2, 1], fun _ => [], [.s 1727, .s 15]⟩
  (.iteX 0 16 ((hasK a0.F_Scheme [0, 1, 2, 3]))
  (.ret 4 true)
  (.ret 4 (decide (a1 < 1))))
  fun j6 => .join 1 3 (γ := Bool) ⟨fun x => [(23, bB x)], [5, 2, 1], fun _ => [], [.s 1727, .s 15]⟩
  (.iteB 0 20 (j6)
  (.ret 4 true)
  (.ret 4 (decide (a1 > 4096))))
  fun j7 => .join 1 7 (γ := Bool) ⟨fun x => [(31, bB x)], [], fun _ => [], []⟩
  (.iteB 0 24 (j7)
  (.ret 8 true)
  (.call 4 (ok_press_ways_3 a0 a1) nl_conf_within_int fun r8 => .ret 3 (!r8)))
  fun j9 => .iteB 1 31 (j9)
  (.ret 7 1)
  (.ret 7 0))
  (.cas 0 12 (a0.F_Scheme = (2 : Int)) (.d (.agg [.clo (.func 53) [] [], .clo (.func 54) [] [], .clo (.func 56) [] [], .clo (.func 57) [] []])) (.d (lookD a0.F_Scheme [(3, .agg [.clo (.func 40) [] [], .clo (.func 59) [] [], .clo (.func 61) [] [], .clo (.func 62) [] []])] (.agg [.nilfn, .nilfn, .nilfn, .nilfn]))) (.d (lookD a0.F_Scheme [(2, .agg [.clo (.func 53) [] [], .clo (.func 54) [] [], .clo (.func 56) [] [], .clo (.func 57) [] []]), (3, .agg [.clo (.func 40) [] [], .clo (.func 59) [] [], .clo (.func 61) [] [], .clo (.func 62) [] []])] (.agg [.nilfn, .nilfn, .nilfn, .nilfn]))) lookD_t lookD_f
  (.hold 2 [] <| .join 9 3 (γ := Bool) ⟨fun x => [(19, bB x)], [5, 2, 1], fun _ => [], [.s 1727, .s 15]⟩
  (.iteX 0 16 ((hasK a0.F_Scheme [0, 1, 2, 3]))
  (.ret 4 true)
  (.ret 4 (decide (a1 < 1))))
  fun j10 => .join 1 3 (γ := Bool) ⟨fun x => [(23, bB x)], [5, 2, 1], fun _ => [], [.s 1727, .s 15]⟩
  (.iteB 0 20 (j10)
  (.ret 4 true)
  (.ret 4 (decide (a1 > 4096))))
  fun j11 => .join 1 7 (γ := Bool) ⟨fun x => [(31, bB x)], [], fun _ => [], []⟩
  (.iteB 0 24 (j11)
  (.ret 8 true)
  (.call 4 (ok_press_ways_7 a0 a1) nl_conf_within_int fun r12 => .ret 3 (!r12)))
  fun j13 => .iteB 1 31 (j13)
  (.ret 7 1)
  (.ret 7 0))
  (.cas 0 12 (a0.F_Scheme = (3 : Int)) (.d (.agg [.clo (.func 40) [] [], .clo (.func 59) [] [], .clo (.func 61) [] [], .clo (.func 62) [] []])) (.d (lookD a0.F_Scheme [] (.agg [.nilfn, .nilfn, .nilfn, .nilfn]))) (.d (lookD a0.F_Scheme [(3, .agg [.clo (.func 40) [] [], .clo (.func 59) [] [], .clo (.func 61) [] [], .clo (.func 62) [] []])] (.agg [.nilfn, .nilfn, .nilfn, .nilfn]))) lookD_t lookD_f
  (.hold 2 [] <| .join 9 3 (γ := Bool) ⟨fun x => [(19, bB x)], [5, 2, 1], fun _ => [], [.s 1727, .s 15]⟩
  (.iteX 0 16 ((hasK a0.F_Scheme [0, 1, 2, 3]))
  (.ret 4 true)
  (.ret 4 (decide (a1 < 1))))
  fun j14 => .join 1 3 (γ := Bool) ⟨fun x => [(23, bB x)], [5, 2, 1], fun _ => [], [.s 1727, .s 15]⟩
  (.iteB 0 20 (j14)
  (.ret 4 true)
  (.ret 4 (decide (a1 > 4096))))
  fun j15 => .join 1 7 (γ := Bool) ⟨fun x => [(31, bB x)], [], fun _ => [], []⟩
  (.iteB 0 24 (j15)
  (.ret 8 true)
  (.call 4 (ok_press_bare a0 a1) nl_conf_within_int fun r16 => .ret 3 (!r16)))
  fun j17 => .iteB 1 31 (j17)
  (.ret 7 1)
  (.ret 7 0))
  (.hold 2 [] <| .join 9 3 (γ := Bool) ⟨fun x => [(19, bB x)], [5, 2, 1], fun _ => [], [.s 1727, .s 15]⟩
  (.iteX 0 16 ((hasK a0.F_Scheme [0, 1, 2, 3]))
  (.ret 4 true)
  (.ret 4 (decide (a1 < 1))))
  fun j18 => .join 1 3 (γ := Bool) ⟨fun x => [(23, bB x)], [5, 2, 1], fun _ => [], [.s 1727, .s 15]⟩
  (.iteB 0 20 (j18)
  (.ret 4 true)
  (.ret 4 (decide (a1 > 4096))))
  fun j19 => .join 1 7 (γ := Unit) ⟨fun x => [(31, bB true)], [], fun _ => [], []⟩
  (.iteB 0 24 (j19)
  (.ret 8 ())
  (.halt))
  fun j20 => .ret 8 1))))) (.hold 4 [] <| .callG 0 [] [] ok_press_ways fun r1 => .hold 1 [] <| .cas 4 12 (a0.F_Scheme = (0 : Int)) (.d (.agg [.clo (.func 40) [] [], .clo (.func 41) [] [], .clo (.func 42) [] [], .clo (.func 44) [] []])) (.d (lookD a0.F_Scheme [(1, .agg [.clo (.func 46) [] [], .clo (.func 47) [] [], .clo (.func 49) [] [], .clo (.func 51) [] []]), (2, .agg [.clo (.func 53) [] [], .clo (.func 54) [] [], .clo (.func 56) [] [], .clo (.func 57) [] []]), (3, .agg [.clo (.func 40) [] [], .clo (.func 59) [] [], .clo (.func 61) [] [], .clo (.func 62) [] []])] (.agg [.nilfn, .nilfn, .nilfn, .nilfn]))) (.d (lookD a0.F_Scheme [(0, .agg [.clo (.func 40) [] [], .clo (.func 41) [] [], .clo (.func 42) [] [], .clo (.func 44) [] []]), (1, .agg [.clo (.func 46) [] [], .clo (.func 47) [] [], .clo (.func 49) [] [], .clo (.func 51) [] []]), (2, .agg [.clo (.func 53) [] [], .clo (.func 54) [] [], .clo (.func 56) [] [], .clo (.func 57) [] []]), (3, .agg [.clo (.func 40) [] [], .clo (.func 59) [] [], .clo (.func 61) [] [], .clo (.func 62) [] []])] (.agg [.nilfn, .nilfn, .nilfn, .nilfn]))) lookD_t lookD_f
  (.hold 2 [] <| .join 9 3 (γ := Bool) ⟨fun x => [(19, bB x)], [5, 2, 1], fun _ => [], [.s 1727, .s 15]⟩
  (.iteX 0 16 ((hasK a0.F_Scheme [0, 1, 2, 3]))
  (.ret 4 true)
  (.ret 4 (decide (a1 < 1))))
  fun j2 => .join 1 3 (γ := Bool) ⟨fun x => [(23, bB x)], [5, 2, 1], fun _ => [], [.s 1727, .s 15]⟩
  (.iteB 0 20 (j2)
  (.ret 4 true)
  (.ret 4 (decide (a1 > 4096))))
  fun j3 => .join 1 7 (γ := Bool) ⟨fun x => [(31, bB x)], [], fun _ => [], []⟩
  (.iteB 0 24 (j3)
  (.ret 8 true)
  (.call 4 (ok_press_bare a0 a1) nl_conf_within_int fun r4 => .ret 3 (!r4)))
  fun j5 => .iteB 1 31 (j5)
  (.ret 7 1)
  (.ret 7 0))
  (.cas 0 12 (a0.F_Scheme = (1 : Int)) (.d (.agg [.clo (.func 46) [] [], .clo (.func 47) [] [], .clo (.func 49) [] [], .clo (.func 51) [] []])) (.d (lookD a0.F_Scheme [(2, .agg [.clo (.func 53) [] [], .clo (.func 54) [] [], .clo (.func 56) [] [], .clo (.func 57) [] []]), (3, .agg [.clo (.func 40) [] [], .clo (.func 59) [] [], .clo (.func 61) [] [], .clo (.func 62) [] []])] (.agg [.nilfn, .nilfn, .nilfn, .nilfn]))) (.d (lookD a0.F_Scheme [(1, .agg [.clo (.func 46) [] [], .clo (.func 47) [] [], .clo (.func 49) [] [], .clo (.func 51) [] []]), (2, .agg [.clo (.func 53) [] [], .clo (.func 54) [] [], .clo (.func 56) [] [], .clo (.func 57) [] []]), (3, .agg [.clo (.func 40) [] [], .clo (.func 59) [] [], .clo (.func 61) [] [], .clo (.func 62) [] []])] (.agg [.nilfn, .nilfn, .nilfn, .nilfn]))) lookD_t lookD_f
  (.hold 2 [] <| .join 9 3 (γ := Bool) ⟨fun x => [(19, bB x)], [5, 2, 1], fun _ => [], [.s 1727, .s 15]⟩
  (.iteX 0 16 ((hasK a0.F_Scheme [0, 1, 2, 3]))
  (.ret 4 true)
  (.ret 4 (decide (a1 < 1))))
  fun j6 => .join 1 3 (γ := Bool) ⟨fun x => [(23, bB x)], [5, 2, 1], fun _ => [], [.s 1727, .s 15]⟩
  (.iteB 0 20 (j6)
  (.ret 4 true)
  (.ret 4 (decide (a1 > 4096))))
  fun j7 => .join 1 7 (γ := Bool) ⟨fun x => [(31, bB x)], [], fun _ => [], []⟩
  (.iteB 0 24 (j7)
  (.ret 8 true)
  (.call 4 (ok_press_ways_3 a0 a1) nl_conf_within_int fun r8 => .ret 3 (!r8)))
  fun j9 => .iteB 1 31 (j9)
  (.ret 7 1)
  (.ret 7 0))
  (.cas 0 12 (a0.F_Scheme = (2 : Int)) (.d (.agg [.clo (.func 53) [] [], .clo (.func 54) [] [], .clo (.func 56) [] [], .clo (.func 57) [] []])) (.d (lookD a0.F_Scheme [(3, .agg [.clo (.func 40) [] [], .clo (.func 59) [] [], .clo (.func 61) [] [], .clo (.func 62) [] []])] (.agg [.nilfn, .nilfn, .nilfn, .nilfn]))) (.d (lookD a0.F_Scheme [(2, .agg [.clo (.func 53) [] [], .clo (.func 54) [] [], .clo (.func 56) [] [], .clo (.func 57) [] []]), (3, .agg [.clo (.func 40) [] [], .clo (.func 59) [] [], .clo (.func 61) [] [], .clo (.func 62) [] []])] (.agg [.nilfn, .nilfn, .nilfn, .nilfn]))) lookD_t lookD_f
  (.hold 2 [] <| .join 9 3 (γ := Bool) ⟨fun x => [(19, bB x)], [5, 2, 1], fun _ => [], [.s 1727, .s 15]⟩
  (.iteX 0 16 ((hasK a0.F_Scheme [0, 1, 2, 3]))
  (.ret 4 true)
  (.ret 4 (decide (a1 < 1))))
  fun j10 => .join 1 3 (γ := Bool) ⟨fun x => [(23, bB x)], [5, 2, 1], fun _ => [], [.s 1727, .s 15]⟩
  (.iteB 0 20 (j10)
  (.ret 4 true)
  (.ret 4 (decide (a1 > 4096))))
  fun j11 => .join 1 7 (γ := Bool) ⟨fun x => [(31, bB x)], [], fun _ => [], []⟩
  (.iteB 0 24 (j11)
  (.ret 8 true)
  (.call 4 (ok_press_ways_7 a0 a1) nl_conf_within_int fun r12 => .ret 3 (!r12)))
  fun j13 => .iteB 1 31 (j13)
  (.ret 7 1)
  (.ret 7 0))
  (.cas 0 12 (a0.F_Scheme = (3 : Int)) (.d (.agg [.clo (.func 40) [] [], .clo (.func 59) [] [], .clo (.func 61) [] [], .clo (.func 62) [] []])) (.d (lookD a0.F_Scheme [] (.agg [.nilfn, .nilfn, .nilfn, .nilfn]))) (.d (lookD a0.F_Scheme [(3, .agg [.clo (.func 40) [] [], .clo (.func 59) [] [], .clo (.func 61) [] [], .clo (.func 62) [] []])] (.agg [.nilfn, .nilfn, .nilfn, .nilfn]))) lookD_t lookD_f
  (.hold 2 [] <| .join 9 3 (γ := Bool) ⟨fun x => [(19, bB x)], [5, 2, 1], fun _ => [], [.s 1727, .s 15]⟩
  (.iteX 0 16 ((hasK a0.F_Scheme [0, 1, 2, 3]))
  (.ret 4 true)
  (.ret 4 (decide (a1 < 1))))
  fun j14 => .join 1 3 (γ := Bool) ⟨fun x => [(23, bB x)], [5, 2, 1], fun _ => [], [.s 1727, .s 15]⟩
  (.iteB 0 20 (j14)
  (.ret 4 true)
  (.ret 4 (decide (a1 > 4096))))
  fun j15 => .join 1 7 (γ := Bool) ⟨fun x => [(31, bB x)], [], fun _ => [], []⟩
  (.iteB 0 24 (j15)
  (.ret 8 true)
  (.call 4 (ok_press_bare a0 a1) nl_conf_within_int fun r16 => .ret 3 (!r16)))
  fun j17 => .iteB 1 31 (j17)
  (.ret 7 1)
  (.ret 7 0))
  (.hold 2 [] <| .join 9 3 (γ := Bool) ⟨fun x => [(19, bB x)], [5, 2, 1], fun _ => [], [.s 1727, .s 15]⟩
  (.iteX 0 16 ((hasK a0.F_Scheme [0, 1, 2, 3]))
  (.ret 4 true)
  (.ret 4 (decide (a1 < 1))))
  fun j18 => .join 1 3 (γ := Bool) ⟨fun x => [(23, bB x)], [5, 2, 1], fun _ => [], [.s 1727, .s 15]⟩
  (.iteB 0 20 (j18)
  (.ret 4 true)
  (.ret 4 (decide (a1 > 4096))))
  fun j19 => .join 1 7 (γ := Unit) ⟨fun x => [(31, bB true)], [], fun _ => [], []⟩
  (.iteB 0 24 (j19)
  (.ret 8 ())
  (.halt))
  fun j20 => .ret 8 1))))))
noncomputable abbrev F_conf_within_int64 : Fe := .of Tryz.prog 25 en_conf_within_int
theorem ok_conf_within_int64 (a0 : Int) (a1 : Int) (a2 : Int) : HS 25 (M_conf_within_int64 a0 a1 a2) [.int .i64 a0, .int .i64 a1, .int .i64 a2] en_conf_within_int := Tr.fn (F := F_conf_within_int64)
 (.join 10 4 (γ := Bool) ⟨fun x => [(14, bB x)], [], fun _ => [], []⟩
  (.ite 0 10 (a0 ≥ a1)
  (.ret 5 (decide (a0 ≤ a2)))
  (.ret 5 false))
  fun j1 => .ret 3 j1)
noncomputable abbrev F_linear_Check : Fe := .of Tryz.prog 217 en_press_Check
def S_linear_Check_l0 (a0 : Int) (a2 : List T_api_Sample) (x0 : Int) (x1 : Bool) : St := ⟨[(26, nI x0), (25, nI (a2.length : Int)), (24, .d (.lst (List.map T_api_Sample.en a2))), (9, bB x1), (0, nI a0), (2, .d (.lst (List.map T_api_Sample.en a2)))], []⟩
def E_linear_Check_l0 (a0 : Int) (a2 : List T_api_Sample) (x : Bool) : St := ⟨[(9, bB x), (2, .d (.lst (List.map T_api_Sample.en a2)))], []⟩
theorem ok_linear_Check_l0 (a0 : Int) (a2 : List T_api_Sample) : ∀ (x0 : Int) (x1 : Bool), Ok (M_linear_Check_l0 a0 a2 x0 x1) (LN F_linear_Check (.exit 0) (E_linear_Check_l0 a0 a2) 217 0 (S_linear_Check_l0 a0 a2 x0 x1)) := by
 refine M_linear_Check_l0.partial_correctness a0 a2 _ ?_
 intro f IH x0 x1
 exact Tr.lpN (F := F_linear_Check) (X := Int × Bool)
  (.ite 6 27 (x0 < (a2.length : Int))
   (.idx 6 T_api_Sample.e a2 x0 <| .join 7 6 (γ := Bool) ⟨fun x => [(37, bB x)], [26, 25, 24, 0, 2], fun _ => [], []⟩
   (.iteB 0 31 (x1)
   (.len 2 eI ((at' a2 x0).F_X) <| .ret 4 ((((at' a2 x0).F_X).length : Int) == a0))
   (.ret 7 false))
   fun j2 => .again 7 (IntKind.i64.wrap (x0 + 1), j2))
   (.ret 4 x1)) _ fun x r => IH x.1 x.2 r
theorem ok_linear_Check (a0 : Int) (a1 : List Int) (a2 : List T_api_Sample) : HS 217 (M_linear_Check a0 a1 a2) [.int .i64 a0, .lst (List.map (D.int .i64) a1), .lst (List.map T_api_Sample.en a2)] en_press_Check := Tr.fn (F := F_linear_Check)
 (.call 7 (ok_linear_Dim a0) nl_conf_Keep fun r1 => .iteN 12 18 (r1.2 = 0)
  (.ret 8 r1.2)
  (.len 5 eI a1 <| .len 8 T_api_Sample.e a2 <| .loop 4 ⟨_, _, _, _, _, ok_linear_Check_l0 a0 a2 0 ((a1.length : Int) == r1.1)⟩ fun j3 => .iteX 9 39 (j3)
  (.ret 8 4)
  (.len 4 T_api_Sample.e a2 <| .join 2 4 (γ := Bool) ⟨fun x => [(50, bB x)], [], fun _ => [], []⟩
  (.ite 0 46 ((a2.length : Int) = 0)
  (.ret 5 true)
  (.len 1 T_api_Sample.e a2 <| .ret 3 (decide ((a2.length : Int) > 64))))
  fun j4 => .iteB 2 42 (j4)
  (.ret 8 1)
  (.ret 8 0))))
noncomputable abbrev F_thrum_model_straight_fits : Fe := .of Tryz.prog 213 en_press_Check
theorem ok_thrum_model_straight_fits (a0 : T_model_straight) (a1 : List Int) (a2 : List T_api_Sample) : HS 213 (M_thrum_model_straight_fits a0 a1 a2) [.agg [.int .i64 a0.F_Model.F_Kind, .int .i64 a0.F_Model.F_In, .int .i64 a0.F_Model.F_Out, .int .i64 a0.F_Model.F_Hid, .int .i64 a0.F_Model.F_Frac], .lst (List.map (D.int .i64) a1), .lst (List.map T_api_Sample.en a2)] en_press_Check := Tr.fn (F := F_thrum_model_straight_fits)
 (.call 12 (ok_linear_Check a0.F_Model.F_In a1 a2) nl_press_Check fun r1 => .ret 3 r1)
noncomputable abbrev F_soft_Check_1_c : Fe := .of Tryz.prog 249 en_conf_within_int
theorem ok_soft_Check_1_c (a0 : T_api_Sample) (a1 : Int) : HS 249 (M_soft_Check_1_c a0 a1) [.agg [.lst (List.map (D.int .i64) a0.F_X), .int .i64 a0.F_Y], .cp [.int .i64 a1] 0] en_conf_within_int := Tr.fn (F := F_soft_Check_1_c)
 (.len 9 eI a0.F_X <| .ret 5 ((a0.F_X.length : Int) != a1))
noncomputable abbrev F_slices_IndexFunc_thrum_api_Sample_thrum_api_Sample_soft_Check_1 : Fe := .of Tryz.prog 39 en_press_Check
def S_slices_IndexFunc_thrum_api_Sample_thrum_api_Sample_soft_Check_1_l0 (a0 : List T_api_Sample) (a1 : Int) (x0 : Int) : St := ⟨[(8, nI x0), (7, nI (a0.length : Int)), (0, .d (.lst (List.map T_api_Sample.en a0))), (1, .d (.clo (.func 249) [] [.cp [.int .i64 a1] 0]))], []⟩
def E_slices_IndexFunc_thrum_api_Sample_thrum_api_Sample_soft_Check_1_l0 (a0 : List T_api_Sample) (a1 : Int) (x : Unit) : St := ⟨[], []⟩
theorem ok_slices_IndexFunc_thrum_api_Sample_thrum_api_Sample_soft_Check_1_l0 (a0 : List T_api_Sample) (a1 : Int) : ∀ (x0 : Int), Ok (M_slices_IndexFunc_thrum_api_Sample_thrum_api_Sample_soft_Check_1_l0 a0 a1 x0) (LR F_slices_IndexFunc_thrum_api_Sample_thrum_api_Sample_soft_Check_1 (.exit 0) (E_slices_IndexFunc_thrum_api_Sample_thrum_api_Sample_soft_Check_1_l0 a0 a1) 39 0 (S_slices_IndexFunc_thrum_api_Sample_thrum_api_Sample_soft_Check_1_l0 a0 a1 x0)) := by
 refine M_slices_IndexFunc_thrum_api_Sample_thrum_api_Sample_soft_Check_1_l0.partial_correctness a0 a1 _ ?_
 intro f IH x0
 exact Tr.lpR (F := F_slices_IndexFunc_thrum_api_Sample_thrum_api_Sample_soft_Check_1) (X := Int)
  (.ite 6 9 (x0 < (a0.length : Int))
   (.idx 14 T_api_Sample.e a0 x0 <| .call 1 (ok_soft_Check_1_c (at' a0 x0) a1) nl_conf_within_int fun r1 => .iteB 1 16 (r1)
   (.ret 10 (.inl x0))
   (.again 7 (IntKind.i64.wrap (x0 + 1))))
   (.ret 4 (.inr ()))) _ fun x r => IH x r
theorem ok_slices_IndexFunc_thrum_api_Sample_thrum_api_Sample_soft_Check_1 (a0 : List T_api_Sample) (a1 : Int) : HS 39 (M_slices_IndexFunc_thrum_api_Sample_thrum_api_Sample_soft_Check_1 a0 a1) [.lst (List.map T_api_Sample.en a0), .clo (.func 249) [] [.cp [.int .i64 a1] 0]] en_press_Check := Tr.fn (F := F_slices_IndexFunc_thrum_api_Sample_thrum_api_Sample_soft_Check_1)
 (.len 8 T_api_Sample.e a0 <| .loopR 4 id ⟨_, _, _, _, _, ok_slices_IndexFunc_thrum_api_Sample_thrum_api_Sample_soft_Check_1_l0 a0 a1 0⟩ fun j2 => .ret 6 (-1))
noncomputable abbrev F_slices_ContainsFunc_thrum_api_Sample_thrum_api_Sample_soft_Check_1 : Fe := .of Tryz.prog 26 en_conf_within_int
theorem ok_slices_ContainsFunc_thrum_api_Sample_thrum_api_Sample_soft_Check_1 (a0 : List T_api_Sample) (a1 : Int) : HS 26 (M_slices_ContainsFunc_thrum_api_Sample_thrum_api_Sample_soft_Check_1 a0 a1) [.lst (List.map T_api_Sample.en a0), .clo (.func 249) [] [.cp [.int .i64 a1] 0]] en_conf_within_int := Tr.fn (F := F_slices_ContainsFunc_thrum_api_Sample_thrum_api_Sample_soft_Check_1)
 (.call 8 (ok_slices_IndexFunc_thrum_api_Sample_thrum_api_Sample_soft_Check_1 a0 a1) nl_press_Check fun r1 => .ret 4 (decide (r1 ≥ 0)))
noncomputable abbrev F_soft_Check_2_c : Fe := .of Tryz.prog 250 en_conf_within_int
theorem ok_soft_Check_2_c (a0 : T_api_Sample) (a1 : Int) : HS 250 (M_soft_Check_2_c a0 a1) [.agg [.lst (List.map (D.int .i64) a0.F_X), .int .i64 a0.F_Y], .cp [.int .i64 a1] 0] en_conf_within_int := Tr.fn (F := F_soft_Check_2_c)
 (.join 11 5 (γ := Bool) ⟨fun x => [(12, bB x)], [], fun _ => [], []⟩
  (.ite 0 7 (a0.F_Y < 0)
  (.ret 6 true)
  (.ret 6 (decide (a0.F_Y ≥ a1))))
  fun j1 => .ret 3 j1)
noncomputable abbrev F_slices_IndexFunc_thrum_api_Sample_thrum_api_Sample_soft_Check_2 : Fe := .of Tryz.prog 39 en_press_Check
def S_slices_IndexFunc_thrum_api_Sample_thrum_api_Sample_soft_Check_2_l0 (a0 : List T_api_Sample) (a1 : Int) (x0 : Int) : St := ⟨[(8, nI x0), (7, nI (a0.length : Int)), (0, .d (.lst (List.map T_api_Sample.en a0))), (1, .d (.clo (.func 250) [] [.cp [.int .i64 a1] 0]))], []⟩
def E_slices_IndexFunc_thrum_api_Sample_thrum_api_Sample_soft_Check_2_l0 (a0 : List T_api_Sample) (a1 : Int) (x : Unit) : St := ⟨[], []⟩
theorem ok_slices_IndexFunc_thrum_api_Sample_thrum_api_Sample_soft_Check_2_l0 (a0 : List T_api_Sample) (a1 : Int) : ∀ (x0 : Int), Ok (M_slices_IndexFunc_thrum_api_Sample_thrum_api_Sample_soft_Check_2_l0 a0 a1 x0) (LR F_slices_IndexFunc_thrum_api_Sample_thrum_api_Sample_soft_Check_2 (.exit 0) (E_slices_IndexFunc_thrum_api_Sample_thrum_api_Sample_soft_Check_2_l0 a0 a1) 39 0 (S_slices_IndexFunc_thrum_api_Sample_thrum_api_Sample_soft_Check_2_l0 a0 a1 x0)) := by
 refine M_slices_IndexFunc_thrum_api_Sample_thrum_api_Sample_soft_Check_2_l0.partial_correctness a0 a1 _ ?_
 intro f IH x0
 exact Tr.lpR (F := F_slices_IndexFunc_thrum_api_Sample_thrum_api_Sample_soft_Check_2) (X := Int)
  (.ite 6 9 (x0 < (a0.length : Int))
   (.idx 14 T_api_Sample.e a0 x0 <| .call 1 (ok_soft_Check_2_c (at' a0 x0) a1) nl_conf_within_int fun r1 => .iteB 1 16 (r1)
   (.ret 10 (.inl x0))
   (.again 7 (IntKind.i64.wrap (x0 + 1))))
   (.ret 4 (.inr ()))) _ fun x r => IH x r
theorem ok_slices_IndexFunc_thrum_api_Sample_thrum_api_Sample_soft_Check_2 (a0 : List T_api_Sample) (a1 : Int) : HS 39 (M_slices_IndexFunc_thrum_api_Sample_thrum_api_Sample_soft_Check_2 a0 a1) [.lst (List.map T_api_Sample.en a0), .clo (.func 250) [] [.cp [.int .i64 a1] 0]] en_press_Check := Tr.fn (F := F_slices_IndexFunc_thrum_api_Sample_thrum_api_Sample_soft_Check_2)
 (.len 8 T_api_Sample.e a0 <| .loopR 4 id ⟨_, _, _, _, _, ok_slices_IndexFunc_thrum_api_Sample_thrum_api_Sample_soft_Check_2_l0 a0 a1 0⟩ fun j2 => .ret 6 (-1))
noncomputable abbrev F_slices_ContainsFunc_thrum_api_Sample_thrum_api_Sample_soft_Check_2 : Fe := .of Tryz.prog 26 en_conf_within_int
theorem ok_slices_ContainsFunc_thrum_api_Sample_thrum_api_Sample_soft_Check_2 (a0 : List T_api_Sample) (a1 : Int) : HS 26 (M_slices_ContainsFunc_thrum_api_Sample_thrum_api_Sample_soft_Check_2 a0 a1) [.lst (List.map T_api_Sample.en a0), .clo (.func 250) [] [.cp [.int .i64 a1] 0]] en_conf_within_int := Tr.fn (F := F_slices_ContainsFunc_thrum_api_Sample_thrum_api_Sample_soft_Check_2)
 (.call 8 (ok_slices_IndexFunc_thrum_api_Sample_thrum_api_Sample_soft_Check_2 a0 a1) nl_press_Check fun r1 => .ret 4 (decide (r1 ≥ 0)))
noncomputable abbrev F_soft_Check : Fe := .of Tryz.prog 246 en_press_Check
theorem ok_soft_Check (a0 : Int) (a1 : Int) (a2 : List Int) (a3 : List T_api_Sample) : HS 246 (M_soft_Check a0 a1 a2 a3) [.int .i64 a0, .int .i64 a1, .lst (List.map (D.int .i64) a2), .lst (List.map T_api_Sample.en a3)] en_press_Check := Tr.fn (F := F_soft_Check)
 (.call 10 (ok_soft_Dim a0 a1) nl_conf_Keep fun r1 => .iteN 14 17 (r1.2 = 0)
  (.ret 9 r1.2)
  (.len 4 eI a2 <| .join 3 4 (γ := Bool) ⟨fun x => [(30, bB x)], [5, 3], fun _ => [], [.s 31]⟩
  (.iteN 0 26 ((a2.length : Int) = r1.1)
  (.ret 5 true)
  (.call 2 (ok_slices_ContainsFunc_thrum_api_Sample_thrum_api_Sample_soft_Check_1 a3 a0) nl_conf_within_int fun r2 => .ret 2 r2))
  fun j3 => .iteB 2 21 (j3)
  (.ret 8 4)
  (.len 4 T_api_Sample.e a3 <| .join 2 4 (γ := Bool) ⟨fun x => [(39, bB x)], [5, 3], fun _ => [], [.s 31]⟩
  (.ite 0 35 ((a3.length : Int) = 0)
  (.ret 5 true)
  (.len 1 T_api_Sample.e a3 <| .ret 3 (decide ((a3.length : Int) > 64))))
  fun j4 => .join 1 4 (γ := Bool) ⟨fun x => [(44, bB x)], [], fun _ => [], []⟩
  (.iteB 0 40 (j4)
  (.ret 5 true)
  (.call 2 (ok_slices_ContainsFunc_thrum_api_Sample_thrum_api_Sample_soft_Check_2 a3 a1) nl_conf_within_int fun r5 => .ret 2 r5))
  fun j6 => .iteB 2 31 (j6)
  (.ret 8 1)
  (.ret 8 0))))
noncomputable abbrev F_thrum_model_classes_fits : Fe := .of Tryz.prog 242 en_press_Check
theorem ok_thrum_model_classes_fits (a0 : T_model_classes) (a1 : List Int) (a2 : List T_api_Sample) : HS 242 (M_thrum_model_classes_fits a0 a1 a2) [.agg [.int .i64 a0.F_Model.F_Kind, .int .i64 a0.F_Model.F_In, .int .i64 a0.F_Model.F_Out, .int .i64 a0.F_Model.F_Hid, .int .i64 a0.F_Model.F_Frac], .lst (List.map (D.int .i64) a1), .lst (List.map T_api_Sample.en a2)] en_press_Check := Tr.fn (F := F_thrum_model_classes_fits)
 (.call 15 (ok_soft_Check a0.F_Model.F_In a0.F_Model.F_Out a1 a2) nl_press_Check fun r1 => .ret 3 r1)
noncomputable abbrev F_mlp_Check_1_c : Fe := .of Tryz.prog 276 en_conf_within_int
theorem ok_mlp_Check_1_c (a0 : T_api_Sample) (a1 : Int) : HS 276 (M_mlp_Check_1_c a0 a1) [.agg [.lst (List.map (D.int .i64) a0.F_X), .int .i64 a0.F_Y], .cp [.int .i64 a1] 0] en_conf_within_int := Tr.fn (F := F_mlp_Check_1_c)
 (.len 9 eI a0.F_X <| .ret 5 ((a0.F_X.length : Int) != a1))
noncomputable abbrev F_slices_IndexFunc_thrum_api_Sample_thrum_api_Sample_mlp_Check_1 : Fe := .of Tryz.prog 39 en_press_Check
def S_slices_IndexFunc_thrum_api_Sample_thrum_api_Sample_mlp_Check_1_l0 (a0 : List T_api_Sample) (a1 : Int) (x0 : Int) : St := ⟨[(8, nI x0), (7, nI (a0.length : Int)), (0, .d (.lst (List.map T_api_Sample.en a0))), (1, .d (.clo (.func 276) [] [.cp [.int .i64 a1] 0]))], []⟩
def E_slices_IndexFunc_thrum_api_Sample_thrum_api_Sample_mlp_Check_1_l0 (a0 : List T_api_Sample) (a1 : Int) (x : Unit) : St := ⟨[], []⟩
theorem ok_slices_IndexFunc_thrum_api_Sample_thrum_api_Sample_mlp_Check_1_l0 (a0 : List T_api_Sample) (a1 : Int) : ∀ (x0 : Int), Ok (M_slices_IndexFunc_thrum_api_Sample_thrum_api_Sample_mlp_Check_1_l0 a0 a1 x0) (LR F_slices_IndexFunc_thrum_api_Sample_thrum_api_Sample_mlp_Check_1 (.exit 0) (E_slices_IndexFunc_thrum_api_Sample_thrum_api_Sample_mlp_Check_1_l0 a0 a1) 39 0 (S_slices_IndexFunc_thrum_api_Sample_thrum_api_Sample_mlp_Check_1_l0 a0 a1 x0)) := by
 refine M_slices_IndexFunc_thrum_api_Sample_thrum_api_Sample_mlp_Check_1_l0.partial_correctness a0 a1 _ ?_
 intro f IH x0
 exact Tr.lpR (F := F_slices_IndexFunc_thrum_api_Sample_thrum_api_Sample_mlp_Check_1) (X := Int)
  (.ite 6 9 (x0 < (a0.length : Int))
   (.idx 14 T_api_Sample.e a0 x0 <| .call 1 (ok_mlp_Check_1_c (at' a0 x0) a1) nl_conf_within_int fun r1 => .iteB 1 16 (r1)
   (.ret 10 (.inl x0))
   (.again 7 (IntKind.i64.wrap (x0 + 1))))
   (.ret 4 (.inr ()))) _ fun x r => IH x r
theorem ok_slices_IndexFunc_thrum_api_Sample_thrum_api_Sample_mlp_Check_1 (a0 : List T_api_Sample) (a1 : Int) : HS 39 (M_slices_IndexFunc_thrum_api_Sample_thrum_api_Sample_mlp_Check_1 a0 a1) [.lst (List.map T_api_Sample.en a0), .clo (.func 276) [] [.cp [.int .i64 a1] 0]] en_press_Check := Tr.fn (F := F_slices_IndexFunc_thrum_api_Sample_thrum_api_Sample_mlp_Check_1)
 (.len 8 T_api_Sample.e a0 <| .loopR 4 id ⟨_, _, _, _, _, ok_slices_IndexFunc_thrum_api_Sample_thrum_api_Sample_mlp_Check_1_l0 a0 a1 0⟩ fun j2 => .ret 6 (-1))
noncomputable abbrev F_slices_ContainsFunc_thrum_api_Sample_thrum_api_Sample_mlp_Check_1 : Fe := .of Tryz.prog 26 en_conf_within_int
theorem ok_slices_ContainsFunc_thrum_api_Sample_thrum_api_Sample_mlp_Check_1 (a0 : List T_api_Sample) (a1 : Int) : HS 26 (M_slices_ContainsFunc_thrum_api_Sample_thrum_api_Sample_mlp_Check_1 a0 a1) [.lst (List.map T_api_Sample.en a0), .clo (.func 276) [] [.cp [.int .i64 a1] 0]] en_conf_within_int := Tr.fn (F := F_slices_ContainsFunc_thrum_api_Sample_thrum_api_Sample_mlp_Check_1)
 (.call 8 (ok_slices_IndexFunc_thrum_api_Sample_thrum_api_Sample_mlp_Check_1 a0 a1) nl_press_Check fun r1 => .ret 4 (decide (r1 ≥ 0)))
noncomputable abbrev F_mlp_Check : Fe := .of Tryz.prog 273 en_press_Check
theorem ok_mlp_Check (a0 : Int) (a1 : Int) (a2 : List Int) (a3 : List T_api_Sample) : HS 273 (M_mlp_Check a0 a1 a2 a3) [.int .i64 a0, .int .i64 a1, .lst (List.map (D.int .i64) a2), .lst (List.map T_api_Sample.en a3)] en_press_Check := Tr.fn (F := F_mlp_Check)
 (.call 9 (ok_mlp_Dim a0 a1) nl_conf_Keep fun r1 => .iteN 14 17 (r1.2 = 0)
  (.ret 9 r1.2)
  (.len 4 eI a2 <| .join 3 4 (γ := Bool) ⟨fun x => [(30, bB x)], [3], fun _ => [], []⟩
  (.iteN 0 26 ((a2.length : Int) = r1.1)
  (.ret 5 true)
  (.call 2 (ok_slices_ContainsFunc_thrum_api_Sample_thrum_api_Sample_mlp_Check_1 a3 a0) nl_conf_within_int fun r2 => .ret 2 r2))
  fun j3 => .iteB 2 21 (j3)
  (.ret 8 4)
  (.len 4 T_api_Sample.e a3 <| .join 2 4 (γ := Bool) ⟨fun x => [(39, bB x)], [], fun _ => [], []⟩
  (.ite 0 35 ((a3.length : Int) = 0)
  (.ret 5 true)
  (.len 1 T_api_Sample.e a3 <| .ret 3 (decide ((a3.length : Int) > 64))))
  fun j4 => .iteB 2 31 (j4)
  (.ret 8 1)
  (.ret 8 0))))
noncomputable abbrev F_thrum_model_layers_fits : Fe := .of Tryz.prog 269 en_press_Check
theorem ok_thrum_model_layers_fits (a0 : T_model_layers) (a1 : List Int) (a2 : List T_api_Sample) : HS 269 (M_thrum_model_layers_fits a0 a1 a2) [.agg [.int .i64 a0.F_Model.F_Kind, .int .i64 a0.F_Model.F_In, .int .i64 a0.F_Model.F_Out, .int .i64 a0.F_Model.F_Hid, .int .i64 a0.F_Model.F_Frac], .lst (List.map (D.int .i64) a1), .lst (List.map T_api_Sample.en a2)] en_press_Check := Tr.fn (F := F_thrum_model_layers_fits)
 (.call 15 (ok_mlp_Check a0.F_Model.F_In a0.F_Model.F_Hid a1 a2) nl_press_Check fun r1 => .ret 3 r1)
noncomputable abbrev F_model_Fits : Fe := .of Tryz.prog 28 en_press_Check
theorem ok_model_Fits (a0 : T_api_Model) (a1 : List Int) (a2 : List T_api_Sample) : HS 28 (M_model_Fits a0 a1 a2) [.agg [.int .i64 a0.F_Kind, .int .i64 a0.F_In, .int .i64 a0.F_Out, .int .i64 a0.F_Hid, .int .i64 a0.F_Frac], .lst (List.map (D.int .i64) a1), .lst (List.map T_api_Sample.en a2)] en_press_Check := Tr.fn (F := F_model_Fits)
 (.callS4 8 (ok_model_of a0) nl_model_of
  (fun r1 => .iteN 14 17 (r1.2 = 0)
  (.ret 8 r1.2)
  (.halt))
  (fun r2 => .iteN 14 17 (r2.2.2.2.2.2.2 = 0)
  (.ret 8 r2.2.2.2.2.2.2)
  (.call 7 (ok_thrum_model_straight_fits (⟨(⟨r2.1, r2.2.1, r2.2.2.1, r2.2.2.2.1, r2.2.2.2.2.1⟩ : T_api_Model)⟩ : T_model_straight) a1 a2) nl_press_Check fun r3 => .ret 3 r3))
  (fun r4 => .iteN 14 17 (r4.2.2.2.2.2.2 = 0)
  (.ret 8 r4.2.2.2.2.2.2)
  (.call 7 (ok_thrum_model_classes_fits (⟨(⟨r4.1, r4.2.1, r4.2.2.1, r4.2.2.2.1, r4.2.2.2.2.1⟩ : T_api_Model)⟩ : T_model_classes) a1 a2) nl_press_Check fun r5 => .ret 3 r5))
  (fun r6 => .iteN 14 17 (r6.2.2.2.2.2.2 = 0)
  (.ret 8 r6.2.2.2.2.2.2)
  (.call 7 (ok_thrum_model_layers_fits (⟨(⟨r6.1, r6.2.1, r6.2.2.1, r6.2.2.2.1, r6.2.2.2.2.1⟩ : T_api_Model)⟩ : T_model_layers) a1 a2) nl_press_Check fun r7 => .ret 3 r7)))
noncomputable abbrev F_conf_Check_1_c_c : Fe := .of Tryz.prog 27 en_conf_within_int
theorem ok_conf_Check_1_c_c (a0 : T_api_Sample) (a1 : Int) (a2 : Int) (a3 : Int) (a4 : Int) (a5 : Int) (a6 : Int) (a7 : Int) (a8 : Int) (a9 : Int) (a10 : Int) (a11 : Int) (a12 : Int) (a13 : Int) (a14 : Int) (a15 : Int) (a16 : List T_api_Sample) (a17 : List Int) : HS 27 (M_conf_Check_1_c_c a0 a1 a2 a3 a4 a5 a6 a7 a8 a9 a10 a11 a12 a13 a14 a15 a16 a17) [.agg [.lst (List.map (D.int .i64) a0.F_X), .int .i64 a0.F_Y], .cp [.int .i64 a1, .int .i64 a2, .int .i64 a3, .int .i64 a4, .int .i64 a5, .int .i64 a6, .int .i64 a7, .int .i64 a8, .int .i64 a9, .int .i64 a10, .int .i64 a11, .int .i64 a12, .int .i64 a13, .int .i64 a14, .int .u64 a15, .lst (List.map T_api_Sample.en a16)] 0, .cp [.lst (List.map (D.int .i64) a17)] 0] en_conf_within_int := Tr.fn (F := F_conf_Check_1_c_c)
 (.call 12 (ok_model_Fits (⟨a2, a3, a4, a5, a6⟩ : T_api_Model) a17 [a0]) nl_press_Check fun r1 => .ret 4 (r1 != 0))
noncomputable abbrev F_slices_IndexFunc_thrum_api_Sample_thrum_api_Sample_conf_Check_1 : Fe := .of Tryz.prog 39 en_press_Check
def S_slices_IndexFunc_thrum_api_Sample_thrum_api_Sample_conf_Check_1_l0 (a0 : List T_api_Sample) (a1 : Int) (a2 : Int) (a3 : Int) (a4 : Int) (a5 : Int) (a6 : Int) (a7 : Int) (a8 : Int) (a9 : Int) (a10 : Int) (a11 : Int) (a12 : Int) (a13 : Int) (a14 : Int) (a15 : Int) (a16 : List T_api_Sample) (a17 : List Int) (x0 : Int) : St := ⟨[(8, nI x0), (7, nI (a0.length : Int)), (0, .d (.lst (List.map T_api_Sample.en a0))), (1, .d (.clo (.func 27) [] [.cp [.int .i64 a1, .int .i64 a2, .int .i64 a3, .int .i64 a4, .int .i64 a5, .int .i64 a6, .int .i64 a7, .int .i64 a8, .int .i64 a9, .int .i64 a10, .int .i64 a11, .int .i64 a12, .int .i64 a13, .int .i64 a14, .int .u64 a15, .lst (List.map T_api_Sample.en a16)] 0, .cp [.lst (List.map (D.int .i64) a17)] 0]))], []⟩
def E_slices_IndexFunc_thrum_api_Sample_thrum_api_Sample_conf_Check_1_l0 (a0 : List T_api_Sample) (a1 : Int) (a2 : Int) (a3 : Int) (a4 : Int) (a5 : Int) (a6 : Int) (a7 : Int) (a8 : Int) (a9 : Int) (a10 : Int) (a11 : Int) (a12 : Int) (a13 : Int) (a14 : Int) (a15 : Int) (a16 : List T_api_Sample) (a17 : List Int) (x : Unit) : St := ⟨[], []⟩
theorem ok_slices_IndexFunc_thrum_api_Sample_thrum_api_Sample_conf_Check_1_l0 (a0 : List T_api_Sample) (a1 : Int) (a2 : Int) (a3 : Int) (a4 : Int) (a5 : Int) (a6 : Int) (a7 : Int) (a8 : Int) (a9 : Int) (a10 : Int) (a11 : Int) (a12 : Int) (a13 : Int) (a14 : Int) (a15 : Int) (a16 : List T_api_Sample) (a17 : List Int) : ∀ (x0 : Int), Ok (M_slices_IndexFunc_thrum_api_Sample_thrum_api_Sample_conf_Check_1_l0 a0 a1 a2 a3 a4 a5 a6 a7 a8 a9 a10 a11 a12 a13 a14 a15 a16 a17 x0) (LR F_slices_IndexFunc_thrum_api_Sample_thrum_api_Sample_conf_Check_1 (.exit 0) (E_slices_IndexFunc_thrum_api_Sample_thrum_api_Sample_conf_Check_1_l0 a0 a1 a2 a3 a4 a5 a6 a7 a8 a9 a10 a11 a12 a13 a14 a15 a16 a17) 39 0 (S_slices_IndexFunc_thrum_api_Sample_thrum_api_Sample_conf_Check_1_l0 a0 a1 a2 a3 a4 a5 a6 a7 a8 a9 a10 a11 a12 a13 a14 a15 a16 a17 x0)) := by
 refine M_slices_IndexFunc_thrum_api_Sample_thrum_api_Sample_conf_Check_1_l0.partial_correctness a0 a1 a2 a3 a4 a5 a6 a7 a8 a9 a10 a11 a12 a13 a14 a15 a16 a17 _ ?_
 intro f IH x0
 exact Tr.lpR (F := F_slices_IndexFunc_thrum_api_Sample_thrum_api_Sample_conf_Check_1) (X := Int)
  (.ite 6 9 (x0 < (a0.length : Int))
   (.idx 14 T_api_Sample.e a0 x0 <| .call 1 (ok_conf_Check_1_c_c (at' a0 x0) a1 a2 a3 a4 a5 a6 a7 a8 a9 a10 a11 a12 a13 a14 a15 a16 a17) nl_conf_within_int fun r1 => .iteB 1 16 (r1)
   (.ret 10 (.inl x0))
   (.again 7 (IntKind.i64.wrap (x0 + 1))))
   (.ret 4 (.inr ()))) _ fun x r => IH x r
theorem ok_slices_IndexFunc_thrum_api_Sample_thrum_api_Sample_conf_Check_1 (a0 : List T_api_Sample) (a1 : Int) (a2 : Int) (a3 : Int) (a4 : Int) (a5 : Int) (a6 : Int) (a7 : Int) (a8 : Int) (a9 : Int) (a10 : Int) (a11 : Int) (a12 : Int) (a13 : Int) (a14 : Int) (a15 : Int) (a16 : List T_api_Sample) (a17 : List Int) : HS 39 (M_slices_IndexFunc_thrum_api_Sample_thrum_api_Sample_conf_Check_1 a0 a1 a2 a3 a4 a5 a6 a7 a8 a9 a10 a11 a12 a13 a14 a15 a16 a17) [.lst (List.map T_api_Sample.en a0), .clo (.func 27) [] [.cp [.int .i64 a1, .int .i64 a2, .int .i64 a3, .int .i64 a4, .int .i64 a5, .int .i64 a6, .int .i64 a7, .int .i64 a8, .int .i64 a9, .int .i64 a10, .int .i64 a11, .int .i64 a12, .int .i64 a13, .int .i64 a14, .int .u64 a15, .lst (List.map T_api_Sample.en a16)] 0, .cp [.lst (List.map (D.int .i64) a17)] 0]] en_press_Check := Tr.fn (F := F_slices_IndexFunc_thrum_api_Sample_thrum_api_Sample_conf_Check_1)
 (.len 8 T_api_Sample.e a0 <| .loopR 4 id ⟨_, _, _, _, _, ok_slices_IndexFunc_thrum_api_Sample_thrum_api_Sample_conf_Check_1_l0 a0 a1 a2 a3 a4 a5 a6 a7 a8 a9 a10 a11 a12 a13 a14 a15 a16 a17 0⟩ fun j2 => .ret 6 (-1))
noncomputable abbrev F_slices_ContainsFunc_thrum_api_Sample_thrum_api_Sample_conf_Check_1 : Fe := .of Tryz.prog 26 en_conf_within_int
theorem ok_slices_ContainsFunc_thrum_api_Sample_thrum_api_Sample_conf_Check_1 (a0 : List T_api_Sample) (a1 : Int) (a2 : Int) (a3 : Int) (a4 : Int) (a5 : Int) (a6 : Int) (a7 : Int) (a8 : Int) (a9 : Int) (a10 : Int) (a11 : Int) (a12 : Int) (a13 : Int) (a14 : Int) (a15 : Int) (a16 : List T_api_Sample) (a17 : List Int) : HS 26 (M_slices_ContainsFunc_thrum_api_Sample_thrum_api_Sample_conf_Check_1 a0 a1 a2 a3 a4 a5 a6 a7 a8 a9 a10 a11 a12 a13 a14 a15 a16 a17) [.lst (List.map T_api_Sample.en a0), .clo (.func 27) [] [.cp [.int .i64 a1, .int .i64 a2, .int .i64 a3, .int .i64 a4, .int .i64 a5, .int .i64 a6, .int .i64 a7, .int .i64 a8, .int .i64 a9, .int .i64 a10, .int .i64 a11, .int .i64 a12, .int .i64 a13, .int .i64 a14, .int .u64 a15, .lst (List.map T_api_Sample.en a16)] 0, .cp [.lst (List.map (D.int .i64) a17)] 0]] en_conf_within_int := Tr.fn (F := F_slices_ContainsFunc_thrum_api_Sample_thrum_api_Sample_conf_Check_1)
 (.call 8 (ok_slices_IndexFunc_thrum_api_Sample_thrum_api_Sample_conf_Check_1 a0 a1 a2 a3 a4 a5 a6 a7 a8 a9 a10 a11 a12 a13 a14 a15 a16 a17) nl_press_Check fun r1 => .ret 4 (decide (r1 ≥ 0)))
noncomputable abbrev F_conf_Check : Fe := .of Tryz.prog 10 en_press_Check
theorem ok_conf_Check (a0 : T_api_Conf) : HS 10 (M_conf_Check a0) [.agg [.int .i64 a0.F_N, .int .i64 a0.F_M.F_Kind, .int .i64 a0.F_M.F_In, .int .i64 a0.F_M.F_Out, .int .i64 a0.F_M.F_Hid, .int .i64 a0.F_M.F_Frac, .int .i64 a0.F_H.F_Scheme, .int .i64 a0.F_H.F_K, .int .i64 a0.F_H.F_Wide, .int .i64 a0.F_Warm, .int .i64 a0.F_Rate, .int .i64 a0.F_Mom, .int .i64 a0.F_Clip, .int .i64 a0.F_Batch, .int .u64 a0.F_Seed, .lst (List.map T_api_Sample.en a0.F_L)]] en_press_Check := Tr.fn (F := F_conf_Check)
 (.call 9 (ok_model_Dim a0.F_M) nl_conf_Keep fun r1 => .join 12 6 (γ := Bool) ⟨fun x => [(21, bB x)], [3, 1], fun _ => [], [.s 15]⟩
  (.iteN 0 15 (r1.2 = 0)
  (.ret 7 true)
  (.call 3 (ok_press_Check a0.F_H r1.1) nl_press_Check fun r2 => .ret 3 (r2 != 0)))
  fun j3 => .iteB 1 21 (j3)
  (.ret 7 1)
  (.rd 7 (0 ≤ a0.F_M.F_Frac) (nI (sShl .i64 1 a0.F_M.F_Frac)) <| .call 7 (ok_conf_within_int a0.F_N 1 64) nl_conf_within_int fun r4 => .join 2 5 (γ := Bool) ⟨fun x => [(35, bB x)], [5, 3, 1], fun _ => [], [.s 15]⟩
  (.iteX 0 30 (r4)
  (.ret 6 true)
  (.call 2 (ok_conf_within_int a0.F_Warm 0 1048576) nl_conf_within_int fun r5 => .ret 3 (!r5)))
  fun j6 => .join 1 6 (γ := Bool) ⟨fun x => [(42, bB x)], [5, 3, 1], fun _ => [], [.s 15]⟩
  (.iteB 0 36 (j6)
  (.ret 7 true)
  (.call 3 (ok_conf_within_int64 a0.F_Rate 0 (sShl .i64 1 a0.F_M.F_Frac)) nl_conf_within_int fun r7 => .ret 3 (!r7)))
  fun j8 => .join 1 6 (γ := Bool) ⟨fun x => [(49, bB x)], [3, 1], fun _ => [], [.s 15]⟩
  (.iteB 0 43 (j8)
  (.ret 7 true)
  (.call 3 (ok_conf_within_int64 a0.F_Mom 0 (sShl .i64 1 a0.F_M.F_Frac)) nl_conf_within_int fun r9 => .ret 3 (!r9)))
  fun j10 => .join 1 4 (γ := Bool) ⟨fun x => [(54, bB x)], [3, 1], fun _ => [], [.s 15]⟩
  (.iteB 0 50 (j10)
  (.ret 5 true)
  (.ret 5 (decide (a0.F_Clip < 0))))
  fun j11 => .iteB 1 54 (j11)
  (.ret 7 1)
  (.len 7 T_api_Sample.e a0.F_L <| .join 2 9 (γ := Bool) ⟨fun x => [(68, bB x)], [3, 1], fun _ => [], [.s 15]⟩
  (.ite 0 59 ((a0.F_L.length : Int) > 256)
  (.ret 10 true)
  (.len 4 T_api_Sample.e a0.F_L <| .let_ (if (a0.F_L.length : Int) < 64 then (a0.F_L.length : Int) else 64 : Int) fun y12 => .call 1 (ok_conf_within_int a0.F_Batch 1 y12) nl_conf_within_int fun r14 => .ret 3 (!r14)))
  fun j15 => .iteB 1 68 (j15)
  (.ret 7 1)
  (.mk 5 eI 8 0 r1.1 r1.1 <| .let_ (List.replicate (Int.toNat r1.1) 0 : List Int) fun y16 => .call 9 (ok_slices_ContainsFunc_thrum_api_Sample_thrum_api_Sample_conf_Check_1 a0.F_L a0.F_N a0.F_M.F_Kind a0.F_M.F_In a0.F_M.F_Out a0.F_M.F_Hid a0.F_M.F_Frac a0.F_H.F_Scheme a0.F_H.F_K a0.F_H.F_Wide a0.F_Warm a0.F_Rate a0.F_Mom a0.F_Clip a0.F_Batch a0.F_Seed a0.F_L y16) nl_conf_within_int fun r18 => .iteB 1 74 (r18)
  (.ret 7 1)
  (.ret 7 0)))))
noncomputable abbrev F_thrumlaw18_live : Fe := .of Tryz.prog 8 en_conf_within_int
def S_thrumlaw18_live_l0 (x0 : Int) : St := ⟨[(13, nI x0), (12, nI ([10, 8, 6, 4, 2, 2].length : Int)), (11, sI (.s 3215) [10, 8, 6, 4, 2, 2]), (1, .ptr (.s 1695) 0)], [(.s 1695, [nI 1, nI 0, nI 1, nI 0, nI 0, nI 0, nI 0, nI 0, nI 0, nI 0, nI 0, nI 0, nI 0, nI 1, nU 0, .sl (.s 1663) 2 0 (List.map T_api_Sample.en [(⟨[1], 0⟩ : T_api_Sample)])])]⟩
def E_thrumlaw18_live_l0 (x : Unit) : St := ⟨[(1, .ptr (.s 1695) 0)], [(.s 1695, [nI 1, nI 0, nI 1, nI 0, nI 0, nI 0, nI 0, nI 0, nI 0, nI 0, nI 0, nI 0, nI 0, nI 1, nU 0, .sl (.s 1663) 2 0 (List.map T_api_Sample.en [(⟨[1], 0⟩ : T_api_Sample)])])]⟩
theorem ok_thrumlaw18_live_l0 : ∀ (x0 : Int), Ok (M_thrumlaw18_live_l0 x0) (LR F_thrumlaw18_live (.exit 0) E_thrumlaw18_live_l0 8 0 (S_thrumlaw18_live_l0 x0)) := by
 refine M_thrumlaw18_live_l0.partial_correctness _ ?_
 intro f IH x0
 exact Tr.lpR (F := F_thrumlaw18_live) (X := Int)
  (.ite 6 14 (x0 < ([10, 8, 6, 4, 2, 2].length : Int))
   (.idx 7 eI [10, 8, 6, 4, 2, 2] x0 <| .call 7 (ok_conf_Keep 10 2 4 x0) nl_conf_Keep fun r1 => .join 12 3 (γ := Bool) ⟨fun x => [(29, bB x)], [13, 12, 11, 1], fun _ => [], [.s 1695]⟩
   (.iteN 0 26 (r1.1 = (at' [10, 8, 6, 4, 2, 2] x0))
   (.ret 4 true)
   (.ret 4 (r1.2 != 0)))
   fun j2 => .iteB 1 29 (j2)
   (.ret 9 (.inl false))
   (.again 7 (IntKind.i64.wrap (x0 + 1))))
   (.ret 4 (.inr ()))) _ fun x r => IH x r
theorem ok_thrumlaw18_live : HS 8 M_thrumlaw18_live [] en_conf_within_int := Tr.fn (F := F_thrumlaw18_live)
 (.len 18 eI [10, 8, 6, 4, 2, 2] <| .loopR 4 id ⟨_, _, _, _, _, ok_thrumlaw18_live_l0 0⟩ fun j3 => .call 4 (ok_conf_Check (⟨1, (⟨0, 1, 0, 0, 0⟩ : T_api_Model), (⟨0, 0, 0⟩ : T_api_How), 0, 0, 0, 0, 1, 0, [(⟨[1], 0⟩ : T_api_Sample)]⟩ : T_api_Conf)) nl_press_Check fun r4 => .join 2 4 (γ := Bool) ⟨fun x => [(38, bB x)], [], fun _ => [], []⟩
  (.ite 0 34 (r4 = 0)
  (.call 1 (ok_conf_Check (⟨0, (⟨0, 0, 0, 0, 0⟩ : T_api_Model), (⟨0, 0, 0⟩ : T_api_How), 0, 0, 0, 0, 0, 0, []⟩ : T_api_Conf)) nl_press_Check fun r5 => .ret 3 (r5 == 1))
  (.ret 5 false))
  fun j6 => .ret 3 j6)
noncomputable abbrev F_thrumref18_Few : Fe := .of Tryz.prog 9 en_conf_within_int
def S_thrumref18_Few_l0 (a0 : T_api_Conf) (x0 : Int) : St := ⟨[(8, nI x0), (7, nI (a0.F_L.length : Int)), (6, .d (.lst (List.map T_api_Sample.en a0.F_L))), (1, .ptr (.s 15) 0)], [(.s 15, [nI a0.F_N, nI a0.F_M.F_Kind, nI a0.F_M.F_In, nI a0.F_M.F_Out, nI a0.F_M.F_Hid, nI a0.F_M.F_Frac, nI a0.F_H.F_Scheme, nI a0.F_H.F_K, nI a0.F_H.F_Wide, nI a0.F_Warm, nI a0.F_Rate, nI a0.F_Mom, nI a0.F_Clip, nI a0.F_Batch, nU a0.F_Seed, .d (.lst (List.map T_api_Sample.en a0.F_L))])]⟩
def E_thrumref18_Few_l0 (a0 : T_api_Conf) (x : Unit) : St := ⟨[(1, .ptr (.s 15) 0)], [(.s 15, [nI a0.F_N, nI a0.F_M.F_Kind, nI a0.F_M.F_In, nI a0.F_M.F_Out, nI a0.F_M.F_Hid, nI a0.F_M.F_Frac, nI a0.F_H.F_Scheme, nI a0.F_H.F_K, nI a0.F_H.F_Wide, nI a0.F_Warm, nI a0.F_Rate, nI a0.F_Mom, nI a0.F_Clip, nI a0.F_Batch, nU a0.F_Seed, .d (.lst (List.map T_api_Sample.en a0.F_L))])]⟩
theorem ok_thrumref18_Few_l0 (a0 : T_api_Conf) : ∀ (x0 : Int), Ok (M_thrumref18_Few_l0 a0 x0) (LR F_thrumref18_Few (.exit 0) (E_thrumref18_Few_l0 a0) 9 0 (S_thrumref18_Few_l0 a0 x0)) := by
 refine M_thrumref18_Few_l0.partial_correctness a0 _ ?_
 intro f IH x0
 exact Tr.lpR (F := F_thrumref18_Few) (X := Int)
  (.ite 6 9 (x0 < (a0.F_L.length : Int))
   (.idx 6 T_api_Sample.e a0.F_L x0 <| .len 8 eI ((at' a0.F_L x0).F_X) <| .ite 2 15 ((((at' a0.F_L x0).F_X).length : Int) > 100)
   (.ret 9 (.inl false))
   (.again 7 (IntKind.i64.wrap (x0 + 1))))
   (.ret 4 (.inr ()))) _ fun x r => IH x r
theorem ok_thrumref18_Few (a0 : T_api_Conf) : HS 9 (M_thrumref18_Few a0) [.agg [.int .i64 a0.F_N, .int .i64 a0.F_M.F_Kind, .int .i64 a0.F_M.F_In, .int .i64 a0.F_M.F_Out, .int .i64 a0.F_M.F_Hid, .int .i64 a0.F_M.F_Frac, .int .i64 a0.F_H.F_Scheme, .int .i64 a0.F_H.F_K, .int .i64 a0.F_H.F_Wide, .int .i64 a0.F_Warm, .int .i64 a0.F_Rate, .int .i64 a0.F_Mom, .int .i64 a0.F_Clip, .int .i64 a0.F_Batch, .int .u64 a0.F_Seed, .lst (List.map T_api_Sample.en a0.F_L)]] en_conf_within_int := Tr.fn (F := F_thrumref18_Few)
 (.len 10 T_api_Sample.e a0.F_L <| .loopR 4 id ⟨_, _, _, _, _, ok_thrumref18_Few_l0 a0 0⟩ fun j1 => .len 5 T_api_Sample.e a0.F_L <| .ret 4 (decide ((a0.F_L.length : Int) ≤ 300)))
noncomputable abbrev F_conf_at : Fe := .of Tryz.prog 30 en_conf_within_int
theorem ok_conf_at (a0 : T_api_Conf) (a1 : Int) : HS 30 (M_conf_at a0 a1) [.agg [.int .i64 a0.F_N, .int .i64 a0.F_M.F_Kind, .int .i64 a0.F_M.F_In, .int .i64 a0.F_M.F_Out, .int .i64 a0.F_M.F_Hid, .int .i64 a0.F_M.F_Frac, .int .i64 a0.F_H.F_Scheme, .int .i64 a0.F_H.F_K, .int .i64 a0.F_H.F_Wide, .int .i64 a0.F_Warm, .int .i64 a0.F_Rate, .int .i64 a0.F_Mom, .int .i64 a0.F_Clip, .int .i64 a0.F_Batch, .int .u64 a0.F_Seed, .lst (List.map T_api_Sample.en a0.F_L)], .int .i64 a1] en_conf_within_int := Tr.fn (F := F_conf_at)
 (.call 8 (ok_conf_within_int a1 0 1073741824) nl_conf_within_int fun r1 => .join 1 4 (γ := Bool) ⟨fun x => [(11, bB x)], [], fun _ => [], []⟩
  (.iteB 0 7 (r1)
  (.call 1 (ok_conf_Check a0) nl_press_Check fun r2 => .ret 3 (r2 == 0))
  (.ret 5 false))
  fun j3 => .ret 3 j3)
def en_conf_How (v : Int × Int × Int × Int) : PV := .tup [.d (.agg [.int .i64 v.1, .int .i64 v.2.1, .int .i64 v.2.2.1]), nI v.2.2.2]
noncomputable abbrev F_conf_How : Fe := .of Tryz.prog 12 en_conf_How
theorem nl_conf_How : ∀ v, (en_conf_How v).noLst := fun _ => ⟨⟨trivial, trivial, trivial, trivial⟩, trivial, trivial⟩
theorem ok_conf_How (a0 : T_api_Conf) (a1 : Int) : HS 12 (M_conf_How a0 a1) [.agg [.int .i64 a0.F_N, .int .i64 a0.F_M.F_Kind, .int .i64 a0.F_M.F_In, .int .i64 a0.F_M.F_Out, .int .i64 a0.F_M.F_Hid, .int .i64 a0.F_M.F_Frac, .int .i64 a0.F_H.F_Scheme, .int .i64 a0.F_H.F_K, .int .i64 a0.F_H.F_Wide, .int .i64 a0.F_Warm, .int .i64 a0.F_Rate, .int .i64 a0.F_Mom, .int .i64 a0.F_Clip, .int .i64 a0.F_Batch, .int .u64 a0.F_Seed, .lst (List.map T_api_Sample.en a0.F_L)], .int .i64 a1] en_conf_How := Tr.fn (F := F_conf_How)
 (.call 11 (ok_conf_at a0 a1) nl_conf_within_int fun r1 => .iteX 2 11 (r1)
  (.ret 9 (0, 0, 0, 1))
  (.ite 15 17 (a0.F_H.F_Scheme = 1)
  (.call 5 (ok_model_Dim a0.F_M) nl_conf_Keep fun r2 => .ite 12 25 (r2.2 = 0)
  (.call 8 (ok_conf_Keep r2.1 a0.F_H.F_K a0.F_Warm a1) nl_conf_Keep fun r3 => .iteN 12 38 (r3.2 = 0)
  (.ret 10 (0, 0, 0, r3.2))
  (.ret 9 (a0.F_H.F_Scheme, r3.1, a0.F_H.F_Wide, 0)))
  (.iteN 7 38 (r2.2 = 0)
  (.ret 10 (0, 0, 0, r2.2))
  (.ret 9 (a0.F_H.F_Scheme, a0.F_H.F_K, a0.F_H.F_Wide, 0))))
  (.ret 9 (a0.F_H.F_Scheme, a0.F_H.F_K, a0.F_H.F_Wide, 0))))
noncomputable abbrev F_thrumref17_Check : Fe := .of Tryz.prog 64 en_press_Check
theorem ok_thrumref17_Check (a0 : T_api_Model) : HS 64 (M_thrumref17_Check a0) [.agg [.int .i64 a0.F_Kind, .int .i64 a0.F_In, .int .i64 a0.F_Out, .int .i64 a0.F_Hid, .int .i64 a0.F_Frac]] en_press_Check := Tr.fn (F := F_thrumref17_Check)
 (.join 11 4 (γ := Bool) ⟨fun x => [(11, bB x)], [1], fun _ => [], [.s 15]⟩
  (.ite 0 7 (a0.F_In ≥ 1)
  (.ret 5 (decide (a0.F_In ≤ 16)))
  (.ret 5 false))
  fun j1 => .join 1 4 (γ := Bool) ⟨fun x => [(16, bB x)], [1], fun _ => [], [.s 15]⟩
  (.iteB 0 12 (j1)
  (.ret 5 (decide (a0.F_Frac ≥ 0)))
  (.ret 5 false))
  fun j2 => .join 1 4 (γ := Bool) ⟨fun x => [(21, bB x)], [1], fun _ => [], [.s 15]⟩
  (.iteB 0 17 (j2)
  (.ret 5 (decide (a0.F_Frac ≤ 30)))
  (.ret 5 false))
  fun j3 => .ite 14 24 (a0.F_Kind = 0)
  (.join 4 4 (γ := Bool) ⟨fun x => [(31, bB x)], [1], fun _ => [], [.s 15]⟩
  (.iteB 0 27 (j3)
  (.ret 5 (a0.F_Out == 0))
  (.ret 5 false))
  fun j4 => .join 1 4 (γ := Bool) ⟨fun x => [(36, bB x)], [], fun _ => [], []⟩
  (.iteB 0 32 (j4)
  (.ret 5 (a0.F_Hid == 0))
  (.ret 5 false))
  fun j5 => .iteX 9 74 (j5)
  (.ret 7 1)
  (.ret 7 0))
  (.ite 6 37 (a0.F_Kind = 1)
  (.join 4 4 (γ := Bool) ⟨fun x => [(44, bB x)], [1], fun _ => [], [.s 15]⟩
  (.iteB 0 40 (j3)
  (.ret 5 (decide (a0.F_Out ≥ 2)))
  (.ret 5 false))
  fun j6 => .join 1 4 (γ := Bool) ⟨fun x => [(49, bB x)], [1], fun _ => [], [.s 15]⟩
  (.iteB 0 45 (j6)
  (.ret 5 (decide (a0.F_Out ≤ 8)))
  (.ret 5 false))
  fun j7 => .join 1 4 (γ := Bool) ⟨fun x => [(54, bB x)], [], fun _ => [], []⟩
  (.iteB 0 50 (j7)
  (.ret 5 (a0.F_Hid == 0))
  (.ret 5 false))
  fun j8 => .iteX 9 74 (j8)
  (.ret 7 1)
  (.ret 7 0))
  (.ite 6 55 (a0.F_Kind = 2)
  (.join 4 4 (γ := Bool) ⟨fun x => [(62, bB x)], [1], fun _ => [], [.s 15]⟩
  (.iteB 0 58 (j3)
  (.ret 5 (a0.F_Out == 0))
  (.ret 5 false))
  fun j9 => .join 1 4 (γ := Bool) ⟨fun x => [(67, bB x)], [1], fun _ => [], [.s 15]⟩
  (.iteB 0 63 (j9)
  (.ret 5 (decide (a0.F_Hid ≥ 1)))
  (.ret 5 false))
  fun j10 => .join 1 4 (γ := Bool) ⟨fun x => [(72, bB x)], [], fun _ => [], []⟩
  (.iteB 0 68 (j10)
  (.ret 5 (decide (a0.F_Hid ≤ 8)))
  (.ret 5 false))
  fun j11 => .iteX 9 74 (j11)
  (.ret 7 1)
  (.ret 7 0))
  (.ret 18 1))))
noncomputable abbrev F_thrumref15_Dim : Fe := .of Tryz.prog 65 en_conf_Keep
theorem ok_thrumref15_Dim (a0 : Int) (a1 : Int) : HS 65 (M_thrumref15_Dim a0 a1) [.int .i64 a0, .int .i64 a1] en_conf_Keep := Tr.fn (F := F_thrumref15_Dim)
 (.join 11 3 (γ := Bool) ⟨fun x => [(11, bB x)], [0, 1], fun _ => [], []⟩
  (.ite 0 8 (a0 < 1)
  (.ret 4 true)
  (.ret 4 (decide (a0 > 16))))
  fun j1 => .join 1 3 (γ := Bool) ⟨fun x => [(15, bB x)], [0, 1], fun _ => [], []⟩
  (.iteB 0 12 (j1)
  (.ret 4 true)
  (.ret 4 (decide (a1 < 2))))
  fun j2 => .join 1 3 (γ := Bool) ⟨fun x => [(19, bB x)], [0, 1], fun _ => [], []⟩
  (.iteB 0 16 (j2)
  (.ret 4 true)
  (.ret 4 (decide (a1 > 8))))
  fun j3 => .iteB 1 19 (j3)
  (.ret 8 (0, 1))
  (.ret 12 (IntKind.i64.wrap (a1 * (IntKind.i64.wrap (a0 + 1))), 0)))
noncomputable abbrev F_thrumref16_Dim : Fe := .of Tryz.prog 66 en_conf_Keep
theorem ok_thrumref16_Dim (a0 : Int) (a1 : Int) : HS 66 (M_thrumref16_Dim a0 a1) [.int .i64 a0, .int .i64 a1] en_conf_Keep := Tr.fn (F := F_thrumref16_Dim)
 (.join 11 3 (γ := Bool) ⟨fun x => [(11, bB x)], [0, 1], fun _ => [], []⟩
  (.ite 0 8 (a0 < 1)
  (.ret 4 true)
  (.ret 4 (decide (a0 > 16))))
  fun j1 => .join 1 3 (γ := Bool) ⟨fun x => [(15, bB x)], [0, 1], fun _ => [], []⟩
  (.iteB 0 12 (j1)
  (.ret 4 true)
  (.ret 4 (decide (a1 < 1))))
  fun j2 => .join 1 3 (γ := Bool) ⟨fun x => [(19, bB x)], [0, 1], fun _ => [], []⟩
  (.iteB 0 16 (j2)
  (.ret 4 true)
  (.ret 4 (decide (a1 > 8))))
  fun j3 => .iteB 1 19 (j3)
  (.ret 8 (0, 1))
  (.ret 15 (IntKind.i64.wrap ((IntKind.i64.wrap ((IntKind.i64.wrap (a1 * (IntKind.i64.wrap (a0 + 1)))) + a1)) + 1), 0)))
noncomputable abbrev F_thrumref14_Dim : Fe := .of Tryz.prog 67 en_conf_Keep
theorem ok_thrumref14_Dim (a0 : Int) : HS 67 (M_thrumref14_Dim a0) [.int .i64 a0] en_conf_Keep := Tr.fn (F := F_thrumref14_Dim)
 (.join 11 3 (γ := Bool) ⟨fun x => [(9, bB x)], [0], fun _ => [], []⟩
  (.ite 0 6 (a0 < 1)
  (.ret 4 true)
  (.ret 4 (decide (a0 > 16))))
  fun j1 => .iteB 1 9 (j1)
  (.ret 8 (0, 1))
  (.ret 10 (IntKind.i64.wrap (a0 + 1), 0)))
noncomputable abbrev F_thrumref17_Dim : Fe := .of Tryz.prog 32 en_conf_Keep
theorem ok_thrumref17_Dim (a0 : T_api_Model) : HS 32 (M_thrumref17_Dim a0) [.agg [.int .i64 a0.F_Kind, .int .i64 a0.F_In, .int .i64 a0.F_Out, .int .i64 a0.F_Hid, .int .i64 a0.F_Frac]] en_conf_Keep := Tr.fn (F := F_thrumref17_Dim)
 (.call 10 (ok_thrumref17_Check a0) nl_press_Check fun r1 => .iteN 7 8 (r1 = 0)
  (.ret 9 (0, r1))
  (.ite 14 12 (a0.F_Kind = 1)
  (.call 7 (ok_thrumref15_Dim a0.F_In a0.F_Out) nl_conf_Keep fun r2 => .ret 8 (r2.1, r2.2))
  (.ite 6 21 (a0.F_Kind = 2)
  (.call 7 (ok_thrumref16_Dim a0.F_In a0.F_Hid) nl_conf_Keep fun r3 => .ret 8 (r3.1, r3.2))
  (.call 7 (ok_thrumref14_Dim a0.F_In) nl_conf_Keep fun r4 => .ret 6 (r4.1, r4.2)))))
noncomputable abbrev F_thrumref12_Check : Fe := .of Tryz.prog 35 en_press_Check
theorem ok_thrumref12_Check (a0 : T_api_How) (a1 : Int) : HS 35 (M_thrumref12_Check a0 a1) [.agg [.int .i64 a0.F_Scheme, .int .i64 a0.F_K, .int .i64 a0.F_Wide], .int .i64 a1] en_press_Check := Tr.fn (F := F_thrumref12_Check)
 (.join 10 3 (γ := Bool) ⟨fun x => [(11, bB x)], [2, 1], fun _ => [], [.s 15]⟩
  (.ite 0 8 (a1 ≥ 1)
  (.ret 4 (decide (a1 ≤ 4096)))
  (.ret 4 false))
  fun j1 => .join 15 0 (γ := Bool) ⟨fun x => [(14, bB x)], [13, 5, 2, 1], fun _ => [], [.s 15]⟩
  (.ite 0 14 (a0.F_Scheme = 0)
  (.ret 2 true)
  (.ret 5 (a0.F_Scheme == 3)))
  fun j2 => .iteB 0 14 (j2)
  (.join 4 4 (γ := Bool) ⟨fun x => [(22, bB x)], [2], fun _ => [], [.s 15]⟩
  (.iteB 0 18 (j1)
  (.ret 5 (a0.F_K == 0))
  (.ret 5 false))
  fun j3 => .join 1 4 (γ := Bool) ⟨fun x => [(27, bB x)], [], fun _ => [], []⟩
  (.iteB 0 23 (j3)
  (.ret 5 (a0.F_Wide == 0))
  (.ret 5 false))
  fun j4 => .iteX 9 66 (j4)
  (.ret 7 1)
  (.ret 7 0))
  (.ite 6 28 (a0.F_Scheme = 1)
  (.join 4 4 (γ := Bool) ⟨fun x => [(35, bB x)], [2, 1], fun _ => [], [.s 15]⟩
  (.iteB 0 31 (j1)
  (.ret 5 (decide (a0.F_K ≥ 0)))
  (.ret 5 false))
  fun j5 => .join 1 5 (γ := Bool) ⟨fun x => [(41, bB x)], [2], fun _ => [], [.s 15]⟩
  (.iteB 0 36 (j5)
  (.ret 6 (decide (a0.F_K ≤ a1)))
  (.ret 6 false))
  fun j6 => .join 1 4 (γ := Bool) ⟨fun x => [(46, bB x)], [], fun _ => [], []⟩
  (.iteB 0 42 (j6)
  (.ret 5 (a0.F_Wide == 0))
  (.ret 5 false))
  fun j7 => .iteX 9 66 (j7)
  (.ret 7 1)
  (.ret 7 0))
  (.ite 6 47 (a0.F_Scheme = 2)
  (.join 4 4 (γ := Bool) ⟨fun x => [(54, bB x)], [2], fun _ => [], [.s 15]⟩
  (.iteB 0 50 (j1)
  (.ret 5 (a0.F_K == 0))
  (.ret 5 false))
  fun j8 => .join 1 4 (γ := Bool) ⟨fun x => [(59, bB x)], [2], fun _ => [], [.s 15]⟩
  (.iteB 0 55 (j8)
  (.ret 5 (decide (a0.F_Wide ≥ 1)))
  (.ret 5 false))
  fun j9 => .join 1 4 (γ := Bool) ⟨fun x => [(64, bB x)], [], fun _ => [], []⟩
  (.iteB 0 60 (j9)
  (.ret 5 (decide (a0.F_Wide ≤ 8)))
  (.ret 5 false))
  fun j10 => .iteX 9 66 (j10)
  (.ret 7 1)
  (.ret 7 0))
  (.ret 18 1))))
noncomputable abbrev F_thrumref15_Check : Fe := .of Tryz.prog 70 en_press_Check
def S_thrumref15_Check_l0 (a0 : Int) (a1 : Int) (a3 : List T_api_Sample) (x0 : Int) : St := ⟨[(30, nI x0), (29, nI (a3.length : Int)), (28, .d (.lst (List.map T_api_Sample.en a3))), (0, nI a0), (1, nI a1), (3, .d (.lst (List.map T_api_Sample.en a3)))], []⟩
def E_thrumref15_Check_l0 (a0 : Int) (a1 : Int) (a3 : List T_api_Sample) (x : Unit) : St := ⟨[(1, nI a1), (3, .d (.lst (List.map T_api_Sample.en a3)))], []⟩
theorem ok_thrumref15_Check_l0 (a0 : Int) (a1 : Int) (a3 : List T_api_Sample) : ∀ (x0 : Int), Ok (M_thrumref15_Check_l0 a0 a1 a3 x0) (LR F_thrumref15_Check (.exit 0) (E_thrumref15_Check_l0 a0 a1 a3) 70 0 (S_thrumref15_Check_l0 a0 a1 a3 x0)) := by
 refine M_thrumref15_Check_l0.partial_correctness a0 a1 a3 _ ?_
 intro f IH x0
 exact Tr.lpR (F := F_thrumref15_Check) (X := Int)
  (.ite 6 31 (x0 < (a3.length : Int))
   (.idx 6 T_api_Sample.e a3 x0 <| .len 8 eI ((at' a3 x0).F_X) <| .iteN 3 38 ((((at' a3 x0).F_X).length : Int) = a0)
   (.ret 9 (.inl 4))
   (.again 7 (IntKind.i64.wrap (x0 + 1))))
   (.ret 4 (.inr ()))) _ fun x r => IH x r
def S_thrumref15_Check_l1 (a1 : Int) (a3 : List T_api_Sample) (x0 : Int) : St := ⟨[(50, nI x0), (49, nI (a3.length : Int)), (48, .d (.lst (List.map T_api_Sample.en a3))), (1, nI a1)], []⟩
def E_thrumref15_Check_l1 (a1 : Int) (a3 : List T_api_Sample) (x : Unit) : St := ⟨[], []⟩
theorem ok_thrumref15_Check_l1 (a1 : Int) (a3 : List T_api_Sample) : ∀ (x0 : Int), Ok (M_thrumref15_Check_l1 a1 a3 x0) (LR F_thrumref15_Check (.exit 2) (E_thrumref15_Check_l1 a1 a3) 70 1 (S_thrumref15_Check_l1 a1 a3 x0)) := by
 refine M_thrumref15_Check_l1.partial_correctness a1 a3 _ ?_
 intro f IH x0
 exact Tr.lpR (F := F_thrumref15_Check) (X := Int)
  (.ite 6 51 (x0 < (a3.length : Int))
   (.idx 6 T_api_Sample.e a3 x0 <| .join 10 5 (γ := Bool) ⟨fun x => [(62, bB x)], [50, 49, 48, 1], fun _ => [], []⟩
   (.ite 0 57 (((at' a3 x0).F_Y) < 0)
   (.ret 6 true)
   (.ret 6 (decide (((at' a3 x0).F_Y) ≥ a1))))
   fun j4 => .iteB 1 62 (j4)
   (.ret 9 (.inl 1))
   (.again 7 (IntKind.i64.wrap (x0 + 1))))
   (.ret 4 (.inr ()))) _ fun x r => IH x r
theorem ok_thrumref15_Check (a0 : Int) (a1 : Int) (a2 : List Int) (a3 : List T_api_Sample) : HS 70 (M_thrumref15_Check a0 a1 a2 a3) [.int .i64 a0, .int .i64 a1, .lst (List.map (D.int .i64) a2), .lst (List.map T_api_Sample.en a3)] en_press_Check := Tr.fn (F := F_thrumref15_Check)
 (.call 8 (ok_thrumref15_Dim a0 a1) nl_conf_Keep fun r1 => .iteN 12 22 (r1.2 = 0)
  (.ret 8 r1.2)
  (.len 6 eI a2 <| .iteN 3 27 ((a2.length : Int) = r1.1)
  (.ret 7 4)
  (.len 6 T_api_Sample.e a3 <| .loopR 4 id ⟨_, _, _, _, _, ok_thrumref15_Check_l0 a0 a1 a3 0⟩ fun j2 => .len 5 T_api_Sample.e a3 <| .join 2 4 (γ := Bool) ⟨fun x => [(47, bB x)], [1, 3], fun _ => [], []⟩
  (.ite 0 43 ((a3.length : Int) = 0)
  (.ret 5 true)
  (.len 1 T_api_Sample.e a3 <| .ret 3 (decide ((a3.length : Int) > 64))))
  fun j3 => .iteB 1 47 (j3)
  (.ret 7 1)
  (.len 6 T_api_Sample.e a3 <| .loopR 4 id ⟨_, _, _, _, _, ok_thrumref15_Check_l1 a1 a3 0⟩ fun j5 => .ret 6 0))))
noncomputable abbrev F_thrumref16_Check : Fe := .of Tryz.prog 71 en_press_Check
def S_thrumref16_Check_l0 (a0 : Int) (a3 : List T_api_Sample) (x0 : Int) : St := ⟨[(28, nI x0), (27, nI (a3.length : Int)), (26, .d (.lst (List.map T_api_Sample.en a3))), (0, nI a0), (3, .d (.lst (List.map T_api_Sample.en a3)))], []⟩
def E_thrumref16_Check_l0 (a0 : Int) (a3 : List T_api_Sample) (x : Unit) : St := ⟨[(3, .d (.lst (List.map T_api_Sample.en a3)))], []⟩
theorem ok_thrumref16_Check_l0 (a0 : Int) (a3 : List T_api_Sample) : ∀ (x0 : Int), Ok (M_thrumref16_Check_l0 a0 a3 x0) (LR F_thrumref16_Check (.exit 0) (E_thrumref16_Check_l0 a0 a3) 71 0 (S_thrumref16_Check_l0 a0 a3 x0)) := by
 refine M_thrumref16_Check_l0.partial_correctness a0 a3 _ ?_
 intro f IH x0
 exact Tr.lpR (F := F_thrumref16_Check) (X := Int)
  (.ite 6 29 (x0 < (a3.length : Int))
   (.idx 6 T_api_Sample.e a3 x0 <| .len 8 eI ((at' a3 x0).F_X) <| .iteN 3 36 ((((at' a3 x0).F_X).length : Int) = a0)
   (.ret 9 (.inl 4))
   (.again 7 (IntKind.i64.wrap (x0 + 1))))
   (.ret 4 (.inr ()))) _ fun x r => IH x r
theorem ok_thrumref16_Check (a0 : Int) (a1 : Int) (a2 : List Int) (a3 : List T_api_Sample) : HS 71 (M_thrumref16_Check a0 a1 a2 a3) [.int .i64 a0, .int .i64 a1, .lst (List.map (D.int .i64) a2), .lst (List.map T_api_Sample.en a3)] en_press_Check := Tr.fn (F := F_thrumref16_Check)
 (.call 8 (ok_thrumref16_Dim a0 a1) nl_conf_Keep fun r1 => .iteN 12 20 (r1.2 = 0)
  (.ret 8 r1.2)
  (.len 6 eI a2 <| .iteN 3 25 ((a2.length : Int) = r1.1)
  (.ret 7 4)
  (.len 6 T_api_Sample.e a3 <| .loopR 4 id ⟨_, _, _, _, _, ok_thrumref16_Check_l0 a0 a3 0⟩ fun j2 => .len 5 T_api_Sample.e a3 <| .join 2 4 (γ := Bool) ⟨fun x => [(45, bB x)], [], fun _ => [], []⟩
  (.ite 0 41 ((a3.length : Int) = 0)
  (.ret 5 true)
  (.len 1 T_api_Sample.e a3 <| .ret 3 (decide ((a3.length : Int) > 64))))
  fun j3 => .iteB 1 45 (j3)
  (.ret 7 1)
  (.ret 7 0))))
noncomputable abbrev F_thrumref14_Check : Fe := .of Tryz.prog 72 en_press_Check
def S_thrumref14_Check_l0 (a0 : Int) (a2 : List T_api_Sample) (x0 : Int) : St := ⟨[(25, nI x0), (24, nI (a2.length : Int)), (23, .d (.lst (List.map T_api_Sample.en a2))), (0, nI a0), (2, .d (.lst (List.map T_api_Sample.en a2)))], []⟩
def E_thrumref14_Check_l0 (a0 : Int) (a2 : List T_api_Sample) (x : Unit) : St := ⟨[(2, .d (.lst (List.map T_api_Sample.en a2)))], []⟩
theorem ok_thrumref14_Check_l0 (a0 : Int) (a2 : List T_api_Sample) : ∀ (x0 : Int), Ok (M_thrumref14_Check_l0 a0 a2 x0) (LR F_thrumref14_Check (.exit 0) (E_thrumref14_Check_l0 a0 a2) 72 0 (S_thrumref14_Check_l0 a0 a2 x0)) := by
 refine M_thrumref14_Check_l0.partial_correctness a0 a2 _ ?_
 intro f IH x0
 exact Tr.lpR (F := F_thrumref14_Check) (X := Int)
  (.ite 6 26 (x0 < (a2.length : Int))
   (.idx 6 T_api_Sample.e a2 x0 <| .len 8 eI ((at' a2 x0).F_X) <| .iteN 3 33 ((((at' a2 x0).F_X).length : Int) = a0)
   (.ret 9 (.inl 4))
   (.again 7 (IntKind.i64.wrap (x0 + 1))))
   (.ret 4 (.inr ()))) _ fun x r => IH x r
theorem ok_thrumref14_Check (a0 : Int) (a1 : List Int) (a2 : List T_api_Sample) : HS 72 (M_thrumref14_Check a0 a1 a2) [.int .i64 a0, .lst (List.map (D.int .i64) a1), .lst (List.map T_api_Sample.en a2)] en_press_Check := Tr.fn (F := F_thrumref14_Check)
 (.call 7 (ok_thrumref14_Dim a0) nl_conf_Keep fun r1 => .iteN 12 17 (r1.2 = 0)
  (.ret 8 r1.2)
  (.len 6 eI a1 <| .iteN 3 22 ((a1.length : Int) = r1.1)
  (.ret 7 4)
  (.len 6 T_api_Sample.e a2 <| .loopR 4 id ⟨_, _, _, _, _, ok_thrumref14_Check_l0 a0 a2 0⟩ fun j2 => .len 5 T_api_Sample.e a2 <| .join 2 4 (γ := Bool) ⟨fun x => [(42, bB x)], [], fun _ => [], []⟩
  (.ite 0 38 ((a2.length : Int) = 0)
  (.ret 5 true)
  (.len 1 T_api_Sample.e a2 <| .ret 3 (decide ((a2.length : Int) > 64))))
  fun j3 => .iteB 1 42 (j3)
  (.ret 7 1)
  (.ret 7 0))))
noncomputable abbrev F_thrumref17_Fits : Fe := .of Tryz.prog 36 en_press_Check
theorem ok_thrumref17_Fits (a0 : T_api_Model) (a1 : List Int) (a2 : List T_api_Sample) : HS 36 (M_thrumref17_Fits a0 a1 a2) [.agg [.int .i64 a0.F_Kind, .int .i64 a0.F_In, .int .i64 a0.F_Out, .int .i64 a0.F_Hid, .int .i64 a0.F_Frac], .lst (List.map (D.int .i64) a1), .lst (List.map T_api_Sample.en a2)] en_press_Check := Tr.fn (F := F_thrumref17_Fits)
 (.call 9 (ok_thrumref17_Check a0) nl_press_Check fun r1 => .iteN 7 11 (r1 = 0)
  (.ret 8 r1)
  (.ite 14 15 (a0.F_Kind = 1)
  (.call 9 (ok_thrumref15_Check a0.F_In a0.F_Out a1 a2) nl_press_Check fun r2 => .ret 5 r2)
  (.ite 6 24 (a0.F_Kind = 2)
  (.call 9 (ok_thrumref16_Check a0.F_In a0.F_Hid a1 a2) nl_press_Check fun r3 => .ret 5 r3)
  (.call 9 (ok_thrumref14_Check a0.F_In a1 a2) nl_press_Check fun r4 => .ret 3 r4))))
noncomputable abbrev F_thrumref18_Check : Fe := .of Tryz.prog 19 en_press_Check
def S_thrumref18_Check_l0 (a0 : T_api_Conf) (r1 : Int × Int) (x0 : Int) : St := ⟨[(97, nI x0), (96, nI (a0.F_L.length : Int)), (95, .d (.lst (List.map T_api_Sample.en a0.F_L))), (3, nI r1.1), (1, .ptr (.s 15) 0)], [(.s 15, [nI a0.F_N, nI a0.F_M.F_Kind, nI a0.F_M.F_In, nI a0.F_M.F_Out, nI a0.F_M.F_Hid, nI a0.F_M.F_Frac, nI a0.F_H.F_Scheme, nI a0.F_H.F_K, nI a0.F_H.F_Wide, nI a0.F_Warm, nI a0.F_Rate, nI a0.F_Mom, nI a0.F_Clip, nI a0.F_Batch, nU a0.F_Seed, .d (.lst (List.map T_api_Sample.en a0.F_L))])]⟩
def E_thrumref18_Check_l0 (a0 : T_api_Conf) (r1 : Int × Int) (x : Unit) : St := ⟨[], []⟩
theorem ok_thrumref18_Check_l0 (a0 : T_api_Conf) (r1 : Int × Int) : ∀ (x0 : Int), Ok (M_thrumref18_Check_l0 a0 r1 x0) (LR F_thrumref18_Check (.exit 0) (E_thrumref18_Check_l0 a0 r1) 19 0 (S_thrumref18_Check_l0 a0 r1 x0)) := by
 refine M_thrumref18_Check_l0.partial_correctness a0 r1 _ ?_
 intro f IH x0
 exact Tr.lpR (F := F_thrumref18_Check) (X := Int)
  (.ite 6 98 (x0 < (a0.F_L.length : Int))
   (.idx 6 T_api_Sample.e a0.F_L x0 <| .join 5 0 (γ := Bool) ⟨fun x => [(108, bB x)], [97, 96, 95, 3, 1], fun _ => [], [.s 15]⟩
   (.draws 0 (.mk 4 eI 8 0 r1.1 r1.1 <| .hold 1 [] <| .hold 2 [] <| .call 0 (ok_thrumref17_Fits a0.F_M (List.replicate (Int.toNat r1.1) 0) [at' a0.F_L x0]) nl_press_Check fun r15 => .ret 3 (r15 != 0)) (.hold 6 [] <| .mk 0 eI 8 0 r1.1 r1.1 <| .hold 1 [] <| .call 0 (ok_thrumref17_Fits a0.F_M (List.replicate (Int.toNat r1.1) 0) [at' a0.F_L x0]) nl_press_Check fun r15 => .ret 3 (r15 != 0)))
   fun j16 => .iteB 0 108 (j16)
   (.ret 9 (.inl 1))
   (.again 7 (IntKind.i64.wrap (x0 + 1))))
   (.ret 4 (.inr ()))) _ fun x r => IH x r
theorem ok_thrumref18_Check (a0 : T_api_Conf) : HS 19 (M_thrumref18_Check a0) [.agg [.int .i64 a0.F_N, .int .i64 a0.F_M.F_Kind, .int .i64 a0.F_M.F_In, .int .i64 a0.F_M.F_Out, .int .i64 a0.F_M.F_Hid, .int .i64 a0.F_M.F_Frac, .int .i64 a0.F_H.F_Scheme, .int .i64 a0.F_H.F_K, .int .i64 a0.F_H.F_Wide, .int .i64 a0.F_Warm, .int .i64 a0.F_Rate, .int .i64 a0.F_Mom, .int .i64 a0.F_Clip, .int .i64 a0.F_Batch, .int .u64 a0.F_Seed, .lst (List.map T_api_Sample.en a0.F_L)]] en_press_Check := Tr.fn (F := F_thrumref18_Check)
 (.call 9 (ok_thrumref17_Dim a0.F_M) nl_conf_Keep fun r1 => .join 12 4 (γ := Bool) ⟨fun x => [(20, bB x)], [3, 1], fun _ => [], [.s 15]⟩
  (.iteN 0 16 (r1.2 = 0)
  (.ret 5 true)
  (.ret 5 (decide (a0.F_N < 1))))
  fun j2 => .join 1 4 (γ := Bool) ⟨fun x => [(25, bB x)], [3, 1], fun _ => [], [.s 15]⟩
  (.iteB 0 21 (j2)
  (.ret 5 true)
  (.ret 5 (decide (a0.F_N > 64))))
  fun j3 => .join 1 6 (γ := Bool) ⟨fun x => [(32, bB x)], [3, 1], fun _ => [], [.s 15]⟩
  (.iteB 0 26 (j3)
  (.ret 7 true)
  (.call 3 (ok_thrumref12_Check a0.F_H r1.1) nl_press_Check fun r4 => .ret 3 (r4 != 0)))
  fun j5 => .join 1 4 (γ := Bool) ⟨fun x => [(37, bB x)], [3, 1], fun _ => [], [.s 15]⟩
  (.iteB 0 33 (j5)
  (.ret 5 true)
  (.ret 5 (decide (a0.F_Warm < 0))))
  fun j6 => .join 1 4 (γ := Bool) ⟨fun x => [(42, bB x)], [3, 1], fun _ => [], [.s 15]⟩
  (.iteB 0 38 (j6)
  (.ret 5 true)
  (.ret 5 (decide (a0.F_Warm > 1048576))))
  fun j7 => .iteB 1 42 (j7)
  (.ret 7 1)
  (.rd 7 (0 ≤ a0.F_M.F_Frac) (nI (sShl .i64 1 a0.F_M.F_Frac)) <| .join 9 5 (γ := Bool) ⟨fun x => [(55, bB x)], [5, 3, 1], fun _ => [], [.s 15]⟩
  (.ite 0 50 (a0.F_Rate < 0)
  (.ret 6 true)
  (.ret 6 (decide (a0.F_Rate > (sShl .i64 1 a0.F_M.F_Frac)))))
  fun j8 => .join 1 4 (γ := Bool) ⟨fun x => [(60, bB x)], [5, 3, 1], fun _ => [], [.s 15]⟩
  (.iteB 0 56 (j8)
  (.ret 5 true)
  (.ret 5 (decide (a0.F_Mom < 0))))
  fun j9 => .join 1 5 (γ := Bool) ⟨fun x => [(66, bB x)], [3, 1], fun _ => [], [.s 15]⟩
  (.iteB 0 61 (j9)
  (.ret 6 true)
  (.ret 6 (decide (a0.F_Mom > (sShl .i64 1 a0.F_M.F_Frac)))))
  fun j10 => .join 1 4 (γ := Bool) ⟨fun x => [(71, bB x)], [3, 1], fun _ => [], [.s 15]⟩
  (.iteB 0 67 (j10)
  (.ret 5 true)
  (.ret 5 (decide (a0.F_Clip < 0))))
  fun j11 => .iteB 1 71 (j11)
  (.ret 7 1)
  (.len 7 T_api_Sample.e a0.F_L <| .join 2 4 (γ := Bool) ⟨fun x => [(80, bB x)], [3, 1], fun _ => [], [.s 15]⟩
  (.ite 0 76 ((a0.F_L.length : Int) > 256)
  (.ret 5 true)
  (.ret 5 (decide (a0.F_Batch < 1))))
  fun j12 => .join 1 4 (γ := Bool) ⟨fun x => [(85, bB x)], [3, 1], fun _ => [], [.s 15]⟩
  (.iteB 0 81 (j12)
  (.ret 5 true)
  (.ret 5 (decide (a0.F_Batch > 64))))
  fun j13 => .join 1 7 (γ := Bool) ⟨fun x => [(93, bB x)], [3, 1], fun _ => [], [.s 15]⟩
  (.iteB 0 86 (j13)
  (.ret 8 true)
  (.len 4 T_api_Sample.e a0.F_L <| .ret 3 (decide (a0.F_Batch > (a0.F_L.length : Int)))))
  fun j14 => .iteB 1 93 (j14)
  (.ret 7 1)
  (.len 7 T_api_Sample.e a0.F_L <| .loopR 4 id ⟨_, _, _, _, _, ok_thrumref18_Check_l0 a0 r1 0⟩ fun j17 => .ret 6 0))))
noncomputable abbrev F_thrumref18_Keep : Fe := .of Tryz.prog 18 en_conf_Keep
theorem ok_thrumref18_Keep (a0 : Int) (a1 : Int) (a2 : Int) (a3 : Int) : HS 18 (M_thrumref18_Keep a0 a1 a2 a3) [.int .i64 a0, .int .i64 a1, .int .i64 a2, .int .i64 a3] en_conf_Keep := Tr.fn (F := F_thrumref18_Keep)
 (.join 11 3 (γ := Bool) ⟨fun x => [(15, bB x)], [0, 1, 2, 3], fun _ => [], []⟩
  (.ite 0 12 (a0 < 1)
  (.ret 4 true)
  (.ret 4 (decide (a0 > 4096))))
  fun j1 => .join 1 3 (γ := Bool) ⟨fun x => [(19, bB x)], [0, 1, 2, 3], fun _ => [], []⟩
  (.iteB 0 16 (j1)
  (.ret 4 true)
  (.ret 4 (decide (a1 < 0))))
  fun j2 => .join 1 4 (γ := Bool) ⟨fun x => [(24, bB x)], [0, 1, 2, 3], fun _ => [], []⟩
  (.iteB 0 20 (j2)
  (.ret 5 true)
  (.ret 5 (decide (a1 > a0))))
  fun j3 => .join 1 3 (γ := Bool) ⟨fun x => [(28, bB x)], [0, 1, 2, 3], fun _ => [], []⟩
  (.iteB 0 25 (j3)
  (.ret 4 true)
  (.ret 4 (decide (a2 < 0))))
  fun j4 => .join 1 3 (γ := Bool) ⟨fun x => [(32, bB x)], [0, 1, 2, 3], fun _ => [], []⟩
  (.iteB 0 29 (j4)
  (.ret 4 true)
  (.ret 4 (decide (a2 > 1048576))))
  fun j5 => .join 1 3 (γ := Bool) ⟨fun x => [(36, bB x)], [0, 1, 2, 3], fun _ => [], []⟩
  (.iteB 0 33 (j5)
  (.ret 4 true)
  (.ret 4 (decide (a3 < 0))))
  fun j6 => .join 1 3 (γ := Bool) ⟨fun x => [(40, bB x)], [0, 1, 2, 3], fun _ => [], []⟩
  (.iteB 0 37 (j6)
  (.ret 4 true)
  (.ret 4 (decide (a3 > 1073741824))))
  fun j7 => .iteB 1 40 (j7)
  (.ret 8 (0, 1))
  (.ite 9 43 (a3 ≥ a2)
  (.ret 9 (a1, 0))
  (.rd 11 (a2 ≠ 0) (nI (IntKind.i64.wrap (Int.tdiv (IntKind.i64.wrap ((IntKind.i64.wrap (a0 - a1)) * a3)) a2))) <| .ret 5 (IntKind.i64.wrap (a0 - (IntKind.i64.wrap (Int.tdiv (IntKind.i64.wrap ((IntKind.i64.wrap (a0 - a1)) * a3)) a2))), 0))))
noncomputable abbrev F_thrumref18_How : Fe := .of Tryz.prog 14 en_conf_How
theorem ok_thrumref18_How (a0 : T_api_Conf) (a1 : Int) : HS 14 (M_thrumref18_How a0 a1) [.agg [.int .i64 a0.F_N, .int .i64 a0.F_M.F_Kind, .int .i64 a0.F_M.F_In, .int .i64 a0.F_M.F_Out, .int .i64 a0.F_M.F_Hid, .int .i64 a0.F_M.F_Frac, .int .i64 a0.F_H.F_Scheme, .int .i64 a0.F_H.F_K, .int .i64 a0.F_H.F_Wide, .int .i64 a0.F_Warm, .int .i64 a0.F_Rate, .int .i64 a0.F_Mom, .int .i64 a0.F_Clip, .int .i64 a0.F_Batch, .int .u64 a0.F_Seed, .lst (List.map T_api_Sample.en a0.F_L)], .int .i64 a1] en_conf_How := Tr.fn (F := F_thrumref18_How)
 (.call 10 (ok_thrumref18_Check a0) nl_press_Check fun r1 => .join 2 3 (γ := Bool) ⟨fun x => [(15, bB x)], [4, 2, 1], fun _ => [], [.s 31, .s 15]⟩
  (.iteN 0 12 (r1 = 0)
  (.ret 4 true)
  (.ret 4 (decide (a1 < 0))))
  fun j2 => .join 1 3 (γ := Bool) ⟨fun x => [(19, bB x)], [4, 2, 1], fun _ => [], [.s 31, .s 15]⟩
  (.iteB 0 16 (j2)
  (.ret 4 true)
  (.ret 4 (decide (a1 > 1073741824))))
  fun j3 => .iteB 1 19 (j3)
  (.ret 9 (0, 0, 0, 1))
  (.ite 16 25 (a0.F_H.F_Scheme = 1)
  (.call 5 (ok_thrumref17_Dim a0.F_M) nl_conf_Keep fun r4 => .call 13 (ok_thrumref18_Keep r4.1 a0.F_H.F_K a0.F_Warm a1) nl_conf_Keep fun r5 => .ret 13 (a0.F_H.F_Scheme, r5.1, a0.F_H.F_Wide, 0))
  (.ret 9 (a0.F_H.F_Scheme, a0.F_H.F_K, a0.F_H.F_Wide, 0))))
def en_thrum_draw_stir_with (v : Int) : PV := nU v
noncomputable abbrev F_thrum_draw_stir_with : Fe := .of Tryz.prog 96 en_thrum_draw_stir_with
theorem nl_thrum_draw_stir_with : ∀ v, (en_thrum_draw_stir_with v).noLst := fun _ => trivial
theorem ok_thrum_draw_stir_with (a0 : Int) (a1 : Int) : HS 96 (M_thrum_draw_stir_with a0 a1) [.int .u64 a0, .int .i64 a1] en_thrum_draw_stir_with := Tr.fn (F := F_thrum_draw_stir_with)
 (.ret 22 (bXor .u64 (IntKind.u64.wrap ((bXor .u64 a0 (IntKind.u64.wrap a1)) * 11400714819323198485)) (sShr .u64 (IntKind.u64.wrap ((bXor .u64 a0 (IntKind.u64.wrap a1)) * 11400714819323198485)) 29)))
noncomputable abbrev F_draw_over : Fe := .of Tryz.prog 95 en_thrum_draw_stir_with
def S_draw_over_l0 (a1 : List Int) (x0 : Int) (x1 : Int) : St := ⟨[(11, nI x0), (10, nI (a1.length : Int)), (9, lI a1), (5, nU x1)], []⟩
def E_draw_over_l0 (a1 : List Int) (x : Int) : St := ⟨[(5, nU x)], []⟩
theorem ok_draw_over_l0 (a1 : List Int) : ∀ (x0 : Int) (x1 : Int), Ok (M_draw_over_l0 a1 x0 x1) (LN F_draw_over (.exit 0) (E_draw_over_l0 a1) 95 0 (S_draw_over_l0 a1 x0 x1)) := by
 refine M_draw_over_l0.partial_correctness a1 _ ?_
 intro f IH x0 x1
 exact Tr.lpN (F := F_draw_over) (X := Int × Int)
  (.ite 6 12 (x0 < (a1.length : Int))
   (.idx 6 eI a1 x0 <| .call 6 (ok_thrum_draw_stir_with x1 (at' a1 x0)) nl_thrum_draw_stir_with fun r1 => .again 7 (IntKind.i64.wrap (x0 + 1), r1))
   (.ret 4 x1)) _ fun x r => IH x.1 x.2 r
theorem ok_draw_over (a0 : Int) (a1 : List Int) : HS 95 (M_draw_over a0 a1) [.int .u64 a0, .lst (List.map (D.int .i64) a1)] en_thrum_draw_stir_with := Tr.fn (F := F_draw_over)
 (.len 13 eI a1 <| .loop 4 ⟨_, _, _, _, _, ok_draw_over_l0 a1 0 a0⟩ fun j2 => .ret 7 j2)
noncomputable abbrev F_thrum_draw_stir_end : Fe := .of Tryz.prog 97 en_thrum_draw_stir_with
theorem ok_thrum_draw_stir_end (a0 : Int) : HS 97 (M_thrum_draw_stir_end a0) [.int .u64 a0] en_thrum_draw_stir_with := Tr.fn (F := F_thrum_draw_stir_end)
 (.ret 19 (bXor .u64 (IntKind.u64.wrap (a0 * 13787848793156543929)) (sShr .u64 (IntKind.u64.wrap (a0 * 13787848793156543929)) 32)))
def en_draw_Order (v : (List Int) × Int) : PV := .tup [sI (.s 0) v.1, nI v.2]
noncomputable abbrev F_draw_Order : Fe := .of Tryz.prog 68 en_draw_Order
def S_draw_Order_l0 (a0 : Int) (a1 : Int) (a2 : List Int) (y1 : List Int) (x0 : Int) (x1 : List Int) : St := ⟨[(23, nI x0), (22, nI (y1.length : Int)), (8, sI (.h 0) x1), (0, nI a0), (1, nU a1), (2, lI a2)], []⟩
def E_draw_Order_l0 (a0 : Int) (a1 : Int) (a2 : List Int) (y1 : List Int) (x : (List Int)) : St := ⟨[(8, sI (.h 1) x), (0, nI a0), (1, nU a1), (2, lI a2)], []⟩
theorem ok_draw_Order_l0 (a0 : Int) (a1 : Int) (a2 : List Int) (y1 : List Int) : ∀ (x0 : Int) (x1 : List Int), Ok (M_draw_Order_l0 a0 a1 a2 y1 x0 x1) (LN F_draw_Order (.exit 1) (E_draw_Order_l0 a0 a1 a2 y1) 68 0 (S_draw_Order_l0 a0 a1 a2 y1 x0 x1)) := by
 refine M_draw_Order_l0.partial_correctness a0 a1 a2 y1 _ ?_
 intro f IH x0 x1
 exact Tr.lpN (F := F_draw_Order) (X := Int × (List Int))
  (.ite 6 24 (x0 < (y1.length : Int))
   (.idx 13 eI x1 x0 <| .sto 0 [8] eI x1 x0 x0 <| .again 6 (IntKind.i64.wrap (x0 + 1), x1.set (Int.toNat x0) x0))
   (.ret 4 x1)) _ fun x r => IH x.1 x.2 r
def S_draw_Order_l1 (r4 : Int) (x0 : Int) (x1 : List Int) : St := ⟨[(11, nI x0), (10, nU r4), (8, sI (.h 2) x1)], []⟩
def E_draw_Order_l1 (r4 : Int) (x : (List Int)) : St := ⟨[(8, sI (.h 3) x)], []⟩
theorem ok_draw_Order_l1 (r4 : Int) : ∀ (x0 : Int) (x1 : List Int), Ok (M_draw_Order_l1 r4 x0 x1) (LN F_draw_Order (.exit 3) (E_draw_Order_l1 r4) 68 1 (S_draw_Order_l1 r4 x0 x1)) := by
 refine M_draw_Order_l1.partial_correctness r4 _ ?_
 intro f IH x0 x1
 exact Tr.lpN (F := F_draw_Order) (X := Int × (List Int))
  (.ite 7 37 (x0 > 0)
   (.call 8 (ok_thrum_draw_stir_with r4 x0) nl_thrum_draw_stir_with fun r5 => .call 0 (ok_thrum_draw_stir_end r5) nl_thrum_draw_stir_with fun r6 => .rd 3 (IntKind.u64.wrap (IntKind.i64.wrap (x0 + 1)) ≠ 0) (nU (Int.tmod r6 (IntKind.u64.wrap (IntKind.i64.wrap (x0 + 1))))) <| .idx 9 eI x1 (Int.tmod r6 (IntKind.u64.wrap (IntKind.i64.wrap (x0 + 1)))) <| .idx 3 eI x1 x0 <| .idx 1 eI x1 x0 <| .sto 0 [56, 52, 50, 48, 8] eI x1 x0 (at' x1 (Int.tmod r6 (IntKind.u64.wrap (IntKind.i64.wrap (x0 + 1))))) <| .hold 1 [] <| .idx 0 eI (x1.set (Int.toNat x0) (at' x1 (Int.tmod r6 (IntKind.u64.wrap (IntKind.i64.wrap (x0 + 1)))))) (Int.tmod r6 (IntKind.u64.wrap (IntKind.i64.wrap (x0 + 1)))) <| .sto 0 [56, 52, 50, 48, 8] eI (x1.set (Int.toNat x0) (at' x1 (Int.tmod r6 (IntKind.u64.wrap (IntKind.i64.wrap (x0 + 1)))))) (Int.tmod r6 (IntKind.u64.wrap (IntKind.i64.wrap (x0 + 1)))) (at' x1 x0) <| .let_ ((x1.set (Int.toNat x0) (at' x1 (Int.tmod r6 (IntKind.u64.wrap (IntKind.i64.wrap (x0 + 1)))))).set (Int.toNat (Int.tmod r6 (IntKind.u64.wrap (IntKind.i64.wrap (x0 + 1))))) (at' x1 x0) : List Int) fun y7 => .again 8 (IntKind.i64.wrap (x0 - 1), y7))
   (.ret 4 x1)) _ fun x r => IH x.1 x.2 r
theorem nl_draw_Order : ∀ v, (en_draw_Order v).noLst := fun _ => ⟨(flat_map_of fun _ => trivial), trivial, trivial⟩
theorem ok_draw_Order (a0 : Int) (a1 : Int) (a2 : List Int) : HS 68 (M_draw_Order a0 a1 a2) [.int .i64 a0, .int .u64 a1, .lst (List.map (D.int .i64) a2)] en_draw_Order := Tr.fn (F := F_draw_Order)
 (.ite 13 13 (a0 < 0)
  (.ret 9 ([], 1))
  (.ite 7 16 (a0 > 4096)
  (.ret 9 ([], 3))
  (.mk 6 eI 8 0 a0 a0 <| .let_ (List.replicate (Int.toNat a0) 0 : List Int) fun y1 => .len 6 eI y1 <| .loop 4 ⟨_, _, _, _, _, ok_draw_Order_l0 a0 a1 a2 y1 0 y1⟩ fun j3 => .call 5 (ok_draw_over a1 a2) nl_thrum_draw_stir_with fun r4 => .loop 11 ⟨_, _, _, _, _, ok_draw_Order_l1 r4 (IntKind.i64.wrap (a0 - 1)) j3⟩ fun j9 => .ret 8 (j9, 0))))
noncomputable abbrev F_draw_Pick : Fe := .of Tryz.prog 33 en_draw_Order
theorem ok_draw_Pick (a0 : Int) (a1 : Int) (a2 : Int) (a3 : List Int) : HS 33 (M_draw_Pick a0 a1 a2 a3) [.int .i64 a0, .int .i64 a1, .int .u64 a2, .lst (List.map (D.int .i64) a3)] en_draw_Order := Tr.fn (F := F_draw_Pick)
 (.join 11 4 (γ := Bool) ⟨fun x => [(18, bB x)], [0, 1, 2, 3], fun _ => [], []⟩
  (.ite 0 14 (a0 < 0)
  (.ret 5 true)
  (.ret 5 (decide (a0 > a1))))
  fun j1 => .iteB 1 18 (j1)
  (.ret 8 ([], 1))
  (.call 7 (ok_draw_Order a1 a2 a3) nl_draw_Order fun r2 => .iteN 12 27 (r2.2 = 0)
  (.ret 9 ([], r2.2))
  (.cut 6 eI r2.1 none (some a0) <| .ret 4 (cut' r2.1 none (some a0), 0))))
noncomputable abbrev F_conf_Picks : Fe := .of Tryz.prog 15 en_draw_Order
theorem ok_conf_Picks (a0 : T_api_Conf) (a1 : Int) (a2 : Int) : HS 15 (M_conf_Picks a0 a1 a2) [.agg [.int .i64 a0.F_N, .int .i64 a0.F_M.F_Kind, .int .i64 a0.F_M.F_In, .int .i64 a0.F_M.F_Out, .int .i64 a0.F_M.F_Hid, .int .i64 a0.F_M.F_Frac, .int .i64 a0.F_H.F_Scheme, .int .i64 a0.F_H.F_K, .int .i64 a0.F_H.F_Wide, .int .i64 a0.F_Warm, .int .i64 a0.F_Rate, .int .i64 a0.F_Mom, .int .i64 a0.F_Clip, .int .i64 a0.F_Batch, .int .u64 a0.F_Seed, .lst (List.map T_api_Sample.en a0.F_L)], .int .i64 a1, .int .i64 a2] en_draw_Order := Tr.fn (F := F_conf_Picks)
 (.call 11 (ok_conf_at a0 a2) nl_conf_within_int fun r1 => .join 2 7 (γ := Bool) ⟨fun x => [(19, bB x)], [3, 1, 2], fun _ => [], [.s 15]⟩
  (.iteX 0 12 (r1)
  (.ret 8 true)
  (.call 4 (ok_conf_within_int a1 0 (IntKind.i64.wrap (a0.F_N - 1))) nl_conf_within_int fun r2 => .ret 3 (!r2)))
  fun j3 => .iteB 1 19 (j3)
  (.ret 8 ([], 1))
  (.len 8 T_api_Sample.e a0.F_L <| .call 5 (ok_draw_Pick a0.F_Batch (a0.F_L.length : Int) a0.F_Seed [a1, a2]) nl_draw_Order fun r4 => .ret 6 (r4.1, r4.2)))
noncomputable abbrev F_thrumref08_At : Fe := .of Tryz.prog 124 en_thrum_draw_stir_with
def S_thrumref08_At_l0 (a1 : List Int) (x0 : Int) (x1 : Int) : St := ⟨[(11, nI x0), (10, nI (a1.length : Int)), (9, lI a1), (5, nU x1)], []⟩
def E_thrumref08_At_l0 (a1 : List Int) (x : Int) : St := ⟨[(5, nU x)], []⟩
theorem ok_thrumref08_At_l0 (a1 : List Int) : ∀ (x0 : Int) (x1 : Int), Ok (M_thrumref08_At_l0 a1 x0 x1) (LN F_thrumref08_At (.exit 0) (E_thrumref08_At_l0 a1) 124 0 (S_thrumref08_At_l0 a1 x0 x1)) := by
 refine M_thrumref08_At_l0.partial_correctness a1 _ ?_
 intro f IH x0 x1
 exact Tr.lpN (F := F_thrumref08_At) (X := Int × Int)
  (.ite 6 12 (x0 < (a1.length : Int))
   (.idx 6 eI a1 x0 <| .let_ (bXor .u64 (IntKind.u64.wrap ((bXor .u64 x1 (IntKind.u64.wrap (at' a1 x0))) * 11400714819323198485)) (sShr .u64 (IntKind.u64.wrap ((bXor .u64 x1 (IntKind.u64.wrap (at' a1 x0))) * 11400714819323198485)) 29) : Int) fun y1 => .again 29 (IntKind.i64.wrap (x0 + 1), y1))
   (.ret 4 x1)) _ fun x r => IH x.1 x.2 r
theorem ok_thrumref08_At (a0 : Int) (a1 : List Int) : HS 124 (M_thrumref08_At a0 a1) [.int .u64 a0, .lst (List.map (D.int .i64) a1)] en_thrum_draw_stir_with := Tr.fn (F := F_thrumref08_At)
 (.len 13 eI a1 <| .loop 4 ⟨_, _, _, _, _, ok_thrumref08_At_l0 a1 0 a0⟩ fun j3 => .ret 16 (bXor .u64 (IntKind.u64.wrap (j3 * 13787848793156543929)) (sShr .u64 (IntKind.u64.wrap (j3 * 13787848793156543929)) 32)))
def en_thrumref08_Below (v : Int × Int) : PV := .tup [nU v.1, nI v.2]
noncomputable abbrev F_thrumref08_Below : Fe := .of Tryz.prog 98 en_thrumref08_Below
theorem nl_thrumref08_Below : ∀ v, (en_thrumref08_Below v).noLst := fun _ => ⟨trivial, trivial, trivial⟩
theorem ok_thrumref08_Below (a0 : Int) (a1 : Int) (a2 : List Int) : HS 98 (M_thrumref08_Below a0 a1 a2) [.int .u64 a0, .int .u64 a1, .lst (List.map (D.int .i64) a2)] en_thrumref08_Below := Tr.fn (F := F_thrumref08_Below)
 (.ite 11 9 (a0 = 0)
  (.ret 8 (0, 1))
  (.call 6 (ok_thrumref08_At a1 a2) nl_thrum_draw_stir_with fun r1 => .rd 1 (a0 ≠ 0) (nU (Int.tmod r1 a0)) <| .ret 4 (Int.tmod r1 a0, 0)))
noncomputable abbrev F_thrumref08_Order : Fe := .of Tryz.prog 69 en_draw_Order
def S_thrumref08_Order_l0 (a0 : Int) (a1 : Int) (a2 : List Int) (y1 : List Int) (x0 : Int) (x1 : List Int) : St := ⟨[(22, nI x0), (21, nI (y1.length : Int)), (8, sI (.h 0) x1), (0, nI a0), (1, nU a1), (2, lI a2)], []⟩
def E_thrumref08_Order_l0 (a0 : Int) (a1 : Int) (a2 : List Int) (y1 : List Int) (x : (List Int)) : St := ⟨[(8, sI (.h 1) x), (0, nI a0), (1, nU a1), (2, lI a2)], []⟩
theorem ok_thrumref08_Order_l0 (a0 : Int) (a1 : Int) (a2 : List Int) (y1 : List Int) : ∀ (x0 : Int) (x1 : List Int), Ok (M_thrumref08_Order_l0 a0 a1 a2 y1 x0 x1) (LN F_thrumref08_Order (.exit 0) (E_thrumref08_Order_l0 a0 a1 a2 y1) 69 0 (S_thrumref08_Order_l0 a0 a1 a2 y1 x0 x1)) := by
 refine M_thrumref08_Order_l0.partial_correctness a0 a1 a2 y1 _ ?_
 intro f IH x0 x1
 exact Tr.lpN (F := F_thrumref08_Order) (X := Int × (List Int))
  (.ite 6 23 (x0 < (y1.length : Int))
   (.idx 13 eI x1 x0 <| .sto 0 [8] eI x1 x0 x0 <| .again 6 (IntKind.i64.wrap (x0 + 1), x1.set (Int.toNat x0) x0))
   (.ret 4 x1)) _ fun x r => IH x.1 x.2 r
def S_thrumref08_Order_l1 (a1 : Int) (a2 : List Int) (x0 : Int) (x1 : List Int) : St := ⟨[(10, nI x0), (8, sI (.h 2) x1), (1, nU a1), (2, lI a2)], []⟩
def E_thrumref08_Order_l1 (a1 : Int) (a2 : List Int) (x : (List Int)) : St := ⟨[(8, sI (.h 3) x)], []⟩
theorem ok_thrumref08_Order_l1 (a1 : Int) (a2 : List Int) : ∀ (x0 : Int) (x1 : List Int), Ok (M_thrumref08_Order_l1 a1 a2 x0 x1) (LN F_thrumref08_Order (.exit 2) (E_thrumref08_Order_l1 a1 a2) 69 1 (S_thrumref08_Order_l1 a1 a2 x0 x1)) := by
 refine M_thrumref08_Order_l1.partial_correctness a1 a2 _ ?_
 intro f IH x0 x1
 exact Tr.lpN (F := F_thrumref08_Order) (X := Int × (List Int))
  (.ite 7 33 (x0 ≥ 1)
   (.appN 11 eI 8 a2 <| .app 2 eI 8 a2 [x0] <| .call 0 (ok_thrumref08_Below (IntKind.u64.wrap (IntKind.i64.wrap (x0 + 1))) a1 (a2 ++ [x0])) nl_thrumref08_Below fun r4 => .idx 10 eI x1 x0 <| .idx 9 eI x1 r4.1 <| .idx 1 eI x1 x0 <| .sto 0 [8] eI x1 x0 (at' x1 r4.1) <| .let_ (x1.set (Int.toNat x0) (at' x1 r4.1) : List Int) fun y5 => .idx 5 eI y5 r4.1 <| .sto 0 [8] eI y5 r4.1 (at' x1 x0) <| .let_ (y5.set (Int.toNat r4.1) (at' x1 x0) : List Int) fun y7 => .again 7 (IntKind.i64.wrap (x0 - 1), y7))
   (.ret 4 x1)) _ fun x r => IH x.1 x.2 r
theorem ok_thrumref08_Order (a0 : Int) (a1 : Int) (a2 : List Int) : HS 69 (M_thrumref08_Order a0 a1 a2) [.int .i64 a0, .int .u64 a1, .lst (List.map (D.int .i64) a2)] en_draw_Order := Tr.fn (F := F_thrumref08_Order)
 (.ite 11 15 (a0 < 0)
  (.ret 8 ([], 1))
  (.ite 8 17 (a0 > 4096)
  (.ret 8 ([], 3))
  (.mk 5 eI 8 0 a0 a0 <| .let_ (List.replicate (Int.toNat a0) 0 : List Int) fun y1 => .len 6 eI y1 <| .loop 4 ⟨_, _, _, _, _, ok_thrumref08_Order_l0 a0 a1 a2 y1 0 y1⟩ fun j3 => .loop 10 ⟨_, _, _, _, _, ok_thrumref08_Order_l1 a1 a2 (IntKind.i64.wrap (a0 - 1)) j3⟩ fun j9 => .ret 8 (j9, 0))))
noncomputable abbrev F_thrumref08_Pick : Fe := .of Tryz.prog 34 en_draw_Order
theorem ok_thrumref08_Pick (a0 : Int) (a1 : Int) (a2 : Int) (a3 : List Int) : HS 34 (M_thrumref08_Pick a0 a1 a2 a3) [.int .i64 a0, .int .i64 a1, .int .u64 a2, .lst (List.map (D.int .i64) a3)] en_draw_Order := Tr.fn (F := F_thrumref08_Pick)
 (.join 11 4 (γ := Bool) ⟨fun x => [(18, bB x)], [0, 1, 2, 3], fun _ => [], []⟩
  (.ite 0 14 (a0 < 0)
  (.ret 5 true)
  (.ret 5 (decide (a0 > a1))))
  fun j1 => .iteB 1 18 (j1)
  (.ret 8 ([], 1))
  (.call 7 (ok_thrumref08_Order a1 a2 a3) nl_draw_Order fun r2 => .iteN 12 27 (r2.2 = 0)
  (.ret 9 ([], r2.2))
  (.cut 6 eI r2.1 none (some a0) <| .ret 4 (cut' r2.1 none (some a0), 0))))
noncomputable abbrev F_thrumref18_Picks : Fe := .of Tryz.prog 16 en_draw_Order
theorem ok_thrumref18_Picks (a0 : T_api_Conf) (a1 : Int) (a2 : Int) : HS 16 (M_thrumref18_Picks a0 a1 a2) [.agg [.int .i64 a0.F_N, .int .i64 a0.F_M.F_Kind, .int .i64 a0.F_M.F_In, .int .i64 a0.F_M.F_Out, .int .i64 a0.F_M.F_Hid, .int .i64 a0.F_M.F_Frac, .int .i64 a0.F_H.F_Scheme, .int .i64 a0.F_H.F_K, .int .i64 a0.F_H.F_Wide, .int .i64 a0.F_Warm, .int .i64 a0.F_Rate, .int .i64 a0.F_Mom, .int .i64 a0.F_Clip, .int .i64 a0.F_Batch, .int .u64 a0.F_Seed, .lst (List.map T_api_Sample.en a0.F_L)], .int .i64 a1, .int .i64 a2] en_draw_Order := Tr.fn (F := F_thrumref18_Picks)
 (.call 10 (ok_thrumref18_Check a0) nl_press_Check fun r1 => .join 2 3 (γ := Bool) ⟨fun x => [(14, bB x)], [3, 1, 2], fun _ => [], [.s 15]⟩
  (.iteN 0 11 (r1 = 0)
  (.ret 4 true)
  (.ret 4 (decide (a2 < 0))))
  fun j2 => .join 1 3 (γ := Bool) ⟨fun x => [(18, bB x)], [3, 1, 2], fun _ => [], [.s 15]⟩
  (.iteB 0 15 (j2)
  (.ret 4 true)
  (.ret 4 (decide (a2 > 1073741824))))
  fun j3 => .join 1 3 (γ := Bool) ⟨fun x => [(22, bB x)], [3, 1, 2], fun _ => [], [.s 15]⟩
  (.iteB 0 19 (j3)
  (.ret 4 true)
  (.ret 4 (decide (a1 < 0))))
  fun j4 => .join 1 5 (γ := Bool) ⟨fun x => [(28, bB x)], [3, 1, 2], fun _ => [], [.s 15]⟩
  (.iteB 0 23 (j4)
  (.ret 6 true)
  (.ret 6 (decide (a1 ≥ a0.F_N))))
  fun j5 => .iteB 1 28 (j5)
  (.ret 8 ([], 1))
  (.len 8 T_api_Sample.e a0.F_L <| .call 5 (ok_thrumref08_Pick a0.F_Batch (a0.F_L.length : Int) a0.F_Seed [a1, a2]) nl_draw_Order fun r6 => .ret 6 (r6.1, r6.2)))
noncomputable abbrev F_thrumref06_Equal : Fe := .of Tryz.prog 20 en_conf_within_int
def S_thrumref06_Equal_l0 (a0 : List Int) (a1 : List Int) (x0 : Int) : St := ⟨[(13, nI x0), (12, nI (a0.length : Int)), (0, lI a0), (1, lI a1)], []⟩
def E_thrumref06_Equal_l0 (a0 : List Int) (a1 : List Int) (x : Unit) : St := ⟨[], []⟩
theorem ok_thrumref06_Equal_l0 (a0 : List Int) (a1 : List Int) : ∀ (x0 : Int), Ok (M_thrumref06_Equal_l0 a0 a1 x0) (LR F_thrumref06_Equal (.exit 0) (E_thrumref06_Equal_l0 a0 a1) 20 0 (S_thrumref06_Equal_l0 a0 a1 x0)) := by
 refine M_thrumref06_Equal_l0.partial_correctness a0 a1 _ ?_
 intro f IH x0
 exact Tr.lpR (F := F_thrumref06_Equal) (X := Int)
  (.ite 6 14 (x0 < (a0.length : Int))
   (.idx 13 eI a0 x0 <| .idx 3 eI a1 x0 <| .iteN 3 24 ((at' a0 x0) = (at' a1 x0))
   (.ret 9 (.inl false))
   (.again 7 (IntKind.i64.wrap (x0 + 1))))
   (.ret 4 (.inr ()))) _ fun x r => IH x r
theorem ok_thrumref06_Equal (a0 : List Int) (a1 : List Int) : HS 20 (M_thrumref06_Equal a0 a1) [.lst (List.map (D.int .i64) a0), .lst (List.map (D.int .i64) a1)] en_conf_within_int := Tr.fn (F := F_thrumref06_Equal)
 (.len 8 eI a0 <| .len 1 eI a1 <| .iteN 2 10 ((a0.length : Int) = (a1.length : Int))
  (.ret 7 false)
  (.len 6 eI a0 <| .loopR 4 id ⟨_, _, _, _, _, ok_thrumref06_Equal_l0 a0 a1 0⟩ fun j1 => .ret 6 true))
noncomputable abbrev F_thrumlaw18_ConfTells : Fe := .of Tryz.prog 5 en_conf_within_int
theorem ok_thrumlaw18_ConfTells (a0 : T_api_Conf) (a1 : Int) (a2 : Int) (a3 : Int) : HS 5 (M_thrumlaw18_ConfTells a0 a1 a2 a3) [.agg [.int .i64 a0.F_N, .int .i64 a0.F_M.F_Kind, .int .i64 a0.F_M.F_In, .int .i64 a0.F_M.F_Out, .int .i64 a0.F_M.F_Hid, .int .i64 a0.F_M.F_Frac, .int .i64 a0.F_H.F_Scheme, .int .i64 a0.F_H.F_K, .int .i64 a0.F_H.F_Wide, .int .i64 a0.F_Warm, .int .i64 a0.F_Rate, .int .i64 a0.F_Mom, .int .i64 a0.F_Clip, .int .i64 a0.F_Batch, .int .u64 a0.F_Seed, .lst (List.map T_api_Sample.en a0.F_L)], .int .i64 a1, .int .i64 a2, .int .i64 a3] en_conf_within_int := Tr.fn (F := F_thrumlaw18_ConfTells)
 (.call 7 ok_thrumlaw18_live nl_conf_within_int fun r1 => .iteX 8 24 (r1)
  (.ret 7 false)
  (.call 6 (ok_thrumref18_Few a0) nl_conf_within_int fun r2 => .iteX 2 27 (r2)
  (.ret 8 r1)
  (.call 6 (ok_conf_How a0 a2) nl_conf_How fun r3 => .call 11 (ok_thrumref18_How a0 a2) nl_conf_How fun r4 => .call 12 (ok_conf_Picks a0 a1 a2) nl_draw_Order fun r5 => .call 11 (ok_thrumref18_Picks a0 a1 a2) nl_draw_Order fun r6 => .call 14 (ok_conf_Keep a0.F_Batch a3 a0.F_Warm a2) nl_conf_Keep fun r7 => .call 14 (ok_thrumref18_Keep a0.F_Batch a3 a0.F_Warm a2) nl_conf_Keep fun r8 => .iteB 10 76 (r1)
  (.call 2 (ok_conf_Check a0) nl_press_Check fun r9 => .hold 1 [] <| .call 0 (ok_thrumref18_Check a0) nl_press_Check fun r10 => .ite 3 83 (r9 = r10)
  (.iteP 5 88 (show (([r3.1, r3.2.1, r3.2.2.1] : List Int) == [r4.1, r4.2.1, r4.2.2.1]) = decide (([r3.1, r3.2.1, r3.2.2.1] : List Int) = [r4.1, r4.2.1, r4.2.2.1]) from decL)
  (.ite 5 93 (r3.2.2.2 = r4.2.2.2)
  (.call 2 (ok_thrumref06_Equal r5.1 r6.1) nl_conf_within_int fun r11 => .iteB 2 98 (r11)
  (.ite 5 103 (r5.2 = r6.2)
  (.ite 5 108 (r7.1 = r8.1)
  (.ret 8 (r7.2 == r8.2))
  (.ret 8 false))
  (.ret 13 false))
  (.ret 18 false))
  (.ret 23 false))
  (.ret 28 false))
  (.ret 33 false))
  (.hold 4 [] <| .ret 37 false))))
end Go.Proofs.YtnmlihfpenjeiaaGreat.Abs
