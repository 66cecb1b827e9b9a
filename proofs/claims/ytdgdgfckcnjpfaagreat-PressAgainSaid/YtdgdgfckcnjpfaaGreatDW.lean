/- Walks of functions, printed by a program. Conditions: none. -/
import Derived.Test.YtdgdgfckcnjpfaaGreatProg
import Derived.Test.YtdgdgfckcnjpfaaGreatAbsG8
import Derived.Test.YtdgdgfckcnjpfaaGreatDM
namespace Go.Proofs.YtdgdgfckcnjpfaaGreat.Abs
open Go Go.RowKit
set_option linter.unusedVariables false
set_option maxRecDepth 100000
open Z
def T_api_How.e : Enc T_api_How := ⟨T_api_How.en, 3, fun _ => rfl⟩
def T_topk_one.e : Enc T_topk_one := ⟨T_topk_one.en, 2, fun _ => rfl⟩
def T_api_Sent.e : Enc T_api_Sent := ⟨T_api_Sent.en, 8, fun _ => rfl⟩
/-- thrum/vec.pair. -/
def en_vec_pair (v : Int) : PV := nI v
noncomputable abbrev F_vec_pair : Fe := .of Tryz.prog 57 en_vec_pair
theorem nl_vec_pair : ∀ v, (en_vec_pair v).noLst := fun _ => trivial
noncomputable def t_vec_pair (a0 : List Int) (a1 : List Int) : Tr F_vec_pair Empty Int :=
 .len 9 eI a0 <| .len 1 eI a1 <| .ite 4 5 ((if (a1.length : Int) > (a0.length : Int) then (a1.length : Int) else (a0.length : Int)) > 4096)
 (.ret 8 3)
 (.len 4 eI a0 <| .len 1 eI a1 <| .iteN 3 12 ((a0.length : Int) = (a1.length : Int))
 (.ret 8 4)
 (.ret 8 0))
noncomputable def s_vec_pair (a0 : List Int) (a1 : List Int) : Sg Tryz.prog Int := ⟨57, M_vec_pair a0 a1, [.lst (List.map (D.int .i64) a0), .lst (List.map (D.int .i64) a1)], en_vec_pair⟩
theorem ok_vec_pair (a0 : List Int) (a1 : List Int) : (s_vec_pair a0 a1).Holds := Tr.fn (F := F_vec_pair) (t_vec_pair a0 a1) (by kernel_rfl) (by kernel_rfl) (by kernel_rfl) (by kernel_rfl)
/-- thrum/fix.Add. -/
def en_fix_Add (v : Int × Int) : PV := .tup [nI v.1, nI v.2]
noncomputable abbrev F_fix_Add : Fe := .of Tryz.prog 60 en_fix_Add
theorem nl_fix_Add : ∀ v, (en_fix_Add v).noLst := fun _ => ⟨trivial, trivial, trivial⟩
noncomputable def t_fix_Add (a0 : Int) (a1 : Int) : Tr F_fix_Add Empty (Int × Int) :=
 .ite 24 17 ((bAnd .i64 (bXor .i64 a0 (IntKind.i64.wrap (a0 + a1))) (bXor .i64 a1 (IntKind.i64.wrap (a0 + a1)))) < 0)
 (.ret 8 (0, 2))
 (.ret 9 (IntKind.i64.wrap (a0 + a1), 0))
noncomputable def s_fix_Add (a0 : Int) (a1 : Int) : Sg Tryz.prog (Int × Int) := ⟨60, M_fix_Add a0 a1, [.int .i64 a0, .int .i64 a1], en_fix_Add⟩
theorem ok_fix_Add (a0 : Int) (a1 : Int) : (s_fix_Add a0 a1).Holds := Tr.fn (F := F_fix_Add) (t_fix_Add a0 a1) (by kernel_rfl) (by kernel_rfl) (by kernel_rfl) (by kernel_rfl)
/-- thrum/vec.Add$1. -/
def en_vec_Add_1_c_c (v : Int × Int) : PV := .tup [nI v.1, nI v.2]
noncomputable abbrev F_vec_Add_1_c_c : Fe := .of Tryz.prog 59 en_vec_Add_1_c_c
theorem nl_vec_Add_1_c_c : ∀ v, (en_vec_Add_1_c_c v).noLst := fun _ => ⟨trivial, trivial, trivial⟩
noncomputable def t_vec_Add_1_c_c (a0 : Int) (a1 : List Int) (a2 : List Int) : Tr F_vec_Add_1_c_c Empty (Int × Int) :=
 .idx 9 eI a1 a0 <| .idx 3 eI a2 a0 <| .call 1 (ok_fix_Add (at' a1 a0) (at' a2 a0)) nl_fix_Add fun r1 => .ret 6 (r1.1, r1.2)
noncomputable def s_vec_Add_1_c_c (a0 : Int) (a1 : List Int) (a2 : List Int) : Sg Tryz.prog (Int × Int) := ⟨59, M_vec_Add_1_c_c a0 a1 a2, [.int .i64 a0, .cp [.lst (List.map (D.int .i64) a1)] 0, .cp [.lst (List.map (D.int .i64) a2)] 0], en_vec_Add_1_c_c⟩
theorem ok_vec_Add_1_c_c (a0 : Int) (a1 : List Int) (a2 : List Int) : (s_vec_Add_1_c_c a0 a1 a2).Holds := Tr.fn (F := F_vec_Add_1_c_c) (t_vec_Add_1_c_c a0 a1 a2) (by kernel_rfl) (by kernel_rfl) (by kernel_rfl) (by kernel_rfl)
/-- thrum/vec.each. -/
def en_vec_each_vec_Add_1 (v : (List Int) × Int) : PV := .tup [sI (.s 0) v.1, nI v.2]
noncomputable abbrev F_vec_each_vec_Add_1 : Fe := .of Tryz.prog 58 en_vec_each_vec_Add_1
def S_vec_each_vec_Add_1_l0 (a1 : List Int) (a2 : List Int) (y1 : List Int) (x0 : Int) (x1 : List Int) : St := ⟨[(13, nI x0), (12, nI (y1.length : Int)), (6, sI (.h 0) x1), (1, .d (.clo (.func 59) [] [.cp [.lst (List.map (D.int .i64) a1)] 0, .cp [.lst (List.map (D.int .i64) a2)] 0]))], []⟩
def E_vec_each_vec_Add_1_l0 (a1 : List Int) (a2 : List Int) (y1 : List Int) (x : (List Int)) : St := ⟨[(6, sI (.h 1) x)], []⟩
noncomputable def t_vec_each_vec_Add_1_l0 (a1 : List Int) (a2 : List Int) (y1 : List Int) (x0 : Int) (x1 : List Int) : Tr F_vec_each_vec_Add_1 (Int × (List Int)) (Sum ((List Int) × Int) (List Int)) :=
 .ite 6 14 (x0 < (y1.length : Int))
 (.call 19 (ok_vec_Add_1_c_c x0 a1 a2) nl_vec_Add_1_c_c fun r3 => .idx 3 eI x1 x0 <| .sto 0 [6] eI x1 x0 r3.1 <| .let_ (x1.set (Int.toNat x0) r3.1 : List Int) fun y4 => .iteN 7 26 (r3.2 = 0)
 (.ret 11 (.inl ([], r3.2)))
 (.again 7 (IntKind.i64.wrap (x0 + 1), y4)))
 (.ret 4 (.inr x1))
theorem ok_vec_each_vec_Add_1_l0 (a1 : List Int) (a2 : List Int) (y1 : List Int) (x0 : Int) (x1 : List Int) : Ok (M_vec_each_vec_Add_1_l0 a1 a2 y1 x0 x1) fun v => go Tryz.prog F_vec_each_vec_Add_1.N (PostR (fun r => Fnl F_vec_each_vec_Add_1.res (F_vec_each_vec_Add_1.en r) (F_vec_each_vec_Add_1.bx r)) (.exit 0) (E_vec_each_vec_Add_1_l0 a1 a2 y1) v) [.l (lpA Tryz.prog 58 0)] .norm (S_vec_each_vec_Add_1_l0 a1 a2 y1 x0 x1) := by
 refine M_vec_each_vec_Add_1_l0.partial_correctness a1 a2 y1 (fun x0 x1 v => go Tryz.prog F_vec_each_vec_Add_1.N (PostR (fun r => Fnl F_vec_each_vec_Add_1.res (F_vec_each_vec_Add_1.en r) (F_vec_each_vec_Add_1.bx r)) (.exit 0) (E_vec_each_vec_Add_1_l0 a1 a2 y1) v) [.l (lpA Tryz.prog 58 0)] .norm (S_vec_each_vec_Add_1_l0 a1 a2 y1 x0 x1)) ?_ x0 x1
 clear x0 x1
 intro f IH x0 x1
 exact Tr.lpR (F := F_vec_each_vec_Add_1) (S := fun x => S_vec_each_vec_Add_1_l0 a1 a2 y1 x.1 x.2) (S' := E_vec_each_vec_Add_1_l0 a1 a2 y1) (t_vec_each_vec_Add_1_l0 a1 a2 y1 x0 x1) (fun x => f x.1 x.2) (fun x r h => IH x.1 x.2 r h) (by kernel_rfl) (by kernel_rfl)
theorem nl_vec_each_vec_Add_1 : ∀ v, (en_vec_each_vec_Add_1 v).noLst := fun _ => ⟨(flat_map_of fun _ => trivial), trivial, trivial⟩
noncomputable def t_vec_each_vec_Add_1 (a0 : Int) (a1 : List Int) (a2 : List Int) : Tr F_vec_each_vec_Add_1 Empty ((List Int) × Int) :=
 .mk 8 eI 8 0 a0 a0 <| .let_ (List.replicate (Int.toNat a0) 0 : List Int) fun y1 => .len 6 eI y1 <| .loopR 4 id ⟨_, _, _, _, _, ok_vec_each_vec_Add_1_l0 a1 a2 y1 0 y1⟩ fun j6 => .ret 8 (j6, 0)
noncomputable def s_vec_each_vec_Add_1 (a0 : Int) (a1 : List Int) (a2 : List Int) : Sg Tryz.prog ((List Int) × Int) := ⟨58, M_vec_each_vec_Add_1 a0 a1 a2, [.int .i64 a0, .clo (.func 59) [] [.cp [.lst (List.map (D.int .i64) a1)] 0, .cp [.lst (List.map (D.int .i64) a2)] 0]], en_vec_each_vec_Add_1⟩
theorem ok_vec_each_vec_Add_1 (a0 : Int) (a1 : List Int) (a2 : List Int) : (s_vec_each_vec_Add_1 a0 a1 a2).Holds := Tr.fn (F := F_vec_each_vec_Add_1) (t_vec_each_vec_Add_1 a0 a1 a2) (by kernel_rfl) (by kernel_rfl) (by kernel_rfl) (by kernel_rfl)
/-- thrum/vec.Add. -/
def en_vec_Add (v : (List Int) × Int) : PV := .tup [sI (.s 0) v.1, nI v.2]
noncomputable abbrev F_vec_Add : Fe := .of Tryz.prog 30 en_vec_Add
theorem nl_vec_Add : ∀ v, (en_vec_Add v).noLst := fun _ => ⟨(flat_map_of fun _ => trivial), trivial, trivial⟩
noncomputable def t_vec_Add (a0 : List Int) (a1 : List Int) : Tr F_vec_Add Empty ((List Int) × Int) :=
 .call 12 (ok_vec_pair a0 a1) nl_vec_pair fun r1 => .iteN 7 11 (r1 = 0)
 (.ret 9 ([], r1))
 (.len 5 eI a0 <| .call 1 (ok_vec_each_vec_Add_1 (a0.length : Int) a0 a1) nl_vec_each_vec_Add_1 fun r2 => .ret 6 (r2.1, r2.2))
noncomputable def s_vec_Add (a0 : List Int) (a1 : List Int) : Sg Tryz.prog ((List Int) × Int) := ⟨30, M_vec_Add a0 a1, [.lst (List.map (D.int .i64) a0), .lst (List.map (D.int .i64) a1)], en_vec_Add⟩
theorem ok_vec_Add (a0 : List Int) (a1 : List Int) : (s_vec_Add a0 a1).Holds := Tr.fn (F := F_vec_Add) (t_vec_Add a0 a1) (by kernel_rfl) (by kernel_rfl) (by kernel_rfl) (by kernel_rfl)
/-- thrum/vec.Check. -/
def en_vec_Check (v : Int) : PV := nI v
noncomputable abbrev F_vec_Check : Fe := .of Tryz.prog 33 en_vec_Check
theorem nl_vec_Check : ∀ v, (en_vec_Check v).noLst := fun _ => trivial
noncomputable def t_vec_Check (a0 : List Int) : Tr F_vec_Check Empty Int :=
 .len 8 eI a0 <| .ite 2 5 ((a0.length : Int) > 4096)
 (.ret 7 3)
 (.ret 7 0)
noncomputable def s_vec_Check (a0 : List Int) : Sg Tryz.prog Int := ⟨33, M_vec_Check a0, [.lst (List.map (D.int .i64) a0)], en_vec_Check⟩
theorem ok_vec_Check (a0 : List Int) : (s_vec_Check a0).Holds := Tr.fn (F := F_vec_Check) (t_vec_Check a0) (by kernel_rfl) (by kernel_rfl) (by kernel_rfl) (by kernel_rfl)
/-- thrum/press.ways. -/
def en_press_ways (v : Unit) : PV := .ptr (.s 14) 0
def bx_press_ways (v : Unit) : List (Tg × List PV) := [(.s 14, [.d (.int .i64 0), .d (.agg [.clo (.func 69) [] [], .clo (.func 70) [] [], .clo (.func 71) [] [], .clo (.func 73) [] []]), .d (.int .i64 1), .d (.agg [.clo (.func 74) [] [], .clo (.func 75) [] [], .clo (.func 77) [] [], .clo (.func 79) [] []]), .d (.int .i64 2), .d (.agg [.clo (.func 81) [] [], .clo (.func 82) [] [], .clo (.func 84) [] [], .clo (.func 85) [] []]), .d (.int .i64 3), .d (.agg [.clo (.func 69) [] [], .clo (.func 87) [] [], .clo (.func 89) [] [], .clo (.func 90) [] []])])]
noncomputable abbrev F_press_ways : Fe := .of Tryz.prog 34 en_press_ways bx_press_ways
noncomputable def t_press_ways : Tr F_press_ways Empty Unit :=
 .ret 19 ()
noncomputable def s_press_ways : SgG Tryz.prog Unit := ⟨34, M_press_ways, [], [], en_press_ways, bx_press_ways⟩
theorem ok_press_ways : s_press_ways.Holds := Tr.fnG (F := F_press_ways) t_press_ways (by kernel_rfl) (by kernel_rfl) (by kernel_rfl) (by kernel_rfl)
/-- thrum/press.bare. -/
def en_press_bare (v : Bool) : PV := bB v
noncomputable abbrev F_press_bare : Fe := .of Tryz.prog 69 en_press_bare
theorem nl_press_bare : ∀ v, (en_press_bare v).noLst := fun _ => trivial
noncomputable def t_press_bare (a0 : T_api_How) (a1 : Int) : Tr F_press_bare Empty Bool :=
 .join 11 4 (γ := Bool) ⟨fun x => [(12, bB x)], [], fun _ => [], []⟩
 (.ite 0 8 (a0.F_K = 0)
 (.ret 5 (a0.F_Wide == 0))
 (.ret 5 false))
 fun j1 => .ret 3 j1
noncomputable def s_press_bare (a0 : T_api_How) (a1 : Int) : Sg Tryz.prog Bool := ⟨69, M_press_bare a0 a1, [.agg [.int .i64 a0.F_Scheme, .int .i64 a0.F_K, .int .i64 a0.F_Wide], .int .i64 a1], en_press_bare⟩
theorem ok_press_bare (a0 : T_api_How) (a1 : Int) : (s_press_bare a0 a1).Holds := Tr.fn (F := F_press_bare) (t_press_bare a0 a1) (by kernel_rfl) (by kernel_rfl) (by kernel_rfl) (by kernel_rfl)
/-- thrum/press.ways$3. -/
def en_press_ways_3 (v : Bool) : PV := bB v
noncomputable abbrev F_press_ways_3 : Fe := .of Tryz.prog 74 en_press_ways_3
theorem nl_press_ways_3 : ∀ v, (en_press_ways_3 v).noLst := fun _ => trivial
noncomputable def t_press_ways_3 (a0 : T_api_How) (a1 : Int) : Tr F_press_ways_3 Empty Bool :=
 .join 11 5 (γ := Bool) ⟨fun x => [(13, bB x)], [2], fun _ => [], [.s 15]⟩
 (.ite 0 8 (a0.F_K ≥ 0)
 (.ret 6 (decide (a0.F_K ≤ a1)))
 (.ret 6 false))
 fun j1 => .join 1 4 (γ := Bool) ⟨fun x => [(18, bB x)], [], fun _ => [], []⟩
 (.iteB 0 14 (j1)
 (.ret 5 (a0.F_Wide == 0))
 (.ret 5 false))
 fun j2 => .ret 3 j2
noncomputable def s_press_ways_3 (a0 : T_api_How) (a1 : Int) : Sg Tryz.prog Bool := ⟨74, M_press_ways_3 a0 a1, [.agg [.int .i64 a0.F_Scheme, .int .i64 a0.F_K, .int .i64 a0.F_Wide], .int .i64 a1], en_press_ways_3⟩
theorem ok_press_ways_3 (a0 : T_api_How) (a1 : Int) : (s_press_ways_3 a0 a1).Holds := Tr.fn (F := F_press_ways_3) (t_press_ways_3 a0 a1) (by kernel_rfl) (by kernel_rfl) (by kernel_rfl) (by kernel_rfl)
/-- thrum/press.ways$7. -/
def en_press_ways_7 (v : Bool) : PV := bB v
noncomputable abbrev F_press_ways_7 : Fe := .of Tryz.prog 81 en_press_ways_7
theorem nl_press_ways_7 : ∀ v, (en_press_ways_7 v).noLst := fun _ => trivial
noncomputable def t_press_ways_7 (a0 : T_api_How) (a1 : Int) : Tr F_press_ways_7 Empty Bool :=
 .join 11 4 (γ := Bool) ⟨fun x => [(12, bB x)], [2], fun _ => [], [.s 15]⟩
 (.ite 0 8 (a0.F_K = 0)
 (.ret 5 (decide (a0.F_Wide > 0)))
 (.ret 5 false))
 fun j1 => .join 1 4 (γ := Bool) ⟨fun x => [(17, bB x)], [], fun _ => [], []⟩
 (.iteB 0 13 (j1)
 (.ret 5 (decide (a0.F_Wide ≤ 8)))
 (.ret 5 false))
 fun j2 => .ret 3 j2
noncomputable def s_press_ways_7 (a0 : T_api_How) (a1 : Int) : Sg Tryz.prog Bool := ⟨81, M_press_ways_7 a0 a1, [.agg [.int .i64 a0.F_Scheme, .int .i64 a0.F_K, .int .i64 a0.F_Wide], .int .i64 a1], en_press_ways_7⟩
theorem ok_press_ways_7 (a0 : T_api_How) (a1 : Int) : (s_press_ways_7 a0 a1).Holds := Tr.fn (F := F_press_ways_7) (t_press_ways_7 a0 a1) (by kernel_rfl) (by kernel_rfl) (by kernel_rfl) (by kernel_rfl)
/-- thrum/press.Check. -/
def en_press_Check (v : Int) : PV := nI v
noncomputable abbrev F_press_Check : Fe := .of Tryz.prog 17 en_press_Check
theorem nl_press_Check : ∀ v, (en_press_Check v).noLst := fun _ => trivial
noncomputable def t_press_Check (a0 : T_api_How) (a1 : Int) : Tr F_press_Check Empty Int :=
 .draws 6 (.callG 2 [] [] ok_press_ways fun r1 => .hold 1 [] <| .hold 6 [] <| .cas 0 12 (a0.F_Scheme = (0 : Int)) (.d (.agg [.clo (.func 69) [] [], .clo (.func 70) [] [], .clo (.func 71) [] [], .clo (.func 73) [] []])) (.d (lookD a0.F_Scheme [(1, .agg [.clo (.func 74) [] [], .clo (.func 75) [] [], .clo (.func 77) [] [], .clo (.func 79) [] []]), (2, .agg [.clo (.func 81) [] [], .clo (.func 82) [] [], .clo (.func 84) [] [], .clo (.func 85) [] []]), (3, .agg [.clo (.func 69) [] [], .clo (.func 87) [] [], .clo (.func 89) [] [], .clo (.func 90) [] []])] (.agg [.nilfn, .nilfn, .nilfn, .nilfn]))) (.d (lookD a0.F_Scheme [(0, .agg [.clo (.func 69) [] [], .clo (.func 70) [] [], .clo (.func 71) [] [], .clo (.func 73) [] []]), (1, .agg [.clo (.func 74) [] [], .clo (.func 75) [] [], .clo (.func 77) [] [], .clo (.func 79) [] []]), (2, .agg [.clo (.func 81) [] [], .clo (.func 82) [] [], .clo (.func 84) [] [], .clo (.func 85) [] []]), (3, .agg [.clo (.func 69) [] [], .clo (.func 87) [] [], .clo (.func 89) [] [], .clo (.func 90) [] []])] (.agg [.nilfn, .nilfn, .nilfn, .nilfn]))) lookD_t lookD_f
 (.hold 2 [] <| .join 9 3 (γ := Bool) ⟨fun x => [(19, bB x)], [5, 2, 1], fun _ => [], [.s 1727, .s 15]⟩
 (.iteX 0 16 ((hasK a0.F_Scheme [0, 1, 2, 3]))
 (.ret 4 true)
 (.ret 4 (decide (a1 < 1))))
 fun j2 => .join 1 3 (γ := Bool) ⟨fun x => [(23, bB x)], [5, 2, 1], fun _ => [], [.s 1727, .s 15]⟩
 (.iteB 0 20 (j2)
 (.ret 4 true)
 (.ret 4 (decide (a1 > 4096))))
 fun j3 => .join 1 7 (γ := Bool) ⟨fun x => [(31, bB x)], [], fun _ => [], []⟩
 (.iteB 0 24 (j3)
 (.ret 8 true)
 (.call 4 (ok_press_bare a0 a1) nl_press_bare fun r4 => .ret 3 (!r4)))
 fun j5 => .iteB 1 31 (j5)
 (.ret 7 1)
 (.ret 7 0))
 (.cas 0 12 (a0.F_Scheme = (1 : Int)) (.d (.agg [.clo (.func 74) [] [], .clo (.func 75) [] [], .clo (.func 77) [] [], .clo (.func 79) [] []])) (.d (lookD a0.F_Scheme [(2, .agg [.clo (.func 81) [] [], .clo (.func 82) [] [], .clo (.func 84) [] [], .clo (.func 85) [] []]), (3, .agg [.clo (.func 69) [] [], .clo (.func 87) [] [], .clo (.func 89) [] [], .clo (.func 90) [] []])] (.agg [.nilfn, .nilfn, .nilfn, .nilfn]))) (.d (lookD a0.F_Scheme [(1, .agg [.clo (.func 74) [] [], .clo (.func 75) [] [], .clo (.func 77) [] [], .clo (.func 79) [] []]), (2, .agg [.clo (.func 81) [] [], .clo (.func 82) [] [], .clo (.func 84) [] [], .clo (.func 85) [] []]), (3, .agg [.clo (.func 69) [] [], .clo (.func 87) [] [], .clo (.func 89) [] [], .clo (.func 90) [] []])] (.agg [.nilfn, .nilfn, .nilfn, .nilfn]))) lookD_t lookD_f
 (.hold 2 [] <| .join 9 3 (γ := Bool) ⟨fun x => [(19, bB x)], [5, 2, 1], fun _ => [], [.s 1727, .s 15]⟩
 (.iteX 0 16 ((hasK a0.F_Scheme [0, 1, 2, 3]))
 (.ret 4 true)
 (.ret 4 (decide (a1 < 1))))
 fun j6 => .join 1 3 (γ := Bool) ⟨fun x => [(23, bB x)], [5, 2, 1], fun _ => [], [.s 1727, .s 15]⟩
 (.iteB 0 20 (j6)
 (.ret 4 true)
 (.ret 4 (decide (a1 > 4096))))
 fun j7 => .join 1 7 (γ := Bool) ⟨fun x => [(31, bB x)], [], fun _ => [], []⟩
 (.iteB 0 24 (j7)
 (.ret 8 true)
 (.call 4 (ok_press_ways_3 a0 a1) nl_press_ways_3 fun r8 => .ret 3 (!r8)))
 fun j9 => .iteB 1 31 (j9)
 (.ret 7 1)
 (.ret 7 0))
 (.cas 0 12 (a0.F_Scheme = (2 : Int)) (.d (.agg [.clo (.func 81) [] [], .clo (.func 82) [] [], .clo (.func 84) [] [], .clo (.func 85) [] []])) (.d (lookD a0.F_Scheme [(3, .agg [.clo (.func 69) [] [], .clo (.func 87) [] [], .clo (.func 89) [] [], .clo (.func 90) [] []])] (.agg [.nilfn, .nilfn, .nilfn, .nilfn]))) (.d (lookD a0.F_Scheme [(2, .agg [.clo (.func 81) [] [], .clo (.func 82) [] [], .clo (.func 84) [] [], .clo (.func 85) [] []]), (3, .agg [.clo (.func 69) [] [], .clo (.func 87) [] [], .clo (.func 89) [] [], .clo (.func 90) [] []])] (.agg [.nilfn, .nilfn, .nilfn, .nilfn]))) lookD_t lookD_f
 (.hold 2 [] <| .join 9 3 (γ := Bool) ⟨fun x => [(19, bB x)], [5, 2, 1], fun _ => [], [.s 1727, .s 15]⟩
 (.iteX 0 16 ((hasK a0.F_Scheme [0, 1, 2, 3]))
 (.ret 4 true)
 (.ret 4 (decide (a1 < 1))))
 fun j10 => .join 1 3 (γ := Bool) ⟨fun x => [(23, bB x)], [5, 2, 1], fun _ => [], [.s 1727, .s 15]⟩
 (.iteB 0 20 (j10)
 (.ret 4 true)
 (.ret 4 (decide (a1 > 4096))))
 fun j11 => .join 1 7 (γ := Bool) ⟨fun x => [(31, bB x)], [], fun _ => [], []⟩
 (.iteB 0 24 (j11)
 (.ret 8 true)
 (.call 4 (ok_press_ways_7 a0 a1) nl_press_ways_7 fun r12 => .ret 3 (!r12)))
 fun j13 => .iteB 1 31 (j13)
 (.ret 7 1)
 (.ret 7 0))
 (.cas 0 12 (a0.F_Scheme = (3 : Int)) (.d (.agg [.clo (.func 69) [] [], .clo (.func 87) [] [], .clo (.func 89) [] [], .clo (.func 90) [] []])) (.d (lookD a0.F_Scheme [] (.agg [.nilfn, .nilfn, .nilfn, .nilfn]))) (.d (lookD a0.F_Scheme [(3, .agg [.clo (.func 69) [] [], .clo (.func 87) [] [], .clo (.func 89) [] [], .clo (.func 90) [] []])] (.agg [.nilfn, .nilfn, .nilfn, .nilfn]))) lookD_t lookD_f
 (.hold 2 [] <| .join 9 3 (γ := Bool) ⟨fun x => [(19, bB x)], [5, 2, 1], fun _ => [], [.s 1727, .s 15]⟩
 (.iteX 0 16 ((hasK a0.F_Scheme [0, 1, 2, 3]))
 (.ret 4 true)
 (.ret 4 (decide (a1 < 1))))
 fun j14 => .join 1 3 (γ := Bool) ⟨fun x => [(23, bB x)], [5, 2, 1], fun _ => [], [.s 1727, .s 15]⟩
 (.iteB 0 20 (j14)
 (.ret 4 true)
 (.ret 4 (decide (a1 > 4096))))
 fun j15 => .join 1 7 (γ := Bool) ⟨fun x => [(31, bB x)], [], fun _ => [], []⟩
 (.iteB 0 24 (j15)
 (.ret 8 true)
 (.call 4 (ok_press_bare a0 a1) nl_press_bare fun r16 => .ret 3 (!r16)))
 fun j17 => .iteB 1 31 (j17)
 (.ret 7 1)
 (.ret 7 0))
 (.hold 2 [] <| .join 9 3 (γ := Bool) ⟨fun x => [(19, bB x)], [5, 2, 1], fun _ => [], [.s 1727, .s 15]⟩
 (.iteX 0 16 ((hasK a0.F_Scheme [0, 1, 2, 3]))
 (.ret 4 true)
 (.ret 4 (decide (a1 < 1))))
 fun j18 => .join 1 3 (γ := Bool) ⟨fun x => [(23, bB x)], [5, 2, 1], fun _ => [], [.s 1727, .s 15]⟩
 (.iteB 0 20 (j18)
 (.ret 4 true)
 (.ret 4 (decide (a1 > 4096))))
 fun j19 => .join 1 7 (γ := Unit) ⟨fun x => [(31, bB true)], [], fun _ => [], []⟩
 (.iteB 0 24 (j19)
 (.ret 8 ())
 (.halt))
 fun j20 => .ret 8 1))))) (.hold 4 [] <| .callG 0 [] [] ok_press_ways fun r1 => .hold 1 [] <| .cas 4 12 (a0.F_Scheme = (0 : Int)) (.d (.agg [.clo (.func 69) [] [], .clo (.func 70) [] [], .clo (.func 71) [] [], .clo (.func 73) [] []])) (.d (lookD a0.F_Scheme [(1, .agg [.clo (.func 74) [] [], .clo (.func 75) [] [], .clo (.func 77) [] [], .clo (.func 79) [] []]), (2, .agg [.clo (.func 81) [] [], .clo (.func 82) [] [], .clo (.func 84) [] [], .clo (.func 85) [] []]), (3, .agg [.clo (.func 69) [] [], .clo (.func 87) [] [], .clo (.func 89) [] [], .clo (.func 90) [] []])] (.agg [.nilfn, .nilfn, .nilfn, .nilfn]))) (.d (lookD a0.F_Scheme [(0, .agg [.clo (.func 69) [] [], .clo (.func 70) [] [], .clo (.func 71) [] [], .clo (.func 73) [] []]), (1, .agg [.clo (.func 74) [] [], .clo (.func 75) [] [], .clo (.func 77) [] [], .clo (.func 79) [] []]), (2, .agg [.clo (.func 81) [] [], .clo (.func 82) [] [], .clo (.func 84) [] [], .clo (.func 85) [] []]), (3, .agg [.clo (.func 69) [] [], .clo (.func 87) [] [], .clo (.func 89) [] [], .clo (.func 90) [] []])] (.agg [.nilfn, .nilfn, .nilfn, .nilfn]))) lookD_t lookD_f
 (.hold 2 [] <| .join 9 3 (γ := Bool) ⟨fun x => [(19, bB x)], [5, 2, 1], fun _ => [], [.s 1727, .s 15]⟩
 (.iteX 0 16 ((hasK a0.F_Scheme [0, 1, 2, 3]))
 (.ret 4 true)
 (.ret 4 (decide (a1 < 1))))
 fun j2 => .join 1 3 (γ := Bool) ⟨fun x => [(23, bB x)], [5, 2, 1], fun _ => [], [.s 1727, .s 15]⟩
 (.iteB 0 20 (j2)
 (.ret 4 true)
 (.ret 4 (decide (a1 > 4096))))
 fun j3 => .join 1 7 (γ := Bool) ⟨fun x => [(31, bB x)], [], fun _ => [], []⟩
 (.iteB 0 24 (j3)
 (.ret 8 true)
 (.call 4 (ok_press_bare a0 a1) nl_press_bare fun r4 => .ret 3 (!r4)))
 fun j5 => .iteB 1 31 (j5)
 (.ret 7 1)
 (.ret 7 0))
 (.cas 0 12 (a0.F_Scheme = (1 : Int)) (.d (.agg [.clo (.func 74) [] [], .clo (.func 75) [] [], .clo (.func 77) [] [], .clo (.func 79) [] []])) (.d (lookD a0.F_Scheme [(2, .agg [.clo (.func 81) [] [], .clo (.func 82) [] [], .clo (.func 84) [] [], .clo (.func 85) [] []]), (3, .agg [.clo (.func 69) [] [], .clo (.func 87) [] [], .clo (.func 89) [] [], .clo (.func 90) [] []])] (.agg [.nilfn, .nilfn, .nilfn, .nilfn]))) (.d (lookD a0.F_Scheme [(1, .agg [.clo (.func 74) [] [], .clo (.func 75) [] [], .clo (.func 77) [] [], .clo (.func 79) [] []]), (2, .agg [.clo (.func 81) [] [], .clo (.func 82) [] [], .clo (.func 84) [] [], .clo (.func 85) [] []]), (3, .agg [.clo (.func 69) [] [], .clo (.func 87) [] [], .clo (.func 89) [] [], .clo (.func 90) [] []])] (.agg [.nilfn, .nilfn, .nilfn, .nilfn]))) lookD_t lookD_f
 (.hold 2 [] <| .join 9 3 (γ := Bool) ⟨fun x => [(19, bB x)], [5, 2, 1], fun _ => [], [.s 1727, .s 15]⟩
 (.iteX 0 16 ((hasK a0.F_Scheme [0, 1, 2, 3]))
 (.ret 4 true)
 (.ret 4 (decide (a1 < 1))))
 fun j6 => .join 1 3 (γ := Bool) ⟨fun x => [(23, bB x)], [5, 2, 1], fun _ => [], [.s 1727, .s 15]⟩
 (.iteB 0 20 (j6)
 (.ret 4 true)
 (.ret 4 (decide (a1 > 4096))))
 fun j7 => .join 1 7 (γ := Bool) ⟨fun x => [(31, bB x)], [], fun _ => [], []⟩
 (.iteB 0 24 (j7)
 (.ret 8 true)
 (.call 4 (ok_press_ways_3 a0 a1) nl_press_ways_3 fun r8 => .ret 3 (!r8)))
 fun j9 => .iteB 1 31 (j9)
 (.ret 7 1)
 (.ret 7 0))
 (.cas 0 12 (a0.F_Scheme = (2 : Int)) (.d (.agg [.clo (.func 81) [] [], .clo (.func 82) [] [], .clo (.func 84) [] [], .clo (.func 85) [] []])) (.d (lookD a0.F_Scheme [(3, .agg [.clo (.func 69) [] [], .clo (.func 87) [] [], .clo (.func 89) [] [], .clo (.func 90) [] []])] (.agg [.nilfn, .nilfn, .nilfn, .nilfn]))) (.d (lookD a0.F_Scheme [(2, .agg [.clo (.func 81) [] [], .clo (.func 82) [] [], .clo (.func 84) [] [], .clo (.func 85) [] []]), (3, .agg [.clo (.func 69) [] [], .clo (.func 87) [] [], .clo (.func 89) [] [], .clo (.func 90) [] []])] (.agg [.nilfn, .nilfn, .nilfn, .nilfn]))) lookD_t lookD_f
 (.hold 2 [] <| .join 9 3 (γ := Bool) ⟨fun x => [(19, bB x)], [5, 2, 1], fun _ => [], [.s 1727, .s 15]⟩
 (.iteX 0 16 ((hasK a0.F_Scheme [0, 1, 2, 3]))
 (.ret 4 true)
 (.ret 4 (decide (a1 < 1))))
 fun j10 => .join 1 3 (γ := Bool) ⟨fun x => [(23, bB x)], [5, 2, 1], fun _ => [], [.s 1727, .s 15]⟩
 (.iteB 0 20 (j10)
 (.ret 4 true)
 (.ret 4 (decide (a1 > 4096))))
 fun j11 => .join 1 7 (γ := Bool) ⟨fun x => [(31, bB x)], [], fun _ => [], []⟩
 (.iteB 0 24 (j11)
 (.ret 8 true)
 (.call 4 (ok_press_ways_7 a0 a1) nl_press_ways_7 fun r12 => .ret 3 (!r12)))
 fun j13 => .iteB 1 31 (j13)
 (.ret 7 1)
 (.ret 7 0))
 (.cas 0 12 (a0.F_Scheme = (3 : Int)) (.d (.agg [.clo (.func 69) [] [], .clo (.func 87) [] [], .clo (.func 89) [] [], .clo (.func 90) [] []])) (.d (lookD a0.F_Scheme [] (.agg [.nilfn, .nilfn, .nilfn, .nilfn]))) (.d (lookD a0.F_Scheme [(3, .agg [.clo (.func 69) [] [], .clo (.func 87) [] [], .clo (.func 89) [] [], .clo (.func 90) [] []])] (.agg [.nilfn, .nilfn, .nilfn, .nilfn]))) lookD_t lookD_f
 (.hold 2 [] <| .join 9 3 (γ := Bool) ⟨fun x => [(19, bB x)], [5, 2, 1], fun _ => [], [.s 1727, .s 15]⟩
 (.iteX 0 16 ((hasK a0.F_Scheme [0, 1, 2, 3]))
 (.ret 4 true)
 (.ret 4 (decide (a1 < 1))))
 fun j14 => .join 1 3 (γ := Bool) ⟨fun x => [(23, bB x)], [5, 2, 1], fun _ => [], [.s 1727, .s 15]⟩
 (.iteB 0 20 (j14)
 (.ret 4 true)
 (.ret 4 (decide (a1 > 4096))))
 fun j15 => .join 1 7 (γ := Bool) ⟨fun x => [(31, bB x)], [], fun _ => [], []⟩
 (.iteB 0 24 (j15)
 (.ret 8 true)
 (.call 4 (ok_press_bare a0 a1) nl_press_bare fun r16 => .ret 3 (!r16)))
 fun j17 => .iteB 1 31 (j17)
 (.ret 7 1)
 (.ret 7 0))
 (.hold 2 [] <| .join 9 3 (γ := Bool) ⟨fun x => [(19, bB x)], [5, 2, 1], fun _ => [], [.s 1727, .s 15]⟩
 (.iteX 0 16 ((hasK a0.F_Scheme [0, 1, 2, 3]))
 (.ret 4 true)
 (.ret 4 (decide (a1 < 1))))
 fun j18 => .join 1 3 (γ := Bool) ⟨fun x => [(23, bB x)], [5, 2, 1], fun _ => [], [.s 1727, .s 15]⟩
 (.iteB 0 20 (j18)
 (.ret 4 true)
 (.ret 4 (decide (a1 > 4096))))
 fun j19 => .join 1 7 (γ := Unit) ⟨fun x => [(31, bB true)], [], fun _ => [], []⟩
 (.iteB 0 24 (j19)
 (.ret 8 ())
 (.halt))
 fun j20 => .ret 8 1)))))
noncomputable def s_press_Check (a0 : T_api_How) (a1 : Int) : Sg Tryz.prog Int := ⟨17, M_press_Check a0 a1, [.agg [.int .i64 a0.F_Scheme, .int .i64 a0.F_K, .int .i64 a0.F_Wide], .int .i64 a1], en_press_Check⟩
theorem ok_press_Check (a0 : T_api_How) (a1 : Int) : (s_press_Check a0 a1).Holds := Tr.fn (F := F_press_Check) (t_press_Check a0 a1) (by kernel_rfl) (by kernel_rfl) (by kernel_rfl) (by kernel_rfl)
/-- slices.Clone[[]int64,int64]. -/
def en_slices_Clone_int64_int64 (v : (List Int)) : PV := sI (.s 0) v
noncomputable abbrev F_slices_Clone_int64_int64 : Fe := .of Tryz.prog 72 en_slices_Clone_int64_int64
theorem nl_slices_Clone_int64_int64 : ∀ v, (en_slices_Clone_int64_int64 v).noLst := fun _ => (flat_map_of fun _ => trivial)
noncomputable def t_slices_Clone_int64_int64 (a0 : List Int) : Tr F_slices_Clone_int64_int64 Empty (List Int) :=
 .nilq 8 eI.f a0
 (    if room 8 ([] ++ a0).length then
      some ([] ++ a0)
    else none)
 (    some [])
 (fun h => by (try obtain rfl := List.eq_nil_of_length_eq_zero h); first | rfl | (simp [h]; done))
 (.app 7 eI 8 [] a0 <| .ret 3 ([] ++ a0))
 (.ret 8 [])
noncomputable def s_slices_Clone_int64_int64 (a0 : List Int) : Sg Tryz.prog (List Int) := ⟨72, M_slices_Clone_int64_int64 a0, [.lst (List.map (D.int .i64) a0)], en_slices_Clone_int64_int64⟩
theorem ok_slices_Clone_int64_int64 (a0 : List Int) : (s_slices_Clone_int64_int64 a0).Holds := Tr.fn (F := F_slices_Clone_int64_int64) (t_slices_Clone_int64_int64 a0) (by kernel_rfl) (by kernel_rfl) (by kernel_rfl) (by kernel_rfl)
/-- thrum/press.dense. -/
def en_press_dense (v : Int × Int × (List Int) × Int × Int × Int) : PV := .tup [.d (.agg [.int .i64 v.1, .int .i64 v.2.1, .lst [], .lst (List.map (D.int .i64) v.2.2.1), .int .i64 v.2.2.2.1, .int .i64 v.2.2.2.2.1, .lst [], .lst []]), nI v.2.2.2.2.2]
noncomputable abbrev F_press_dense : Fe := .of Tryz.prog 70 en_press_dense
noncomputable def t_press_dense (a0 : T_api_How) (a1 : List Int) (a2 : Int) (a3 : List Int) : Tr F_press_dense Empty (Int × Int × (List Int) × Int × Int × Int) :=
 .len 9 eI a1 <| .call 1 (ok_slices_Clone_int64_int64 a1) nl_slices_Clone_int64_int64 fun r1 => .ret 5 (0, (a1.length : Int), r1, 0, 0, 0)
noncomputable def s_press_dense (a0 : T_api_How) (a1 : List Int) (a2 : Int) (a3 : List Int) : Sg Tryz.prog (Int × Int × (List Int) × Int × Int × Int) := ⟨70, M_press_dense a0 a1 a2 a3, [.agg [.int .i64 a0.F_Scheme, .int .i64 a0.F_K, .int .i64 a0.F_Wide], .lst (List.map (D.int .i64) a1), .int .u64 a2, .lst (List.map (D.int .i64) a3)], en_press_dense⟩
theorem ok_press_dense (a0 : T_api_How) (a1 : List Int) (a2 : Int) (a3 : List Int) : (s_press_dense a0 a1 a2 a3).Holds := Tr.fn (F := F_press_dense) (t_press_dense a0 a1 a2 a3) (by kernel_rfl) (by kernel_rfl) (by kernel_rfl) (by kernel_rfl)
/-- thrum/topk.size. -/
def en_topk_size (v : Int) : PV := nU v
noncomputable abbrev F_topk_size : Fe := .of Tryz.prog 198 en_topk_size
theorem nl_topk_size : ∀ v, (en_topk_size v).noLst := fun _ => trivial
noncomputable def t_topk_size (a0 : Int) : Tr F_topk_size Empty Int :=
 .ite 10 4 (a0 < 0)
 (.ret 10 (IntKind.u64.wrap (0 - (IntKind.u64.wrap a0))))
 (.ret 9 (IntKind.u64.wrap a0))
noncomputable def s_topk_size (a0 : Int) : Sg Tryz.prog Int := ⟨198, M_topk_size a0, [.int .i64 a0], en_topk_size⟩
theorem ok_topk_size (a0 : Int) : (s_topk_size a0).Holds := Tr.fn (F := F_topk_size) (t_topk_size a0) (by kernel_rfl) (by kernel_rfl) (by kernel_rfl) (by kernel_rfl)
/-- thrum/topk.ones. -/
def en_topk_ones (v : (List T_topk_one)) : PV := .sl (.s 0) 2 0 (List.map T_topk_one.en v)
noncomputable abbrev F_topk_ones : Fe := .of Tryz.prog 172 en_topk_ones
def S_topk_ones_l0 (a0 : List Int) (x0 : Int) (x1 : List T_topk_one) : St := ⟨[(11, nI x0), (10, nI (a0.length : Int)), (9, lI a0), (3, .sl (.h 0) 2 0 (List.map T_topk_one.en x1))], []⟩
def E_topk_ones_l0 (a0 : List Int) (x : (List T_topk_one)) : St := ⟨[(3, .sl (.h 1) 2 0 (List.map T_topk_one.en x))], []⟩
noncomputable def t_topk_ones_l0 (a0 : List Int) (x0 : Int) (x1 : List T_topk_one) : Tr F_topk_ones (Int × (List T_topk_one)) (List T_topk_one) :=
 .ite 6 12 (x0 < (a0.length : Int))
 (.idx 7 eI a0 x0 <| .call 9 (ok_topk_size (at' a0 x0)) nl_topk_size fun r3 => .idx 1 T_topk_one.e x1 x0 <| .sto 0 [3] T_topk_one.e x1 x0 (⟨x0, r3⟩ : T_topk_one) <| .let_ (x1.set (Int.toNat x0) (⟨x0, r3⟩ : T_topk_one) : List T_topk_one) fun y4 => .again 6 (IntKind.i64.wrap (x0 + 1), y4))
 (.ret 4 x1)
theorem ok_topk_ones_l0 (a0 : List Int) (x0 : Int) (x1 : List T_topk_one) : Ok (M_topk_ones_l0 a0 x0 x1) fun v => go Tryz.prog F_topk_ones.N (PostN (.exit 0) (E_topk_ones_l0 a0) v) [.l (lpA Tryz.prog 172 0)] .norm (S_topk_ones_l0 a0 x0 x1) := by
 refine M_topk_ones_l0.partial_correctness a0 (fun x0 x1 v => go Tryz.prog F_topk_ones.N (PostN (.exit 0) (E_topk_ones_l0 a0) v) [.l (lpA Tryz.prog 172 0)] .norm (S_topk_ones_l0 a0 x0 x1)) ?_ x0 x1
 clear x0 x1
 intro f IH x0 x1
 exact Tr.lpN (F := F_topk_ones) (S := fun x => S_topk_ones_l0 a0 x.1 x.2) (S' := E_topk_ones_l0 a0) (t_topk_ones_l0 a0 x0 x1) (fun x => f x.1 x.2) (fun x r h => IH x.1 x.2 r h) (by kernel_rfl) (by kernel_rfl)
theorem nl_topk_ones : ∀ v, (en_topk_ones v).noLst := fun _ => (flat_map_of fun _ => ⟨trivial, trivial, trivial⟩)
noncomputable def t_topk_ones (a0 : List Int) : Tr F_topk_ones Empty (List T_topk_one) :=
 .len 7 eI a0 <| .mk 0 T_topk_one.e 16 (⟨0, 0⟩ : T_topk_one) (a0.length : Int) (a0.length : Int) <| .let_ (List.replicate (Int.toNat (a0.length : Int)) (⟨0, 0⟩ : T_topk_one) : List T_topk_one) fun y1 => .len 6 eI a0 <| .loop 4 ⟨_, _, _, _, _, ok_topk_ones_l0 a0 0 y1⟩ fun j6 => .ret 7 j6
noncomputable def s_topk_ones (a0 : List Int) : Sg Tryz.prog (List T_topk_one) := ⟨172, M_topk_ones a0, [.lst (List.map (D.int .i64) a0)], en_topk_ones⟩
theorem ok_topk_ones (a0 : List Int) : (s_topk_ones a0).Holds := Tr.fn (F := F_topk_ones) (t_topk_ones a0) (by kernel_rfl) (by kernel_rfl) (by kernel_rfl) (by kernel_rfl)
/-- (*thrum/topk.best).Push. -/
def en_thrum_topk_best_Push_c (v : (List T_topk_one)) : PV := .tup []
def bx_thrum_topk_best_Push_c (v : (List T_topk_one)) : List (Tg × List PV) := [(.up (.s 0), [.sl (.s 0) 2 0 (List.map T_topk_one.en v)])]
noncomputable abbrev F_thrum_topk_best_Push_c : Fe := .of Tryz.prog 274 en_thrum_topk_best_Push_c bx_thrum_topk_best_Push_c
theorem nl_thrum_topk_best_Push_c : ∀ v, (en_thrum_topk_best_Push_c v).noLst := fun _ => trivial
theorem nlB_thrum_topk_best_Push_c : ∀ v, noLstB (bx_thrum_topk_best_Push_c v) := fun _ => ⟨⟨(flat_map_of fun _ => ⟨trivial, trivial, trivial⟩), trivial⟩, trivial⟩
noncomputable def t_thrum_topk_best_Push_c (a0 : List T_topk_one) (a1 : Int) (a2 : Int) : Tr F_thrum_topk_best_Push_c Empty (List T_topk_one) :=
 .hold 9 [] <| .app 0 T_topk_one.e 16 a0 [(⟨a1, a2⟩ : T_topk_one)] <| .hold 1 [] <| .ret 4 (a0 ++ [(⟨a1, a2⟩ : T_topk_one)])
noncomputable def s_thrum_topk_best_Push_c (a0 : List T_topk_one) (a1 : Int) (a2 : Int) : SgG Tryz.prog (List T_topk_one) := ⟨274, M_thrum_topk_best_Push_c a0 a1 a2, [.ptr (.up (.s 0)) 0, .d (.ifc 174 (.agg [.int .i64 a1, .int .u64 a2]))], [(.up (.s 0), [.sl (.h 0) 2 0 (List.map T_topk_one.en a0)])], en_thrum_topk_best_Push_c, bx_thrum_topk_best_Push_c⟩
theorem ok_thrum_topk_best_Push_c (a0 : List T_topk_one) (a1 : Int) (a2 : Int) : (s_thrum_topk_best_Push_c a0 a1 a2).Holds := Tr.fnG (F := F_thrum_topk_best_Push_c) (t_thrum_topk_best_Push_c a0 a1 a2) (by kernel_rfl) (by kernel_rfl) (by kernel_rfl) (by kernel_rfl)
/-- (thrum/topk.best).Len. -/
def en_thrum_topk_best_Len (v : Int) : PV := nI v
noncomputable abbrev F_thrum_topk_best_Len : Fe := .of Tryz.prog 174 en_thrum_topk_best_Len
theorem nl_thrum_topk_best_Len : ∀ v, (en_thrum_topk_best_Len v).noLst := fun _ => trivial
noncomputable def t_thrum_topk_best_Len (a0 : List T_topk_one) : Tr F_thrum_topk_best_Len Empty Int :=
 .len 7 T_topk_one.e a0 <| .ret 3 (a0.length : Int)
noncomputable def s_thrum_topk_best_Len (a0 : List T_topk_one) : Sg Tryz.prog Int := ⟨174, M_thrum_topk_best_Len a0, [.lst (List.map T_topk_one.en a0)], en_thrum_topk_best_Len⟩
theorem ok_thrum_topk_best_Len (a0 : List T_topk_one) : (s_thrum_topk_best_Len a0).Holds := Tr.fn (F := F_thrum_topk_best_Len) (t_thrum_topk_best_Len a0) (by kernel_rfl) (by kernel_rfl) (by kernel_rfl) (by kernel_rfl)
/-- cmp.isNaN[uint64]. -/
def en_cmp_isNaN_uint64 (v : Bool) : PV := bB v
noncomputable abbrev F_cmp_isNaN_uint64 : Fe := .of Tryz.prog 280 en_cmp_isNaN_uint64
theorem nl_cmp_isNaN_uint64 : ∀ v, (en_cmp_isNaN_uint64 v).noLst := fun _ => trivial
noncomputable def t_cmp_isNaN_uint64 (a0 : Int) : Tr F_cmp_isNaN_uint64 Empty Bool :=
 .ret 12 (a0 != a0)
noncomputable def s_cmp_isNaN_uint64 (a0 : Int) : Sg Tryz.prog Bool := ⟨280, M_cmp_isNaN_uint64 a0, [.int .u64 a0], en_cmp_isNaN_uint64⟩
theorem ok_cmp_isNaN_uint64 (a0 : Int) : (s_cmp_isNaN_uint64 a0).Holds := Tr.fn (F := F_cmp_isNaN_uint64) (t_cmp_isNaN_uint64 a0) (by kernel_rfl) (by kernel_rfl) (by kernel_rfl) (by kernel_rfl)
/-- cmp.Compare[uint64]. -/
def en_cmp_Compare_uint64 (v : Int) : PV := nI v
noncomputable abbrev F_cmp_Compare_uint64 : Fe := .of Tryz.prog 278 en_cmp_Compare_uint64
theorem nl_cmp_Compare_uint64 : ∀ v, (en_cmp_Compare_uint64 v).noLst := fun _ => trivial
noncomputable def t_cmp_Compare_uint64 (a0 : Int) (a1 : Int) : Tr F_cmp_Compare_uint64 Empty Int :=
 .call 7 (ok_cmp_isNaN_uint64 a0) nl_cmp_isNaN_uint64 fun r1 => .call 5 (ok_cmp_isNaN_uint64 a1) nl_cmp_isNaN_uint64 fun r2 => .iteB 7 11 (r1)
 (.iteB 6 12 (r2)
 (.ret 8 0)
 (.ret 8 (-1)))
 (.iteB 7 13 (r2)
 (.ret 7 1)
 (.ite 9 16 (a0 < a1)
 (.ret 7 (-1))
 (.ite 9 19 (a0 > a1)
 (.ret 7 1)
 (.ret 7 0))))
noncomputable def s_cmp_Compare_uint64 (a0 : Int) (a1 : Int) : Sg Tryz.prog Int := ⟨278, M_cmp_Compare_uint64 a0 a1, [.int .u64 a0, .int .u64 a1], en_cmp_Compare_uint64⟩
theorem ok_cmp_Compare_uint64 (a0 : Int) (a1 : Int) : (s_cmp_Compare_uint64 a0 a1).Holds := Tr.fn (F := F_cmp_Compare_uint64) (t_cmp_Compare_uint64 a0 a1) (by kernel_rfl) (by kernel_rfl) (by kernel_rfl) (by kernel_rfl)
/-- cmp.isNaN[int]. -/
def en_cmp_isNaN_int (v : Bool) : PV := bB v
noncomputable abbrev F_cmp_isNaN_int : Fe := .of Tryz.prog 230 en_cmp_isNaN_int
theorem nl_cmp_isNaN_int : ∀ v, (en_cmp_isNaN_int v).noLst := fun _ => trivial
noncomputable def t_cmp_isNaN_int (a0 : Int) : Tr F_cmp_isNaN_int Empty Bool :=
 .ret 12 (a0 != a0)
noncomputable def s_cmp_isNaN_int (a0 : Int) : Sg Tryz.prog Bool := ⟨230, M_cmp_isNaN_int a0, [.int .i64 a0], en_cmp_isNaN_int⟩
theorem ok_cmp_isNaN_int (a0 : Int) : (s_cmp_isNaN_int a0).Holds := Tr.fn (F := F_cmp_isNaN_int) (t_cmp_isNaN_int a0) (by kernel_rfl) (by kernel_rfl) (by kernel_rfl) (by kernel_rfl)
/-- cmp.Compare[int]. -/
def en_cmp_Compare_int (v : Int) : PV := nI v
noncomputable abbrev F_cmp_Compare_int : Fe := .of Tryz.prog 279 en_cmp_Compare_int
theorem nl_cmp_Compare_int : ∀ v, (en_cmp_Compare_int v).noLst := fun _ => trivial
noncomputable def t_cmp_Compare_int (a0 : Int) (a1 : Int) : Tr F_cmp_Compare_int Empty Int :=
 .call 7 (ok_cmp_isNaN_int a0) nl_cmp_isNaN_int fun r1 => .call 5 (ok_cmp_isNaN_int a1) nl_cmp_isNaN_int fun r2 => .iteB 7 11 (r1)
 (.iteB 6 12 (r2)
 (.ret 8 0)
 (.ret 8 (-1)))
 (.iteB 7 13 (r2)
 (.ret 7 1)
 (.ite 9 16 (a0 < a1)
 (.ret 7 (-1))
 (.ite 9 19 (a0 > a1)
 (.ret 7 1)
 (.ret 7 0))))
noncomputable def s_cmp_Compare_int (a0 : Int) (a1 : Int) : Sg Tryz.prog Int := ⟨279, M_cmp_Compare_int a0 a1, [.int .i64 a0, .int .i64 a1], en_cmp_Compare_int⟩
theorem ok_cmp_Compare_int (a0 : Int) (a1 : Int) : (s_cmp_Compare_int a0 a1).Holds := Tr.fn (F := F_cmp_Compare_int) (t_cmp_Compare_int a0 a1) (by kernel_rfl) (by kernel_rfl) (by kernel_rfl) (by kernel_rfl)
/-- cmp.Or[int]. -/
def en_cmp_Or_int (v : Int) : PV := nI v
noncomputable abbrev F_cmp_Or_int : Fe := .of Tryz.prog 277 en_cmp_Or_int
def S_cmp_Or_int_l0 (a0 : List Int) (x0 : Int) : St := ⟨[(8, nI x0), (7, nI (a0.length : Int)), (6, lI a0), (3, nI 0)], []⟩
def E_cmp_Or_int_l0 (a0 : List Int) (x : Unit) : St := ⟨[(3, nI 0)], []⟩
noncomputable def t_cmp_Or_int_l0 (a0 : List Int) (x0 : Int) : Tr F_cmp_Or_int Int (Sum Int Unit) :=
 .ite 6 9 (x0 < (a0.length : Int))
 (.idx 6 eI a0 x0 <| .iteN 9 14 ((at' a0 x0) = 0)
 (.ret 10 (.inl (at' a0 x0)))
 (.again 7 (IntKind.i64.wrap (x0 + 1))))
 (.ret 4 (.inr ()))
theorem ok_cmp_Or_int_l0 (a0 : List Int) (x0 : Int) : Ok (M_cmp_Or_int_l0 a0 x0) fun v => go Tryz.prog F_cmp_Or_int.N (PostR (fun r => Fnl F_cmp_Or_int.res (F_cmp_Or_int.en r) (F_cmp_Or_int.bx r)) (.exit 0) (E_cmp_Or_int_l0 a0) v) [.l (lpA Tryz.prog 277 0)] .norm (S_cmp_Or_int_l0 a0 x0) := by
 refine M_cmp_Or_int_l0.partial_correctness a0 (fun x0 v => go Tryz.prog F_cmp_Or_int.N (PostR (fun r => Fnl F_cmp_Or_int.res (F_cmp_Or_int.en r) (F_cmp_Or_int.bx r)) (.exit 0) (E_cmp_Or_int_l0 a0) v) [.l (lpA Tryz.prog 277 0)] .norm (S_cmp_Or_int_l0 a0 x0)) ?_ x0
 clear x0
 intro f IH x0
 exact Tr.lpR (F := F_cmp_Or_int) (S := fun x => S_cmp_Or_int_l0 a0 x) (S' := E_cmp_Or_int_l0 a0) (t_cmp_Or_int_l0 a0 x0) (fun x => f x) (fun x r h => IH x r h) (by kernel_rfl) (by kernel_rfl)
theorem nl_cmp_Or_int : ∀ v, (en_cmp_Or_int v).noLst := fun _ => trivial
noncomputable def t_cmp_Or_int (a0 : List Int) : Tr F_cmp_Or_int Empty Int :=
 .len 12 eI a0 <| .loopR 4 id ⟨_, _, _, _, _, ok_cmp_Or_int_l0 a0 0⟩ fun j1 => .ret 7 0
noncomputable def s_cmp_Or_int (a0 : List Int) : Sg Tryz.prog Int := ⟨277, M_cmp_Or_int a0, [.lst (List.map (D.int .i64) a0)], en_cmp_Or_int⟩
theorem ok_cmp_Or_int (a0 : List Int) : (s_cmp_Or_int a0).Holds := Tr.fn (F := F_cmp_Or_int) (t_cmp_Or_int a0) (by kernel_rfl) (by kernel_rfl) (by kernel_rfl) (by kernel_rfl)
/-- (thrum/topk.one).compare. -/
def en_thrum_topk_one_compare (v : Int) : PV := nI v
noncomputable abbrev F_thrum_topk_one_compare : Fe := .of Tryz.prog 276 en_thrum_topk_one_compare
theorem nl_thrum_topk_one_compare : ∀ v, (en_thrum_topk_one_compare v).noLst := fun _ => trivial
noncomputable def t_thrum_topk_one_compare (a0 : T_topk_one) (a1 : T_topk_one) : Tr F_thrum_topk_one_compare Empty Int :=
 .call 16 (ok_cmp_Compare_uint64 a1.F_size a0.F_size) nl_cmp_Compare_uint64 fun r1 => .hold 1 [] <| .call 0 (ok_cmp_Compare_int a0.F_place a1.F_place) nl_cmp_Compare_int fun r2 => .call 1 (ok_cmp_Or_int [r1, r2]) nl_cmp_Or_int fun r3 => .ret 4 r3
noncomputable def s_thrum_topk_one_compare (a0 : T_topk_one) (a1 : T_topk_one) : Sg Tryz.prog Int := ⟨276, M_thrum_topk_one_compare a0 a1, [.agg [.int .i64 a0.F_place, .int .u64 a0.F_size], .agg [.int .i64 a1.F_place, .int .u64 a1.F_size]], en_thrum_topk_one_compare⟩
theorem ok_thrum_topk_one_compare (a0 : T_topk_one) (a1 : T_topk_one) : (s_thrum_topk_one_compare a0 a1).Holds := Tr.fn (F := F_thrum_topk_one_compare) (t_thrum_topk_one_compare a0 a1) (by kernel_rfl) (by kernel_rfl) (by kernel_rfl) (by kernel_rfl)
/-- (thrum/topk.best).Less. -/
def en_thrum_topk_best_Less (v : Bool) : PV := bB v
noncomputable abbrev F_thrum_topk_best_Less : Fe := .of Tryz.prog 272 en_thrum_topk_best_Less
theorem nl_thrum_topk_best_Less : ∀ v, (en_thrum_topk_best_Less v).noLst := fun _ => trivial
noncomputable def t_thrum_topk_best_Less (a0 : List T_topk_one) (a1 : Int) (a2 : Int) : Tr F_thrum_topk_best_Less Empty Bool :=
 .idx 8 T_topk_one.e a0 a1 <| .idx 3 T_topk_one.e a0 a2 <| .call 1 (ok_thrum_topk_one_compare (at' a0 a1) (at' a0 a2)) nl_thrum_topk_one_compare fun r1 => .ret 4 (decide (r1 > 0))
noncomputable def s_thrum_topk_best_Less (a0 : List T_topk_one) (a1 : Int) (a2 : Int) : Sg Tryz.prog Bool := ⟨272, M_thrum_topk_best_Less a0 a1 a2, [.lst (List.map T_topk_one.en a0), .int .i64 a1, .int .i64 a2], en_thrum_topk_best_Less⟩
theorem ok_thrum_topk_best_Less (a0 : List T_topk_one) (a1 : Int) (a2 : Int) : (s_thrum_topk_best_Less a0 a1 a2).Holds := Tr.fn (F := F_thrum_topk_best_Less) (t_thrum_topk_best_Less a0 a1 a2) (by kernel_rfl) (by kernel_rfl) (by kernel_rfl) (by kernel_rfl)
/-- (thrum/topk.best).Swap. -/
def en_thrum_topk_best_Swap_g (v : (List T_topk_one)) : PV := .tup []
def bx_thrum_topk_best_Swap_g (v : (List T_topk_one)) : List (Tg × List PV) := [(.up (.s 0), [.sl (.s 0) 2 0 (List.map T_topk_one.en v)])]
noncomputable abbrev F_thrum_topk_best_Swap_g : Fe := .of Tryz.prog 275 en_thrum_topk_best_Swap_g bx_thrum_topk_best_Swap_g
theorem nl_thrum_topk_best_Swap_g : ∀ v, (en_thrum_topk_best_Swap_g v).noLst := fun _ => trivial
theorem nlB_thrum_topk_best_Swap_g : ∀ v, noLstB (bx_thrum_topk_best_Swap_g v) := fun _ => ⟨⟨(flat_map_of fun _ => ⟨trivial, trivial, trivial⟩), trivial⟩, trivial⟩
noncomputable def t_thrum_topk_best_Swap_g (a0 : List T_topk_one) (a1 : Int) (a2 : Int) : Tr F_thrum_topk_best_Swap_g Empty (List T_topk_one) :=
 .idx 7 T_topk_one.e a0 a2 <| .idx 3 T_topk_one.e a0 a1 <| .idx 1 T_topk_one.e a0 a1 <| .sto 0 [14, 10, 8, 6, 0] T_topk_one.e a0 a1 (at' a0 a2) <| .hold 1 [] <| .idx 0 T_topk_one.e (a0.set (Int.toNat a1) (at' a0 a2)) a2 <| .sto 0 [14, 10, 8, 6, 0] T_topk_one.e (a0.set (Int.toNat a1) (at' a0 a2)) a2 (at' a0 a1) <| .ret 2 ((a0.set (Int.toNat a1) (at' a0 a2)).set (Int.toNat a2) (at' a0 a1))
noncomputable def s_thrum_topk_best_Swap_g (a0 : List T_topk_one) (a1 : Int) (a2 : Int) : SgG Tryz.prog (List T_topk_one) := ⟨275, M_thrum_topk_best_Swap_g a0 a1 a2, [.sl (.h 0) 2 0 (List.map T_topk_one.en a0), nI a1, nI a2], [(.up (.s 0), [.sl (.h 0) 2 0 (List.map T_topk_one.en a0)])], en_thrum_topk_best_Swap_g, bx_thrum_topk_best_Swap_g⟩
theorem ok_thrum_topk_best_Swap_g (a0 : List T_topk_one) (a1 : Int) (a2 : Int) : (s_thrum_topk_best_Swap_g a0 a1 a2).Holds := Tr.fnG (F := F_thrum_topk_best_Swap_g) (t_thrum_topk_best_Swap_g a0 a1 a2) (by kernel_rfl) (by kernel_rfl) (by kernel_rfl) (by kernel_rfl)
/-- container/heap.up. -/
def en_container_heap_up_c (v : (List T_topk_one)) : PV := .tup []
def bx_container_heap_up_c (v : (List T_topk_one)) : List (Tg × List PV) := [(.up (.s 0), [.sl (.s 0) 2 0 (List.map T_topk_one.en v)])]
noncomputable abbrev F_container_heap_up_c : Fe := .of Tryz.prog 199 en_container_heap_up_c bx_container_heap_up_c
def S_container_heap_up_c_l0 (x0 : Int) (x1 : List T_topk_one) : St := ⟨[(0, .ifc 169 (.ptr (.up (.s 0)) 0)), (1, nI x0)], [(.up (.s 0), [.sl (.h 1) 2 0 (List.map T_topk_one.en x1)])]⟩
def E_container_heap_up_c_l0 (x : (List T_topk_one)) : St := ⟨[], [(.up (.s 0), [.sl (.h 2) 2 0 (List.map T_topk_one.en x)])]⟩
noncomputable def t_container_heap_up_c_l0 (x0 : Int) (x1 : List T_topk_one) : Tr F_container_heap_up_c (Int × (List T_topk_one)) (List T_topk_one) :=
 .join 16 6 (γ := Bool) ⟨fun x => [(17, bB x)], [4, 0, 1], fun _ => [], [.up (.s 0)]⟩
 (.ite 0 11 ((IntKind.i64.wrap (Int.tdiv (IntKind.i64.wrap (x0 - 1)) 2)) = x0)
 (.ret 7 true)
 (.call 3 (ok_thrum_topk_best_Less x1 x0 (IntKind.i64.wrap (Int.tdiv (IntKind.i64.wrap (x0 - 1)) 2))) nl_thrum_topk_best_Less fun r1 => .ret 3 (!r1)))
 fun j2 => .iteB 1 17 (j2)
 (.ret 5 x1)
 (.callB 7 [(.h 0, .h 1), (.up (.s 0), .up (.s 0))] (ok_thrum_topk_best_Swap_g x1 (IntKind.i64.wrap (Int.tdiv (IntKind.i64.wrap (x0 - 1)) 2)) x0) nl_thrum_topk_best_Swap_g nlB_thrum_topk_best_Swap_g fun r3 => .again 6 (IntKind.i64.wrap (Int.tdiv (IntKind.i64.wrap (x0 - 1)) 2), r3))
theorem ok_container_heap_up_c_l0 (x0 : Int) (x1 : List T_topk_one) : Ok (M_container_heap_up_c_l0 x0 x1) fun v => go Tryz.prog F_container_heap_up_c.N (PostN (.exit 0) (E_container_heap_up_c_l0) v) [.l (lpA Tryz.prog 199 0)] .norm (S_container_heap_up_c_l0 x0 x1) := by
 refine M_container_heap_up_c_l0.partial_correctness (fun x0 x1 v => go Tryz.prog F_container_heap_up_c.N (PostN (.exit 0) (E_container_heap_up_c_l0) v) [.l (lpA Tryz.prog 199 0)] .norm (S_container_heap_up_c_l0 x0 x1)) ?_ x0 x1
 clear x0 x1
 intro f IH x0 x1
 exact Tr.lpN (F := F_container_heap_up_c) (S := fun x => S_container_heap_up_c_l0 x.1 x.2) (S' := E_container_heap_up_c_l0) (t_container_heap_up_c_l0 x0 x1) (fun x => f x.1 x.2) (fun x r h => IH x.1 x.2 r h) (by kernel_rfl) (by kernel_rfl)
theorem nl_container_heap_up_c : ∀ v, (en_container_heap_up_c v).noLst := fun _ => trivial
theorem nlB_container_heap_up_c : ∀ v, noLstB (bx_container_heap_up_c v) := fun _ => ⟨⟨(flat_map_of fun _ => ⟨trivial, trivial, trivial⟩), trivial⟩, trivial⟩
noncomputable def t_container_heap_up_c (a0 : List T_topk_one) (a1 : Int) : Tr F_container_heap_up_c Empty (List T_topk_one) :=
 .loop 2 ⟨_, _, _, _, _, ok_container_heap_up_c_l0 a1 a0⟩ fun j4 => .ret 1 j4
noncomputable def s_container_heap_up_c (a0 : List T_topk_one) (a1 : Int) : SgG Tryz.prog (List T_topk_one) := ⟨199, M_container_heap_up_c a0 a1, [.ifc 169 (.ptr (.up (.s 0)) 0), nI a1], [(.up (.s 0), [.sl (.h 0) 2 0 (List.map T_topk_one.en a0)])], en_container_heap_up_c, bx_container_heap_up_c⟩
theorem ok_container_heap_up_c (a0 : List T_topk_one) (a1 : Int) : (s_container_heap_up_c a0 a1).Holds := Tr.fnG (F := F_container_heap_up_c) (t_container_heap_up_c a0 a1) (by kernel_rfl) (by kernel_rfl) (by kernel_rfl) (by kernel_rfl)
/-- container/heap.Push. -/
def en_container_heap_Push_c_c (v : (List T_topk_one)) : PV := .tup []
def bx_container_heap_Push_c_c (v : (List T_topk_one)) : List (Tg × List PV) := [(.up (.s 0), [.sl (.s 0) 2 0 (List.map T_topk_one.en v)])]
noncomputable abbrev F_container_heap_Push_c_c : Fe := .of Tryz.prog 173 en_container_heap_Push_c_c bx_container_heap_Push_c_c
theorem nl_container_heap_Push_c_c : ∀ v, (en_container_heap_Push_c_c v).noLst := fun _ => trivial
theorem nlB_container_heap_Push_c_c : ∀ v, noLstB (bx_container_heap_Push_c_c v) := fun _ => ⟨⟨(flat_map_of fun _ => ⟨trivial, trivial, trivial⟩), trivial⟩, trivial⟩
noncomputable def t_container_heap_Push_c_c (a0 : List T_topk_one) (a1 : Int) (a2 : Int) : Tr F_container_heap_Push_c_c Empty (List T_topk_one) :=
 .callB 4 [(.up (.s 0), .up (.s 0)), (.h 0, .h 0)] (ok_thrum_topk_best_Push_c a0 a1 a2) nl_thrum_topk_best_Push_c nlB_thrum_topk_best_Push_c fun r1 => .call 4 (ok_thrum_topk_best_Len r1) nl_thrum_topk_best_Len fun r2 => .callB 1 [(.up (.s 0), .up (.s 0)), (.h 0, .s 32)] (ok_container_heap_up_c r1 (IntKind.i64.wrap (r2 - 1))) nl_container_heap_up_c nlB_container_heap_up_c fun r3 => .ret 1 r3
noncomputable def s_container_heap_Push_c_c (a0 : List T_topk_one) (a1 : Int) (a2 : Int) : SgG Tryz.prog (List T_topk_one) := ⟨173, M_container_heap_Push_c_c a0 a1 a2, [.ifc 169 (.ptr (.up (.s 0)) 0), .d (.ifc 174 (.agg [.int .i64 a1, .int .u64 a2]))], [(.up (.s 0), [.sl (.h 0) 2 0 (List.map T_topk_one.en a0)])], en_container_heap_Push_c_c, bx_container_heap_Push_c_c⟩
theorem ok_container_heap_Push_c_c (a0 : List T_topk_one) (a1 : Int) (a2 : Int) : (s_container_heap_Push_c_c a0 a1 a2).Holds := Tr.fnG (F := F_container_heap_Push_c_c) (t_container_heap_Push_c_c a0 a1 a2) (by kernel_rfl) (by kernel_rfl) (by kernel_rfl) (by kernel_rfl)
/-- container/heap.down. -/
def en_container_heap_down_c (v : Bool × (List T_topk_one)) : PV := bB v.1
def bx_container_heap_down_c (v : Bool × (List T_topk_one)) : List (Tg × List PV) := [(.up (.s 0), [.sl (.s 0) 2 0 (List.map T_topk_one.en v.2)])]
noncomputable abbrev F_container_heap_down_c : Fe := .of Tryz.prog 200 en_container_heap_down_c bx_container_heap_down_c
def S_container_heap_down_c_l0 (a1 : Int) (a2 : Int) (x0 : Int) (x1 : List T_topk_one) : St := ⟨[(7, nI x0), (0, .ifc 169 (.ptr (.up (.s 0)) 0)), (1, nI a1), (2, nI a2)], [(.up (.s 0), [.sl (.h 1) 2 0 (List.map T_topk_one.en x1)])]⟩
def E_container_heap_down_c_l0 (a1 : Int) (a2 : Int) (x : Int × (List T_topk_one)) : St := ⟨[(7, nI x.1), (1, nI a1)], [(.up (.s 0), [.sl (.h 2) 2 0 (List.map T_topk_one.en x.2)])]⟩
noncomputable def t_container_heap_down_c_l0 (a1 : Int) (a2 : Int) (x0 : Int) (x1 : List T_topk_one) : Tr F_container_heap_down_c (Int × (List T_topk_one)) (Int × (List T_topk_one)) :=
 .join 16 3 (γ := Bool) ⟨fun x => [(21, bB x)], [8, 7, 0, 1, 2], fun _ => [], [.up (.s 0)]⟩
 (.ite 0 18 ((IntKind.i64.wrap ((IntKind.i64.wrap (2 * x0)) + 1)) ≥ a2)
 (.ret 4 true)
 (.ret 4 (decide ((IntKind.i64.wrap ((IntKind.i64.wrap (2 * x0)) + 1)) < 0))))
 fun j1 => .iteB 1 21 (j1)
 (.ret 5 (x0, x1))
 (.let_ (IntKind.i64.wrap ((IntKind.i64.wrap ((IntKind.i64.wrap (2 * x0)) + 1)) + 1) : Int) fun y2 => .join 20 5 (γ := Bool) ⟨fun x => [(33, bB x)], [10, 9, 7, 0, 1, 2], fun _ => [], [.up (.s 0)]⟩
 (.ite 0 28 (y2 < a2)
 (.call 3 (ok_thrum_topk_best_Less x1 y2 (IntKind.i64.wrap ((IntKind.i64.wrap (2 * x0)) + 1))) nl_thrum_topk_best_Less fun r4 => .ret 2 r4)
 (.ret 6 false))
 fun j5 => .iteB 1 33 (j5)
 (.call 11 (ok_thrum_topk_best_Less x1 y2 x0) nl_thrum_topk_best_Less fun r6 => .iteX 2 39 (r6)
 (.ret 5 (x0, x1))
 (.callB 7 [(.h 0, .h 1), (.up (.s 0), .up (.s 0))] (ok_thrum_topk_best_Swap_g x1 x0 y2) nl_thrum_topk_best_Swap_g nlB_thrum_topk_best_Swap_g fun r7 => .again 6 (y2, r7)))
 (.call 8 (ok_thrum_topk_best_Less x1 (IntKind.i64.wrap ((IntKind.i64.wrap (2 * x0)) + 1)) x0) nl_thrum_topk_best_Less fun r8 => .iteX 2 39 (r8)
 (.ret 5 (x0, x1))
 (.callB 7 [(.h 0, .h 1), (.up (.s 0), .up (.s 0))] (ok_thrum_topk_best_Swap_g x1 x0 (IntKind.i64.wrap ((IntKind.i64.wrap (2 * x0)) + 1))) nl_thrum_topk_best_Swap_g nlB_thrum_topk_best_Swap_g fun r9 => .again 6 (IntKind.i64.wrap ((IntKind.i64.wrap (2 * x0)) + 1), r9))))
theorem ok_container_heap_down_c_l0 (a1 : Int) (a2 : Int) (x0 : Int) (x1 : List T_topk_one) : Ok (M_container_heap_down_c_l0 a1 a2 x0 x1) fun v => go Tryz.prog F_container_heap_down_c.N (PostN (.exit 0) (E_container_heap_down_c_l0 a1 a2) v) [.l (lpA Tryz.prog 200 0)] .norm (S_container_heap_down_c_l0 a1 a2 x0 x1) := by
 refine M_container_heap_down_c_l0.partial_correctness a1 a2 (fun x0 x1 v => go Tryz.prog F_container_heap_down_c.N (PostN (.exit 0) (E_container_heap_down_c_l0 a1 a2) v) [.l (lpA Tryz.prog 200 0)] .norm (S_container_heap_down_c_l0 a1 a2 x0 x1)) ?_ x0 x1
 clear x0 x1
 intro f IH x0 x1
 exact Tr.lpN (F := F_container_heap_down_c) (S := fun x => S_container_heap_down_c_l0 a1 a2 x.1 x.2) (S' := E_container_heap_down_c_l0 a1 a2) (t_container_heap_down_c_l0 a1 a2 x0 x1) (fun x => f x.1 x.2) (fun x r h => IH x.1 x.2 r h) (by kernel_rfl) (by kernel_rfl)
theorem nl_container_heap_down_c : ∀ v, (en_container_heap_down_c v).noLst := fun _ => trivial
theorem nlB_container_heap_down_c : ∀ v, noLstB (bx_container_heap_down_c v) := fun _ => ⟨⟨(flat_map_of fun _ => ⟨trivial, trivial, trivial⟩), trivial⟩, trivial⟩
noncomputable def t_container_heap_down_c (a0 : List T_topk_one) (a1 : Int) (a2 : Int) : Tr F_container_heap_down_c Empty (Bool × (List T_topk_one)) :=
 .loop 12 ⟨_, _, _, _, _, ok_container_heap_down_c_l0 a1 a2 a1 a0⟩ fun j10 => .ret 9 (decide (j10.1 > a1), j10.2)
noncomputable def s_container_heap_down_c (a0 : List T_topk_one) (a1 : Int) (a2 : Int) : SgG Tryz.prog (Bool × (List T_topk_one)) := ⟨200, M_container_heap_down_c a0 a1 a2, [.ifc 169 (.ptr (.up (.s 0)) 0), nI a1, nI a2], [(.up (.s 0), [.sl (.h 0) 2 0 (List.map T_topk_one.en a0)])], en_container_heap_down_c, bx_container_heap_down_c⟩
theorem ok_container_heap_down_c (a0 : List T_topk_one) (a1 : Int) (a2 : Int) : (s_container_heap_down_c a0 a1 a2).Holds := Tr.fnG (F := F_container_heap_down_c) (t_container_heap_down_c a0 a1 a2) (by kernel_rfl) (by kernel_rfl) (by kernel_rfl) (by kernel_rfl)
/-- (*thrum/topk.best).Pop. -/
def en_thrum_topk_best_Pop (v : Int × Int × (List T_topk_one)) : PV := .d (.ifc 174 (.agg [.int .i64 v.1, .int .u64 v.2.1]))
def bx_thrum_topk_best_Pop (v : Int × Int × (List T_topk_one)) : List (Tg × List PV) := [(.up (.s 0), [.sl (.s 0) 2 0 (List.map T_topk_one.en v.2.2)])]
noncomputable abbrev F_thrum_topk_best_Pop : Fe := .of Tryz.prog 273 en_thrum_topk_best_Pop bx_thrum_topk_best_Pop
theorem nl_thrum_topk_best_Pop : ∀ v, (en_thrum_topk_best_Pop v).noLst := fun _ => ⟨trivial, trivial, trivial⟩
theorem nlB_thrum_topk_best_Pop : ∀ v, noLstB (bx_thrum_topk_best_Pop v) := fun _ => ⟨⟨(flat_map_of fun _ => ⟨trivial, trivial, trivial⟩), trivial⟩, trivial⟩
noncomputable def t_thrum_topk_best_Pop (a0 : List T_topk_one) : Tr F_thrum_topk_best_Pop Empty (Int × Int × (List T_topk_one)) :=
 .len 16 T_topk_one.e a0 <| .cut 1 T_topk_one.e a0 none (some (IntKind.i64.wrap ((a0.length : Int) - 1))) <| .let_ (cut' a0 none (some (IntKind.i64.wrap ((a0.length : Int) - 1))) : List T_topk_one) fun y1 => .len 7 T_topk_one.e a0 <| .idx 1 T_topk_one.e a0 (IntKind.i64.wrap ((a0.length : Int) - 1)) <| .ret 5 ((at' a0 (IntKind.i64.wrap ((a0.length : Int) - 1))).F_place, (at' a0 (IntKind.i64.wrap ((a0.length : Int) - 1))).F_size, y1)
noncomputable def s_thrum_topk_best_Pop (a0 : List T_topk_one) : SgG Tryz.prog (Int × Int × (List T_topk_one)) := ⟨273, M_thrum_topk_best_Pop a0, [.ptr (.up (.s 0)) 0], [(.up (.s 0), [.sl (.h 0) 2 0 (List.map T_topk_one.en a0)])], en_thrum_topk_best_Pop, bx_thrum_topk_best_Pop⟩
theorem ok_thrum_topk_best_Pop (a0 : List T_topk_one) : (s_thrum_topk_best_Pop a0).Holds := Tr.fnG (F := F_thrum_topk_best_Pop) (t_thrum_topk_best_Pop a0) (by kernel_rfl) (by kernel_rfl) (by kernel_rfl) (by kernel_rfl)
/-- container/heap.Pop. -/
def en_container_heap_Pop_c (v : Int × Int × (List T_topk_one)) : PV := .d (.ifc 174 (.agg [.int .i64 v.1, .int .u64 v.2.1]))
def bx_container_heap_Pop_c (v : Int × Int × (List T_topk_one)) : List (Tg × List PV) := [(.up (.s 0), [.sl (.s 0) 2 0 (List.map T_topk_one.en v.2.2)])]
noncomputable abbrev F_container_heap_Pop_c : Fe := .of Tryz.prog 175 en_container_heap_Pop_c bx_container_heap_Pop_c
theorem nl_container_heap_Pop_c : ∀ v, (en_container_heap_Pop_c v).noLst := fun _ => ⟨trivial, trivial, trivial⟩
theorem nlB_container_heap_Pop_c : ∀ v, noLstB (bx_container_heap_Pop_c v) := fun _ => ⟨⟨(flat_map_of fun _ => ⟨trivial, trivial, trivial⟩), trivial⟩, trivial⟩
noncomputable def t_container_heap_Pop_c (a0 : List T_topk_one) : Tr F_container_heap_Pop_c Empty (Int × Int × (List T_topk_one)) :=
 .call 7 (ok_thrum_topk_best_Len a0) nl_thrum_topk_best_Len fun r1 => .callB 7 [(.h 0, .h 0), (.up (.s 0), .up (.s 0))] (ok_thrum_topk_best_Swap_g a0 0 (IntKind.i64.wrap (r1 - 1))) nl_thrum_topk_best_Swap_g nlB_thrum_topk_best_Swap_g fun r2 => .callB 5 [(.up (.s 0), .up (.s 0)), (.h 0, .s 3232)] (ok_container_heap_down_c r2 0 (IntKind.i64.wrap (r1 - 1))) nl_container_heap_down_c nlB_container_heap_down_c fun r3 => .callB 4 [(.up (.s 0), .up (.s 0)), (.h 0, .s 4832)] (ok_thrum_topk_best_Pop r3.2) nl_thrum_topk_best_Pop nlB_thrum_topk_best_Pop fun r4 => .ret 3 (r4.1, r4.2.1, r4.2.2)
noncomputable def s_container_heap_Pop_c (a0 : List T_topk_one) : SgG Tryz.prog (Int × Int × (List T_topk_one)) := ⟨175, M_container_heap_Pop_c a0, [.ifc 169 (.ptr (.up (.s 0)) 0)], [(.up (.s 0), [.sl (.h 0) 2 0 (List.map T_topk_one.en a0)])], en_container_heap_Pop_c, bx_container_heap_Pop_c⟩
theorem ok_container_heap_Pop_c (a0 : List T_topk_one) : (s_container_heap_Pop_c a0).Holds := Tr.fnG (F := F_container_heap_Pop_c) (t_container_heap_Pop_c a0) (by kernel_rfl) (by kernel_rfl) (by kernel_rfl) (by kernel_rfl)
/-- thrum/topk.places. -/
def en_topk_places (v : (List Int)) : PV := sI (.s 0) v
noncomputable abbrev F_topk_places : Fe := .of Tryz.prog 176 en_topk_places
def S_topk_places_l0 (a0 : List T_topk_one) (x0 : Int) (x1 : List Int) : St := ⟨[(11, nI x0), (10, nI (a0.length : Int)), (9, .d (.lst (List.map T_topk_one.en a0))), (3, sI (.h 0) x1)], []⟩
def E_topk_places_l0 (a0 : List T_topk_one) (x : (List Int)) : St := ⟨[(3, sI (.h 1) x)], []⟩
noncomputable def t_topk_places_l0 (a0 : List T_topk_one) (x0 : Int) (x1 : List Int) : Tr F_topk_places (Int × (List Int)) (List Int) :=
 .ite 6 12 (x0 < (a0.length : Int))
 (.idx 6 T_topk_one.e a0 x0 <| .app 9 eI 8 x1 [(at' a0 x0).F_place] <| .let_ (x1 ++ [(at' a0 x0).F_place] : List Int) fun y3 => .again 7 (IntKind.i64.wrap (x0 + 1), y3))
 (.ret 4 x1)
theorem ok_topk_places_l0 (a0 : List T_topk_one) (x0 : Int) (x1 : List Int) : Ok (M_topk_places_l0 a0 x0 x1) fun v => go Tryz.prog F_topk_places.N (PostN (.exit 0) (E_topk_places_l0 a0) v) [.l (lpA Tryz.prog 176 0)] .norm (S_topk_places_l0 a0 x0 x1) := by
 refine M_topk_places_l0.partial_correctness a0 (fun x0 x1 v => go Tryz.prog F_topk_places.N (PostN (.exit 0) (E_topk_places_l0 a0) v) [.l (lpA Tryz.prog 176 0)] .norm (S_topk_places_l0 a0 x0 x1)) ?_ x0 x1
 clear x0 x1
 intro f IH x0 x1
 exact Tr.lpN (F := F_topk_places) (S := fun x => S_topk_places_l0 a0 x.1 x.2) (S' := E_topk_places_l0 a0) (t_topk_places_l0 a0 x0 x1) (fun x => f x.1 x.2) (fun x r h => IH x.1 x.2 r h) (by kernel_rfl) (by kernel_rfl)
theorem nl_topk_places : ∀ v, (en_topk_places v).noLst := fun _ => (flat_map_of fun _ => trivial)
noncomputable def t_topk_places (a0 : List T_topk_one) : Tr F_topk_places Empty (List Int) :=
 .len 7 T_topk_one.e a0 <| .mk 0 eI 8 0 0 (a0.length : Int) <| .let_ (List.replicate (Int.toNat 0) 0 : List Int) fun y1 => .len 6 T_topk_one.e a0 <| .loop 4 ⟨_, _, _, _, _, ok_topk_places_l0 a0 0 y1⟩ fun j5 => .ret 7 j5
noncomputable def s_topk_places (a0 : List T_topk_one) : Sg Tryz.prog (List Int) := ⟨176, M_topk_places a0, [.lst (List.map T_topk_one.en a0)], en_topk_places⟩
theorem ok_topk_places (a0 : List T_topk_one) : (s_topk_places a0).Holds := Tr.fn (F := F_topk_places) (t_topk_places a0) (by kernel_rfl) (by kernel_rfl) (by kernel_rfl) (by kernel_rfl)
/-- thrum/topk.Pick. -/
def en_topk_Pick (v : (List Int) × Int) : PV := .tup [sI (.s 0) v.1, nI v.2]
noncomputable abbrev F_topk_Pick : Fe := .of Tryz.prog 129 en_topk_Pick
def S_topk_Pick_l0 (a0 : Int) (r2 : (List T_topk_one)) (x0 : Int) (x1 : List T_topk_one) : St := ⟨[(28, nI x0), (27, nI (r2.length : Int)), (26, .sl (.s 9616) 2 0 (List.map T_topk_one.en r2)), (6, .ptr (.s 8031) 0), (0, nI a0)], [(.s 8031, [.sl (.h 0) 2 0 (List.map T_topk_one.en x1)])]⟩
def E_topk_Pick_l0 (a0 : Int) (r2 : (List T_topk_one)) (x : (List T_topk_one)) : St := ⟨[(6, .ptr (.s 8031) 0)], [(.s 8031, [.sl (.h 1) 2 0 (List.map T_topk_one.en x)])]⟩
noncomputable def t_topk_Pick_l0 (a0 : Int) (r2 : (List T_topk_one)) (x0 : Int) (x1 : List T_topk_one) : Tr F_topk_Pick (Int × (List T_topk_one)) (List T_topk_one) :=
 .ite 6 29 (x0 < (r2.length : Int))
 (.idx 6 T_topk_one.e r2 x0 <| .callB 10 [(.up (.s 0), .s 8031), (.h 0, .h 0)] (ok_container_heap_Push_c_c x1 ((at' r2 x0).F_place) ((at' r2 x0).F_size)) nl_container_heap_Push_c_c nlB_container_heap_Push_c_c fun r3 => .call 6 (ok_thrum_topk_best_Len r3) nl_thrum_topk_best_Len fun r4 => .ite 3 42 (r4 > a0)
 (.callB 4 [(.up (.s 0), .s 8031), (.h 0, .s 14464)] (ok_container_heap_Pop_c r3) nl_container_heap_Pop_c nlB_container_heap_Pop_c fun r5 => .again 6 (IntKind.i64.wrap (x0 + 1), r5.2.2))
 (.again 7 (IntKind.i64.wrap (x0 + 1), r3)))
 (.ret 4 x1)
theorem ok_topk_Pick_l0 (a0 : Int) (r2 : (List T_topk_one)) (x0 : Int) (x1 : List T_topk_one) : Ok (M_topk_Pick_l0 a0 r2 x0 x1) fun v => go Tryz.prog F_topk_Pick.N (PostN (.exit 1) (E_topk_Pick_l0 a0 r2) v) [.l (lpA Tryz.prog 129 0)] .norm (S_topk_Pick_l0 a0 r2 x0 x1) := by
 refine M_topk_Pick_l0.partial_correctness a0 r2 (fun x0 x1 v => go Tryz.prog F_topk_Pick.N (PostN (.exit 1) (E_topk_Pick_l0 a0 r2) v) [.l (lpA Tryz.prog 129 0)] .norm (S_topk_Pick_l0 a0 r2 x0 x1)) ?_ x0 x1
 clear x0 x1
 intro f IH x0 x1
 exact Tr.lpN (F := F_topk_Pick) (S := fun x => S_topk_Pick_l0 a0 r2 x.1 x.2) (S' := E_topk_Pick_l0 a0 r2) (t_topk_Pick_l0 a0 r2 x0 x1) (fun x => f x.1 x.2) (fun x r h => IH x.1 x.2 r h) (by kernel_rfl) (by kernel_rfl)
theorem nl_topk_Pick : ∀ v, (en_topk_Pick v).noLst := fun _ => ⟨(flat_map_of fun _ => trivial), trivial, trivial⟩
noncomputable def t_topk_Pick (a0 : Int) (a1 : List Int) : Tr F_topk_Pick Empty ((List Int) × Int) :=
 .len 10 eI a1 <| .ite 3 10 ((a1.length : Int) > 4096)
 (.ret 9 ([], 3))
 (.join 6 5 (γ := Bool) ⟨fun x => [(22, bB x)], [0, 1], fun _ => [], []⟩
 (.ite 0 17 (a0 < 0)
 (.ret 6 true)
 (.len 2 eI a1 <| .ret 3 (decide (a0 > (a1.length : Int)))))
 fun j1 => .iteB 2 14 (j1)
 (.ret 9 ([], 1))
 (.call 13 (ok_topk_ones a1) nl_topk_ones fun r2 => .len 0 T_topk_one.e r2 <| .loop 4 ⟨_, _, _, _, _, ok_topk_Pick_l0 a0 r2 0 []⟩ fun j6 => .call 6 (ok_topk_places j6) nl_topk_places fun r7 => .srt 5 [51, 9] (sk_slices_Sort_int r7) fun r8 => .ret 8 (r8, 0)))
noncomputable def s_topk_Pick (a0 : Int) (a1 : List Int) : Sg Tryz.prog ((List Int) × Int) := ⟨129, M_topk_Pick a0 a1, [.int .i64 a0, .lst (List.map (D.int .i64) a1)], en_topk_Pick⟩
theorem ok_topk_Pick (a0 : Int) (a1 : List Int) : (s_topk_Pick a0 a1).Holds := Tr.fn (F := F_topk_Pick) (t_topk_Pick a0 a1) (by kernel_rfl) (by kernel_rfl) (by kernel_rfl) (by kernel_rfl)
/-- thrum/index.rises. -/
def en_index_rises (v : Bool) : PV := bB v
noncomputable abbrev F_index_rises : Fe := .of Tryz.prog 178 en_index_rises
def S_index_rises_l0 (a0 : List Int) (x0 : Int) : St := ⟨[(3, nI x0), (0, lI a0)], []⟩
def E_index_rises_l0 (a0 : List Int) (x : Unit) : St := ⟨[], []⟩
noncomputable def t_index_rises_l0 (a0 : List Int) (x0 : Int) : Tr F_index_rises Int (Sum Bool Unit) :=
 .len 6 eI a0 <| .ite 2 7 (x0 < (a0.length : Int))
 (.idx 9 eI a0 (IntKind.i64.wrap (x0 - 1)) <| .idx 3 eI a0 x0 <| .ite 3 19 ((at' a0 (IntKind.i64.wrap (x0 - 1))) ≥ (at' a0 x0))
 (.ret 9 (.inl false))
 (.again 8 (IntKind.i64.wrap (x0 + 1))))
 (.ret 4 (.inr ()))
theorem ok_index_rises_l0 (a0 : List Int) (x0 : Int) : Ok (M_index_rises_l0 a0 x0) fun v => go Tryz.prog F_index_rises.N (PostR (fun r => Fnl F_index_rises.res (F_index_rises.en r) (F_index_rises.bx r)) (.exit 0) (E_index_rises_l0 a0) v) [.l (lpA Tryz.prog 178 0)] .norm (S_index_rises_l0 a0 x0) := by
 refine M_index_rises_l0.partial_correctness a0 (fun x0 v => go Tryz.prog F_index_rises.N (PostR (fun r => Fnl F_index_rises.res (F_index_rises.en r) (F_index_rises.bx r)) (.exit 0) (E_index_rises_l0 a0) v) [.l (lpA Tryz.prog 178 0)] .norm (S_index_rises_l0 a0 x0)) ?_ x0
 clear x0
 intro f IH x0
 exact Tr.lpR (F := F_index_rises) (S := fun x => S_index_rises_l0 a0 x) (S' := E_index_rises_l0 a0) (t_index_rises_l0 a0 x0) (fun x => f x) (fun x r h => IH x r h) (by kernel_rfl) (by kernel_rfl)
theorem nl_index_rises : ∀ v, (en_index_rises v).noLst := fun _ => trivial
noncomputable def t_index_rises (a0 : List Int) : Tr F_index_rises Empty Bool :=
 .loopR 11 id ⟨_, _, _, _, _, ok_index_rises_l0 a0 1⟩ fun j1 => .ret 6 true
noncomputable def s_index_rises (a0 : List Int) : Sg Tryz.prog Bool := ⟨178, M_index_rises a0, [.lst (List.map (D.int .i64) a0)], en_index_rises⟩
theorem ok_index_rises (a0 : List Int) : (s_index_rises a0).Holds := Tr.fn (F := F_index_rises) (t_index_rises a0) (by kernel_rfl) (by kernel_rfl) (by kernel_rfl) (by kernel_rfl)
/-- thrum/index.Gather$1. -/
def en_index_Gather_1_c (v : Bool) : PV := bB v
noncomputable abbrev F_index_Gather_1_c : Fe := .of Tryz.prog 180 en_index_Gather_1_c
theorem nl_index_Gather_1_c : ∀ v, (en_index_Gather_1_c v).noLst := fun _ => trivial
noncomputable def t_index_Gather_1_c (a0 : Int) (a1 : List Int) : Tr F_index_Gather_1_c Empty Bool :=
 .join 9 5 (γ := Bool) ⟨fun x => [(11, bB x)], [], fun _ => [], []⟩
 (.ite 0 6 (a0 < 0)
 (.ret 6 true)
 (.len 2 eI a1 <| .ret 3 (decide (a0 ≥ (a1.length : Int)))))
 fun j1 => .ret 3 j1
noncomputable def s_index_Gather_1_c (a0 : Int) (a1 : List Int) : Sg Tryz.prog Bool := ⟨180, M_index_Gather_1_c a0 a1, [.int .i64 a0, .cp [.lst (List.map (D.int .i64) a1)] 0], en_index_Gather_1_c⟩
theorem ok_index_Gather_1_c (a0 : Int) (a1 : List Int) : (s_index_Gather_1_c a0 a1).Holds := Tr.fn (F := F_index_Gather_1_c) (t_index_Gather_1_c a0 a1) (by kernel_rfl) (by kernel_rfl) (by kernel_rfl) (by kernel_rfl)
/-- slices.IndexFunc[[]int,int]. -/
def en_slices_IndexFunc_int_int_index_Gather_1 (v : Int) : PV := nI v
noncomputable abbrev F_slices_IndexFunc_int_int_index_Gather_1 : Fe := .of Tryz.prog 203 en_slices_IndexFunc_int_int_index_Gather_1
def S_slices_IndexFunc_int_int_index_Gather_1_l0 (a0 : List Int) (a1 : List Int) (x0 : Int) : St := ⟨[(8, nI x0), (7, nI (a0.length : Int)), (0, lI a0), (1, .d (.clo (.func 180) [] [.cp [.lst (List.map (D.int .i64) a1)] 0]))], []⟩
def E_slices_IndexFunc_int_int_index_Gather_1_l0 (a0 : List Int) (a1 : List Int) (x : Unit) : St := ⟨[], []⟩
noncomputable def t_slices_IndexFunc_int_int_index_Gather_1_l0 (a0 : List Int) (a1 : List Int) (x0 : Int) : Tr F_slices_IndexFunc_int_int_index_Gather_1 Int (Sum Int Unit) :=
 .ite 6 9 (x0 < (a0.length : Int))
 (.idx 14 eI a0 x0 <| .call 1 (ok_index_Gather_1_c (at' a0 x0) a1) nl_index_Gather_1_c fun r1 => .iteB 1 16 (r1)
 (.ret 10 (.inl x0))
 (.again 7 (IntKind.i64.wrap (x0 + 1))))
 (.ret 4 (.inr ()))
theorem ok_slices_IndexFunc_int_int_index_Gather_1_l0 (a0 : List Int) (a1 : List Int) (x0 : Int) : Ok (M_slices_IndexFunc_int_int_index_Gather_1_l0 a0 a1 x0) fun v => go Tryz.prog F_slices_IndexFunc_int_int_index_Gather_1.N (PostR (fun r => Fnl F_slices_IndexFunc_int_int_index_Gather_1.res (F_slices_IndexFunc_int_int_index_Gather_1.en r) (F_slices_IndexFunc_int_int_index_Gather_1.bx r)) (.exit 0) (E_slices_IndexFunc_int_int_index_Gather_1_l0 a0 a1) v) [.l (lpA Tryz.prog 203 0)] .norm (S_slices_IndexFunc_int_int_index_Gather_1_l0 a0 a1 x0) := by
 refine M_slices_IndexFunc_int_int_index_Gather_1_l0.partial_correctness a0 a1 (fun x0 v => go Tryz.prog F_slices_IndexFunc_int_int_index_Gather_1.N (PostR (fun r => Fnl F_slices_IndexFunc_int_int_index_Gather_1.res (F_slices_IndexFunc_int_int_index_Gather_1.en r) (F_slices_IndexFunc_int_int_index_Gather_1.bx r)) (.exit 0) (E_slices_IndexFunc_int_int_index_Gather_1_l0 a0 a1) v) [.l (lpA Tryz.prog 203 0)] .norm (S_slices_IndexFunc_int_int_index_Gather_1_l0 a0 a1 x0)) ?_ x0
 clear x0
 intro f IH x0
 exact Tr.lpR (F := F_slices_IndexFunc_int_int_index_Gather_1) (S := fun x => S_slices_IndexFunc_int_int_index_Gather_1_l0 a0 a1 x) (S' := E_slices_IndexFunc_int_int_index_Gather_1_l0 a0 a1) (t_slices_IndexFunc_int_int_index_Gather_1_l0 a0 a1 x0) (fun x => f x) (fun x r h => IH x r h) (by kernel_rfl) (by kernel_rfl)
theorem nl_slices_IndexFunc_int_int_index_Gather_1 : ∀ v, (en_slices_IndexFunc_int_int_index_Gather_1 v).noLst := fun _ => trivial
noncomputable def t_slices_IndexFunc_int_int_index_Gather_1 (a0 : List Int) (a1 : List Int) : Tr F_slices_IndexFunc_int_int_index_Gather_1 Empty Int :=
 .len 8 eI a0 <| .loopR 4 id ⟨_, _, _, _, _, ok_slices_IndexFunc_int_int_index_Gather_1_l0 a0 a1 0⟩ fun j2 => .ret 6 (-1)
noncomputable def s_slices_IndexFunc_int_int_index_Gather_1 (a0 : List Int) (a1 : List Int) : Sg Tryz.prog Int := ⟨203, M_slices_IndexFunc_int_int_index_Gather_1 a0 a1, [.lst (List.map (D.int .i64) a0), .clo (.func 180) [] [.cp [.lst (List.map (D.int .i64) a1)] 0]], en_slices_IndexFunc_int_int_index_Gather_1⟩
theorem ok_slices_IndexFunc_int_int_index_Gather_1 (a0 : List Int) (a1 : List Int) : (s_slices_IndexFunc_int_int_index_Gather_1 a0 a1).Holds := Tr.fn (F := F_slices_IndexFunc_int_int_index_Gather_1) (t_slices_IndexFunc_int_int_index_Gather_1 a0 a1) (by kernel_rfl) (by kernel_rfl) (by kernel_rfl) (by kernel_rfl)
/-- slices.ContainsFunc[[]int,int]. -/
def en_slices_ContainsFunc_int_int_index_Gather_1 (v : Bool) : PV := bB v
noncomputable abbrev F_slices_ContainsFunc_int_int_index_Gather_1 : Fe := .of Tryz.prog 179 en_slices_ContainsFunc_int_int_index_Gather_1
theorem nl_slices_ContainsFunc_int_int_index_Gather_1 : ∀ v, (en_slices_ContainsFunc_int_int_index_Gather_1 v).noLst := fun _ => trivial
noncomputable def t_slices_ContainsFunc_int_int_index_Gather_1 (a0 : List Int) (a1 : List Int) : Tr F_slices_ContainsFunc_int_int_index_Gather_1 Empty Bool :=
 .call 8 (ok_slices_IndexFunc_int_int_index_Gather_1 a0 a1) nl_slices_IndexFunc_int_int_index_Gather_1 fun r1 => .ret 4 (decide (r1 ≥ 0))
noncomputable def s_slices_ContainsFunc_int_int_index_Gather_1 (a0 : List Int) (a1 : List Int) : Sg Tryz.prog Bool := ⟨179, M_slices_ContainsFunc_int_int_index_Gather_1 a0 a1, [.lst (List.map (D.int .i64) a0), .clo (.func 180) [] [.cp [.lst (List.map (D.int .i64) a1)] 0]], en_slices_ContainsFunc_int_int_index_Gather_1⟩
theorem ok_slices_ContainsFunc_int_int_index_Gather_1 (a0 : List Int) (a1 : List Int) : (s_slices_ContainsFunc_int_int_index_Gather_1 a0 a1).Holds := Tr.fn (F := F_slices_ContainsFunc_int_int_index_Gather_1) (t_slices_ContainsFunc_int_int_index_Gather_1 a0 a1) (by kernel_rfl) (by kernel_rfl) (by kernel_rfl) (by kernel_rfl)
/-- thrum/index.Gather. -/
def en_index_Gather (v : (List Int) × Int) : PV := .tup [sI (.s 0) v.1, nI v.2]
noncomputable abbrev F_index_Gather : Fe := .of Tryz.prog 130 en_index_Gather
def S_index_Gather_l0 (a0 : List Int) (a1 : List Int) (x0 : Int) (x1 : List Int) : St := ⟨[(22, nI x0), (21, nI (a0.length : Int)), (20, lI a0), (6, sI (.h 0) x1), (3, .ptr (.s 15) 0)], [(.s 15, [lI a1])]⟩
def E_index_Gather_l0 (a0 : List Int) (a1 : List Int) (x : (List Int)) : St := ⟨[(6, sI (.h 1) x)], []⟩
noncomputable def t_index_Gather_l0 (a0 : List Int) (a1 : List Int) (x0 : Int) (x1 : List Int) : Tr F_index_Gather (Int × (List Int)) (List Int) :=
 .ite 6 23 (x0 < (a0.length : Int))
 (.idx 6 eI a0 x0 <| .idx 7 eI a1 (at' a0 x0) <| .app 2 eI 8 x1 [at' a1 (at' a0 x0)] <| .let_ (x1 ++ [at' a1 (at' a0 x0)] : List Int) fun y6 => .again 7 (IntKind.i64.wrap (x0 + 1), y6))
 (.ret 4 x1)
theorem ok_index_Gather_l0 (a0 : List Int) (a1 : List Int) (x0 : Int) (x1 : List Int) : Ok (M_index_Gather_l0 a0 a1 x0 x1) fun v => go Tryz.prog F_index_Gather.N (PostN (.exit 0) (E_index_Gather_l0 a0 a1) v) [.l (lpA Tryz.prog 130 0)] .norm (S_index_Gather_l0 a0 a1 x0 x1) := by
 refine M_index_Gather_l0.partial_correctness a0 a1 (fun x0 x1 v => go Tryz.prog F_index_Gather.N (PostN (.exit 0) (E_index_Gather_l0 a0 a1) v) [.l (lpA Tryz.prog 130 0)] .norm (S_index_Gather_l0 a0 a1 x0 x1)) ?_ x0 x1
 clear x0 x1
 intro f IH x0 x1
 exact Tr.lpN (F := F_index_Gather) (S := fun x => S_index_Gather_l0 a0 a1 x.1 x.2) (S' := E_index_Gather_l0 a0 a1) (t_index_Gather_l0 a0 a1 x0 x1) (fun x => f x.1 x.2) (fun x r h => IH x.1 x.2 r h) (by kernel_rfl) (by kernel_rfl)
theorem nl_index_Gather : ∀ v, (en_index_Gather v).noLst := fun _ => ⟨(flat_map_of fun _ => trivial), trivial, trivial⟩
noncomputable def t_index_Gather (a0 : List Int) (a1 : List Int) : Tr F_index_Gather Empty ((List Int) × Int) :=
 .call 10 (ok_index_rises a0) nl_index_rises fun r1 => .join 2 4 (γ := Bool) ⟨fun x => [(16, bB x)], [3, 0], fun _ => [], [.s 15]⟩
 (.iteX 0 12 (r1)
 (.ret 5 true)
 (.call 2 (ok_slices_ContainsFunc_int_int_index_Gather_1 a0 a1) nl_slices_ContainsFunc_int_int_index_Gather_1 fun r2 => .ret 2 r2))
 fun j3 => .iteB 1 16 (j3)
 (.ret 8 ([], 1))
 (.len 5 eI a0 <| .mk 0 eI 8 0 0 (a0.length : Int) <| .let_ (List.replicate (Int.toNat 0) 0 : List Int) fun y4 => .len 6 eI a0 <| .loop 4 ⟨_, _, _, _, _, ok_index_Gather_l0 a0 a1 0 y4⟩ fun j8 => .ret 8 (j8, 0))
noncomputable def s_index_Gather (a0 : List Int) (a1 : List Int) : Sg Tryz.prog ((List Int) × Int) := ⟨130, M_index_Gather a0 a1, [.lst (List.map (D.int .i64) a0), .lst (List.map (D.int .i64) a1)], en_index_Gather⟩
theorem ok_index_Gather (a0 : List Int) (a1 : List Int) : (s_index_Gather a0 a1).Holds := Tr.fn (F := F_index_Gather) (t_index_Gather a0 a1) (by kernel_rfl) (by kernel_rfl) (by kernel_rfl) (by kernel_rfl)
/-- thrum/topk.Press. -/
def en_topk_Press (v : Int × Int × (List Int) × (List Int) × Int × Int × Int) : PV := .tup [.d (.agg [.int .i64 v.1, .int .i64 v.2.1, .lst (List.map (D.int .i64) v.2.2.1), .lst (List.map (D.int .i64) v.2.2.2.1), .int .i64 v.2.2.2.2.1, .int .i64 v.2.2.2.2.2.1, .lst [], .lst []]), nI v.2.2.2.2.2.2]
noncomputable abbrev F_topk_Press : Fe := .of Tryz.prog 76 en_topk_Press
noncomputable def t_topk_Press (a0 : Int) (a1 : List Int) : Tr F_topk_Press Empty (Int × Int × (List Int) × (List Int) × Int × Int × Int) :=
 .len 9 eI a1 <| .ite 2 11 ((a1.length : Int) = 0)
 (.ret 9 (0, 0, [], [], 0, 0, 1))
 (.call 6 (ok_topk_Pick a0 a1) nl_topk_Pick fun r1 => .iteN 12 20 (r1.2 = 0)
 (.ret 10 (0, 0, [], [], 0, 0, r1.2))
 (.call 6 (ok_index_Gather r1.1 a1) nl_index_Gather fun r2 => .iteN 12 30 (r2.2 = 0)
 (.ret 10 (0, 0, [], [], 0, 0, r2.2))
 (.len 5 eI a1 <| .ret 7 (1, (a1.length : Int), r1.1, r2.1, 0, 0, 0))))
noncomputable def s_topk_Press (a0 : Int) (a1 : List Int) : Sg Tryz.prog (Int × Int × (List Int) × (List Int) × Int × Int × Int) := ⟨76, M_topk_Press a0 a1, [.int .i64 a0, .lst (List.map (D.int .i64) a1)], en_topk_Press⟩
theorem ok_topk_Press (a0 : Int) (a1 : List Int) : (s_topk_Press a0 a1).Holds := Tr.fn (F := F_topk_Press) (t_topk_Press a0 a1) (by kernel_rfl) (by kernel_rfl) (by kernel_rfl) (by kernel_rfl)
/-- thrum/press.ways$4. -/
def en_press_ways_4 (v : Int × Int × (List Int) × (List Int) × Int × Int × Int) : PV := .tup [.d (.agg [.int .i64 v.1, .int .i64 v.2.1, .lst (List.map (D.int .i64) v.2.2.1), .lst (List.map (D.int .i64) v.2.2.2.1), .int .i64 v.2.2.2.2.1, .int .i64 v.2.2.2.2.2.1, .lst [], .lst []]), nI v.2.2.2.2.2.2]
noncomputable abbrev F_press_ways_4 : Fe := .of Tryz.prog 75 en_press_ways_4
noncomputable def t_press_ways_4 (a0 : T_api_How) (a1 : List Int) (a2 : Int) (a3 : List Int) : Tr F_press_ways_4 Empty (Int × Int × (List Int) × (List Int) × Int × Int × Int) :=
 .callZ 11 (ok_topk_Press a0.F_K a1) fun r1 => .ret 6 (r1.1, r1.2.1, r1.2.2.1, r1.2.2.2.1, r1.2.2.2.2.1, r1.2.2.2.2.2.1, r1.2.2.2.2.2.2)
noncomputable def s_press_ways_4 (a0 : T_api_How) (a1 : List Int) (a2 : Int) (a3 : List Int) : Sg Tryz.prog (Int × Int × (List Int) × (List Int) × Int × Int × Int) := ⟨75, M_press_ways_4 a0 a1 a2 a3, [.agg [.int .i64 a0.F_Scheme, .int .i64 a0.F_K, .int .i64 a0.F_Wide], .lst (List.map (D.int .i64) a1), .int .u64 a2, .lst (List.map (D.int .i64) a3)], en_press_ways_4⟩
theorem ok_press_ways_4 (a0 : T_api_How) (a1 : List Int) (a2 : Int) (a3 : List Int) : (s_press_ways_4 a0 a1 a2 a3).Holds := Tr.fn (F := F_press_ways_4) (t_press_ways_4 a0 a1 a2 a3) (by kernel_rfl) (by kernel_rfl) (by kernel_rfl) (by kernel_rfl)
/-- thrum/quant.Steps. -/
def en_quant_Steps (v : Int × Int) : PV := .tup [nU v.1, nI v.2]
noncomputable abbrev F_quant_Steps : Fe := .of Tryz.prog 133 en_quant_Steps
theorem nl_quant_Steps : ∀ v, (en_quant_Steps v).noLst := fun _ => ⟨trivial, trivial, trivial⟩
noncomputable def t_quant_Steps (a0 : Int) : Tr F_quant_Steps Empty (Int × Int) :=
 .join 11 3 (γ := Bool) ⟨fun x => [(9, bB x)], [0], fun _ => [], []⟩
 (.ite 0 6 (a0 < 1)
 (.ret 4 true)
 (.ret 4 (decide (a0 > 8))))
 fun j1 => .iteB 1 9 (j1)
 (.ret 8 (0, 1))
 (.rd 5 (0 ≤ a0) (nU (sShl .u64 1 a0)) <| .ret 5 (IntKind.u64.wrap ((sShl .u64 1 a0) - 1), 0))
noncomputable def s_quant_Steps (a0 : Int) : Sg Tryz.prog (Int × Int) := ⟨133, M_quant_Steps a0, [.int .i64 a0], en_quant_Steps⟩
theorem ok_quant_Steps (a0 : Int) : (s_quant_Steps a0).Holds := Tr.fn (F := F_quant_Steps) (t_quant_Steps a0) (by kernel_rfl) (by kernel_rfl) (by kernel_rfl) (by kernel_rfl)
/-- thrum/fix.Sub. -/
def en_fix_Sub (v : Int × Int) : PV := .tup [nI v.1, nI v.2]
noncomputable abbrev F_fix_Sub : Fe := .of Tryz.prog 103 en_fix_Sub
theorem nl_fix_Sub : ∀ v, (en_fix_Sub v).noLst := fun _ => ⟨trivial, trivial, trivial⟩
noncomputable def t_fix_Sub (a0 : Int) (a1 : Int) : Tr F_fix_Sub Empty (Int × Int) :=
 .ite 24 17 ((bAnd .i64 (bXor .i64 a0 a1) (bXor .i64 a0 (IntKind.i64.wrap (a0 - a1)))) < 0)
 (.ret 8 (0, 2))
 (.ret 9 (IntKind.i64.wrap (a0 - a1), 0))
noncomputable def s_fix_Sub (a0 : Int) (a1 : Int) : Sg Tryz.prog (Int × Int) := ⟨103, M_fix_Sub a0 a1, [.int .i64 a0, .int .i64 a1], en_fix_Sub⟩
theorem ok_fix_Sub (a0 : Int) (a1 : Int) : (s_fix_Sub a0 a1).Holds := Tr.fn (F := F_fix_Sub) (t_fix_Sub a0 a1) (by kernel_rfl) (by kernel_rfl) (by kernel_rfl) (by kernel_rfl)
/-- thrum/fix.Neg. -/
def en_fix_Neg (v : Int × Int) : PV := .tup [nI v.1, nI v.2]
noncomputable abbrev F_fix_Neg : Fe := .of Tryz.prog 104 en_fix_Neg
theorem nl_fix_Neg : ∀ v, (en_fix_Neg v).noLst := fun _ => ⟨trivial, trivial, trivial⟩
noncomputable def t_fix_Neg (a0 : Int) : Tr F_fix_Neg Empty (Int × Int) :=
 .call 8 (ok_fix_Sub 0 a0) nl_fix_Sub fun r1 => .ret 6 (r1.1, r1.2)
noncomputable def s_fix_Neg (a0 : Int) : Sg Tryz.prog (Int × Int) := ⟨104, M_fix_Neg a0, [.int .i64 a0], en_fix_Neg⟩
theorem ok_fix_Neg (a0 : Int) : (s_fix_Neg a0).Holds := Tr.fn (F := F_fix_Neg) (t_fix_Neg a0) (by kernel_rfl) (by kernel_rfl) (by kernel_rfl) (by kernel_rfl)
/-- thrum/fix.Abs. -/
def en_fix_Abs (v : Int × Int) : PV := .tup [nI v.1, nI v.2]
noncomputable abbrev F_fix_Abs : Fe := .of Tryz.prog 46 en_fix_Abs
theorem nl_fix_Abs : ∀ v, (en_fix_Abs v).noLst := fun _ => ⟨trivial, trivial, trivial⟩
noncomputable def t_fix_Abs (a0 : Int) : Tr F_fix_Abs Empty (Int × Int) :=
 .ite 11 5 (a0 ≥ 0)
 (.ret 9 (a0, 0))
 (.call 5 (ok_fix_Neg a0) nl_fix_Neg fun r1 => .ret 6 (r1.1, r1.2))
noncomputable def s_fix_Abs (a0 : Int) : Sg Tryz.prog (Int × Int) := ⟨46, M_fix_Abs a0, [.int .i64 a0], en_fix_Abs⟩
theorem ok_fix_Abs (a0 : Int) : (s_fix_Abs a0).Holds := Tr.fn (F := F_fix_Abs) (t_fix_Abs a0) (by kernel_rfl) (by kernel_rfl) (by kernel_rfl) (by kernel_rfl)
/-- thrum/vec.Most. -/
def en_vec_Most (v : Int × Int) : PV := .tup [nI v.1, nI v.2]
noncomputable abbrev F_vec_Most : Fe := .of Tryz.prog 134 en_vec_Most
def S_vec_Most_l0 (a0 : List Int) (x0 : Int) (x1 : Int) : St := ⟨[(16, nI x0), (15, nI (a0.length : Int)), (14, lI a0), (2, nI x1)], []⟩
def E_vec_Most_l0 (a0 : List Int) (x : Int) : St := ⟨[(2, nI x)], []⟩
noncomputable def t_vec_Most_l0 (a0 : List Int) (x0 : Int) (x1 : Int) : Tr F_vec_Most (Int × Int) (Sum (Int × Int) Int) :=
 .ite 6 17 (x0 < (a0.length : Int))
 (.idx 6 eI a0 x0 <| .call 6 (ok_fix_Abs (at' a0 x0)) nl_fix_Abs fun r2 => .iteN 12 26 (r2.2 = 0)
 (.ret 12 (.inl (0, r2.2)))
 (.again 13 (IntKind.i64.wrap (x0 + 1), if r2.1 > x1 then r2.1 else x1)))
 (.ret 4 (.inr x1))
theorem ok_vec_Most_l0 (a0 : List Int) (x0 : Int) (x1 : Int) : Ok (M_vec_Most_l0 a0 x0 x1) fun v => go Tryz.prog F_vec_Most.N (PostR (fun r => Fnl F_vec_Most.res (F_vec_Most.en r) (F_vec_Most.bx r)) (.exit 0) (E_vec_Most_l0 a0) v) [.l (lpA Tryz.prog 134 0)] .norm (S_vec_Most_l0 a0 x0 x1) := by
 refine M_vec_Most_l0.partial_correctness a0 (fun x0 x1 v => go Tryz.prog F_vec_Most.N (PostR (fun r => Fnl F_vec_Most.res (F_vec_Most.en r) (F_vec_Most.bx r)) (.exit 0) (E_vec_Most_l0 a0) v) [.l (lpA Tryz.prog 134 0)] .norm (S_vec_Most_l0 a0 x0 x1)) ?_ x0 x1
 clear x0 x1
 intro f IH x0 x1
 exact Tr.lpR (F := F_vec_Most) (S := fun x => S_vec_Most_l0 a0 x.1 x.2) (S' := E_vec_Most_l0 a0) (t_vec_Most_l0 a0 x0 x1) (fun x => f x.1 x.2) (fun x r h => IH x.1 x.2 r h) (by kernel_rfl) (by kernel_rfl)
theorem nl_vec_Most : ∀ v, (en_vec_Most v).noLst := fun _ => ⟨trivial, trivial, trivial⟩
noncomputable def t_vec_Most (a0 : List Int) : Tr F_vec_Most Empty (Int × Int) :=
 .call 9 (ok_vec_Check a0) nl_vec_Check fun r1 => .iteN 7 12 (r1 = 0)
 (.ret 9 (0, r1))
 (.len 6 eI a0 <| .loopR 4 id ⟨_, _, _, _, _, ok_vec_Most_l0 a0 0 0⟩ fun j3 => .ret 8 (j3, 0))
noncomputable def s_vec_Most (a0 : List Int) : Sg Tryz.prog (Int × Int) := ⟨134, M_vec_Most a0, [.lst (List.map (D.int .i64) a0)], en_vec_Most⟩
theorem ok_vec_Most (a0 : List Int) : (s_vec_Most a0).Holds := Tr.fn (F := F_vec_Most) (t_vec_Most a0) (by kernel_rfl) (by kernel_rfl) (by kernel_rfl) (by kernel_rfl)
/-- thrum/quant.size. -/
def en_quant_size (v : Int) : PV := nU v
noncomputable abbrev F_quant_size : Fe := .of Tryz.prog 182 en_quant_size
theorem nl_quant_size : ∀ v, (en_quant_size v).noLst := fun _ => trivial
noncomputable def t_quant_size (a0 : Int) : Tr F_quant_size Empty Int :=
 .ite 10 4 (a0 < 0)
 (.ret 10 (IntKind.u64.wrap (0 - (IntKind.u64.wrap a0))))
 (.ret 9 (IntKind.u64.wrap a0))
noncomputable def s_quant_size (a0 : Int) : Sg Tryz.prog Int := ⟨182, M_quant_size a0, [.int .i64 a0], en_quant_size⟩
theorem ok_quant_size (a0 : Int) : (s_quant_size a0).Holds := Tr.fn (F := F_quant_size) (t_quant_size a0) (by kernel_rfl) (by kernel_rfl) (by kernel_rfl) (by kernel_rfl)
/-- math/bits.Mul64. -/
def en_math_bits_Mul64 (v : Int × Int) : PV := .tup [nU v.1, nU v.2]
noncomputable abbrev F_math_bits_Mul64 : Fe := .of Tryz.prog 183 en_math_bits_Mul64
theorem nl_math_bits_Mul64 : ∀ v, (en_math_bits_Mul64 v).noLst := fun _ => ⟨trivial, trivial, trivial⟩
noncomputable def t_math_bits_Mul64 (a0 : Int) (a1 : Int) : Tr F_math_bits_Mul64 Empty (Int × Int) :=
 .ret 87 (IntKind.u64.wrap ((IntKind.u64.wrap ((IntKind.u64.wrap ((sShr .u64 a0 32) * (sShr .u64 a1 32))) + (sShr .u64 (IntKind.u64.wrap ((IntKind.u64.wrap ((sShr .u64 a0 32) * (bAnd .u64 a1 4294967295))) + (sShr .u64 (IntKind.u64.wrap ((bAnd .u64 a0 4294967295) * (bAnd .u64 a1 4294967295))) 32))) 32))) + (sShr .u64 (IntKind.u64.wrap ((bAnd .u64 (IntKind.u64.wrap ((IntKind.u64.wrap ((sShr .u64 a0 32) * (bAnd .u64 a1 4294967295))) + (sShr .u64 (IntKind.u64.wrap ((bAnd .u64 a0 4294967295) * (bAnd .u64 a1 4294967295))) 32))) 4294967295) + (IntKind.u64.wrap ((bAnd .u64 a0 4294967295) * (sShr .u64 a1 32))))) 32)), IntKind.u64.wrap (a0 * a1))
noncomputable def s_math_bits_Mul64 (a0 : Int) (a1 : Int) : Sg Tryz.prog (Int × Int) := ⟨183, M_math_bits_Mul64 a0 a1, [.int .u64 a0, .int .u64 a1], en_math_bits_Mul64⟩
theorem ok_math_bits_Mul64 (a0 : Int) (a1 : Int) : (s_math_bits_Mul64 a0 a1).Holds := Tr.fn (F := F_math_bits_Mul64) (t_math_bits_Mul64 a0 a1) (by kernel_rfl) (by kernel_rfl) (by kernel_rfl) (by kernel_rfl)
/-- math/bits.Len64. -/
def en_math_bits_Len64 (v : Int) : PV := nI v
noncomputable abbrev F_math_bits_Len64 : Fe := .of Tryz.prog 190 en_math_bits_Len64
theorem nl_math_bits_Len64 : ∀ v, (en_math_bits_Len64 v).noLst := fun _ => trivial
noncomputable def t_math_bits_Len64 (a0 : Int) : Tr F_math_bits_Len64 Empty Int :=
 .join 10 0 (γ := Int × Int) ⟨fun x => [(2, nI x.1), (0, nU x.2)], [], fun _ => [], []⟩
 (.ite 0 4 (a0 ≥ 4294967296)
 (.ret 10 (32, sShr .u64 a0 32))
 (.ret 2 (0, a0)))
 fun j1 => .join 6 0 (γ := Int × Int) ⟨fun x => [(2, nI x.1), (0, nU x.2)], [], fun _ => [], []⟩
 (.ite 0 8 (j1.2 ≥ 65536)
 (.ret 12 (IntKind.i64.wrap (j1.1 + 16), sShr .u64 j1.2 16))
 (.ret 2 (j1.1, j1.2)))
 fun j2 => .ite 6 14 (j2.2 ≥ 256)
 (.rd 17 (0 ≤ (IntKind.u8.wrap (sShr .u64 j2.2 8)) ∧ (IntKind.u8.wrap (sShr .u64 j2.2 8)) < ((ByteArray.mk #[0, 1, 2, 2, 3, 3, 3, 3, 4, 4, 4, 4, 4, 4, 4, 4, 5, 5, 5, 5, 5, 5, 5, 5, 5, 5, 5, 5, 5, 5, 5, 5, 6, 6, 6, 6, 6, 6, 6, 6, 6, 6, 6, 6, 6, 6, 6, 6, 6, 6, 6, 6, 6, 6, 6, 6, 6, 6, 6, 6, 6, 6, 6, 6, 7, 7, 7, 7, 7, 7, 7, 7, 7, 7, 7, 7, 7, 7, 7, 7, 7, 7, 7, 7, 7, 7, 7, 7, 7, 7, 7, 7, 7, 7, 7, 7, 7, 7, 7, 7, 7, 7, 7, 7, 7, 7, 7, 7, 7, 7, 7, 7, 7, 7, 7, 7, 7, 7, 7, 7, 7, 7, 7, 7, 7, 7, 7, 7, 8, 8, 8, 8, 8, 8, 8, 8, 8, 8, 8, 8, 8, 8, 8, 8, 8, 8, 8, 8, 8, 8, 8, 8, 8, 8, 8, 8, 8, 8, 8, 8, 8, 8, 8, 8, 8, 8, 8, 8, 8, 8, 8, 8, 8, 8, 8, 8, 8, 8, 8, 8, 8, 8, 8, 8, 8, 8, 8, 8, 8, 8, 8, 8, 8, 8, 8, 8, 8, 8, 8, 8, 8, 8, 8, 8, 8, 8, 8, 8, 8, 8, 8, 8, 8, 8, 8, 8, 8, 8, 8, 8, 8, 8, 8, 8, 8, 8, 8, 8, 8, 8, 8, 8, 8, 8, 8, 8, 8, 8, 8, 8, 8, 8, 8, 8, 8, 8, 8, 8, 8, 8, 8, 8, 8, 8, 8, 8]).size : Int)) (nY (((ByteArray.mk #[0, 1, 2, 2, 3, 3, 3, 3, 4, 4, 4, 4, 4, 4, 4, 4, 5, 5, 5, 5, 5, 5, 5, 5, 5, 5, 5, 5, 5, 5, 5, 5, 6, 6, 6, 6, 6, 6, 6, 6, 6, 6, 6, 6, 6, 6, 6, 6, 6, 6, 6, 6, 6, 6, 6, 6, 6, 6, 6, 6, 6, 6, 6, 6, 7, 7, 7, 7, 7, 7, 7, 7, 7, 7, 7, 7, 7, 7, 7, 7, 7, 7, 7, 7, 7, 7, 7, 7, 7, 7, 7, 7, 7, 7, 7, 7, 7, 7, 7, 7, 7, 7, 7, 7, 7, 7, 7, 7, 7, 7, 7, 7, 7, 7, 7, 7, 7, 7, 7, 7, 7, 7, 7, 7, 7, 7, 7, 7, 8, 8, 8, 8, 8, 8, 8, 8, 8, 8, 8, 8, 8, 8, 8, 8, 8, 8, 8, 8, 8, 8, 8, 8, 8, 8, 8, 8, 8, 8, 8, 8, 8, 8, 8, 8, 8, 8, 8, 8, 8, 8, 8, 8, 8, 8, 8, 8, 8, 8, 8, 8, 8, 8, 8, 8, 8, 8, 8, 8, 8, 8, 8, 8, 8, 8, 8, 8, 8, 8, 8, 8, 8, 8, 8, 8, 8, 8, 8, 8, 8, 8, 8, 8, 8, 8, 8, 8, 8, 8, 8, 8, 8, 8, 8, 8, 8, 8, 8, 8, 8, 8, 8, 8, 8, 8, 8, 8, 8, 8, 8, 8, 8, 8, 8, 8, 8, 8, 8, 8, 8, 8, 8, 8, 8, 8, 8, 8]).data.getD (Int.toNat (IntKind.u8.wrap (sShr .u64 j2.2 8))) 0).toNat : Int)) <| .ret 5 (IntKind.i64.wrap ((IntKind.i64.wrap (j2.1 + 8)) + (IntKind.i64.wrap (((ByteArray.mk #[0, 1, 2, 2, 3, 3, 3, 3, 4, 4, 4, 4, 4, 4, 4, 4, 5, 5, 5, 5, 5, 5, 5, 5, 5, 5, 5, 5, 5, 5, 5, 5, 6, 6, 6, 6, 6, 6, 6, 6, 6, 6, 6, 6, 6, 6, 6, 6, 6, 6, 6, 6, 6, 6, 6, 6, 6, 6, 6, 6, 6, 6, 6, 6, 7, 7, 7, 7, 7, 7, 7, 7, 7, 7, 7, 7, 7, 7, 7, 7, 7, 7, 7, 7, 7, 7, 7, 7, 7, 7, 7, 7, 7, 7, 7, 7, 7, 7, 7, 7, 7, 7, 7, 7, 7, 7, 7, 7, 7, 7, 7, 7, 7, 7, 7, 7, 7, 7, 7, 7, 7, 7, 7, 7, 7, 7, 7, 7, 8, 8, 8, 8, 8, 8, 8, 8, 8, 8, 8, 8, 8, 8, 8, 8, 8, 8, 8, 8, 8, 8, 8, 8, 8, 8, 8, 8, 8, 8, 8, 8, 8, 8, 8, 8, 8, 8, 8, 8, 8, 8, 8, 8, 8, 8, 8, 8, 8, 8, 8, 8, 8, 8, 8, 8, 8, 8, 8, 8, 8, 8, 8, 8, 8, 8, 8, 8, 8, 8, 8, 8, 8, 8, 8, 8, 8, 8, 8, 8, 8, 8, 8, 8, 8, 8, 8, 8, 8, 8, 8, 8, 8, 8, 8, 8, 8, 8, 8, 8, 8, 8, 8, 8, 8, 8, 8, 8, 8, 8, 8, 8, 8, 8, 8, 8, 8, 8, 8, 8, 8, 8, 8, 8, 8, 8, 8, 8]).data.getD (Int.toNat (IntKind.u8.wrap (sShr .u64 j2.2 8))) 0).toNat : Int)))))
 (.rd 7 (0 ≤ (IntKind.u8.wrap j2.2) ∧ (IntKind.u8.wrap j2.2) < ((ByteArray.mk #[0, 1, 2, 2, 3, 3, 3, 3, 4, 4, 4, 4, 4, 4, 4, 4, 5, 5, 5, 5, 5, 5, 5, 5, 5, 5, 5, 5, 5, 5, 5, 5, 6, 6, 6, 6, 6, 6, 6, 6, 6, 6, 6, 6, 6, 6, 6, 6, 6, 6, 6, 6, 6, 6, 6, 6, 6, 6, 6, 6, 6, 6, 6, 6, 7, 7, 7, 7, 7, 7, 7, 7, 7, 7, 7, 7, 7, 7, 7, 7, 7, 7, 7, 7, 7, 7, 7, 7, 7, 7, 7, 7, 7, 7, 7, 7, 7, 7, 7, 7, 7, 7, 7, 7, 7, 7, 7, 7, 7, 7, 7, 7, 7, 7, 7, 7, 7, 7, 7, 7, 7, 7, 7, 7, 7, 7, 7, 7, 8, 8, 8, 8, 8, 8, 8, 8, 8, 8, 8, 8, 8, 8, 8, 8, 8, 8, 8, 8, 8, 8, 8, 8, 8, 8, 8, 8, 8, 8, 8, 8, 8, 8, 8, 8, 8, 8, 8, 8, 8, 8, 8, 8, 8, 8, 8, 8, 8, 8, 8, 8, 8, 8, 8, 8, 8, 8, 8, 8, 8, 8, 8, 8, 8, 8, 8, 8, 8, 8, 8, 8, 8, 8, 8, 8, 8, 8, 8, 8, 8, 8, 8, 8, 8, 8, 8, 8, 8, 8, 8, 8, 8, 8, 8, 8, 8, 8, 8, 8, 8, 8, 8, 8, 8, 8, 8, 8, 8, 8, 8, 8, 8, 8, 8, 8, 8, 8, 8, 8, 8, 8, 8, 8, 8, 8, 8, 8]).size : Int)) (nY (((ByteArray.mk #[0, 1, 2, 2, 3, 3, 3, 3, 4, 4, 4, 4, 4, 4, 4, 4, 5, 5, 5, 5, 5, 5, 5, 5, 5, 5, 5, 5, 5, 5, 5, 5, 6, 6, 6, 6, 6, 6, 6, 6, 6, 6, 6, 6, 6, 6, 6, 6, 6, 6, 6, 6, 6, 6, 6, 6, 6, 6, 6, 6, 6, 6, 6, 6, 7, 7, 7, 7, 7, 7, 7, 7, 7, 7, 7, 7, 7, 7, 7, 7, 7, 7, 7, 7, 7, 7, 7, 7, 7, 7, 7, 7, 7, 7, 7, 7, 7, 7, 7, 7, 7, 7, 7, 7, 7, 7, 7, 7, 7, 7, 7, 7, 7, 7, 7, 7, 7, 7, 7, 7, 7, 7, 7, 7, 7, 7, 7, 7, 8, 8, 8, 8, 8, 8, 8, 8, 8, 8, 8, 8, 8, 8, 8, 8, 8, 8, 8, 8, 8, 8, 8, 8, 8, 8, 8, 8, 8, 8, 8, 8, 8, 8, 8, 8, 8, 8, 8, 8, 8, 8, 8, 8, 8, 8, 8, 8, 8, 8, 8, 8, 8, 8, 8, 8, 8, 8, 8, 8, 8, 8, 8, 8, 8, 8, 8, 8, 8, 8, 8, 8, 8, 8, 8, 8, 8, 8, 8, 8, 8, 8, 8, 8, 8, 8, 8, 8, 8, 8, 8, 8, 8, 8, 8, 8, 8, 8, 8, 8, 8, 8, 8, 8, 8, 8, 8, 8, 8, 8, 8, 8, 8, 8, 8, 8, 8, 8, 8, 8, 8, 8, 8, 8, 8, 8, 8, 8]).data.getD (Int.toNat (IntKind.u8.wrap j2.2)) 0).toNat : Int)) <| .ret 5 (IntKind.i64.wrap (j2.1 + (IntKind.i64.wrap (((ByteArray.mk #[0, 1, 2, 2, 3, 3, 3, 3, 4, 4, 4, 4, 4, 4, 4, 4, 5, 5, 5, 5, 5, 5, 5, 5, 5, 5, 5, 5, 5, 5, 5, 5, 6, 6, 6, 6, 6, 6, 6, 6, 6, 6, 6, 6, 6, 6, 6, 6, 6, 6, 6, 6, 6, 6, 6, 6, 6, 6, 6, 6, 6, 6, 6, 6, 7, 7, 7, 7, 7, 7, 7, 7, 7, 7, 7, 7, 7, 7, 7, 7, 7, 7, 7, 7, 7, 7, 7, 7, 7, 7, 7, 7, 7, 7, 7, 7, 7, 7, 7, 7, 7, 7, 7, 7, 7, 7, 7, 7, 7, 7, 7, 7, 7, 7, 7, 7, 7, 7, 7, 7, 7, 7, 7, 7, 7, 7, 7, 7, 8, 8, 8, 8, 8, 8, 8, 8, 8, 8, 8, 8, 8, 8, 8, 8, 8, 8, 8, 8, 8, 8, 8, 8, 8, 8, 8, 8, 8, 8, 8, 8, 8, 8, 8, 8, 8, 8, 8, 8, 8, 8, 8, 8, 8, 8, 8, 8, 8, 8, 8, 8, 8, 8, 8, 8, 8, 8, 8, 8, 8, 8, 8, 8, 8, 8, 8, 8, 8, 8, 8, 8, 8, 8, 8, 8, 8, 8, 8, 8, 8, 8, 8, 8, 8, 8, 8, 8, 8, 8, 8, 8, 8, 8, 8, 8, 8, 8, 8, 8, 8, 8, 8, 8, 8, 8, 8, 8, 8, 8, 8, 8, 8, 8, 8, 8, 8, 8, 8, 8, 8, 8, 8, 8, 8, 8, 8, 8]).data.getD (Int.toNat (IntKind.u8.wrap j2.2)) 0).toNat : Int)))))
noncomputable def s_math_bits_Len64 (a0 : Int) : Sg Tryz.prog Int := ⟨190, M_math_bits_Len64 a0, [.int .u64 a0], en_math_bits_Len64⟩
theorem ok_math_bits_Len64 (a0 : Int) : (s_math_bits_Len64 a0).Holds := Tr.fn (F := F_math_bits_Len64) (t_math_bits_Len64 a0) (by kernel_rfl) (by kernel_rfl) (by kernel_rfl) (by kernel_rfl)
/-- math/bits.LeadingZeros64. -/
def en_math_bits_LeadingZeros64 (v : Int) : PV := nI v
noncomputable abbrev F_math_bits_LeadingZeros64 : Fe := .of Tryz.prog 204 en_math_bits_LeadingZeros64
theorem nl_math_bits_LeadingZeros64 : ∀ v, (en_math_bits_LeadingZeros64 v).noLst := fun _ => trivial
noncomputable def t_math_bits_LeadingZeros64 (a0 : Int) : Tr F_math_bits_LeadingZeros64 Empty Int :=
 .call 7 (ok_math_bits_Len64 a0) nl_math_bits_Len64 fun r1 => .ret 4 (IntKind.i64.wrap (64 - r1))
noncomputable def s_math_bits_LeadingZeros64 (a0 : Int) : Sg Tryz.prog Int := ⟨204, M_math_bits_LeadingZeros64 a0, [.int .u64 a0], en_math_bits_LeadingZeros64⟩
theorem ok_math_bits_LeadingZeros64 (a0 : Int) : (s_math_bits_LeadingZeros64 a0).Holds := Tr.fn (F := F_math_bits_LeadingZeros64) (t_math_bits_LeadingZeros64 a0) (by kernel_rfl) (by kernel_rfl) (by kernel_rfl) (by kernel_rfl)
/-- math/bits.Div64. -/
def en_math_bits_Div64 (v : Int × Int) : PV := .tup [nU v.1, nU v.2]
noncomputable abbrev F_math_bits_Div64 : Fe := .of Tryz.prog 184 en_math_bits_Div64
def S_math_bits_Div64_l0 (a1 : Int) (a2 : Int) (r3 : Int) (y4 : Int) (x0 : Int) (x1 : Int) : St := ⟨[(16, nU x0), (15, nU x1), (14, nU (bAnd .u64 (sShl .u64 a1 (IntKind.u64.wrap r3)) 4294967295)), (13, nU (sShr .u64 (sShl .u64 a1 (IntKind.u64.wrap r3)) 32)), (11, nU y4), (10, nU (bAnd .u64 (sShl .u64 a2 (IntKind.u64.wrap r3)) 4294967295)), (9, nU (sShr .u64 (sShl .u64 a2 (IntKind.u64.wrap r3)) 32)), (2, nU (sShl .u64 a2 (IntKind.u64.wrap r3))), (8, nU (IntKind.u64.wrap r3))], []⟩
def E_math_bits_Div64_l0 (a1 : Int) (a2 : Int) (r3 : Int) (y4 : Int) (x : Int) : St := ⟨[(15, nU x), (14, nU (bAnd .u64 (sShl .u64 a1 (IntKind.u64.wrap r3)) 4294967295)), (13, nU (sShr .u64 (sShl .u64 a1 (IntKind.u64.wrap r3)) 32)), (11, nU y4), (10, nU (bAnd .u64 (sShl .u64 a2 (IntKind.u64.wrap r3)) 4294967295)), (9, nU (sShr .u64 (sShl .u64 a2 (IntKind.u64.wrap r3)) 32)), (2, nU (sShl .u64 a2 (IntKind.u64.wrap r3))), (8, nU (IntKind.u64.wrap r3))], []⟩
noncomputable def t_math_bits_Div64_l0 (a1 : Int) (a2 : Int) (r3 : Int) (y4 : Int) (x0 : Int) (x1 : Int) : Tr F_math_bits_Div64 (Int × Int) Int :=
 .join 7 9 (γ := Bool) ⟨fun x => [(78, bB x)], [16, 15, 14, 13, 11, 10, 9, 2, 8], fun _ => [], []⟩
 (.ite 0 69 (x1 ≥ 4294967296)
 (.ret 10 true)
 (.ret 10 (decide ((IntKind.u64.wrap (x1 * (bAnd .u64 (sShl .u64 a2 (IntKind.u64.wrap r3)) 4294967295))) > (IntKind.u64.wrap ((IntKind.u64.wrap (4294967296 * x0)) + (sShr .u64 (sShl .u64 a1 (IntKind.u64.wrap r3)) 32)))))))
 fun j10 => .iteB 1 78 (j10)
 (.let_ (IntKind.u64.wrap (x0 + (sShr .u64 (sShl .u64 a2 (IntKind.u64.wrap r3)) 32)) : Int) fun y11 => .ite 21 85 (y11 ≥ 4294967296)
 (.ret 4 (IntKind.u64.wrap (x1 - 1)))
 (.again 3 (y11, IntKind.u64.wrap (x1 - 1))))
 (.ret 4 x1)
theorem ok_math_bits_Div64_l0 (a1 : Int) (a2 : Int) (r3 : Int) (y4 : Int) (x0 : Int) (x1 : Int) : Ok (M_math_bits_Div64_l0 a1 a2 r3 y4 x0 x1) fun v => go Tryz.prog F_math_bits_Div64.N (PostN (.exit 0) (E_math_bits_Div64_l0 a1 a2 r3 y4) v) [.l (lpA Tryz.prog 184 0)] .norm (S_math_bits_Div64_l0 a1 a2 r3 y4 x0 x1) := by
 refine M_math_bits_Div64_l0.partial_correctness a1 a2 r3 y4 (fun x0 x1 v => go Tryz.prog F_math_bits_Div64.N (PostN (.exit 0) (E_math_bits_Div64_l0 a1 a2 r3 y4) v) [.l (lpA Tryz.prog 184 0)] .norm (S_math_bits_Div64_l0 a1 a2 r3 y4 x0 x1)) ?_ x0 x1
 clear x0 x1
 intro f IH x0 x1
 exact Tr.lpN (F := F_math_bits_Div64) (S := fun x => S_math_bits_Div64_l0 a1 a2 r3 y4 x.1 x.2) (S' := E_math_bits_Div64_l0 a1 a2 r3 y4) (t_math_bits_Div64_l0 a1 a2 r3 y4 x0 x1) (fun x => f x.1 x.2) (fun x r h => IH x.1 x.2 r h) (by kernel_rfl) (by kernel_rfl)
def S_math_bits_Div64_l1 (a1 : Int) (a2 : Int) (r3 : Int) (j13 : Int) (y14 : Int) (x0 : Int) (x1 : Int) : St := ⟨[(16, nU x0), (18, nU x1), (17, nU y14), (15, nU j13), (14, nU (bAnd .u64 (sShl .u64 a1 (IntKind.u64.wrap r3)) 4294967295)), (10, nU (bAnd .u64 (sShl .u64 a2 (IntKind.u64.wrap r3)) 4294967295)), (9, nU (sShr .u64 (sShl .u64 a2 (IntKind.u64.wrap r3)) 32)), (2, nU (sShl .u64 a2 (IntKind.u64.wrap r3))), (8, nU (IntKind.u64.wrap r3))], []⟩
def E_math_bits_Div64_l1 (a1 : Int) (a2 : Int) (r3 : Int) (j13 : Int) (y14 : Int) (x : Int) : St := ⟨[(18, nU x), (17, nU y14), (15, nU j13), (14, nU (bAnd .u64 (sShl .u64 a1 (IntKind.u64.wrap r3)) 4294967295)), (2, nU (sShl .u64 a2 (IntKind.u64.wrap r3))), (8, nU (IntKind.u64.wrap r3))], []⟩
noncomputable def t_math_bits_Div64_l1 (a1 : Int) (a2 : Int) (r3 : Int) (j13 : Int) (y14 : Int) (x0 : Int) (x1 : Int) : Tr F_math_bits_Div64 (Int × Int) Int :=
 .join 7 9 (γ := Bool) ⟨fun x => [(113, bB x)], [16, 18, 17, 15, 14, 10, 9, 2, 8], fun _ => [], []⟩
 (.ite 0 104 (x1 ≥ 4294967296)
 (.ret 10 true)
 (.ret 10 (decide ((IntKind.u64.wrap (x1 * (bAnd .u64 (sShl .u64 a2 (IntKind.u64.wrap r3)) 4294967295))) > (IntKind.u64.wrap ((IntKind.u64.wrap (4294967296 * x0)) + (bAnd .u64 (sShl .u64 a1 (IntKind.u64.wrap r3)) 4294967295)))))))
 fun j20 => .iteB 1 113 (j20)
 (.let_ (IntKind.u64.wrap (x0 + (sShr .u64 (sShl .u64 a2 (IntKind.u64.wrap r3)) 32)) : Int) fun y21 => .ite 21 120 (y21 ≥ 4294967296)
 (.ret 4 (IntKind.u64.wrap (x1 - 1)))
 (.again 3 (y21, IntKind.u64.wrap (x1 - 1))))
 (.ret 4 x1)
theorem ok_math_bits_Div64_l1 (a1 : Int) (a2 : Int) (r3 : Int) (j13 : Int) (y14 : Int) (x0 : Int) (x1 : Int) : Ok (M_math_bits_Div64_l1 a1 a2 r3 j13 y14 x0 x1) fun v => go Tryz.prog F_math_bits_Div64.N (PostN (.exit 2) (E_math_bits_Div64_l1 a1 a2 r3 j13 y14) v) [.l (lpA Tryz.prog 184 1)] .norm (S_math_bits_Div64_l1 a1 a2 r3 j13 y14 x0 x1) := by
 refine M_math_bits_Div64_l1.partial_correctness a1 a2 r3 j13 y14 (fun x0 x1 v => go Tryz.prog F_math_bits_Div64.N (PostN (.exit 2) (E_math_bits_Div64_l1 a1 a2 r3 j13 y14) v) [.l (lpA Tryz.prog 184 1)] .norm (S_math_bits_Div64_l1 a1 a2 r3 j13 y14 x0 x1)) ?_ x0 x1
 clear x0 x1
 intro f IH x0 x1
 exact Tr.lpN (F := F_math_bits_Div64) (S := fun x => S_math_bits_Div64_l1 a1 a2 r3 j13 y14 x.1 x.2) (S' := E_math_bits_Div64_l1 a1 a2 r3 j13 y14) (t_math_bits_Div64_l1 a1 a2 r3 j13 y14 x0 x1) (fun x => f x.1 x.2) (fun x r h => IH x.1 x.2 r h) (by kernel_rfl) (by kernel_rfl)
theorem nl_math_bits_Div64 : ∀ v, (en_math_bits_Div64 v).noLst := fun _ => ⟨trivial, trivial, trivial⟩
noncomputable def t_math_bits_Div64 (a0 : Int) (a1 : Int) (a2 : Int) : Tr F_math_bits_Div64 Empty (Int × Int) :=
 .join 11 0 (γ := Unit) ⟨fun _ => [], [0, 1, 2], fun _ => [], []⟩
 (.ite 0 20 (a2 = 0)
 (.halt)
 (.ret 2 ()))
 fun j1 => .join 7 0 (γ := Unit) ⟨fun _ => [], [0, 1, 2], fun _ => [], []⟩
 (.ite 0 24 (a2 ≤ a0)
 (.halt)
 (.ret 2 ()))
 fun j2 => .ite 6 27 (a0 = 0)
 (.rd 5 (a2 ≠ 0) (nU (IntKind.u64.wrap (Int.tdiv a1 a2))) <| .rd 2 (a2 ≠ 0) (nU (Int.tmod a1 a2)) <| .ret 5 (IntKind.u64.wrap (Int.tdiv a1 a2), Int.tmod a1 a2))
 (.call 5 (ok_math_bits_LeadingZeros64 a2) nl_math_bits_LeadingZeros64 fun r3 => .rd 7 (0 ≤ IntKind.u64.wrap r3) (nU (sShl .u64 a2 (IntKind.u64.wrap r3))) <| .rd 18 (0 ≤ IntKind.u64.wrap r3) (nU (sShl .u64 a0 (IntKind.u64.wrap r3))) <| .rd 3 (0 ≤ IntKind.u64.wrap (64 - (IntKind.u64.wrap r3))) (nU (sShr .u64 a1 (IntKind.u64.wrap (64 - (IntKind.u64.wrap r3))))) <| .let_ (bOr .u64 (sShl .u64 a0 (IntKind.u64.wrap r3)) (sShr .u64 a1 (IntKind.u64.wrap (64 - (IntKind.u64.wrap r3)))) : Int) fun y4 => .rd 7 (0 ≤ IntKind.u64.wrap r3) (nU (sShl .u64 a1 (IntKind.u64.wrap r3))) <| .rd 18 (sShr .u64 (sShl .u64 a2 (IntKind.u64.wrap r3)) 32 ≠ 0) (nU (IntKind.u64.wrap (Int.tdiv y4 (sShr .u64 (sShl .u64 a2 (IntKind.u64.wrap r3)) 32)))) <| .let_ (IntKind.u64.wrap (Int.tdiv y4 (sShr .u64 (sShl .u64 a2 (IntKind.u64.wrap r3)) 32)) : Int) fun y6 => .let_ (IntKind.u64.wrap (y4 - (IntKind.u64.wrap (y6 * (sShr .u64 (sShl .u64 a2 (IntKind.u64.wrap r3)) 32)))) : Int) fun y8 => .loop 14 ⟨_, _, _, _, _, ok_math_bits_Div64_l0 a1 a2 r3 y4 y8 y6⟩ fun j13 => .let_ (IntKind.u64.wrap ((IntKind.u64.wrap ((IntKind.u64.wrap (y4 * 4294967296)) + (sShr .u64 (sShl .u64 a1 (IntKind.u64.wrap r3)) 32))) - (IntKind.u64.wrap (j13 * (sShl .u64 a2 (IntKind.u64.wrap r3))))) : Int) fun y14 => .rd 17 (sShr .u64 (sShl .u64 a2 (IntKind.u64.wrap r3)) 32 ≠ 0) (nU (IntKind.u64.wrap (Int.tdiv y14 (sShr .u64 (sShl .u64 a2 (IntKind.u64.wrap r3)) 32)))) <| .let_ (IntKind.u64.wrap (Int.tdiv y14 (sShr .u64 (sShl .u64 a2 (IntKind.u64.wrap r3)) 32)) : Int) fun y16 => .let_ (IntKind.u64.wrap (y14 - (IntKind.u64.wrap (y16 * (sShr .u64 (sShl .u64 a2 (IntKind.u64.wrap r3)) 32)))) : Int) fun y18 => .loop 14 ⟨_, _, _, _, _, ok_math_bits_Div64_l1 a1 a2 r3 j13 y14 y18 y16⟩ fun j23 => .let_ (IntKind.u64.wrap ((IntKind.u64.wrap (j13 * 4294967296)) + j23) : Int) fun y24 => .let_ (IntKind.u64.wrap ((IntKind.u64.wrap ((IntKind.u64.wrap (y14 * 4294967296)) + (bAnd .u64 (sShl .u64 a1 (IntKind.u64.wrap r3)) 4294967295))) - (IntKind.u64.wrap (j23 * (sShl .u64 a2 (IntKind.u64.wrap r3))))) : Int) fun y26 => .rd 16 (0 ≤ IntKind.u64.wrap r3) (nU (sShr .u64 y26 (IntKind.u64.wrap r3))) <| .ret 4 (y24, sShr .u64 y26 (IntKind.u64.wrap r3)))
noncomputable def s_math_bits_Div64 (a0 : Int) (a1 : Int) (a2 : Int) : Sg Tryz.prog (Int × Int) := ⟨184, M_math_bits_Div64 a0 a1 a2, [.int .u64 a0, .int .u64 a1, .int .u64 a2], en_math_bits_Div64⟩
theorem ok_math_bits_Div64 (a0 : Int) (a1 : Int) (a2 : Int) : (s_math_bits_Div64 a0 a1 a2).Holds := Tr.fn (F := F_math_bits_Div64) (t_math_bits_Div64 a0 a1 a2) (by kernel_rfl) (by kernel_rfl) (by kernel_rfl) (by kernel_rfl)
/-- thrum/quant.Level. -/
def en_quant_Level (v : Int × Int × Int) : PV := .tup [nU v.1, nU v.2.1, nI v.2.2]
noncomputable abbrev F_quant_Level : Fe := .of Tryz.prog 135 en_quant_Level
theorem nl_quant_Level : ∀ v, (en_quant_Level v).noLst := fun _ => ⟨trivial, trivial, trivial, trivial⟩
noncomputable def t_quant_Level (a0 : Int) (a1 : Int) (a2 : Int) : Tr F_quant_Level Empty (Int × Int × Int) :=
 .call 9 (ok_quant_Steps a2) nl_quant_Steps fun r1 => .join 13 3 (γ := Bool) ⟨fun x => [(26, bB x)], [9, 0, 1], fun _ => [], []⟩
 (.iteN 0 23 (r1.2 = 0)
 (.ret 4 true)
 (.ret 4 (decide (a1 < 0))))
 fun j2 => .join 1 6 (γ := Bool) ⟨fun x => [(33, bB x)], [9, 0, 1], fun _ => [], []⟩
 (.iteB 0 27 (j2)
 (.ret 7 true)
 (.call 1 (ok_quant_size a0) nl_quant_size fun r3 => .ret 5 (decide (r3 > (IntKind.u64.wrap a1)))))
 fun j4 => .iteB 2 20 (j4)
 (.ret 10 (0, 0, 1))
 (.ite 7 34 (a1 = 0)
 (.ret 10 (0, 0, 0))
 (.call 6 (ok_quant_size a0) nl_quant_size fun r5 => .call 1 (ok_math_bits_Mul64 r5 r1.1) nl_math_bits_Mul64 fun r6 => .call 12 (ok_math_bits_Div64 r6.1 r6.2 (IntKind.u64.wrap a1)) nl_math_bits_Div64 fun r7 => .ret 15 (r7.1, r7.2, 0)))
noncomputable def s_quant_Level (a0 : Int) (a1 : Int) (a2 : Int) : Sg Tryz.prog (Int × Int × Int) := ⟨135, M_quant_Level a0 a1 a2, [.int .i64 a0, .int .i64 a1, .int .i64 a2], en_quant_Level⟩
theorem ok_quant_Level (a0 : Int) (a1 : Int) (a2 : Int) : (s_quant_Level a0 a1 a2).Holds := Tr.fn (F := F_quant_Level) (t_quant_Level a0 a1 a2) (by kernel_rfl) (by kernel_rfl) (by kernel_rfl) (by kernel_rfl)
/-- slices.Clone[[]int,int]. -/
def en_slices_Clone_int_int (v : (List Int)) : PV := sI (.s 0) v
noncomputable abbrev F_slices_Clone_int_int : Fe := .of Tryz.prog 137 en_slices_Clone_int_int
theorem nl_slices_Clone_int_int : ∀ v, (en_slices_Clone_int_int v).noLst := fun _ => (flat_map_of fun _ => trivial)
noncomputable def t_slices_Clone_int_int (a0 : List Int) : Tr F_slices_Clone_int_int Empty (List Int) :=
 .nilq 8 eI.f a0
 (    if room 8 ([] ++ a0).length then
      some ([] ++ a0)
    else none)
 (    some [])
 (fun h => by (try obtain rfl := List.eq_nil_of_length_eq_zero h); first | rfl | (simp [h]; done))
 (.app 7 eI 8 [] a0 <| .ret 3 ([] ++ a0))
 (.ret 8 [])
noncomputable def s_slices_Clone_int_int (a0 : List Int) : Sg Tryz.prog (List Int) := ⟨137, M_slices_Clone_int_int a0, [.lst (List.map (D.int .i64) a0)], en_slices_Clone_int_int⟩
theorem ok_slices_Clone_int_int (a0 : List Int) : (s_slices_Clone_int_int a0).Holds := Tr.fn (F := F_slices_Clone_int_int) (t_slices_Clone_int_int a0) (by kernel_rfl) (by kernel_rfl) (by kernel_rfl) (by kernel_rfl)
/-- (thrum/draw.stir).with. -/
def en_thrum_draw_stir_with (v : Int) : PV := nU v
noncomputable abbrev F_thrum_draw_stir_with : Fe := .of Tryz.prog 231 en_thrum_draw_stir_with
theorem nl_thrum_draw_stir_with : ∀ v, (en_thrum_draw_stir_with v).noLst := fun _ => trivial
noncomputable def t_thrum_draw_stir_with (a0 : Int) (a1 : Int) : Tr F_thrum_draw_stir_with Empty Int :=
 .ret 22 (bXor .u64 (IntKind.u64.wrap ((bXor .u64 a0 (IntKind.u64.wrap a1)) * 11400714819323198485)) (sShr .u64 (IntKind.u64.wrap ((bXor .u64 a0 (IntKind.u64.wrap a1)) * 11400714819323198485)) 29))
noncomputable def s_thrum_draw_stir_with (a0 : Int) (a1 : Int) : Sg Tryz.prog Int := ⟨231, M_thrum_draw_stir_with a0 a1, [.int .u64 a0, .int .i64 a1], en_thrum_draw_stir_with⟩
theorem ok_thrum_draw_stir_with (a0 : Int) (a1 : Int) : (s_thrum_draw_stir_with a0 a1).Holds := Tr.fn (F := F_thrum_draw_stir_with) (t_thrum_draw_stir_with a0 a1) (by kernel_rfl) (by kernel_rfl) (by kernel_rfl) (by kernel_rfl)
/-- thrum/draw.over. -/
def en_draw_over (v : Int) : PV := nU v
noncomputable abbrev F_draw_over : Fe := .of Tryz.prog 220 en_draw_over
def S_draw_over_l0 (a1 : List Int) (x0 : Int) (x1 : Int) : St := ⟨[(11, nI x0), (10, nI (a1.length : Int)), (9, lI a1), (5, nU x1)], []⟩
def E_draw_over_l0 (a1 : List Int) (x : Int) : St := ⟨[(5, nU x)], []⟩
noncomputable def t_draw_over_l0 (a1 : List Int) (x0 : Int) (x1 : Int) : Tr F_draw_over (Int × Int) Int :=
 .ite 6 12 (x0 < (a1.length : Int))
 (.idx 6 eI a1 x0 <| .call 6 (ok_thrum_draw_stir_with x1 (at' a1 x0)) nl_thrum_draw_stir_with fun r1 => .again 7 (IntKind.i64.wrap (x0 + 1), r1))
 (.ret 4 x1)
theorem ok_draw_over_l0 (a1 : List Int) (x0 : Int) (x1 : Int) : Ok (M_draw_over_l0 a1 x0 x1) fun v => go Tryz.prog F_draw_over.N (PostN (.exit 0) (E_draw_over_l0 a1) v) [.l (lpA Tryz.prog 220 0)] .norm (S_draw_over_l0 a1 x0 x1) := by
 refine M_draw_over_l0.partial_correctness a1 (fun x0 x1 v => go Tryz.prog F_draw_over.N (PostN (.exit 0) (E_draw_over_l0 a1) v) [.l (lpA Tryz.prog 220 0)] .norm (S_draw_over_l0 a1 x0 x1)) ?_ x0 x1
 clear x0 x1
 intro f IH x0 x1
 exact Tr.lpN (F := F_draw_over) (S := fun x => S_draw_over_l0 a1 x.1 x.2) (S' := E_draw_over_l0 a1) (t_draw_over_l0 a1 x0 x1) (fun x => f x.1 x.2) (fun x r h => IH x.1 x.2 r h) (by kernel_rfl) (by kernel_rfl)
theorem nl_draw_over : ∀ v, (en_draw_over v).noLst := fun _ => trivial
noncomputable def t_draw_over (a0 : Int) (a1 : List Int) : Tr F_draw_over Empty Int :=
 .len 13 eI a1 <| .loop 4 ⟨_, _, _, _, _, ok_draw_over_l0 a1 0 a0⟩ fun j2 => .ret 7 j2
noncomputable def s_draw_over (a0 : Int) (a1 : List Int) : Sg Tryz.prog Int := ⟨220, M_draw_over a0 a1, [.int .u64 a0, .lst (List.map (D.int .i64) a1)], en_draw_over⟩
theorem ok_draw_over (a0 : Int) (a1 : List Int) : (s_draw_over a0 a1).Holds := Tr.fn (F := F_draw_over) (t_draw_over a0 a1) (by kernel_rfl) (by kernel_rfl) (by kernel_rfl) (by kernel_rfl)
/-- (thrum/draw.stir).end. -/
def en_thrum_draw_stir_end (v : Int) : PV := nU v
noncomputable abbrev F_thrum_draw_stir_end : Fe := .of Tryz.prog 221 en_thrum_draw_stir_end
theorem nl_thrum_draw_stir_end : ∀ v, (en_thrum_draw_stir_end v).noLst := fun _ => trivial
noncomputable def t_thrum_draw_stir_end (a0 : Int) : Tr F_thrum_draw_stir_end Empty Int :=
 .ret 19 (bXor .u64 (IntKind.u64.wrap (a0 * 13787848793156543929)) (sShr .u64 (IntKind.u64.wrap (a0 * 13787848793156543929)) 32))
noncomputable def s_thrum_draw_stir_end (a0 : Int) : Sg Tryz.prog Int := ⟨221, M_thrum_draw_stir_end a0, [.int .u64 a0], en_thrum_draw_stir_end⟩
theorem ok_thrum_draw_stir_end (a0 : Int) : (s_thrum_draw_stir_end a0).Holds := Tr.fn (F := F_thrum_draw_stir_end) (t_thrum_draw_stir_end a0) (by kernel_rfl) (by kernel_rfl) (by kernel_rfl) (by kernel_rfl)
/-- thrum/draw.At. -/
def en_draw_At (v : Int) : PV := nU v
noncomputable abbrev F_draw_At : Fe := .of Tryz.prog 205 en_draw_At
theorem nl_draw_At : ∀ v, (en_draw_At v).noLst := fun _ => trivial
noncomputable def t_draw_At (a0 : Int) (a1 : List Int) : Tr F_draw_At Empty Int :=
 .call 8 (ok_draw_over a0 a1) nl_draw_over fun r1 => .call 0 (ok_thrum_draw_stir_end r1) nl_thrum_draw_stir_end fun r2 => .ret 3 r2
noncomputable def s_draw_At (a0 : Int) (a1 : List Int) : Sg Tryz.prog Int := ⟨205, M_draw_At a0 a1, [.int .u64 a0, .lst (List.map (D.int .i64) a1)], en_draw_At⟩
theorem ok_draw_At (a0 : Int) (a1 : List Int) : (s_draw_At a0 a1).Holds := Tr.fn (F := F_draw_At) (t_draw_At a0 a1) (by kernel_rfl) (by kernel_rfl) (by kernel_rfl) (by kernel_rfl)
/-- thrum/draw.Below. -/
def en_draw_Below (v : Int × Int) : PV := .tup [nU v.1, nI v.2]
noncomputable abbrev F_draw_Below : Fe := .of Tryz.prog 185 en_draw_Below
theorem nl_draw_Below : ∀ v, (en_draw_Below v).noLst := fun _ => ⟨trivial, trivial, trivial⟩
noncomputable def t_draw_Below (a0 : Int) (a1 : Int) (a2 : List Int) : Tr F_draw_Below Empty (Int × Int) :=
 .ite 11 9 (a0 = 0)
 (.ret 8 (0, 1))
 (.call 6 (ok_draw_At a1 a2) nl_draw_At fun r1 => .rd 1 (a0 ≠ 0) (nU (Int.tmod r1 a0)) <| .ret 4 (Int.tmod r1 a0, 0))
noncomputable def s_draw_Below (a0 : Int) (a1 : Int) (a2 : List Int) : Sg Tryz.prog (Int × Int) := ⟨185, M_draw_Below a0 a1 a2, [.int .u64 a0, .int .u64 a1, .lst (List.map (D.int .i64) a2)], en_draw_Below⟩
theorem ok_draw_Below (a0 : Int) (a1 : Int) (a2 : List Int) : (s_draw_Below a0 a1 a2).Holds := Tr.fn (F := F_draw_Below) (t_draw_Below a0 a1 a2) (by kernel_rfl) (by kernel_rfl) (by kernel_rfl) (by kernel_rfl)
/-- thrum/draw.Chance. -/
def en_draw_Chance (v : Bool × Int) : PV := .tup [bB v.1, nI v.2]
noncomputable abbrev F_draw_Chance : Fe := .of Tryz.prog 136 en_draw_Chance
theorem nl_draw_Chance : ∀ v, (en_draw_Chance v).noLst := fun _ => ⟨trivial, trivial, trivial⟩
noncomputable def t_draw_Chance (a0 : Int) (a1 : Int) (a2 : Int) (a3 : List Int) : Tr F_draw_Chance Empty (Bool × Int) :=
 .ite 12 14 (a0 > a1)
 (.ret 8 (false, 1))
 (.call 7 (ok_draw_Below a1 a2 a3) nl_draw_Below fun r1 => .join 11 4 (γ := Bool) ⟨fun x => [(28, bB x)], [11], fun _ => [], []⟩
 (.ite 0 24 (r1.2 = 0)
 (.ret 5 (decide (r1.1 < a0)))
 (.ret 5 false))
 fun j2 => .ret 5 (j2, r1.2))
noncomputable def s_draw_Chance (a0 : Int) (a1 : Int) (a2 : Int) (a3 : List Int) : Sg Tryz.prog (Bool × Int) := ⟨136, M_draw_Chance a0 a1 a2 a3, [.int .u64 a0, .int .u64 a1, .int .u64 a2, .lst (List.map (D.int .i64) a3)], en_draw_Chance⟩
theorem ok_draw_Chance (a0 : Int) (a1 : Int) (a2 : Int) (a3 : List Int) : (s_draw_Chance a0 a1 a2 a3).Holds := Tr.fn (F := F_draw_Chance) (t_draw_Chance a0 a1 a2 a3) (by kernel_rfl) (by kernel_rfl) (by kernel_rfl) (by kernel_rfl)
/-- thrum/quant.Press. -/
def en_quant_Press (v : Int × Int × Int × Int × (List Int) × (List Bool) × Int) : PV := .tup [.d (.agg [.int .i64 v.1, .int .i64 v.2.1, .lst [], .lst [], .int .i64 v.2.2.1, .int .i64 v.2.2.2.1, .lst (List.map (D.int .u64) v.2.2.2.2.1), .lst (List.map D.bool v.2.2.2.2.2.1)]), nI v.2.2.2.2.2.2]
noncomputable abbrev F_quant_Press : Fe := .of Tryz.prog 83 en_quant_Press
def S_quant_Press_l0 (a0 : List Int) (a1 : Int) (a2 : Int) (a3 : List Int) (r3 : Int × Int) (x0 : Int) (x1 : List Int) (x2 : List Bool) : St := ⟨[(57, nI x0), (56, nI (a0.length : Int)), (55, lI a0), (14, .ptr (.s 11391) 0), (12, nI r3.1), (8, .ptr (.s 15) 0), (1, nI a1), (2, nU a2), (3, lI a3)], [(.s 11391, [nI 2, nI (a0.length : Int), .nils, .nils, nI r3.1, nI a1, sU (.h 0) x1, sB (.h 1) x2]), (.s 15, [nI 0, nI 0, .nils, .nils, nI 0, nI 0, .nils, .nils])]⟩
def E_quant_Press_l0 (a0 : List Int) (a1 : Int) (a2 : Int) (a3 : List Int) (r3 : Int × Int) (x : (List Int) × (List Bool)) : St := ⟨[(14, .ptr (.s 11391) 0), (8, .ptr (.s 15) 0)], [(.s 11391, [nI 2, nI (a0.length : Int), .nils, .nils, nI r3.1, nI a1, sU (.h 2) x.1, sB (.h 3) x.2]), (.s 15, [nI 0, nI 0, .nils, .nils, nI 0, nI 0, .nils, .nils])]⟩
noncomputable def t_quant_Press_l0 (a0 : List Int) (a1 : Int) (a2 : Int) (a3 : List Int) (r3 : Int × Int) (x0 : Int) (x1 : List Int) (x2 : List Bool) : Tr F_quant_Press (Int × (List Int) × (List Bool)) (Sum (Int × Int × Int × Int × (List Int) × (List Bool) × Int) ((List Int) × (List Bool))) :=
 .ite 6 58 (x0 < (a0.length : Int))
 (.idx 7 eI a0 x0 <| .call 9 (ok_quant_Level (at' a0 x0) r3.1 a1) nl_quant_Level fun r9 => .iteN 14 71 (r9.2.2 = 0)
 (.ret 13 (.inl (0, 0, 0, 0, [], [], r9.2.2)))
 (.joinR 8 0 (γ := Int) ⟨fun x => [(17, nU x)], [16, 15, 57, 56, 55, 14, 12, 8, 1, 2, 3], fun _ => [], [.s 11391, .s 15]⟩ .inl
 (.ite 0 75 (r9.2.1 > 0)
 (.call 8 (ok_slices_Clone_int_int a3) nl_slices_Clone_int_int fun r10 => .app 2 eI 8 r10 [x0] <| .call 0 (ok_draw_Chance r9.2.1 (IntKind.u64.wrap r3.1) a2 (r10 ++ [x0])) nl_draw_Chance fun r11 => .iteN 12 90 (r11.2 = 0)
 (.ret 10 (.inl (0, 0, 0, 0, [], [], r11.2)))
 (.iteB 6 93 (r11.1)
 (.ret 6 (.inr (IntKind.u64.wrap (r9.1 + 1))))
 (.ret 2 (.inr r9.1))))
 (.ret 2 (.inr r9.1)))
 fun j12 => .idx 10 eU x1 x0 <| .sto 0 [97] eU x1 x0 j12 <| .hold 1 [] <| .idx 0 eB x2 x0 <| .sto 0 [100] eB x2 x0 (decide ((at' a0 x0) < 0)) <| .let_ (x1.set (Int.toNat x0) j12 : List Int) fun y13 => .let_ (x2.set (Int.toNat x0) (decide ((at' a0 x0) < 0)) : List Bool) fun y15 => .again 7 (IntKind.i64.wrap (x0 + 1), y13, y15)))
 (.ret 4 (.inr (x1, x2)))
theorem ok_quant_Press_l0 (a0 : List Int) (a1 : Int) (a2 : Int) (a3 : List Int) (r3 : Int × Int) (x0 : Int) (x1 : List Int) (x2 : List Bool) : Ok (M_quant_Press_l0 a0 a1 a2 a3 r3 x0 x1 x2) fun v => go Tryz.prog F_quant_Press.N (PostR (fun r => Fnl F_quant_Press.res (F_quant_Press.en r) (F_quant_Press.bx r)) (.exit 0) (E_quant_Press_l0 a0 a1 a2 a3 r3) v) [.l (lpA Tryz.prog 83 0)] .norm (S_quant_Press_l0 a0 a1 a2 a3 r3 x0 x1 x2) := by
 refine M_quant_Press_l0.partial_correctness a0 a1 a2 a3 r3 (fun x0 x1 x2 v => go Tryz.prog F_quant_Press.N (PostR (fun r => Fnl F_quant_Press.res (F_quant_Press.en r) (F_quant_Press.bx r)) (.exit 0) (E_quant_Press_l0 a0 a1 a2 a3 r3) v) [.l (lpA Tryz.prog 83 0)] .norm (S_quant_Press_l0 a0 a1 a2 a3 r3 x0 x1 x2)) ?_ x0 x1 x2
 clear x0 x1 x2
 intro f IH x0 x1 x2
 exact Tr.lpR (F := F_quant_Press) (S := fun x => S_quant_Press_l0 a0 a1 a2 a3 r3 x.1 x.2.1 x.2.2) (S' := E_quant_Press_l0 a0 a1 a2 a3 r3) (t_quant_Press_l0 a0 a1 a2 a3 r3 x0 x1 x2) (fun x => f x.1 x.2.1 x.2.2) (fun x r h => IH x.1 x.2.1 x.2.2 r h) (by kernel_rfl) (by kernel_rfl)
noncomputable def t_quant_Press (a0 : List Int) (a1 : Int) (a2 : Int) (a3 : List Int) : Tr F_quant_Press Empty (Int × Int × Int × Int × (List Int) × (List Bool) × Int) :=
 .call 9 (ok_quant_Steps a1) nl_quant_Steps fun r1 => .join 11 4 (γ := Bool) ⟨fun x => [(33, bB x)], [8, 0, 1, 2, 3], fun _ => [], [.s 15]⟩
 (.iteN 0 29 (r1.2 = 0)
 (.ret 5 true)
 (.len 1 eI a0 <| .ret 3 ((a0.length : Int) == 0)))
 fun j2 => .iteB 1 33 (j2)
 (.ret 9 (0, 0, 0, 0, [], [], 1))
 (.call 5 (ok_vec_Most a0) nl_vec_Most fun r3 => .iteN 12 41 (r3.2 = 0)
 (.ret 10 (0, 0, 0, 0, [], [], r3.2))
 (.join 3 0 (γ := Unit) ⟨fun x => [(14, .ptr (.s 11391) 0)], [12, 8, 0, 1, 2, 3], fun x => [(.s 11391, [nI 2, nI (a0.length : Int), .nils, .nils, nI r3.1, nI a1, sU (.s 11311) (List.replicate (Int.toNat (a0.length : Int)) 0), sB (.s 11359) (List.replicate (Int.toNat (a0.length : Int)) false)])], [.s 15]⟩
 (.drawsL 0
 (.alt
 (    if 0 ≤ (a0.length : Int) ∧ (a0.length : Int) ≤ (a0.length : Int) ∧ (a0.length : Int) ≤ 140737488355328 ∧ (a0.length : Int) * ((8 : Nat) : Int) ≤ 140737488355328 then
      if 0 ≤ (a0.length : Int) ∧ (a0.length : Int) ≤ (a0.length : Int) ∧ (a0.length : Int) ≤ 140737488355328 ∧ (a0.length : Int) * ((1 : Nat) : Int) ≤ 140737488355328 then
        some ()
      else none
    else none)
 (    if 0 ≤ (a0.length : Int) ∧ (a0.length : Int) ≤ (a0.length : Int) ∧ (a0.length : Int) ≤ 140737488355328 ∧ (a0.length : Int) * ((8 : Nat) : Int) ≤ 140737488355328 then
      if 0 ≤ (a0.length : Int) ∧ (a0.length : Int) ≤ (a0.length : Int) ∧ (a0.length : Int) ≤ 140737488355328 ∧ (a0.length : Int) * ((1 : Nat) : Int) ≤ 140737488355328 then
        some ()
      else none
    else none)
 rfl
 (.len 1 eI a0 <| .len 3 eI a0 <| .len 1 eI a0 <| .mk 0 eU 8 0 (a0.length : Int) (a0.length : Int) <| .hold 1 [.c, .len eI.f a0, .c, .c, .c, .len eI.f a0] <| .mk 0 eB 1 false (a0.length : Int) (a0.length : Int) <| .hold 1 [.c, .len eI.f a0, .c, .c] <| .hold 3 [.c, .len eI.f a0, .c, .c, .c] <| .ret 3 ())
 (.alt
 (    if 0 ≤ (a0.length : Int) ∧ (a0.length : Int) ≤ (a0.length : Int) ∧ (a0.length : Int) ≤ 140737488355328 ∧ (a0.length : Int) * ((8 : Nat) : Int) ≤ 140737488355328 then
      if 0 ≤ (a0.length : Int) ∧ (a0.length : Int) ≤ (a0.length : Int) ∧ (a0.length : Int) ≤ 140737488355328 ∧ (a0.length : Int) * ((1 : Nat) : Int) ≤ 140737488355328 then
        some ()
      else none
    else none)
 (    if 0 ≤ (a0.length : Int) ∧ (a0.length : Int) ≤ (a0.length : Int) ∧ (a0.length : Int) ≤ 140737488355328 ∧ (a0.length : Int) * ((8 : Nat) : Int) ≤ 140737488355328 then
      if 0 ≤ (a0.length : Int) ∧ (a0.length : Int) ≤ (a0.length : Int) ∧ (a0.length : Int) ≤ 140737488355328 ∧ (a0.length : Int) * ((1 : Nat) : Int) ≤ 140737488355328 then
        some ()
      else none
    else none)
 rfl
 (.len 1 eI a0 <| .len 3 eI a0 <| .len 1 eI a0 <| .mk 0 eU 8 0 (a0.length : Int) (a0.length : Int) <| .hold 1 [.c, .len eI.f a0, .c, .c, .c, .len eI.f a0] <| .hold 2 [.c, .len eI.f a0, .c, .c, .c, .len eI.f a0] <| .mk 0 eB 1 false (a0.length : Int) (a0.length : Int) <| .hold 1 [.c, .len eI.f a0, .c, .c] <| .ret 4 ())
 (.alt
 (    if 0 ≤ (a0.length : Int) ∧ (a0.length : Int) ≤ (a0.length : Int) ∧ (a0.length : Int) ≤ 140737488355328 ∧ (a0.length : Int) * ((8 : Nat) : Int) ≤ 140737488355328 then
      if 0 ≤ (a0.length : Int) ∧ (a0.length : Int) ≤ (a0.length : Int) ∧ (a0.length : Int) ≤ 140737488355328 ∧ (a0.length : Int) * ((1 : Nat) : Int) ≤ 140737488355328 then
        some ()
      else none
    else none)
 (    if 0 ≤ (a0.length : Int) ∧ (a0.length : Int) ≤ (a0.length : Int) ∧ (a0.length : Int) ≤ 140737488355328 ∧ (a0.length : Int) * ((1 : Nat) : Int) ≤ 140737488355328 then
      if 0 ≤ (a0.length : Int) ∧ (a0.length : Int) ≤ (a0.length : Int) ∧ (a0.length : Int) ≤ 140737488355328 ∧ (a0.length : Int) * ((8 : Nat) : Int) ≤ 140737488355328 then
        some ()
      else none
    else none)
 (by (repeat' split) <;> first | rfl | contradiction | (simp_all; done) | omega)
 (.len 1 eI a0 <| .len 3 eI a0 <| .len 1 eI a0 <| .mk 0 eB 1 false (a0.length : Int) (a0.length : Int) <| .hold 1 [.c, .len eI.f a0, .c, .c, .c, .len eI.f a0] <| .mk 0 eU 8 0 (a0.length : Int) (a0.length : Int) <| .hold 1 [.c, .len eI.f a0, .c, .c] <| .hold 3 [.c, .len eI.f a0, .c, .c, .c] <| .ret 3 ())
 (.alt
 (    if 0 ≤ (a0.length : Int) ∧ (a0.length : Int) ≤ (a0.length : Int) ∧ (a0.length : Int) ≤ 140737488355328 ∧ (a0.length : Int) * ((8 : Nat) : Int) ≤ 140737488355328 then
      if 0 ≤ (a0.length : Int) ∧ (a0.length : Int) ≤ (a0.length : Int) ∧ (a0.length : Int) ≤ 140737488355328 ∧ (a0.length : Int) * ((1 : Nat) : Int) ≤ 140737488355328 then
        some ()
      else none
    else none)
 (    if 0 ≤ (a0.length : Int) ∧ (a0.length : Int) ≤ (a0.length : Int) ∧ (a0.length : Int) ≤ 140737488355328 ∧ (a0.length : Int) * ((1 : Nat) : Int) ≤ 140737488355328 then
      if 0 ≤ (a0.length : Int) ∧ (a0.length : Int) ≤ (a0.length : Int) ∧ (a0.length : Int) ≤ 140737488355328 ∧ (a0.length : Int) * ((8 : Nat) : Int) ≤ 140737488355328 then
        some ()
      else none
    else none)
 (by (repeat' split) <;> first | rfl | contradiction | (simp_all; done) | omega)
 (.len 1 eI a0 <| .len 3 eI a0 <| .len 1 eI a0 <| .mk 0 eB 1 false (a0.length : Int) (a0.length : Int) <| .hold 1 [.c, .len eI.f a0, .c, .c, .c, .len eI.f a0] <| .hold 2 [.c, .len eI.f a0, .c, .c, .c, .len eI.f a0] <| .mk 0 eU 8 0 (a0.length : Int) (a0.length : Int) <| .hold 1 [.c, .len eI.f a0, .c, .c] <| .ret 4 ())
 (.alt
 (    if 0 ≤ (a0.length : Int) ∧ (a0.length : Int) ≤ (a0.length : Int) ∧ (a0.length : Int) ≤ 140737488355328 ∧ (a0.length : Int) * ((8 : Nat) : Int) ≤ 140737488355328 then
      if 0 ≤ (a0.length : Int) ∧ (a0.length : Int) ≤ (a0.length : Int) ∧ (a0.length : Int) ≤ 140737488355328 ∧ (a0.length : Int) * ((1 : Nat) : Int) ≤ 140737488355328 then
        some ()
      else none
    else none)
 (    if 0 ≤ (a0.length : Int) ∧ (a0.length : Int) ≤ (a0.length : Int) ∧ (a0.length : Int) ≤ 140737488355328 ∧ (a0.length : Int) * ((8 : Nat) : Int) ≤ 140737488355328 then
      if 0 ≤ (a0.length : Int) ∧ (a0.length : Int) ≤ (a0.length : Int) ∧ (a0.length : Int) ≤ 140737488355328 ∧ (a0.length : Int) * ((1 : Nat) : Int) ≤ 140737488355328 then
        some ()
      else none
    else none)
 rfl
 (.len 1 eI a0 <| .len 3 eI a0 <| .len 1 eI a0 <| .hold 2 [.c, .len eI.f a0, .c, .c, .c, .len eI.f a0, .c, .len eI.f a0] <| .mk 0 eU 8 0 (a0.length : Int) (a0.length : Int) <| .hold 1 [.c, .len eI.f a0, .c, .c, .c, .len eI.f a0] <| .mk 0 eB 1 false (a0.length : Int) (a0.length : Int) <| .hold 1 [.c, .len eI.f a0, .c, .c] <| .ret 4 ())
 (.alt
 (    if 0 ≤ (a0.length : Int) ∧ (a0.length : Int) ≤ (a0.length : Int) ∧ (a0.length : Int) ≤ 140737488355328 ∧ (a0.length : Int) * ((8 : Nat) : Int) ≤ 140737488355328 then
      if 0 ≤ (a0.length : Int) ∧ (a0.length : Int) ≤ (a0.length : Int) ∧ (a0.length : Int) ≤ 140737488355328 ∧ (a0.length : Int) * ((1 : Nat) : Int) ≤ 140737488355328 then
        some ()
      else none
    else none)
 (    if 0 ≤ (a0.length : Int) ∧ (a0.length : Int) ≤ (a0.length : Int) ∧ (a0.length : Int) ≤ 140737488355328 ∧ (a0.length : Int) * ((1 : Nat) : Int) ≤ 140737488355328 then
      if 0 ≤ (a0.length : Int) ∧ (a0.length : Int) ≤ (a0.length : Int) ∧ (a0.length : Int) ≤ 140737488355328 ∧ (a0.length : Int) * ((8 : Nat) : Int) ≤ 140737488355328 then
        some ()
      else none
    else none)
 (by (repeat' split) <;> first | rfl | contradiction | (simp_all; done) | omega)
 (.len 1 eI a0 <| .len 3 eI a0 <| .len 1 eI a0 <| .hold 2 [.c, .len eI.f a0, .c, .c, .c, .len eI.f a0, .c, .len eI.f a0] <| .mk 0 eB 1 false (a0.length : Int) (a0.length : Int) <| .hold 1 [.c, .len eI.f a0, .c, .c, .c, .len eI.f a0] <| .mk 0 eU 8 0 (a0.length : Int) (a0.length : Int) <| .hold 1 [.c, .len eI.f a0, .c, .c] <| .ret 4 ())
 (.altE
 (    if 0 ≤ (a0.length : Int) ∧ (a0.length : Int) ≤ (a0.length : Int) ∧ (a0.length : Int) ≤ 140737488355328 ∧ (a0.length : Int) * ((8 : Nat) : Int) ≤ 140737488355328 then
      if 0 ≤ (a0.length : Int) ∧ (a0.length : Int) ≤ (a0.length : Int) ∧ (a0.length : Int) ≤ 140737488355328 ∧ (a0.length : Int) * ((1 : Nat) : Int) ≤ 140737488355328 then
        some ()
      else none
    else none)))))))))
 fun j4 => .let_ (List.replicate (Int.toNat (a0.length : Int)) 0 : List Int) fun y5 => .let_ (List.replicate (Int.toNat (a0.length : Int)) false : List Bool) fun y7 => .len 4 eI a0 <| .loopR 4 id ⟨_, _, _, _, _, ok_quant_Press_l0 a0 a1 a2 a3 r3 0 y5 y7⟩ fun j17 => .ret 8 (2, (a0.length : Int), r3.1, a1, j17.1, j17.2, 0)))
noncomputable def s_quant_Press (a0 : List Int) (a1 : Int) (a2 : Int) (a3 : List Int) : Sg Tryz.prog (Int × Int × Int × Int × (List Int) × (List Bool) × Int) := ⟨83, M_quant_Press a0 a1 a2 a3, [.lst (List.map (D.int .i64) a0), .int .i64 a1, .int .u64 a2, .lst (List.map (D.int .i64) a3)], en_quant_Press⟩
theorem ok_quant_Press (a0 : List Int) (a1 : Int) (a2 : Int) (a3 : List Int) : (s_quant_Press a0 a1 a2 a3).Holds := Tr.fn (F := F_quant_Press) (t_quant_Press a0 a1 a2 a3) (by kernel_rfl) (by kernel_rfl) (by kernel_rfl) (by kernel_rfl)
/-- thrum/press.ways$8. -/
def en_press_ways_8 (v : Int × Int × Int × Int × (List Int) × (List Bool) × Int) : PV := .tup [.d (.agg [.int .i64 v.1, .int .i64 v.2.1, .lst [], .lst [], .int .i64 v.2.2.1, .int .i64 v.2.2.2.1, .lst (List.map (D.int .u64) v.2.2.2.2.1), .lst (List.map D.bool v.2.2.2.2.2.1)]), nI v.2.2.2.2.2.2]
noncomputable abbrev F_press_ways_8 : Fe := .of Tryz.prog 82 en_press_ways_8
noncomputable def t_press_ways_8 (a0 : T_api_How) (a1 : List Int) (a2 : Int) (a3 : List Int) : Tr F_press_ways_8 Empty (Int × Int × Int × Int × (List Int) × (List Bool) × Int) :=
 .callZ 13 (ok_quant_Press a1 a0.F_Wide a2 a3) fun r1 => .ret 6 (r1.1, r1.2.1, r1.2.2.1, r1.2.2.2.1, r1.2.2.2.2.1, r1.2.2.2.2.2.1, r1.2.2.2.2.2.2)
noncomputable def s_press_ways_8 (a0 : T_api_How) (a1 : List Int) (a2 : Int) (a3 : List Int) : Sg Tryz.prog (Int × Int × Int × Int × (List Int) × (List Bool) × Int) := ⟨82, M_press_ways_8 a0 a1 a2 a3, [.agg [.int .i64 a0.F_Scheme, .int .i64 a0.F_K, .int .i64 a0.F_Wide], .lst (List.map (D.int .i64) a1), .int .u64 a2, .lst (List.map (D.int .i64) a3)], en_press_ways_8⟩
theorem ok_press_ways_8 (a0 : T_api_How) (a1 : List Int) (a2 : Int) (a3 : List Int) : (s_press_ways_8 a0 a1 a2 a3).Holds := Tr.fn (F := F_press_ways_8) (t_press_ways_8 a0 a1 a2 a3) (by kernel_rfl) (by kernel_rfl) (by kernel_rfl) (by kernel_rfl)
/-- thrum/vec.Size$1. -/
def en_vec_Size_1_c (v : Int × Int) : PV := .tup [nI v.1, nI v.2]
noncomputable abbrev F_vec_Size_1_c : Fe := .of Tryz.prog 45 en_vec_Size_1_c
theorem nl_vec_Size_1_c : ∀ v, (en_vec_Size_1_c v).noLst := fun _ => ⟨trivial, trivial, trivial⟩
noncomputable def t_vec_Size_1_c (a0 : Int) (a1 : List Int) : Tr F_vec_Size_1_c Empty (Int × Int) :=
 .idx 9 eI a1 a0 <| .call 1 (ok_fix_Abs (at' a1 a0)) nl_fix_Abs fun r1 => .ret 6 (r1.1, r1.2)
noncomputable def s_vec_Size_1_c (a0 : Int) (a1 : List Int) : Sg Tryz.prog (Int × Int) := ⟨45, M_vec_Size_1_c a0 a1, [.int .i64 a0, .cp [.lst (List.map (D.int .i64) a1)] 0], en_vec_Size_1_c⟩
theorem ok_vec_Size_1_c (a0 : Int) (a1 : List Int) : (s_vec_Size_1_c a0 a1).Holds := Tr.fn (F := F_vec_Size_1_c) (t_vec_Size_1_c a0 a1) (by kernel_rfl) (by kernel_rfl) (by kernel_rfl) (by kernel_rfl)
/-- thrum/vec.total. -/
def en_vec_total_vec_Size_1 (v : Int × Int) : PV := .tup [nI v.1, nI v.2]
noncomputable abbrev F_vec_total_vec_Size_1 : Fe := .of Tryz.prog 44 en_vec_total_vec_Size_1
def S_vec_total_vec_Size_1_l0 (a0 : Int) (a1 : List Int) (x0 : Int) (x1 : Int) : St := ⟨[(10, nI x0), (9, nI a0), (4, nI x1), (1, .d (.clo (.func 45) [] [.cp [.lst (List.map (D.int .i64) a1)] 0]))], []⟩
def E_vec_total_vec_Size_1_l0 (a0 : Int) (a1 : List Int) (x : Int) : St := ⟨[(4, nI x)], []⟩
noncomputable def t_vec_total_vec_Size_1_l0 (a0 : Int) (a1 : List Int) (x0 : Int) (x1 : Int) : Tr F_vec_total_vec_Size_1 (Int × Int) (Sum (Int × Int) Int) :=
 .ite 6 11 (x0 < a0)
 (.call 13 (ok_vec_Size_1_c x0 a1) nl_vec_Size_1_c fun r1 => .ite 12 20 (r1.2 = 0)
 (.call 4 (ok_fix_Add x1 r1.1) nl_fix_Add fun r2 => .iteN 11 28 (r2.2 = 0)
 (.ret 11 (.inl (0, r2.2)))
 (.again 7 (IntKind.i64.wrap (x0 + 1), r2.1)))
 (.iteN 7 28 (r1.2 = 0)
 (.ret 11 (.inl (0, r1.2)))
 (.again 7 (IntKind.i64.wrap (x0 + 1), x1))))
 (.ret 4 (.inr x1))
theorem ok_vec_total_vec_Size_1_l0 (a0 : Int) (a1 : List Int) (x0 : Int) (x1 : Int) : Ok (M_vec_total_vec_Size_1_l0 a0 a1 x0 x1) fun v => go Tryz.prog F_vec_total_vec_Size_1.N (PostR (fun r => Fnl F_vec_total_vec_Size_1.res (F_vec_total_vec_Size_1.en r) (F_vec_total_vec_Size_1.bx r)) (.exit 0) (E_vec_total_vec_Size_1_l0 a0 a1) v) [.l (lpA Tryz.prog 44 0)] .norm (S_vec_total_vec_Size_1_l0 a0 a1 x0 x1) := by
 refine M_vec_total_vec_Size_1_l0.partial_correctness a0 a1 (fun x0 x1 v => go Tryz.prog F_vec_total_vec_Size_1.N (PostR (fun r => Fnl F_vec_total_vec_Size_1.res (F_vec_total_vec_Size_1.en r) (F_vec_total_vec_Size_1.bx r)) (.exit 0) (E_vec_total_vec_Size_1_l0 a0 a1) v) [.l (lpA Tryz.prog 44 0)] .norm (S_vec_total_vec_Size_1_l0 a0 a1 x0 x1)) ?_ x0 x1
 clear x0 x1
 intro f IH x0 x1
 exact Tr.lpR (F := F_vec_total_vec_Size_1) (S := fun x => S_vec_total_vec_Size_1_l0 a0 a1 x.1 x.2) (S' := E_vec_total_vec_Size_1_l0 a0 a1) (t_vec_total_vec_Size_1_l0 a0 a1 x0 x1) (fun x => f x.1 x.2) (fun x r h => IH x.1 x.2 r h) (by kernel_rfl) (by kernel_rfl)
theorem nl_vec_total_vec_Size_1 : ∀ v, (en_vec_total_vec_Size_1 v).noLst := fun _ => ⟨trivial, trivial, trivial⟩
noncomputable def t_vec_total_vec_Size_1 (a0 : Int) (a1 : List Int) : Tr F_vec_total_vec_Size_1 Empty (Int × Int) :=
 .loopR 13 id ⟨_, _, _, _, _, ok_vec_total_vec_Size_1_l0 a0 a1 0 0⟩ fun j3 => .ret 8 (j3, 0)
noncomputable def s_vec_total_vec_Size_1 (a0 : Int) (a1 : List Int) : Sg Tryz.prog (Int × Int) := ⟨44, M_vec_total_vec_Size_1 a0 a1, [.int .i64 a0, .clo (.func 45) [] [.cp [.lst (List.map (D.int .i64) a1)] 0]], en_vec_total_vec_Size_1⟩
theorem ok_vec_total_vec_Size_1 (a0 : Int) (a1 : List Int) : (s_vec_total_vec_Size_1 a0 a1).Holds := Tr.fn (F := F_vec_total_vec_Size_1) (t_vec_total_vec_Size_1 a0 a1) (by kernel_rfl) (by kernel_rfl) (by kernel_rfl) (by kernel_rfl)
/-- thrum/vec.Size. -/
def en_vec_Size (v : Int × Int) : PV := .tup [nI v.1, nI v.2]
noncomputable abbrev F_vec_Size : Fe := .of Tryz.prog 21 en_vec_Size
theorem nl_vec_Size : ∀ v, (en_vec_Size v).noLst := fun _ => ⟨trivial, trivial, trivial⟩
noncomputable def t_vec_Size (a0 : List Int) : Tr F_vec_Size Empty (Int × Int) :=
 .call 10 (ok_vec_Check a0) nl_vec_Check fun r1 => .iteN 7 8 (r1 = 0)
 (.ret 9 (0, r1))
 (.len 5 eI a0 <| .call 1 (ok_vec_total_vec_Size_1 (a0.length : Int) a0) nl_vec_total_vec_Size_1 fun r2 => .ret 6 (r2.1, r2.2))
noncomputable def s_vec_Size (a0 : List Int) : Sg Tryz.prog (Int × Int) := ⟨21, M_vec_Size a0, [.lst (List.map (D.int .i64) a0)], en_vec_Size⟩
theorem ok_vec_Size (a0 : List Int) : (s_vec_Size a0).Holds := Tr.fn (F := F_vec_Size) (t_vec_Size a0) (by kernel_rfl) (by kernel_rfl) (by kernel_rfl) (by kernel_rfl)
/-- thrum/sign.Mean. -/
def en_sign_Mean (v : Int × Int) : PV := .tup [nI v.1, nI v.2]
noncomputable abbrev F_sign_Mean : Fe := .of Tryz.prog 140 en_sign_Mean
theorem nl_sign_Mean : ∀ v, (en_sign_Mean v).noLst := fun _ => ⟨trivial, trivial, trivial⟩
noncomputable def t_sign_Mean (a0 : List Int) : Tr F_sign_Mean Empty (Int × Int) :=
 .len 9 eI a0 <| .ite 2 8 ((a0.length : Int) = 0)
 (.ret 8 (0, 1))
 (.call 5 (ok_vec_Size a0) nl_vec_Size fun r1 => .len 10 eI a0 <| .rd 0 ((a0.length : Int) ≠ 0) (nI (IntKind.i64.wrap (Int.tdiv r1.1 (a0.length : Int)))) <| .ret 5 (IntKind.i64.wrap (Int.tdiv r1.1 (a0.length : Int)), r1.2))
noncomputable def s_sign_Mean (a0 : List Int) : Sg Tryz.prog (Int × Int) := ⟨140, M_sign_Mean a0, [.lst (List.map (D.int .i64) a0)], en_sign_Mean⟩
theorem ok_sign_Mean (a0 : List Int) : (s_sign_Mean a0).Holds := Tr.fn (F := F_sign_Mean) (t_sign_Mean a0) (by kernel_rfl) (by kernel_rfl) (by kernel_rfl) (by kernel_rfl)
/-- thrum/sign.Press$1. -/
def en_sign_Press_1 (v : Bool) : PV := bB v
noncomputable abbrev F_sign_Press_1 : Fe := .of Tryz.prog 142 en_sign_Press_1
theorem nl_sign_Press_1 : ∀ v, (en_sign_Press_1 v).noLst := fun _ => trivial
noncomputable def t_sign_Press_1 (a0 : Int) : Tr F_sign_Press_1 Empty Bool :=
 .ret 11 (decide (a0 < 0))
noncomputable def s_sign_Press_1 (a0 : Int) : Sg Tryz.prog Bool := ⟨142, M_sign_Press_1 a0, [.int .i64 a0], en_sign_Press_1⟩
theorem ok_sign_Press_1 (a0 : Int) : (s_sign_Press_1 a0).Holds := Tr.fn (F := F_sign_Press_1) (t_sign_Press_1 a0) (by kernel_rfl) (by kernel_rfl) (by kernel_rfl) (by kernel_rfl)
/-- thrum/sign.each[int64,bool]. -/
def en_sign_each_int64_bool_sign_Press_1 (v : (List Bool)) : PV := sB (.s 0) v
noncomputable abbrev F_sign_each_int64_bool_sign_Press_1 : Fe := .of Tryz.prog 141 en_sign_each_int64_bool_sign_Press_1
def S_sign_each_int64_bool_sign_Press_1_l0 (a0 : List Int) (x0 : Int) (x1 : List Bool) : St := ⟨[(13, nI x0), (12, nI (a0.length : Int)), (11, lI a0), (5, sB (.h 0) x1), (1, .d (.clo (.func 142) [] []))], []⟩
def E_sign_each_int64_bool_sign_Press_1_l0 (a0 : List Int) (x : (List Bool)) : St := ⟨[(5, sB (.h 1) x)], []⟩
noncomputable def t_sign_each_int64_bool_sign_Press_1_l0 (a0 : List Int) (x0 : Int) (x1 : List Bool) : Tr F_sign_each_int64_bool_sign_Press_1 (Int × (List Bool)) (List Bool) :=
 .ite 6 14 (x0 < (a0.length : Int))
 (.idx 6 eI a0 x0 <| .call 7 (ok_sign_Press_1 (at' a0 x0)) nl_sign_Press_1 fun r3 => .app 1 eB 1 x1 [r3] <| .again 7 (IntKind.i64.wrap (x0 + 1), x1 ++ [r3]))
 (.ret 4 x1)
theorem ok_sign_each_int64_bool_sign_Press_1_l0 (a0 : List Int) (x0 : Int) (x1 : List Bool) : Ok (M_sign_each_int64_bool_sign_Press_1_l0 a0 x0 x1) fun v => go Tryz.prog F_sign_each_int64_bool_sign_Press_1.N (PostN (.exit 0) (E_sign_each_int64_bool_sign_Press_1_l0 a0) v) [.l (lpA Tryz.prog 141 0)] .norm (S_sign_each_int64_bool_sign_Press_1_l0 a0 x0 x1) := by
 refine M_sign_each_int64_bool_sign_Press_1_l0.partial_correctness a0 (fun x0 x1 v => go Tryz.prog F_sign_each_int64_bool_sign_Press_1.N (PostN (.exit 0) (E_sign_each_int64_bool_sign_Press_1_l0 a0) v) [.l (lpA Tryz.prog 141 0)] .norm (S_sign_each_int64_bool_sign_Press_1_l0 a0 x0 x1)) ?_ x0 x1
 clear x0 x1
 intro f IH x0 x1
 exact Tr.lpN (F := F_sign_each_int64_bool_sign_Press_1) (S := fun x => S_sign_each_int64_bool_sign_Press_1_l0 a0 x.1 x.2) (S' := E_sign_each_int64_bool_sign_Press_1_l0 a0) (t_sign_each_int64_bool_sign_Press_1_l0 a0 x0 x1) (fun x => f x.1 x.2) (fun x r h => IH x.1 x.2 r h) (by kernel_rfl) (by kernel_rfl)
theorem nl_sign_each_int64_bool_sign_Press_1 : ∀ v, (en_sign_each_int64_bool_sign_Press_1 v).noLst := fun _ => (flat_map_of fun _ => trivial)
noncomputable def t_sign_each_int64_bool_sign_Press_1 (a0 : List Int) : Tr F_sign_each_int64_bool_sign_Press_1 Empty (List Bool) :=
 .len 7 eI a0 <| .mk 0 eB 1 false 0 (a0.length : Int) <| .let_ (List.replicate (Int.toNat 0) false : List Bool) fun y1 => .len 6 eI a0 <| .loop 4 ⟨_, _, _, _, _, ok_sign_each_int64_bool_sign_Press_1_l0 a0 0 y1⟩ fun j4 => .ret 7 j4
noncomputable def s_sign_each_int64_bool_sign_Press_1 (a0 : List Int) : Sg Tryz.prog (List Bool) := ⟨141, M_sign_each_int64_bool_sign_Press_1 a0, [.lst (List.map (D.int .i64) a0), .clo (.func 142) [] []], en_sign_each_int64_bool_sign_Press_1⟩
theorem ok_sign_each_int64_bool_sign_Press_1 (a0 : List Int) : (s_sign_each_int64_bool_sign_Press_1 a0).Holds := Tr.fn (F := F_sign_each_int64_bool_sign_Press_1) (t_sign_each_int64_bool_sign_Press_1 a0) (by kernel_rfl) (by kernel_rfl) (by kernel_rfl) (by kernel_rfl)
/-- thrum/sign.Press. -/
def en_sign_Press (v : Int × Int × Int × Int × (List Bool) × Int) : PV := .tup [.d (.agg [.int .i64 v.1, .int .i64 v.2.1, .lst [], .lst [], .int .i64 v.2.2.1, .int .i64 v.2.2.2.1, .lst [], .lst (List.map D.bool v.2.2.2.2.1)]), nI v.2.2.2.2.2]
noncomputable abbrev F_sign_Press : Fe := .of Tryz.prog 88 en_sign_Press
noncomputable def t_sign_Press (a0 : List Int) : Tr F_sign_Press Empty (Int × Int × Int × Int × (List Bool) × Int) :=
 .call 8 (ok_sign_Mean a0) nl_sign_Mean fun r1 => .iteN 12 12 (r1.2 = 0)
 (.ret 10 (0, 0, 0, 0, [], r1.2))
 (.len 5 eI a0 <| .call 2 (ok_sign_each_int64_bool_sign_Press_1 a0) nl_sign_each_int64_bool_sign_Press_1 fun r2 => .ret 5 (3, (a0.length : Int), r1.1, 0, r2, 0))
noncomputable def s_sign_Press (a0 : List Int) : Sg Tryz.prog (Int × Int × Int × Int × (List Bool) × Int) := ⟨88, M_sign_Press a0, [.lst (List.map (D.int .i64) a0)], en_sign_Press⟩
theorem ok_sign_Press (a0 : List Int) : (s_sign_Press a0).Holds := Tr.fn (F := F_sign_Press) (t_sign_Press a0) (by kernel_rfl) (by kernel_rfl) (by kernel_rfl) (by kernel_rfl)
/-- thrum/press.ways$10. -/
def en_press_ways_10 (v : Int × Int × Int × Int × (List Bool) × Int) : PV := .tup [.d (.agg [.int .i64 v.1, .int .i64 v.2.1, .lst [], .lst [], .int .i64 v.2.2.1, .int .i64 v.2.2.2.1, .lst [], .lst (List.map D.bool v.2.2.2.2.1)]), nI v.2.2.2.2.2]
noncomputable abbrev F_press_ways_10 : Fe := .of Tryz.prog 87 en_press_ways_10
noncomputable def t_press_ways_10 (a0 : T_api_How) (a1 : List Int) (a2 : Int) (a3 : List Int) : Tr F_press_ways_10 Empty (Int × Int × Int × Int × (List Bool) × Int) :=
 .callZ 9 (ok_sign_Press a1) fun r1 => .ret 6 (r1.1, r1.2.1, r1.2.2.1, r1.2.2.2.1, r1.2.2.2.2.1, r1.2.2.2.2.2)
noncomputable def s_press_ways_10 (a0 : T_api_How) (a1 : List Int) (a2 : Int) (a3 : List Int) : Sg Tryz.prog (Int × Int × Int × Int × (List Bool) × Int) := ⟨87, M_press_ways_10 a0 a1 a2 a3, [.agg [.int .i64 a0.F_Scheme, .int .i64 a0.F_K, .int .i64 a0.F_Wide], .lst (List.map (D.int .i64) a1), .int .u64 a2, .lst (List.map (D.int .i64) a3)], en_press_ways_10⟩
theorem ok_press_ways_10 (a0 : T_api_How) (a1 : List Int) (a2 : Int) (a3 : List Int) : (s_press_ways_10 a0 a1 a2 a3).Holds := Tr.fn (F := F_press_ways_10) (t_press_ways_10 a0 a1 a2 a3) (by kernel_rfl) (by kernel_rfl) (by kernel_rfl) (by kernel_rfl)
/-- thrum/press.Press. -/
def en_press_Press (v : Int × Int × (List Int) × (List Int) × Int × Int × (List Int) × (List Bool) × Int) : PV := .tup [.d (.agg [.int .i64 v.1, .int .i64 v.2.1, .lst (List.map (D.int .i64) v.2.2.1), .lst (List.map (D.int .i64) v.2.2.2.1), .int .i64 v.2.2.2.2.1, .int .i64 v.2.2.2.2.2.1, .lst (List.map (D.int .u64) v.2.2.2.2.2.2.1), .lst (List.map D.bool v.2.2.2.2.2.2.2.1)]), nI v.2.2.2.2.2.2.2.2]
noncomputable abbrev F_press_Press : Fe := .of Tryz.prog 11 en_press_Press
noncomputable def t_press_Press (a0 : T_api_How) (a1 : List Int) (a2 : Int) (a3 : List Int) : Tr F_press_Press Empty (Int × Int × (List Int) × (List Int) × Int × Int × (List Int) × (List Bool) × Int) :=
 .call 9 (ok_vec_Check a1) nl_vec_Check fun r1 => .join 8 0 (γ := Int) ⟨fun x => [(10, nI x)], [8, 4, 1, 2, 3], fun _ => [], [.s 31, .s 15]⟩
 (.ite 0 14 (r1 = 0)
 (.len 4 eI a1 <| .call 0 (ok_press_Check a0 (a1.length : Int)) nl_press_Check fun r2 => .ret 2 r2)
 (.ret 2 r1))
 fun j3 => .iteN 6 20 (j3 = 0)
 (.ret 10 (0, 0, [], [], 0, 0, [], [], j3))
 (.callG 10 [] [] ok_press_ways fun r4 => .hold 1 [] <| .cas 1 26 (a0.F_Scheme = (0 : Int)) (.d (.agg [.clo (.func 69) [] [], .clo (.func 70) [] [], .clo (.func 71) [] [], .clo (.func 73) [] []])) (.d (lookD a0.F_Scheme [(1, .agg [.clo (.func 74) [] [], .clo (.func 75) [] [], .clo (.func 77) [] [], .clo (.func 79) [] []]), (2, .agg [.clo (.func 81) [] [], .clo (.func 82) [] [], .clo (.func 84) [] [], .clo (.func 85) [] []]), (3, .agg [.clo (.func 69) [] [], .clo (.func 87) [] [], .clo (.func 89) [] [], .clo (.func 90) [] []])] (.agg [.nilfn, .nilfn, .nilfn, .nilfn]))) (.d (lookD a0.F_Scheme [(0, .agg [.clo (.func 69) [] [], .clo (.func 70) [] [], .clo (.func 71) [] [], .clo (.func 73) [] []]), (1, .agg [.clo (.func 74) [] [], .clo (.func 75) [] [], .clo (.func 77) [] [], .clo (.func 79) [] []]), (2, .agg [.clo (.func 81) [] [], .clo (.func 82) [] [], .clo (.func 84) [] [], .clo (.func 85) [] []]), (3, .agg [.clo (.func 69) [] [], .clo (.func 87) [] [], .clo (.func 89) [] [], .clo (.func 90) [] []])] (.agg [.nilfn, .nilfn, .nilfn, .nilfn]))) lookD_t lookD_f
 (.callZ 1 (ok_press_dense a0 a1 a2 a3) fun r5 => .ret 7 (r5.1, r5.2.1, [], r5.2.2.1, r5.2.2.2.1, r5.2.2.2.2.1, [], [], r5.2.2.2.2.2))
 (.cas 0 26 (a0.F_Scheme = (1 : Int)) (.d (.agg [.clo (.func 74) [] [], .clo (.func 75) [] [], .clo (.func 77) [] [], .clo (.func 79) [] []])) (.d (lookD a0.F_Scheme [(2, .agg [.clo (.func 81) [] [], .clo (.func 82) [] [], .clo (.func 84) [] [], .clo (.func 85) [] []]), (3, .agg [.clo (.func 69) [] [], .clo (.func 87) [] [], .clo (.func 89) [] [], .clo (.func 90) [] []])] (.agg [.nilfn, .nilfn, .nilfn, .nilfn]))) (.d (lookD a0.F_Scheme [(1, .agg [.clo (.func 74) [] [], .clo (.func 75) [] [], .clo (.func 77) [] [], .clo (.func 79) [] []]), (2, .agg [.clo (.func 81) [] [], .clo (.func 82) [] [], .clo (.func 84) [] [], .clo (.func 85) [] []]), (3, .agg [.clo (.func 69) [] [], .clo (.func 87) [] [], .clo (.func 89) [] [], .clo (.func 90) [] []])] (.agg [.nilfn, .nilfn, .nilfn, .nilfn]))) lookD_t lookD_f
 (.callZ 1 (ok_press_ways_4 a0 a1 a2 a3) fun r6 => .ret 7 (r6.1, r6.2.1, r6.2.2.1, r6.2.2.2.1, r6.2.2.2.2.1, r6.2.2.2.2.2.1, [], [], r6.2.2.2.2.2.2))
 (.cas 0 26 (a0.F_Scheme = (2 : Int)) (.d (.agg [.clo (.func 81) [] [], .clo (.func 82) [] [], .clo (.func 84) [] [], .clo (.func 85) [] []])) (.d (lookD a0.F_Scheme [(3, .agg [.clo (.func 69) [] [], .clo (.func 87) [] [], .clo (.func 89) [] [], .clo (.func 90) [] []])] (.agg [.nilfn, .nilfn, .nilfn, .nilfn]))) (.d (lookD a0.F_Scheme [(2, .agg [.clo (.func 81) [] [], .clo (.func 82) [] [], .clo (.func 84) [] [], .clo (.func 85) [] []]), (3, .agg [.clo (.func 69) [] [], .clo (.func 87) [] [], .clo (.func 89) [] [], .clo (.func 90) [] []])] (.agg [.nilfn, .nilfn, .nilfn, .nilfn]))) lookD_t lookD_f
 (.callZ 1 (ok_press_ways_8 a0 a1 a2 a3) fun r7 => .ret 7 (r7.1, r7.2.1, [], [], r7.2.2.1, r7.2.2.2.1, r7.2.2.2.2.1, r7.2.2.2.2.2.1, r7.2.2.2.2.2.2))
 (.cas 0 26 (a0.F_Scheme = (3 : Int)) (.d (.agg [.clo (.func 69) [] [], .clo (.func 87) [] [], .clo (.func 89) [] [], .clo (.func 90) [] []])) (.d (lookD a0.F_Scheme [] (.agg [.nilfn, .nilfn, .nilfn, .nilfn]))) (.d (lookD a0.F_Scheme [(3, .agg [.clo (.func 69) [] [], .clo (.func 87) [] [], .clo (.func 89) [] [], .clo (.func 90) [] []])] (.agg [.nilfn, .nilfn, .nilfn, .nilfn]))) lookD_t lookD_f
 (.callZ 1 (ok_press_ways_10 a0 a1 a2 a3) fun r8 => .ret 7 (r8.1, r8.2.1, [], [], r8.2.2.1, r8.2.2.2.1, [], r8.2.2.2.2.1, r8.2.2.2.2.2))
 (.halt)))))
noncomputable def s_press_Press (a0 : T_api_How) (a1 : List Int) (a2 : Int) (a3 : List Int) : Sg Tryz.prog (Int × Int × (List Int) × (List Int) × Int × Int × (List Int) × (List Bool) × Int) := ⟨11, M_press_Press a0 a1 a2 a3, [.agg [.int .i64 a0.F_Scheme, .int .i64 a0.F_K, .int .i64 a0.F_Wide], .lst (List.map (D.int .i64) a1), .int .u64 a2, .lst (List.map (D.int .i64) a3)], en_press_Press⟩
theorem ok_press_Press (a0 : T_api_How) (a1 : List Int) (a2 : Int) (a3 : List Int) : (s_press_Press a0 a1 a2 a3).Holds := Tr.fn (F := F_press_Press) (t_press_Press a0 a1 a2 a3) (by kernel_rfl) (by kernel_rfl) (by kernel_rfl) (by kernel_rfl)
/-- thrum/index.measure. -/
def en_index_measure (v : Bool) : PV := bB v
noncomputable abbrev F_index_measure : Fe := .of Tryz.prog 181 en_index_measure
theorem nl_index_measure : ∀ v, (en_index_measure v).noLst := fun _ => trivial
noncomputable def t_index_measure (a0 : Int) : Tr F_index_measure Empty Bool :=
 .join 9 3 (γ := Bool) ⟨fun x => [(8, bB x)], [], fun _ => [], []⟩
 (.ite 0 5 (a0 > 0)
 (.ret 4 (decide (a0 ≤ 4096)))
 (.ret 4 false))
 fun j1 => .ret 3 j1
noncomputable def s_index_measure (a0 : Int) : Sg Tryz.prog Bool := ⟨181, M_index_measure a0, [.int .i64 a0], en_index_measure⟩
theorem ok_index_measure (a0 : Int) : (s_index_measure a0).Holds := Tr.fn (F := F_index_measure) (t_index_measure a0) (by kernel_rfl) (by kernel_rfl) (by kernel_rfl) (by kernel_rfl)
/-- thrum/index.Check. -/
def en_index_Check (v : Int) : PV := nI v
noncomputable abbrev F_index_Check : Fe := .of Tryz.prog 131 en_index_Check
theorem nl_index_Check : ∀ v, (en_index_Check v).noLst := fun _ => trivial
noncomputable def t_index_Check (a0 : Int) (a1 : List Int) : Tr F_index_Check Empty Int :=
 .len 7 eI a1 <| .call 6 (ok_index_measure a0) nl_index_measure fun r1 => .join 2 4 (γ := Bool) ⟨fun x => [(15, bB x)], [5, 0, 1], fun _ => [], []⟩
 (.iteX 0 11 (r1)
 (.ret 5 true)
 (.call 1 (ok_index_rises a1) nl_index_rises fun r2 => .ret 3 (!r2)))
 fun j3 => .iteB 1 16 (j3)
 (.ret 26 1)
 (.ite 3 19 ((a1.length : Int) > 0)
 (.idx 1 eI a1 0 <| .ite 3 24 ((at' a1 0) < 0)
 (.ret 18 1)
 (.idx 3 eI a1 (IntKind.i64.wrap ((a1.length : Int) - 1)) <| .ite 7 34 ((at' a1 (IntKind.i64.wrap ((a1.length : Int) - 1))) ≥ a0)
 (.ret 7 1)
 (.ret 7 0)))
 (.ret 23 0))
noncomputable def s_index_Check (a0 : Int) (a1 : List Int) : Sg Tryz.prog Int := ⟨131, M_index_Check a0 a1, [.int .i64 a0, .lst (List.map (D.int .i64) a1)], en_index_Check⟩
theorem ok_index_Check (a0 : Int) (a1 : List Int) : (s_index_Check a0 a1).Holds := Tr.fn (F := F_index_Check) (t_index_Check a0 a1) (by kernel_rfl) (by kernel_rfl) (by kernel_rfl) (by kernel_rfl)
/-- thrum/plane.Width. -/
def en_plane_Width (v : Int) : PV := nI v
noncomputable abbrev F_plane_Width : Fe := .of Tryz.prog 154 en_plane_Width
theorem nl_plane_Width : ∀ v, (en_plane_Width v).noLst := fun _ => trivial
noncomputable def t_plane_Width (a0 : Int) : Tr F_plane_Width Empty Int :=
 .call 7 (ok_math_bits_Len64 a0) nl_math_bits_Len64 fun r1 => .ret 3 r1
noncomputable def s_plane_Width (a0 : Int) : Sg Tryz.prog Int := ⟨154, M_plane_Width a0, [.int .u64 a0], en_plane_Width⟩
theorem ok_plane_Width (a0 : Int) : (s_plane_Width a0).Holds := Tr.fn (F := F_plane_Width) (t_plane_Width a0) (by kernel_rfl) (by kernel_rfl) (by kernel_rfl) (by kernel_rfl)
/-- thrum/frame.bare$1. -/
def en_frame_bare_1_c (v : Bool) : PV := bB v
noncomputable abbrev F_frame_bare_1_c : Fe := .of Tryz.prog 153 en_frame_bare_1_c
theorem nl_frame_bare_1_c : ∀ v, (en_frame_bare_1_c v).noLst := fun _ => trivial
noncomputable def t_frame_bare_1_c (a0 : Int) (a1 : Int) (a2 : Int) (a3 : List Int) (a4 : List Int) (a5 : Int) (a6 : Int) (a7 : List Int) (a8 : List Bool) : Tr F_frame_bare_1_c Empty Bool :=
 .call 9 (ok_plane_Width a0) nl_plane_Width fun r1 => .hold 1 [] <| .ret 5 (decide (r1 > a6))
noncomputable def s_frame_bare_1_c (a0 : Int) (a1 : Int) (a2 : Int) (a3 : List Int) (a4 : List Int) (a5 : Int) (a6 : Int) (a7 : List Int) (a8 : List Bool) : Sg Tryz.prog Bool := ⟨153, M_frame_bare_1_c a0 a1 a2 a3 a4 a5 a6 a7 a8, [.int .u64 a0, .cp [.int .i64 a1, .int .i64 a2, .lst (List.map (D.int .i64) a3), .lst (List.map (D.int .i64) a4), .int .i64 a5, .int .i64 a6, .lst (List.map (D.int .u64) a7), .lst (List.map D.bool a8)] 0], en_frame_bare_1_c⟩
theorem ok_frame_bare_1_c (a0 : Int) (a1 : Int) (a2 : Int) (a3 : List Int) (a4 : List Int) (a5 : Int) (a6 : Int) (a7 : List Int) (a8 : List Bool) : (s_frame_bare_1_c a0 a1 a2 a3 a4 a5 a6 a7 a8).Holds := Tr.fn (F := F_frame_bare_1_c) (t_frame_bare_1_c a0 a1 a2 a3 a4 a5 a6 a7 a8) (by kernel_rfl) (by kernel_rfl) (by kernel_rfl) (by kernel_rfl)
/-- slices.IndexFunc[[]uint64,uint64]. -/
def en_slices_IndexFunc_uint64_uint64_frame_bare_1 (v : Int) : PV := nI v
noncomputable abbrev F_slices_IndexFunc_uint64_uint64_frame_bare_1 : Fe := .of Tryz.prog 189 en_slices_IndexFunc_uint64_uint64_frame_bare_1
def S_slices_IndexFunc_uint64_uint64_frame_bare_1_l0 (a0 : List Int) (a1 : Int) (a2 : Int) (a3 : List Int) (a4 : List Int) (a5 : Int) (a6 : Int) (a7 : List Int) (a8 : List Bool) (x0 : Int) : St := ⟨[(8, nI x0), (7, nI (a0.length : Int)), (0, lU a0), (1, .d (.clo (.func 153) [] [.cp [.int .i64 a1, .int .i64 a2, .lst (List.map (D.int .i64) a3), .lst (List.map (D.int .i64) a4), .int .i64 a5, .int .i64 a6, .lst (List.map (D.int .u64) a7), .lst (List.map D.bool a8)] 0]))], []⟩
def E_slices_IndexFunc_uint64_uint64_frame_bare_1_l0 (a0 : List Int) (a1 : Int) (a2 : Int) (a3 : List Int) (a4 : List Int) (a5 : Int) (a6 : Int) (a7 : List Int) (a8 : List Bool) (x : Unit) : St := ⟨[], []⟩
noncomputable def t_slices_IndexFunc_uint64_uint64_frame_bare_1_l0 (a0 : List Int) (a1 : Int) (a2 : Int) (a3 : List Int) (a4 : List Int) (a5 : Int) (a6 : Int) (a7 : List Int) (a8 : List Bool) (x0 : Int) : Tr F_slices_IndexFunc_uint64_uint64_frame_bare_1 Int (Sum Int Unit) :=
 .ite 6 9 (x0 < (a0.length : Int))
 (.idx 14 eU a0 x0 <| .call 1 (ok_frame_bare_1_c (at' a0 x0) a1 a2 a3 a4 a5 a6 a7 a8) nl_frame_bare_1_c fun r1 => .iteB 1 16 (r1)
 (.ret 10 (.inl x0))
 (.again 7 (IntKind.i64.wrap (x0 + 1))))
 (.ret 4 (.inr ()))
theorem ok_slices_IndexFunc_uint64_uint64_frame_bare_1_l0 (a0 : List Int) (a1 : Int) (a2 : Int) (a3 : List Int) (a4 : List Int) (a5 : Int) (a6 : Int) (a7 : List Int) (a8 : List Bool) (x0 : Int) : Ok (M_slices_IndexFunc_uint64_uint64_frame_bare_1_l0 a0 a1 a2 a3 a4 a5 a6 a7 a8 x0) fun v => go Tryz.prog F_slices_IndexFunc_uint64_uint64_frame_bare_1.N (PostR (fun r => Fnl F_slices_IndexFunc_uint64_uint64_frame_bare_1.res (F_slices_IndexFunc_uint64_uint64_frame_bare_1.en r) (F_slices_IndexFunc_uint64_uint64_frame_bare_1.bx r)) (.exit 0) (E_slices_IndexFunc_uint64_uint64_frame_bare_1_l0 a0 a1 a2 a3 a4 a5 a6 a7 a8) v) [.l (lpA Tryz.prog 189 0)] .norm (S_slices_IndexFunc_uint64_uint64_frame_bare_1_l0 a0 a1 a2 a3 a4 a5 a6 a7 a8 x0) := by
 refine M_slices_IndexFunc_uint64_uint64_frame_bare_1_l0.partial_correctness a0 a1 a2 a3 a4 a5 a6 a7 a8 (fun x0 v => go Tryz.prog F_slices_IndexFunc_uint64_uint64_frame_bare_1.N (PostR (fun r => Fnl F_slices_IndexFunc_uint64_uint64_frame_bare_1.res (F_slices_IndexFunc_uint64_uint64_frame_bare_1.en r) (F_slices_IndexFunc_uint64_uint64_frame_bare_1.bx r)) (.exit 0) (E_slices_IndexFunc_uint64_uint64_frame_bare_1_l0 a0 a1 a2 a3 a4 a5 a6 a7 a8) v) [.l (lpA Tryz.prog 189 0)] .norm (S_slices_IndexFunc_uint64_uint64_frame_bare_1_l0 a0 a1 a2 a3 a4 a5 a6 a7 a8 x0)) ?_ x0
 clear x0
 intro f IH x0
 exact Tr.lpR (F := F_slices_IndexFunc_uint64_uint64_frame_bare_1) (S := fun x => S_slices_IndexFunc_uint64_uint64_frame_bare_1_l0 a0 a1 a2 a3 a4 a5 a6 a7 a8 x) (S' := E_slices_IndexFunc_uint64_uint64_frame_bare_1_l0 a0 a1 a2 a3 a4 a5 a6 a7 a8) (t_slices_IndexFunc_uint64_uint64_frame_bare_1_l0 a0 a1 a2 a3 a4 a5 a6 a7 a8 x0) (fun x => f x) (fun x r h => IH x r h) (by kernel_rfl) (by kernel_rfl)
theorem nl_slices_IndexFunc_uint64_uint64_frame_bare_1 : ∀ v, (en_slices_IndexFunc_uint64_uint64_frame_bare_1 v).noLst := fun _ => trivial
noncomputable def t_slices_IndexFunc_uint64_uint64_frame_bare_1 (a0 : List Int) (a1 : Int) (a2 : Int) (a3 : List Int) (a4 : List Int) (a5 : Int) (a6 : Int) (a7 : List Int) (a8 : List Bool) : Tr F_slices_IndexFunc_uint64_uint64_frame_bare_1 Empty Int :=
 .len 8 eU a0 <| .loopR 4 id ⟨_, _, _, _, _, ok_slices_IndexFunc_uint64_uint64_frame_bare_1_l0 a0 a1 a2 a3 a4 a5 a6 a7 a8 0⟩ fun j2 => .ret 6 (-1)
noncomputable def s_slices_IndexFunc_uint64_uint64_frame_bare_1 (a0 : List Int) (a1 : Int) (a2 : Int) (a3 : List Int) (a4 : List Int) (a5 : Int) (a6 : Int) (a7 : List Int) (a8 : List Bool) : Sg Tryz.prog Int := ⟨189, M_slices_IndexFunc_uint64_uint64_frame_bare_1 a0 a1 a2 a3 a4 a5 a6 a7 a8, [.lst (List.map (D.int .u64) a0), .clo (.func 153) [] [.cp [.int .i64 a1, .int .i64 a2, .lst (List.map (D.int .i64) a3), .lst (List.map (D.int .i64) a4), .int .i64 a5, .int .i64 a6, .lst (List.map (D.int .u64) a7), .lst (List.map D.bool a8)] 0]], en_slices_IndexFunc_uint64_uint64_frame_bare_1⟩
theorem ok_slices_IndexFunc_uint64_uint64_frame_bare_1 (a0 : List Int) (a1 : Int) (a2 : Int) (a3 : List Int) (a4 : List Int) (a5 : Int) (a6 : Int) (a7 : List Int) (a8 : List Bool) : (s_slices_IndexFunc_uint64_uint64_frame_bare_1 a0 a1 a2 a3 a4 a5 a6 a7 a8).Holds := Tr.fn (F := F_slices_IndexFunc_uint64_uint64_frame_bare_1) (t_slices_IndexFunc_uint64_uint64_frame_bare_1 a0 a1 a2 a3 a4 a5 a6 a7 a8) (by kernel_rfl) (by kernel_rfl) (by kernel_rfl) (by kernel_rfl)
/-- slices.ContainsFunc[[]uint64,uint64]. -/
def en_slices_ContainsFunc_uint64_uint64_frame_bare_1 (v : Bool) : PV := bB v
noncomputable abbrev F_slices_ContainsFunc_uint64_uint64_frame_bare_1 : Fe := .of Tryz.prog 152 en_slices_ContainsFunc_uint64_uint64_frame_bare_1
theorem nl_slices_ContainsFunc_uint64_uint64_frame_bare_1 : ∀ v, (en_slices_ContainsFunc_uint64_uint64_frame_bare_1 v).noLst := fun _ => trivial
noncomputable def t_slices_ContainsFunc_uint64_uint64_frame_bare_1 (a0 : List Int) (a1 : Int) (a2 : Int) (a3 : List Int) (a4 : List Int) (a5 : Int) (a6 : Int) (a7 : List Int) (a8 : List Bool) : Tr F_slices_ContainsFunc_uint64_uint64_frame_bare_1 Empty Bool :=
 .call 8 (ok_slices_IndexFunc_uint64_uint64_frame_bare_1 a0 a1 a2 a3 a4 a5 a6 a7 a8) nl_slices_IndexFunc_uint64_uint64_frame_bare_1 fun r1 => .ret 4 (decide (r1 ≥ 0))
noncomputable def s_slices_ContainsFunc_uint64_uint64_frame_bare_1 (a0 : List Int) (a1 : Int) (a2 : Int) (a3 : List Int) (a4 : List Int) (a5 : Int) (a6 : Int) (a7 : List Int) (a8 : List Bool) : Sg Tryz.prog Bool := ⟨152, M_slices_ContainsFunc_uint64_uint64_frame_bare_1 a0 a1 a2 a3 a4 a5 a6 a7 a8, [.lst (List.map (D.int .u64) a0), .clo (.func 153) [] [.cp [.int .i64 a1, .int .i64 a2, .lst (List.map (D.int .i64) a3), .lst (List.map (D.int .i64) a4), .int .i64 a5, .int .i64 a6, .lst (List.map (D.int .u64) a7), .lst (List.map D.bool a8)] 0]], en_slices_ContainsFunc_uint64_uint64_frame_bare_1⟩
theorem ok_slices_ContainsFunc_uint64_uint64_frame_bare_1 (a0 : List Int) (a1 : Int) (a2 : Int) (a3 : List Int) (a4 : List Int) (a5 : Int) (a6 : Int) (a7 : List Int) (a8 : List Bool) : (s_slices_ContainsFunc_uint64_uint64_frame_bare_1 a0 a1 a2 a3 a4 a5 a6 a7 a8).Holds := Tr.fn (F := F_slices_ContainsFunc_uint64_uint64_frame_bare_1) (t_slices_ContainsFunc_uint64_uint64_frame_bare_1 a0 a1 a2 a3 a4 a5 a6 a7 a8) (by kernel_rfl) (by kernel_rfl) (by kernel_rfl) (by kernel_rfl)
/-- thrum/frame.bare. -/
def en_frame_bare (v : Int × Int × (List Int) × (List Int) × Int × Int × (List Int) × (List Bool) × Bool) : PV := .tup [.d (.agg [.int .i64 v.1, .int .i64 v.2.1, .lst (List.map (D.int .i64) v.2.2.1), .lst (List.map (D.int .i64) v.2.2.2.1), .int .i64 v.2.2.2.2.1, .int .i64 v.2.2.2.2.2.1, .lst (List.map (D.int .u64) v.2.2.2.2.2.2.1), .lst (List.map D.bool v.2.2.2.2.2.2.2.1)]), bB v.2.2.2.2.2.2.2.2]
noncomputable abbrev F_frame_bare : Fe := .of Tryz.prog 100 en_frame_bare
noncomputable def t_frame_bare (a0 : T_api_Sent) : Tr F_frame_bare Empty (Int × Int × (List Int) × (List Int) × Int × Int × (List Int) × (List Bool) × Bool) :=
 .join 25 4 (γ := Bool) ⟨fun x => [(16, bB x)], [4, 2, 1], fun _ => [], [.s 1631, .s 31, .s 15]⟩
 (.ite 0 12 (a0.F_Dim > 0)
 (.ret 5 (decide (a0.F_Dim ≤ 4096)))
 (.ret 5 false))
 fun j1 => .ite 26 19 (a0.F_Scheme = 0)
 (.join 10 7 (γ := Bool) ⟨fun x => [(35, bB x)], [4, 2], fun _ => [], [.s 1631, .s 31]⟩
 (.iteB 0 28 (j1)
 (.len 2 eI a0.F_V <| .ret 5 ((a0.F_V.length : Int) == a0.F_Dim))
 (.ret 8 false))
 fun j2 => .ret 24 (0, 0, a0.F_L, [], a0.F_Scale, a0.F_Wide, a0.F_Lev, a0.F_Neg, j2))
 (.ite 8 21 (a0.F_Scheme = 1)
 (.join 12 7 (γ := Bool) ⟨fun x => [(45, bB x)], [4, 2, 1], fun _ => [], [.s 1631, .s 31, .s 15]⟩
 (.iteB 0 38 (j1)
 (.call 4 (ok_index_Check a0.F_Dim a0.F_L) nl_index_Check fun r3 => .ret 3 (r3 == 0))
 (.ret 8 false))
 fun j4 => .join 1 8 (γ := Bool) ⟨fun x => [(54, bB x)], [4, 2], fun _ => [], [.s 1631, .s 31]⟩
 (.iteB 0 46 (j4)
 (.len 2 eI a0.F_L <| .len 2 eI a0.F_V <| .ret 3 ((a0.F_L.length : Int) == (a0.F_V.length : Int)))
 (.ret 9 false))
 fun j5 => .ret 24 (0, 0, [], [], a0.F_Scale, a0.F_Wide, a0.F_Lev, a0.F_Neg, j5))
 (.ite 8 23 (a0.F_Scheme = 2)
 (.join 13 4 (γ := Bool) ⟨fun x => [(62, bB x)], [4, 2, 1], fun _ => [], [.s 1631, .s 31, .s 15]⟩
 (.iteB 0 58 (j1)
 (.ret 5 (decide (a0.F_Wide > 0)))
 (.ret 5 false))
 fun j6 => .join 1 4 (γ := Bool) ⟨fun x => [(67, bB x)], [4, 2, 1], fun _ => [], [.s 1631, .s 31, .s 15]⟩
 (.iteB 0 63 (j6)
 (.ret 5 (decide (a0.F_Wide ≤ 8)))
 (.ret 5 false))
 fun j7 => .join 1 7 (γ := Bool) ⟨fun x => [(75, bB x)], [4, 2, 1], fun _ => [], [.s 1631, .s 31, .s 15]⟩
 (.iteB 0 68 (j7)
 (.len 2 eU a0.F_Lev <| .ret 5 ((a0.F_Lev.length : Int) == a0.F_Dim))
 (.ret 8 false))
 fun j8 => .join 1 6 (γ := Bool) ⟨fun x => [(82, bB x)], [4, 2, 1], fun _ => [], [.s 1631, .s 31, .s 15]⟩
 (.iteB 0 76 (j8)
 (.call 3 (ok_slices_ContainsFunc_uint64_uint64_frame_bare_1 a0.F_Lev a0.F_Scheme a0.F_Dim a0.F_L a0.F_V a0.F_Scale a0.F_Wide a0.F_Lev a0.F_Neg) nl_slices_ContainsFunc_uint64_uint64_frame_bare_1 fun r9 => .ret 3 (!r9))
 (.ret 7 false))
 fun j10 => .join 14 4 (γ := Bool) ⟨fun x => [(90, bB x)], [4, 2, 1], fun _ => [], [.s 1631, .s 31, .s 15]⟩
 (.iteB 0 86 (j10)
 (.ret 5 (decide (a0.F_Scale ≥ 0)))
 (.ret 5 false))
 fun j11 => .join 1 7 (γ := Bool) ⟨fun x => [(98, bB x)], [4, 2], fun _ => [], [.s 1631, .s 31]⟩
 (.iteB 0 91 (j11)
 (.len 2 eB a0.F_Neg <| .ret 5 ((a0.F_Neg.length : Int) == a0.F_Dim))
 (.ret 8 false))
 fun j12 => .ret 20 (0, 0, a0.F_L, a0.F_V, 0, 0, [], [], j12))
 (.ite 7 25 (a0.F_Scheme = 3)
 (.join 15 4 (γ := Bool) ⟨fun x => [(90, bB x)], [4, 2, 1], fun _ => [], [.s 1631, .s 31, .s 15]⟩
 (.iteB 0 86 (j1)
 (.ret 5 (decide (a0.F_Scale ≥ 0)))
 (.ret 5 false))
 fun j13 => .join 1 7 (γ := Bool) ⟨fun x => [(98, bB x)], [4, 2], fun _ => [], [.s 1631, .s 31]⟩
 (.iteB 0 91 (j13)
 (.len 2 eB a0.F_Neg <| .ret 5 ((a0.F_Neg.length : Int) == a0.F_Dim))
 (.ret 8 false))
 fun j14 => .ret 20 (0, 0, a0.F_L, a0.F_V, 0, a0.F_Wide, a0.F_Lev, [], j14))
 (.ret 26 (0, 0, a0.F_L, a0.F_V, a0.F_Scale, a0.F_Wide, a0.F_Lev, a0.F_Neg, false)))))
noncomputable def s_frame_bare (a0 : T_api_Sent) : Sg Tryz.prog (Int × Int × (List Int) × (List Int) × Int × Int × (List Int) × (List Bool) × Bool) := ⟨100, M_frame_bare a0, [.agg [.int .i64 a0.F_Scheme, .int .i64 a0.F_Dim, .lst (List.map (D.int .i64) a0.F_L), .lst (List.map (D.int .i64) a0.F_V), .int .i64 a0.F_Scale, .int .i64 a0.F_Wide, .lst (List.map (D.int .u64) a0.F_Lev), .lst (List.map D.bool a0.F_Neg)]], en_frame_bare⟩
theorem ok_frame_bare (a0 : T_api_Sent) : (s_frame_bare a0).Holds := Tr.fn (F := F_frame_bare) (t_frame_bare a0) (by kernel_rfl) (by kernel_rfl) (by kernel_rfl) (by kernel_rfl)
/-- slices.Equal[[]int,int]. -/
def en_slices_Equal_int_int (v : Bool) : PV := bB v
noncomputable abbrev F_slices_Equal_int_int : Fe := .of Tryz.prog 132 en_slices_Equal_int_int
def S_slices_Equal_int_int_l0 (a0 : List Int) (a1 : List Int) (x0 : Int) : St := ⟨[(13, nI x0), (12, nI (a0.length : Int)), (0, lI a0), (1, lI a1)], []⟩
def E_slices_Equal_int_int_l0 (a0 : List Int) (a1 : List Int) (x : Unit) : St := ⟨[], []⟩
noncomputable def t_slices_Equal_int_int_l0 (a0 : List Int) (a1 : List Int) (x0 : Int) : Tr F_slices_Equal_int_int Int (Sum Bool Unit) :=
 .ite 6 14 (x0 < (a0.length : Int))
 (.idx 13 eI a0 x0 <| .idx 3 eI a1 x0 <| .iteN 3 24 ((at' a0 x0) = (at' a1 x0))
 (.ret 9 (.inl false))
 (.again 7 (IntKind.i64.wrap (x0 + 1))))
 (.ret 4 (.inr ()))
theorem ok_slices_Equal_int_int_l0 (a0 : List Int) (a1 : List Int) (x0 : Int) : Ok (M_slices_Equal_int_int_l0 a0 a1 x0) fun v => go Tryz.prog F_slices_Equal_int_int.N (PostR (fun r => Fnl F_slices_Equal_int_int.res (F_slices_Equal_int_int.en r) (F_slices_Equal_int_int.bx r)) (.exit 0) (E_slices_Equal_int_int_l0 a0 a1) v) [.l (lpA Tryz.prog 132 0)] .norm (S_slices_Equal_int_int_l0 a0 a1 x0) := by
 refine M_slices_Equal_int_int_l0.partial_correctness a0 a1 (fun x0 v => go Tryz.prog F_slices_Equal_int_int.N (PostR (fun r => Fnl F_slices_Equal_int_int.res (F_slices_Equal_int_int.en r) (F_slices_Equal_int_int.bx r)) (.exit 0) (E_slices_Equal_int_int_l0 a0 a1) v) [.l (lpA Tryz.prog 132 0)] .norm (S_slices_Equal_int_int_l0 a0 a1 x0)) ?_ x0
 clear x0
 intro f IH x0
 exact Tr.lpR (F := F_slices_Equal_int_int) (S := fun x => S_slices_Equal_int_int_l0 a0 a1 x) (S' := E_slices_Equal_int_int_l0 a0 a1) (t_slices_Equal_int_int_l0 a0 a1 x0) (fun x => f x) (fun x r h => IH x r h) (by kernel_rfl) (by kernel_rfl)
theorem nl_slices_Equal_int_int : ∀ v, (en_slices_Equal_int_int v).noLst := fun _ => trivial
noncomputable def t_slices_Equal_int_int (a0 : List Int) (a1 : List Int) : Tr F_slices_Equal_int_int Empty Bool :=
 .len 8 eI a0 <| .len 1 eI a1 <| .iteN 2 10 ((a0.length : Int) = (a1.length : Int))
 (.ret 7 false)
 (.len 6 eI a0 <| .loopR 4 id ⟨_, _, _, _, _, ok_slices_Equal_int_int_l0 a0 a1 0⟩ fun j1 => .ret 6 true)
noncomputable def s_slices_Equal_int_int (a0 : List Int) (a1 : List Int) : Sg Tryz.prog Bool := ⟨132, M_slices_Equal_int_int a0 a1, [.lst (List.map (D.int .i64) a0), .lst (List.map (D.int .i64) a1)], en_slices_Equal_int_int⟩
theorem ok_slices_Equal_int_int (a0 : List Int) (a1 : List Int) : (s_slices_Equal_int_int a0 a1).Holds := Tr.fn (F := F_slices_Equal_int_int) (t_slices_Equal_int_int a0 a1) (by kernel_rfl) (by kernel_rfl) (by kernel_rfl) (by kernel_rfl)
/-- slices.Equal[[]int64,int64]. -/
def en_slices_Equal_int64_int64 (v : Bool) : PV := bB v
noncomputable abbrev F_slices_Equal_int64_int64 : Fe := .of Tryz.prog 47 en_slices_Equal_int64_int64
def S_slices_Equal_int64_int64_l0 (a0 : List Int) (a1 : List Int) (x0 : Int) : St := ⟨[(13, nI x0), (12, nI (a0.length : Int)), (0, lI a0), (1, lI a1)], []⟩
def E_slices_Equal_int64_int64_l0 (a0 : List Int) (a1 : List Int) (x : Unit) : St := ⟨[], []⟩
noncomputable def t_slices_Equal_int64_int64_l0 (a0 : List Int) (a1 : List Int) (x0 : Int) : Tr F_slices_Equal_int64_int64 Int (Sum Bool Unit) :=
 .ite 6 14 (x0 < (a0.length : Int))
 (.idx 13 eI a0 x0 <| .idx 3 eI a1 x0 <| .iteN 3 24 ((at' a0 x0) = (at' a1 x0))
 (.ret 9 (.inl false))
 (.again 7 (IntKind.i64.wrap (x0 + 1))))
 (.ret 4 (.inr ()))
theorem ok_slices_Equal_int64_int64_l0 (a0 : List Int) (a1 : List Int) (x0 : Int) : Ok (M_slices_Equal_int64_int64_l0 a0 a1 x0) fun v => go Tryz.prog F_slices_Equal_int64_int64.N (PostR (fun r => Fnl F_slices_Equal_int64_int64.res (F_slices_Equal_int64_int64.en r) (F_slices_Equal_int64_int64.bx r)) (.exit 0) (E_slices_Equal_int64_int64_l0 a0 a1) v) [.l (lpA Tryz.prog 47 0)] .norm (S_slices_Equal_int64_int64_l0 a0 a1 x0) := by
 refine M_slices_Equal_int64_int64_l0.partial_correctness a0 a1 (fun x0 v => go Tryz.prog F_slices_Equal_int64_int64.N (PostR (fun r => Fnl F_slices_Equal_int64_int64.res (F_slices_Equal_int64_int64.en r) (F_slices_Equal_int64_int64.bx r)) (.exit 0) (E_slices_Equal_int64_int64_l0 a0 a1) v) [.l (lpA Tryz.prog 47 0)] .norm (S_slices_Equal_int64_int64_l0 a0 a1 x0)) ?_ x0
 clear x0
 intro f IH x0
 exact Tr.lpR (F := F_slices_Equal_int64_int64) (S := fun x => S_slices_Equal_int64_int64_l0 a0 a1 x) (S' := E_slices_Equal_int64_int64_l0 a0 a1) (t_slices_Equal_int64_int64_l0 a0 a1 x0) (fun x => f x) (fun x r h => IH x r h) (by kernel_rfl) (by kernel_rfl)
theorem nl_slices_Equal_int64_int64 : ∀ v, (en_slices_Equal_int64_int64 v).noLst := fun _ => trivial
noncomputable def t_slices_Equal_int64_int64 (a0 : List Int) (a1 : List Int) : Tr F_slices_Equal_int64_int64 Empty Bool :=
 .len 8 eI a0 <| .len 1 eI a1 <| .iteN 2 10 ((a0.length : Int) = (a1.length : Int))
 (.ret 7 false)
 (.len 6 eI a0 <| .loopR 4 id ⟨_, _, _, _, _, ok_slices_Equal_int64_int64_l0 a0 a1 0⟩ fun j1 => .ret 6 true)
noncomputable def s_slices_Equal_int64_int64 (a0 : List Int) (a1 : List Int) : Sg Tryz.prog Bool := ⟨47, M_slices_Equal_int64_int64 a0 a1, [.lst (List.map (D.int .i64) a0), .lst (List.map (D.int .i64) a1)], en_slices_Equal_int64_int64⟩
theorem ok_slices_Equal_int64_int64 (a0 : List Int) (a1 : List Int) : (s_slices_Equal_int64_int64 a0 a1).Holds := Tr.fn (F := F_slices_Equal_int64_int64) (t_slices_Equal_int64_int64 a0 a1) (by kernel_rfl) (by kernel_rfl) (by kernel_rfl) (by kernel_rfl)
/-- slices.Equal[[]uint64,uint64]. -/
def en_slices_Equal_uint64_uint64 (v : Bool) : PV := bB v
noncomputable abbrev F_slices_Equal_uint64_uint64 : Fe := .of Tryz.prog 155 en_slices_Equal_uint64_uint64
def S_slices_Equal_uint64_uint64_l0 (a0 : List Int) (a1 : List Int) (x0 : Int) : St := ⟨[(13, nI x0), (12, nI (a0.length : Int)), (0, lU a0), (1, lU a1)], []⟩
def E_slices_Equal_uint64_uint64_l0 (a0 : List Int) (a1 : List Int) (x : Unit) : St := ⟨[], []⟩
noncomputable def t_slices_Equal_uint64_uint64_l0 (a0 : List Int) (a1 : List Int) (x0 : Int) : Tr F_slices_Equal_uint64_uint64 Int (Sum Bool Unit) :=
 .ite 6 14 (x0 < (a0.length : Int))
 (.idx 13 eU a0 x0 <| .idx 3 eU a1 x0 <| .iteN 3 24 ((at' a0 x0) = (at' a1 x0))
 (.ret 9 (.inl false))
 (.again 7 (IntKind.i64.wrap (x0 + 1))))
 (.ret 4 (.inr ()))
theorem ok_slices_Equal_uint64_uint64_l0 (a0 : List Int) (a1 : List Int) (x0 : Int) : Ok (M_slices_Equal_uint64_uint64_l0 a0 a1 x0) fun v => go Tryz.prog F_slices_Equal_uint64_uint64.N (PostR (fun r => Fnl F_slices_Equal_uint64_uint64.res (F_slices_Equal_uint64_uint64.en r) (F_slices_Equal_uint64_uint64.bx r)) (.exit 0) (E_slices_Equal_uint64_uint64_l0 a0 a1) v) [.l (lpA Tryz.prog 155 0)] .norm (S_slices_Equal_uint64_uint64_l0 a0 a1 x0) := by
 refine M_slices_Equal_uint64_uint64_l0.partial_correctness a0 a1 (fun x0 v => go Tryz.prog F_slices_Equal_uint64_uint64.N (PostR (fun r => Fnl F_slices_Equal_uint64_uint64.res (F_slices_Equal_uint64_uint64.en r) (F_slices_Equal_uint64_uint64.bx r)) (.exit 0) (E_slices_Equal_uint64_uint64_l0 a0 a1) v) [.l (lpA Tryz.prog 155 0)] .norm (S_slices_Equal_uint64_uint64_l0 a0 a1 x0)) ?_ x0
 clear x0
 intro f IH x0
 exact Tr.lpR (F := F_slices_Equal_uint64_uint64) (S := fun x => S_slices_Equal_uint64_uint64_l0 a0 a1 x) (S' := E_slices_Equal_uint64_uint64_l0 a0 a1) (t_slices_Equal_uint64_uint64_l0 a0 a1 x0) (fun x => f x) (fun x r h => IH x r h) (by kernel_rfl) (by kernel_rfl)
theorem nl_slices_Equal_uint64_uint64 : ∀ v, (en_slices_Equal_uint64_uint64 v).noLst := fun _ => trivial
noncomputable def t_slices_Equal_uint64_uint64 (a0 : List Int) (a1 : List Int) : Tr F_slices_Equal_uint64_uint64 Empty Bool :=
 .len 8 eU a0 <| .len 1 eU a1 <| .iteN 2 10 ((a0.length : Int) = (a1.length : Int))
 (.ret 7 false)
 (.len 6 eU a0 <| .loopR 4 id ⟨_, _, _, _, _, ok_slices_Equal_uint64_uint64_l0 a0 a1 0⟩ fun j1 => .ret 6 true)
noncomputable def s_slices_Equal_uint64_uint64 (a0 : List Int) (a1 : List Int) : Sg Tryz.prog Bool := ⟨155, M_slices_Equal_uint64_uint64 a0 a1, [.lst (List.map (D.int .u64) a0), .lst (List.map (D.int .u64) a1)], en_slices_Equal_uint64_uint64⟩
theorem ok_slices_Equal_uint64_uint64 (a0 : List Int) (a1 : List Int) : (s_slices_Equal_uint64_uint64 a0 a1).Holds := Tr.fn (F := F_slices_Equal_uint64_uint64) (t_slices_Equal_uint64_uint64 a0 a1) (by kernel_rfl) (by kernel_rfl) (by kernel_rfl) (by kernel_rfl)
/-- slices.Equal[[]bool,bool]. -/
def en_slices_Equal_bool_bool (v : Bool) : PV := bB v
noncomputable abbrev F_slices_Equal_bool_bool : Fe := .of Tryz.prog 145 en_slices_Equal_bool_bool
def S_slices_Equal_bool_bool_l0 (a0 : List Bool) (a1 : List Bool) (x0 : Int) : St := ⟨[(13, nI x0), (12, nI (a0.length : Int)), (0, lB a0), (1, lB a1)], []⟩
def E_slices_Equal_bool_bool_l0 (a0 : List Bool) (a1 : List Bool) (x : Unit) : St := ⟨[], []⟩
noncomputable def t_slices_Equal_bool_bool_l0 (a0 : List Bool) (a1 : List Bool) (x0 : Int) : Tr F_slices_Equal_bool_bool Int (Sum Bool Unit) :=
 .ite 6 14 (x0 < (a0.length : Int))
 (.idx 13 eB a0 x0 <| .idx 3 eB a1 x0 <| .iteN 3 24 ((at' a0 x0) = (at' a1 x0))
 (.ret 9 (.inl false))
 (.again 7 (IntKind.i64.wrap (x0 + 1))))
 (.ret 4 (.inr ()))
theorem ok_slices_Equal_bool_bool_l0 (a0 : List Bool) (a1 : List Bool) (x0 : Int) : Ok (M_slices_Equal_bool_bool_l0 a0 a1 x0) fun v => go Tryz.prog F_slices_Equal_bool_bool.N (PostR (fun r => Fnl F_slices_Equal_bool_bool.res (F_slices_Equal_bool_bool.en r) (F_slices_Equal_bool_bool.bx r)) (.exit 0) (E_slices_Equal_bool_bool_l0 a0 a1) v) [.l (lpA Tryz.prog 145 0)] .norm (S_slices_Equal_bool_bool_l0 a0 a1 x0) := by
 refine M_slices_Equal_bool_bool_l0.partial_correctness a0 a1 (fun x0 v => go Tryz.prog F_slices_Equal_bool_bool.N (PostR (fun r => Fnl F_slices_Equal_bool_bool.res (F_slices_Equal_bool_bool.en r) (F_slices_Equal_bool_bool.bx r)) (.exit 0) (E_slices_Equal_bool_bool_l0 a0 a1) v) [.l (lpA Tryz.prog 145 0)] .norm (S_slices_Equal_bool_bool_l0 a0 a1 x0)) ?_ x0
 clear x0
 intro f IH x0
 exact Tr.lpR (F := F_slices_Equal_bool_bool) (S := fun x => S_slices_Equal_bool_bool_l0 a0 a1 x) (S' := E_slices_Equal_bool_bool_l0 a0 a1) (t_slices_Equal_bool_bool_l0 a0 a1 x0) (fun x => f x) (fun x r h => IH x r h) (by kernel_rfl) (by kernel_rfl)
theorem nl_slices_Equal_bool_bool : ∀ v, (en_slices_Equal_bool_bool v).noLst := fun _ => trivial
noncomputable def t_slices_Equal_bool_bool (a0 : List Bool) (a1 : List Bool) : Tr F_slices_Equal_bool_bool Empty Bool :=
 .len 8 eB a0 <| .len 1 eB a1 <| .iteN 2 10 ((a0.length : Int) = (a1.length : Int))
 (.ret 7 false)
 (.len 6 eB a0 <| .loopR 4 id ⟨_, _, _, _, _, ok_slices_Equal_bool_bool_l0 a0 a1 0⟩ fun j1 => .ret 6 true)
noncomputable def s_slices_Equal_bool_bool (a0 : List Bool) (a1 : List Bool) : Sg Tryz.prog Bool := ⟨145, M_slices_Equal_bool_bool a0 a1, [.lst (List.map D.bool a0), .lst (List.map D.bool a1)], en_slices_Equal_bool_bool⟩
theorem ok_slices_Equal_bool_bool (a0 : List Bool) (a1 : List Bool) : (s_slices_Equal_bool_bool a0 a1).Holds := Tr.fn (F := F_slices_Equal_bool_bool) (t_slices_Equal_bool_bool a0 a1) (by kernel_rfl) (by kernel_rfl) (by kernel_rfl) (by kernel_rfl)
/-- thrum/frame.same. -/
def en_frame_same (v : Bool) : PV := bB v
noncomputable abbrev F_frame_same : Fe := .of Tryz.prog 101 en_frame_same
theorem nl_frame_same : ∀ v, (en_frame_same v).noLst := fun _ => trivial
noncomputable def t_frame_same (a0 : T_api_Sent) (a1 : T_api_Sent) : Tr F_frame_same Empty Bool :=
 .join 28 6 (γ := Bool) ⟨fun x => [(30, bB x)], [3, 2], fun _ => [], [.s 31, .s 15]⟩
 (.iteP 0 24 (show (([a0.F_Scheme, a0.F_Dim, a0.F_Scale, a0.F_Wide] : List Int) == [a1.F_Scheme, a1.F_Dim, a1.F_Scale, a1.F_Wide]) = decide (([a0.F_Scheme, a0.F_Dim, a0.F_Scale, a0.F_Wide] : List Int) = [a1.F_Scheme, a1.F_Dim, a1.F_Scale, a1.F_Wide]) from decL)
 (.call 4 (ok_slices_Equal_int_int a0.F_L a1.F_L) nl_slices_Equal_int_int fun r1 => .ret 2 r1)
 (.ret 7 false))
 fun j2 => .join 1 6 (γ := Bool) ⟨fun x => [(37, bB x)], [3, 2], fun _ => [], [.s 31, .s 15]⟩
 (.iteB 0 31 (j2)
 (.call 4 (ok_slices_Equal_int64_int64 a0.F_V a1.F_V) nl_slices_Equal_int64_int64 fun r3 => .ret 2 r3)
 (.ret 7 false))
 fun j4 => .join 1 6 (γ := Bool) ⟨fun x => [(44, bB x)], [3, 2], fun _ => [], [.s 31, .s 15]⟩
 (.iteB 0 38 (j4)
 (.call 4 (ok_slices_Equal_uint64_uint64 a0.F_Lev a1.F_Lev) nl_slices_Equal_uint64_uint64 fun r5 => .ret 2 r5)
 (.ret 7 false))
 fun j6 => .join 1 6 (γ := Bool) ⟨fun x => [(51, bB x)], [], fun _ => [], []⟩
 (.iteB 0 45 (j6)
 (.call 4 (ok_slices_Equal_bool_bool a0.F_Neg a1.F_Neg) nl_slices_Equal_bool_bool fun r7 => .ret 2 r7)
 (.ret 7 false))
 fun j8 => .ret 3 j8
noncomputable def s_frame_same (a0 : T_api_Sent) (a1 : T_api_Sent) : Sg Tryz.prog Bool := ⟨101, M_frame_same a0 a1, [.agg [.int .i64 a0.F_Scheme, .int .i64 a0.F_Dim, .lst (List.map (D.int .i64) a0.F_L), .lst (List.map (D.int .i64) a0.F_V), .int .i64 a0.F_Scale, .int .i64 a0.F_Wide, .lst (List.map (D.int .u64) a0.F_Lev), .lst (List.map D.bool a0.F_Neg)], .agg [.int .i64 a1.F_Scheme, .int .i64 a1.F_Dim, .lst (List.map (D.int .i64) a1.F_L), .lst (List.map (D.int .i64) a1.F_V), .int .i64 a1.F_Scale, .int .i64 a1.F_Wide, .lst (List.map (D.int .u64) a1.F_Lev), .lst (List.map D.bool a1.F_Neg)]], en_frame_same⟩
theorem ok_frame_same (a0 : T_api_Sent) (a1 : T_api_Sent) : (s_frame_same a0 a1).Holds := Tr.fn (F := F_frame_same) (t_frame_same a0 a1) (by kernel_rfl) (by kernel_rfl) (by kernel_rfl) (by kernel_rfl)
/-- thrum/frame.May. -/
def en_frame_May (v : Bool) : PV := bB v
noncomputable abbrev F_frame_May : Fe := .of Tryz.prog 42 en_frame_May
theorem nl_frame_May : ∀ v, (en_frame_May v).noLst := fun _ => trivial
noncomputable def t_frame_May (a0 : T_api_Sent) : Tr F_frame_May Empty Bool :=
 .callZ 8 (ok_frame_bare a0) fun r1 => .join 11 4 (γ := Bool) ⟨fun x => [(15, bB x)], [], fun _ => [], []⟩
 (.iteB 0 11 (r1.2.2.2.2.2.2.2.2)
 (.call 2 (ok_frame_same (⟨r1.1, r1.2.1, r1.2.2.1, r1.2.2.2.1, r1.2.2.2.2.1, r1.2.2.2.2.2.1, r1.2.2.2.2.2.2.1, r1.2.2.2.2.2.2.2.1⟩ : T_api_Sent) (⟨0, 0, [], [], 0, 0, [], []⟩ : T_api_Sent)) nl_frame_same fun r2 => .ret 2 r2)
 (.ret 5 false))
 fun j3 => .ret 3 j3
noncomputable def s_frame_May (a0 : T_api_Sent) : Sg Tryz.prog Bool := ⟨42, M_frame_May a0, [.agg [.int .i64 a0.F_Scheme, .int .i64 a0.F_Dim, .lst (List.map (D.int .i64) a0.F_L), .lst (List.map (D.int .i64) a0.F_V), .int .i64 a0.F_Scale, .int .i64 a0.F_Wide, .lst (List.map (D.int .u64) a0.F_Lev), .lst (List.map D.bool a0.F_Neg)]], en_frame_May⟩
theorem ok_frame_May (a0 : T_api_Sent) : (s_frame_May a0).Holds := Tr.fn (F := F_frame_May) (t_frame_May a0) (by kernel_rfl) (by kernel_rfl) (by kernel_rfl) (by kernel_rfl)
/-- thrum/press.ways$1. -/
def en_press_ways_1 (v : (List Int) × Int) : PV := .tup [sI (.s 0) v.1, nI v.2]
noncomputable abbrev F_press_ways_1 : Fe := .of Tryz.prog 71 en_press_ways_1
theorem nl_press_ways_1 : ∀ v, (en_press_ways_1 v).noLst := fun _ => ⟨(flat_map_of fun _ => trivial), trivial, trivial⟩
noncomputable def t_press_ways_1 (a0 : T_api_Sent) : Tr F_press_ways_1 Empty ((List Int) × Int) :=
 .call 10 (ok_slices_Clone_int64_int64 a0.F_V) nl_slices_Clone_int64_int64 fun r1 => .ret 4 (r1, 0)
noncomputable def s_press_ways_1 (a0 : T_api_Sent) : Sg Tryz.prog ((List Int) × Int) := ⟨71, M_press_ways_1 a0, [.agg [.int .i64 a0.F_Scheme, .int .i64 a0.F_Dim, .lst (List.map (D.int .i64) a0.F_L), .lst (List.map (D.int .i64) a0.F_V), .int .i64 a0.F_Scale, .int .i64 a0.F_Wide, .lst (List.map (D.int .u64) a0.F_Lev), .lst (List.map D.bool a0.F_Neg)]], en_press_ways_1⟩
theorem ok_press_ways_1 (a0 : T_api_Sent) : (s_press_ways_1 a0).Holds := Tr.fn (F := F_press_ways_1) (t_press_ways_1 a0) (by kernel_rfl) (by kernel_rfl) (by kernel_rfl) (by kernel_rfl)
/-- thrum/index.Spread. -/
def en_index_Spread (v : (List Int) × Int) : PV := .tup [sI (.s 0) v.1, nI v.2]
noncomputable abbrev F_index_Spread : Fe := .of Tryz.prog 78 en_index_Spread
def S_index_Spread_l0 (a1 : List Int) (a2 : List Int) (x0 : Int) (x1 : List Int) : St := ⟨[(29, nI x0), (28, nI (a1.length : Int)), (27, lI a1), (9, sI (.h 0) x1), (2, lI a2)], []⟩
def E_index_Spread_l0 (a1 : List Int) (a2 : List Int) (x : (List Int)) : St := ⟨[(9, sI (.h 1) x)], []⟩
noncomputable def t_index_Spread_l0 (a1 : List Int) (a2 : List Int) (x0 : Int) (x1 : List Int) : Tr F_index_Spread (Int × (List Int)) (List Int) :=
 .ite 6 30 (x0 < (a1.length : Int))
 (.idx 7 eI a1 x0 <| .idx 9 eI a2 x0 <| .idx 1 eI x1 (at' a1 x0) <| .sto 0 [9] eI x1 (at' a1 x0) (at' a2 x0) <| .let_ (x1.set (Int.toNat (at' a1 x0)) (at' a2 x0) : List Int) fun y4 => .again 6 (IntKind.i64.wrap (x0 + 1), y4))
 (.ret 4 x1)
theorem ok_index_Spread_l0 (a1 : List Int) (a2 : List Int) (x0 : Int) (x1 : List Int) : Ok (M_index_Spread_l0 a1 a2 x0 x1) fun v => go Tryz.prog F_index_Spread.N (PostN (.exit 1) (E_index_Spread_l0 a1 a2) v) [.l (lpA Tryz.prog 78 0)] .norm (S_index_Spread_l0 a1 a2 x0 x1) := by
 refine M_index_Spread_l0.partial_correctness a1 a2 (fun x0 x1 v => go Tryz.prog F_index_Spread.N (PostN (.exit 1) (E_index_Spread_l0 a1 a2) v) [.l (lpA Tryz.prog 78 0)] .norm (S_index_Spread_l0 a1 a2 x0 x1)) ?_ x0 x1
 clear x0 x1
 intro f IH x0 x1
 exact Tr.lpN (F := F_index_Spread) (S := fun x => S_index_Spread_l0 a1 a2 x.1 x.2) (S' := E_index_Spread_l0 a1 a2) (t_index_Spread_l0 a1 a2 x0 x1) (fun x => f x.1 x.2) (fun x r h => IH x.1 x.2 r h) (by kernel_rfl) (by kernel_rfl)
theorem nl_index_Spread : ∀ v, (en_index_Spread v).noLst := fun _ => ⟨(flat_map_of fun _ => trivial), trivial, trivial⟩
noncomputable def t_index_Spread (a0 : Int) (a1 : List Int) (a2 : List Int) : Tr F_index_Spread Empty ((List Int) × Int) :=
 .call 10 (ok_index_Check a0 a1) nl_index_Check fun r1 => .iteN 9 15 (r1 = 0)
 (.ret 10 ([], r1))
 (.len 4 eI a1 <| .len 1 eI a2 <| .iteN 3 19 ((a1.length : Int) = (a2.length : Int))
 (.ret 9 ([], 4))
 (.mk 6 eI 8 0 a0 a0 <| .let_ (List.replicate (Int.toNat a0) 0 : List Int) fun y2 => .len 6 eI a1 <| .loop 4 ⟨_, _, _, _, _, ok_index_Spread_l0 a1 a2 0 y2⟩ fun j6 => .ret 8 (j6, 0)))
noncomputable def s_index_Spread (a0 : Int) (a1 : List Int) (a2 : List Int) : Sg Tryz.prog ((List Int) × Int) := ⟨78, M_index_Spread a0 a1 a2, [.int .i64 a0, .lst (List.map (D.int .i64) a1), .lst (List.map (D.int .i64) a2)], en_index_Spread⟩
theorem ok_index_Spread (a0 : Int) (a1 : List Int) (a2 : List Int) : (s_index_Spread a0 a1 a2).Holds := Tr.fn (F := F_index_Spread) (t_index_Spread a0 a1 a2) (by kernel_rfl) (by kernel_rfl) (by kernel_rfl) (by kernel_rfl)
/-- thrum/press.ways$5. -/
def en_press_ways_5 (v : (List Int) × Int) : PV := .tup [sI (.s 0) v.1, nI v.2]
noncomputable abbrev F_press_ways_5 : Fe := .of Tryz.prog 77 en_press_ways_5
theorem nl_press_ways_5 : ∀ v, (en_press_ways_5 v).noLst := fun _ => ⟨(flat_map_of fun _ => trivial), trivial, trivial⟩
noncomputable def t_press_ways_5 (a0 : T_api_Sent) : Tr F_press_ways_5 Empty ((List Int) × Int) :=
 .call 14 (ok_index_Spread a0.F_Dim a0.F_L a0.F_V) nl_index_Spread fun r1 => .ret 6 (r1.1, r1.2)
noncomputable def s_press_ways_5 (a0 : T_api_Sent) : Sg Tryz.prog ((List Int) × Int) := ⟨77, M_press_ways_5 a0, [.agg [.int .i64 a0.F_Scheme, .int .i64 a0.F_Dim, .lst (List.map (D.int .i64) a0.F_L), .lst (List.map (D.int .i64) a0.F_V), .int .i64 a0.F_Scale, .int .i64 a0.F_Wide, .lst (List.map (D.int .u64) a0.F_Lev), .lst (List.map D.bool a0.F_Neg)]], en_press_ways_5⟩
theorem ok_press_ways_5 (a0 : T_api_Sent) : (s_press_ways_5 a0).Holds := Tr.fn (F := F_press_ways_5) (t_press_ways_5 a0) (by kernel_rfl) (by kernel_rfl) (by kernel_rfl) (by kernel_rfl)
/-- thrum/quant.Value. -/
def en_quant_Value (v : Int × Int) : PV := .tup [nI v.1, nI v.2]
noncomputable abbrev F_quant_Value : Fe := .of Tryz.prog 138 en_quant_Value
theorem nl_quant_Value : ∀ v, (en_quant_Value v).noLst := fun _ => ⟨trivial, trivial, trivial⟩
noncomputable def t_quant_Value (a0 : Int) (a1 : Int) (a2 : Int) : Tr F_quant_Value Empty (Int × Int) :=
 .call 8 (ok_quant_Steps a2) nl_quant_Steps fun r1 => .join 12 3 (γ := Bool) ⟨fun x => [(24, bB x)], [8, 0, 1], fun _ => [], []⟩
 (.iteN 0 21 (r1.2 = 0)
 (.ret 4 true)
 (.ret 4 (decide (a1 < 0))))
 fun j2 => .join 1 4 (γ := Bool) ⟨fun x => [(29, bB x)], [8, 0, 1], fun _ => [], []⟩
 (.iteB 0 25 (j2)
 (.ret 5 true)
 (.ret 5 (decide (a0 > r1.1))))
 fun j3 => .iteB 1 29 (j3)
 (.ret 8 (0, 1))
 (.call 7 (ok_math_bits_Mul64 (IntKind.u64.wrap a1) a0) nl_math_bits_Mul64 fun r4 => .call 11 (ok_math_bits_Div64 r4.1 r4.2 r1.1) nl_math_bits_Div64 fun r5 => .ret 14 (IntKind.i64.wrap r5.1, 0))
noncomputable def s_quant_Value (a0 : Int) (a1 : Int) (a2 : Int) : Sg Tryz.prog (Int × Int) := ⟨138, M_quant_Value a0 a1 a2, [.int .u64 a0, .int .i64 a1, .int .i64 a2], en_quant_Value⟩
theorem ok_quant_Value (a0 : Int) (a1 : Int) (a2 : Int) : (s_quant_Value a0 a1 a2).Holds := Tr.fn (F := F_quant_Value) (t_quant_Value a0 a1 a2) (by kernel_rfl) (by kernel_rfl) (by kernel_rfl) (by kernel_rfl)
/-- thrum/quant.Loosen. -/
def en_quant_Loosen (v : (List Int) × Int) : PV := .tup [sI (.s 0) v.1, nI v.2]
noncomputable abbrev F_quant_Loosen : Fe := .of Tryz.prog 84 en_quant_Loosen
def S_quant_Loosen_l0 (a0 : T_api_Sent) (x0 : Int) (x1 : List Int) : St := ⟨[(23, nI x0), (22, nI (a0.F_Lev.length : Int)), (21, lU a0.F_Lev), (4, sI (.h 0) x1), (1, .ptr (.s 15) 0)], [(.s 15, [nI a0.F_Scheme, nI a0.F_Dim, lI a0.F_L, lI a0.F_V, nI a0.F_Scale, nI a0.F_Wide, lU a0.F_Lev, lB a0.F_Neg])]⟩
def E_quant_Loosen_l0 (a0 : T_api_Sent) (x : (List Int)) : St := ⟨[(4, sI (.h 1) x)], []⟩
noncomputable def t_quant_Loosen_l0 (a0 : T_api_Sent) (x0 : Int) (x1 : List Int) : Tr F_quant_Loosen (Int × (List Int)) (Sum ((List Int) × Int) (List Int)) :=
 .ite 6 24 (x0 < (a0.F_Lev.length : Int))
 (.idx 7 eU a0.F_Lev x0 <| .call 11 (ok_quant_Value (at' a0.F_Lev x0) a0.F_Scale a0.F_Wide) nl_quant_Value fun r5 => .iteN 12 38 (r5.2 = 0)
 (.ret 12 (.inl ([], r5.2)))
 (.idx 7 eI x1 x0 <| .sto 0 [4] eI x1 x0 r5.1 <| .let_ (x1.set (Int.toNat x0) r5.1 : List Int) fun y6 => .idx 6 eB a0.F_Neg x0 <| .iteB 2 48 (at' a0.F_Neg x0)
 (.idx 6 eI y6 x0 <| .sto 0 [4] eI y6 x0 (IntKind.i64.wrap (0 - r5.1)) <| .let_ (y6.set (Int.toNat x0) (IntKind.i64.wrap (0 - r5.1)) : List Int) fun y8 => .again 6 (IntKind.i64.wrap (x0 + 1), y8))
 (.again 7 (IntKind.i64.wrap (x0 + 1), y6))))
 (.ret 4 (.inr x1))
theorem ok_quant_Loosen_l0 (a0 : T_api_Sent) (x0 : Int) (x1 : List Int) : Ok (M_quant_Loosen_l0 a0 x0 x1) fun v => go Tryz.prog F_quant_Loosen.N (PostR (fun r => Fnl F_quant_Loosen.res (F_quant_Loosen.en r) (F_quant_Loosen.bx r)) (.exit 0) (E_quant_Loosen_l0 a0) v) [.l (lpA Tryz.prog 84 0)] .norm (S_quant_Loosen_l0 a0 x0 x1) := by
 refine M_quant_Loosen_l0.partial_correctness a0 (fun x0 x1 v => go Tryz.prog F_quant_Loosen.N (PostR (fun r => Fnl F_quant_Loosen.res (F_quant_Loosen.en r) (F_quant_Loosen.bx r)) (.exit 0) (E_quant_Loosen_l0 a0) v) [.l (lpA Tryz.prog 84 0)] .norm (S_quant_Loosen_l0 a0 x0 x1)) ?_ x0 x1
 clear x0 x1
 intro f IH x0 x1
 exact Tr.lpR (F := F_quant_Loosen) (S := fun x => S_quant_Loosen_l0 a0 x.1 x.2) (S' := E_quant_Loosen_l0 a0) (t_quant_Loosen_l0 a0 x0 x1) (fun x => f x.1 x.2) (fun x r h => IH x.1 x.2 r h) (by kernel_rfl) (by kernel_rfl)
theorem nl_quant_Loosen : ∀ v, (en_quant_Loosen v).noLst := fun _ => ⟨(flat_map_of fun _ => trivial), trivial, trivial⟩
noncomputable def t_quant_Loosen (a0 : T_api_Sent) : Tr F_quant_Loosen Empty ((List Int) × Int) :=
 .call 10 (ok_frame_May a0) nl_frame_May fun r1 => .join 2 4 (γ := Bool) ⟨fun x => [(16, bB x)], [1], fun _ => [], [.s 15]⟩
 (.iteX 0 12 (r1)
 (.ret 5 true)
 (.ret 5 (a0.F_Scheme != 2)))
 fun j2 => .iteB 1 16 (j2)
 (.ret 8 ([], 1))
 (.mk 6 eI 8 0 a0.F_Dim a0.F_Dim <| .let_ (List.replicate (Int.toNat a0.F_Dim) 0 : List Int) fun y3 => .len 7 eU a0.F_Lev <| .loopR 4 id ⟨_, _, _, _, _, ok_quant_Loosen_l0 a0 0 y3⟩ fun j10 => .ret 8 (j10, 0))
noncomputable def s_quant_Loosen (a0 : T_api_Sent) : Sg Tryz.prog ((List Int) × Int) := ⟨84, M_quant_Loosen a0, [.agg [.int .i64 a0.F_Scheme, .int .i64 a0.F_Dim, .lst (List.map (D.int .i64) a0.F_L), .lst (List.map (D.int .i64) a0.F_V), .int .i64 a0.F_Scale, .int .i64 a0.F_Wide, .lst (List.map (D.int .u64) a0.F_Lev), .lst (List.map D.bool a0.F_Neg)]], en_quant_Loosen⟩
theorem ok_quant_Loosen (a0 : T_api_Sent) : (s_quant_Loosen a0).Holds := Tr.fn (F := F_quant_Loosen) (t_quant_Loosen a0) (by kernel_rfl) (by kernel_rfl) (by kernel_rfl) (by kernel_rfl)
/-- thrum/sign.Loosen$1. -/
def en_sign_Loosen_1_c (v : Int) : PV := nI v
noncomputable abbrev F_sign_Loosen_1_c : Fe := .of Tryz.prog 144 en_sign_Loosen_1_c
theorem nl_sign_Loosen_1_c : ∀ v, (en_sign_Loosen_1_c v).noLst := fun _ => trivial
noncomputable def t_sign_Loosen_1_c (a0 : Bool) (a1 : Int) (a2 : Int) (a3 : List Int) (a4 : List Int) (a5 : Int) (a6 : Int) (a7 : List Int) (a8 : List Bool) : Tr F_sign_Loosen_1_c Empty Int :=
 .iteB 9 4 (a0)
 (.ret 10 (IntKind.i64.wrap (0 - a5)))
 (.ret 9 a5)
noncomputable def s_sign_Loosen_1_c (a0 : Bool) (a1 : Int) (a2 : Int) (a3 : List Int) (a4 : List Int) (a5 : Int) (a6 : Int) (a7 : List Int) (a8 : List Bool) : Sg Tryz.prog Int := ⟨144, M_sign_Loosen_1_c a0 a1 a2 a3 a4 a5 a6 a7 a8, [.bool a0, .cp [.int .i64 a1, .int .i64 a2, .lst (List.map (D.int .i64) a3), .lst (List.map (D.int .i64) a4), .int .i64 a5, .int .i64 a6, .lst (List.map (D.int .u64) a7), .lst (List.map D.bool a8)] 0], en_sign_Loosen_1_c⟩
theorem ok_sign_Loosen_1_c (a0 : Bool) (a1 : Int) (a2 : Int) (a3 : List Int) (a4 : List Int) (a5 : Int) (a6 : Int) (a7 : List Int) (a8 : List Bool) : (s_sign_Loosen_1_c a0 a1 a2 a3 a4 a5 a6 a7 a8).Holds := Tr.fn (F := F_sign_Loosen_1_c) (t_sign_Loosen_1_c a0 a1 a2 a3 a4 a5 a6 a7 a8) (by kernel_rfl) (by kernel_rfl) (by kernel_rfl) (by kernel_rfl)
/-- thrum/sign.each[bool,int64]. -/
def en_sign_each_bool_int64_sign_Loosen_1 (v : (List Int)) : PV := sI (.s 0) v
noncomputable abbrev F_sign_each_bool_int64_sign_Loosen_1 : Fe := .of Tryz.prog 143 en_sign_each_bool_int64_sign_Loosen_1
def S_sign_each_bool_int64_sign_Loosen_1_l0 (a0 : List Bool) (a1 : Int) (a2 : Int) (a3 : List Int) (a4 : List Int) (a5 : Int) (a6 : Int) (a7 : List Int) (a8 : List Bool) (x0 : Int) (x1 : List Int) : St := ⟨[(13, nI x0), (12, nI (a0.length : Int)), (11, lB a0), (5, sI (.h 0) x1), (1, .d (.clo (.func 144) [] [.cp [.int .i64 a1, .int .i64 a2, .lst (List.map (D.int .i64) a3), .lst (List.map (D.int .i64) a4), .int .i64 a5, .int .i64 a6, .lst (List.map (D.int .u64) a7), .lst (List.map D.bool a8)] 0]))], []⟩
def E_sign_each_bool_int64_sign_Loosen_1_l0 (a0 : List Bool) (a1 : Int) (a2 : Int) (a3 : List Int) (a4 : List Int) (a5 : Int) (a6 : Int) (a7 : List Int) (a8 : List Bool) (x : (List Int)) : St := ⟨[(5, sI (.h 1) x)], []⟩
noncomputable def t_sign_each_bool_int64_sign_Loosen_1_l0 (a0 : List Bool) (a1 : Int) (a2 : Int) (a3 : List Int) (a4 : List Int) (a5 : Int) (a6 : Int) (a7 : List Int) (a8 : List Bool) (x0 : Int) (x1 : List Int) : Tr F_sign_each_bool_int64_sign_Loosen_1 (Int × (List Int)) (List Int) :=
 .ite 6 14 (x0 < (a0.length : Int))
 (.idx 6 eB a0 x0 <| .call 7 (ok_sign_Loosen_1_c (at' a0 x0) a1 a2 a3 a4 a5 a6 a7 a8) nl_sign_Loosen_1_c fun r3 => .app 1 eI 8 x1 [r3] <| .again 7 (IntKind.i64.wrap (x0 + 1), x1 ++ [r3]))
 (.ret 4 x1)
theorem ok_sign_each_bool_int64_sign_Loosen_1_l0 (a0 : List Bool) (a1 : Int) (a2 : Int) (a3 : List Int) (a4 : List Int) (a5 : Int) (a6 : Int) (a7 : List Int) (a8 : List Bool) (x0 : Int) (x1 : List Int) : Ok (M_sign_each_bool_int64_sign_Loosen_1_l0 a0 a1 a2 a3 a4 a5 a6 a7 a8 x0 x1) fun v => go Tryz.prog F_sign_each_bool_int64_sign_Loosen_1.N (PostN (.exit 0) (E_sign_each_bool_int64_sign_Loosen_1_l0 a0 a1 a2 a3 a4 a5 a6 a7 a8) v) [.l (lpA Tryz.prog 143 0)] .norm (S_sign_each_bool_int64_sign_Loosen_1_l0 a0 a1 a2 a3 a4 a5 a6 a7 a8 x0 x1) := by
 refine M_sign_each_bool_int64_sign_Loosen_1_l0.partial_correctness a0 a1 a2 a3 a4 a5 a6 a7 a8 (fun x0 x1 v => go Tryz.prog F_sign_each_bool_int64_sign_Loosen_1.N (PostN (.exit 0) (E_sign_each_bool_int64_sign_Loosen_1_l0 a0 a1 a2 a3 a4 a5 a6 a7 a8) v) [.l (lpA Tryz.prog 143 0)] .norm (S_sign_each_bool_int64_sign_Loosen_1_l0 a0 a1 a2 a3 a4 a5 a6 a7 a8 x0 x1)) ?_ x0 x1
 clear x0 x1
 intro f IH x0 x1
 exact Tr.lpN (F := F_sign_each_bool_int64_sign_Loosen_1) (S := fun x => S_sign_each_bool_int64_sign_Loosen_1_l0 a0 a1 a2 a3 a4 a5 a6 a7 a8 x.1 x.2) (S' := E_sign_each_bool_int64_sign_Loosen_1_l0 a0 a1 a2 a3 a4 a5 a6 a7 a8) (t_sign_each_bool_int64_sign_Loosen_1_l0 a0 a1 a2 a3 a4 a5 a6 a7 a8 x0 x1) (fun x => f x.1 x.2) (fun x r h => IH x.1 x.2 r h) (by kernel_rfl) (by kernel_rfl)
theorem nl_sign_each_bool_int64_sign_Loosen_1 : ∀ v, (en_sign_each_bool_int64_sign_Loosen_1 v).noLst := fun _ => (flat_map_of fun _ => trivial)
noncomputable def t_sign_each_bool_int64_sign_Loosen_1 (a0 : List Bool) (a1 : Int) (a2 : Int) (a3 : List Int) (a4 : List Int) (a5 : Int) (a6 : Int) (a7 : List Int) (a8 : List Bool) : Tr F_sign_each_bool_int64_sign_Loosen_1 Empty (List Int) :=
 .len 7 eB a0 <| .mk 0 eI 8 0 0 (a0.length : Int) <| .let_ (List.replicate (Int.toNat 0) 0 : List Int) fun y1 => .len 6 eB a0 <| .loop 4 ⟨_, _, _, _, _, ok_sign_each_bool_int64_sign_Loosen_1_l0 a0 a1 a2 a3 a4 a5 a6 a7 a8 0 y1⟩ fun j4 => .ret 7 j4
noncomputable def s_sign_each_bool_int64_sign_Loosen_1 (a0 : List Bool) (a1 : Int) (a2 : Int) (a3 : List Int) (a4 : List Int) (a5 : Int) (a6 : Int) (a7 : List Int) (a8 : List Bool) : Sg Tryz.prog (List Int) := ⟨143, M_sign_each_bool_int64_sign_Loosen_1 a0 a1 a2 a3 a4 a5 a6 a7 a8, [.lst (List.map D.bool a0), .clo (.func 144) [] [.cp [.int .i64 a1, .int .i64 a2, .lst (List.map (D.int .i64) a3), .lst (List.map (D.int .i64) a4), .int .i64 a5, .int .i64 a6, .lst (List.map (D.int .u64) a7), .lst (List.map D.bool a8)] 0]], en_sign_each_bool_int64_sign_Loosen_1⟩
theorem ok_sign_each_bool_int64_sign_Loosen_1 (a0 : List Bool) (a1 : Int) (a2 : Int) (a3 : List Int) (a4 : List Int) (a5 : Int) (a6 : Int) (a7 : List Int) (a8 : List Bool) : (s_sign_each_bool_int64_sign_Loosen_1 a0 a1 a2 a3 a4 a5 a6 a7 a8).Holds := Tr.fn (F := F_sign_each_bool_int64_sign_Loosen_1) (t_sign_each_bool_int64_sign_Loosen_1 a0 a1 a2 a3 a4 a5 a6 a7 a8) (by kernel_rfl) (by kernel_rfl) (by kernel_rfl) (by kernel_rfl)
/-- thrum/sign.Loosen. -/
def en_sign_Loosen (v : (List Int) × Int) : PV := .tup [sI (.s 0) v.1, nI v.2]
noncomputable abbrev F_sign_Loosen : Fe := .of Tryz.prog 89 en_sign_Loosen
theorem nl_sign_Loosen : ∀ v, (en_sign_Loosen v).noLst := fun _ => ⟨(flat_map_of fun _ => trivial), trivial, trivial⟩
noncomputable def t_sign_Loosen (a0 : T_api_Sent) : Tr F_sign_Loosen Empty ((List Int) × Int) :=
 .call 10 (ok_frame_May a0) nl_frame_May fun r1 => .join 2 4 (γ := Bool) ⟨fun x => [(11, bB x)], [1], fun _ => [], [.s 15]⟩
 (.iteX 0 7 (r1)
 (.ret 5 true)
 (.ret 5 (a0.F_Scheme != 3)))
 fun j2 => .iteB 1 11 (j2)
 (.ret 8 ([], 1))
 (.call 7 (ok_sign_each_bool_int64_sign_Loosen_1 a0.F_Neg a0.F_Scheme a0.F_Dim a0.F_L a0.F_V a0.F_Scale a0.F_Wide a0.F_Lev a0.F_Neg) nl_sign_each_bool_int64_sign_Loosen_1 fun r3 => .ret 4 (r3, 0))
noncomputable def s_sign_Loosen (a0 : T_api_Sent) : Sg Tryz.prog ((List Int) × Int) := ⟨89, M_sign_Loosen a0, [.agg [.int .i64 a0.F_Scheme, .int .i64 a0.F_Dim, .lst (List.map (D.int .i64) a0.F_L), .lst (List.map (D.int .i64) a0.F_V), .int .i64 a0.F_Scale, .int .i64 a0.F_Wide, .lst (List.map (D.int .u64) a0.F_Lev), .lst (List.map D.bool a0.F_Neg)]], en_sign_Loosen⟩
theorem ok_sign_Loosen (a0 : T_api_Sent) : (s_sign_Loosen a0).Holds := Tr.fn (F := F_sign_Loosen) (t_sign_Loosen a0) (by kernel_rfl) (by kernel_rfl) (by kernel_rfl) (by kernel_rfl)
/-- thrum/press.Loosen. -/
def en_press_Loosen (v : (List Int) × Int) : PV := .tup [sI (.s 0) v.1, nI v.2]
noncomputable abbrev F_press_Loosen : Fe := .of Tryz.prog 19 en_press_Loosen
theorem nl_press_Loosen : ∀ v, (en_press_Loosen v).noLst := fun _ => ⟨(flat_map_of fun _ => trivial), trivial, trivial⟩
noncomputable def t_press_Loosen (a0 : T_api_Sent) : Tr F_press_Loosen Empty ((List Int) × Int) :=
 .call 10 (ok_frame_May a0) nl_frame_May fun r1 => .iteX 2 6 (r1)
 (.ret 8 ([], 1))
 (.callG 7 [] [] ok_press_ways fun r2 => .hold 1 [] <| .cas 1 10 (a0.F_Scheme = (0 : Int)) (.d (.agg [.clo (.func 69) [] [], .clo (.func 70) [] [], .clo (.func 71) [] [], .clo (.func 73) [] []])) (.d (lookD a0.F_Scheme [(1, .agg [.clo (.func 74) [] [], .clo (.func 75) [] [], .clo (.func 77) [] [], .clo (.func 79) [] []]), (2, .agg [.clo (.func 81) [] [], .clo (.func 82) [] [], .clo (.func 84) [] [], .clo (.func 85) [] []]), (3, .agg [.clo (.func 69) [] [], .clo (.func 87) [] [], .clo (.func 89) [] [], .clo (.func 90) [] []])] (.agg [.nilfn, .nilfn, .nilfn, .nilfn]))) (.d (lookD a0.F_Scheme [(0, .agg [.clo (.func 69) [] [], .clo (.func 70) [] [], .clo (.func 71) [] [], .clo (.func 73) [] []]), (1, .agg [.clo (.func 74) [] [], .clo (.func 75) [] [], .clo (.func 77) [] [], .clo (.func 79) [] []]), (2, .agg [.clo (.func 81) [] [], .clo (.func 82) [] [], .clo (.func 84) [] [], .clo (.func 85) [] []]), (3, .agg [.clo (.func 69) [] [], .clo (.func 87) [] [], .clo (.func 89) [] [], .clo (.func 90) [] []])] (.agg [.nilfn, .nilfn, .nilfn, .nilfn]))) lookD_t lookD_f
 (.call 1 (ok_press_ways_1 a0) nl_press_ways_1 fun r3 => .ret 7 (r3.1, r3.2))
 (.cas 0 10 (a0.F_Scheme = (1 : Int)) (.d (.agg [.clo (.func 74) [] [], .clo (.func 75) [] [], .clo (.func 77) [] [], .clo (.func 79) [] []])) (.d (lookD a0.F_Scheme [(2, .agg [.clo (.func 81) [] [], .clo (.func 82) [] [], .clo (.func 84) [] [], .clo (.func 85) [] []]), (3, .agg [.clo (.func 69) [] [], .clo (.func 87) [] [], .clo (.func 89) [] [], .clo (.func 90) [] []])] (.agg [.nilfn, .nilfn, .nilfn, .nilfn]))) (.d (lookD a0.F_Scheme [(1, .agg [.clo (.func 74) [] [], .clo (.func 75) [] [], .clo (.func 77) [] [], .clo (.func 79) [] []]), (2, .agg [.clo (.func 81) [] [], .clo (.func 82) [] [], .clo (.func 84) [] [], .clo (.func 85) [] []]), (3, .agg [.clo (.func 69) [] [], .clo (.func 87) [] [], .clo (.func 89) [] [], .clo (.func 90) [] []])] (.agg [.nilfn, .nilfn, .nilfn, .nilfn]))) lookD_t lookD_f
 (.call 1 (ok_press_ways_5 a0) nl_press_ways_5 fun r4 => .ret 7 (r4.1, r4.2))
 (.cas 0 10 (a0.F_Scheme = (2 : Int)) (.d (.agg [.clo (.func 81) [] [], .clo (.func 82) [] [], .clo (.func 84) [] [], .clo (.func 85) [] []])) (.d (lookD a0.F_Scheme [(3, .agg [.clo (.func 69) [] [], .clo (.func 87) [] [], .clo (.func 89) [] [], .clo (.func 90) [] []])] (.agg [.nilfn, .nilfn, .nilfn, .nilfn]))) (.d (lookD a0.F_Scheme [(2, .agg [.clo (.func 81) [] [], .clo (.func 82) [] [], .clo (.func 84) [] [], .clo (.func 85) [] []]), (3, .agg [.clo (.func 69) [] [], .clo (.func 87) [] [], .clo (.func 89) [] [], .clo (.func 90) [] []])] (.agg [.nilfn, .nilfn, .nilfn, .nilfn]))) lookD_t lookD_f
 (.call 1 (ok_quant_Loosen a0) nl_quant_Loosen fun r5 => .ret 7 (r5.1, r5.2))
 (.cas 0 10 (a0.F_Scheme = (3 : Int)) (.d (.agg [.clo (.func 69) [] [], .clo (.func 87) [] [], .clo (.func 89) [] [], .clo (.func 90) [] []])) (.d (lookD a0.F_Scheme [] (.agg [.nilfn, .nilfn, .nilfn, .nilfn]))) (.d (lookD a0.F_Scheme [(3, .agg [.clo (.func 69) [] [], .clo (.func 87) [] [], .clo (.func 89) [] [], .clo (.func 90) [] []])] (.agg [.nilfn, .nilfn, .nilfn, .nilfn]))) lookD_t lookD_f
 (.call 1 (ok_sign_Loosen a0) nl_sign_Loosen fun r6 => .ret 7 (r6.1, r6.2))
 (.halt)))))
noncomputable def s_press_Loosen (a0 : T_api_Sent) : Sg Tryz.prog ((List Int) × Int) := ⟨19, M_press_Loosen a0, [.agg [.int .i64 a0.F_Scheme, .int .i64 a0.F_Dim, .lst (List.map (D.int .i64) a0.F_L), .lst (List.map (D.int .i64) a0.F_V), .int .i64 a0.F_Scale, .int .i64 a0.F_Wide, .lst (List.map (D.int .u64) a0.F_Lev), .lst (List.map D.bool a0.F_Neg)]], en_press_Loosen⟩
theorem ok_press_Loosen (a0 : T_api_Sent) : (s_press_Loosen a0).Holds := Tr.fn (F := F_press_Loosen) (t_press_Loosen a0) (by kernel_rfl) (by kernel_rfl) (by kernel_rfl) (by kernel_rfl)
/-- thrum/vec.Sub$1. -/
def en_vec_Sub_1_c_c (v : Int × Int) : PV := .tup [nI v.1, nI v.2]
noncomputable abbrev F_vec_Sub_1_c_c : Fe := .of Tryz.prog 102 en_vec_Sub_1_c_c
theorem nl_vec_Sub_1_c_c : ∀ v, (en_vec_Sub_1_c_c v).noLst := fun _ => ⟨trivial, trivial, trivial⟩
noncomputable def t_vec_Sub_1_c_c (a0 : Int) (a1 : List Int) (a2 : List Int) : Tr F_vec_Sub_1_c_c Empty (Int × Int) :=
 .idx 9 eI a1 a0 <| .idx 3 eI a2 a0 <| .call 1 (ok_fix_Sub (at' a1 a0) (at' a2 a0)) nl_fix_Sub fun r1 => .ret 6 (r1.1, r1.2)
noncomputable def s_vec_Sub_1_c_c (a0 : Int) (a1 : List Int) (a2 : List Int) : Sg Tryz.prog (Int × Int) := ⟨102, M_vec_Sub_1_c_c a0 a1 a2, [.int .i64 a0, .cp [.lst (List.map (D.int .i64) a1)] 0, .cp [.lst (List.map (D.int .i64) a2)] 0], en_vec_Sub_1_c_c⟩
theorem ok_vec_Sub_1_c_c (a0 : Int) (a1 : List Int) (a2 : List Int) : (s_vec_Sub_1_c_c a0 a1 a2).Holds := Tr.fn (F := F_vec_Sub_1_c_c) (t_vec_Sub_1_c_c a0 a1 a2) (by kernel_rfl) (by kernel_rfl) (by kernel_rfl) (by kernel_rfl)
/-- thrum/vec.each. -/
def en_vec_each_vec_Sub_1 (v : (List Int) × Int) : PV := .tup [sI (.s 0) v.1, nI v.2]
noncomputable abbrev F_vec_each_vec_Sub_1 : Fe := .of Tryz.prog 58 en_vec_each_vec_Sub_1
def S_vec_each_vec_Sub_1_l0 (a1 : List Int) (a2 : List Int) (y1 : List Int) (x0 : Int) (x1 : List Int) : St := ⟨[(13, nI x0), (12, nI (y1.length : Int)), (6, sI (.h 0) x1), (1, .d (.clo (.func 102) [] [.cp [.lst (List.map (D.int .i64) a1)] 0, .cp [.lst (List.map (D.int .i64) a2)] 0]))], []⟩
def E_vec_each_vec_Sub_1_l0 (a1 : List Int) (a2 : List Int) (y1 : List Int) (x : (List Int)) : St := ⟨[(6, sI (.h 1) x)], []⟩
noncomputable def t_vec_each_vec_Sub_1_l0 (a1 : List Int) (a2 : List Int) (y1 : List Int) (x0 : Int) (x1 : List Int) : Tr F_vec_each_vec_Sub_1 (Int × (List Int)) (Sum ((List Int) × Int) (List Int)) :=
 .ite 6 14 (x0 < (y1.length : Int))
 (.call 19 (ok_vec_Sub_1_c_c x0 a1 a2) nl_vec_Sub_1_c_c fun r3 => .idx 3 eI x1 x0 <| .sto 0 [6] eI x1 x0 r3.1 <| .let_ (x1.set (Int.toNat x0) r3.1 : List Int) fun y4 => .iteN 7 26 (r3.2 = 0)
 (.ret 11 (.inl ([], r3.2)))
 (.again 7 (IntKind.i64.wrap (x0 + 1), y4)))
 (.ret 4 (.inr x1))
theorem ok_vec_each_vec_Sub_1_l0 (a1 : List Int) (a2 : List Int) (y1 : List Int) (x0 : Int) (x1 : List Int) : Ok (M_vec_each_vec_Sub_1_l0 a1 a2 y1 x0 x1) fun v => go Tryz.prog F_vec_each_vec_Sub_1.N (PostR (fun r => Fnl F_vec_each_vec_Sub_1.res (F_vec_each_vec_Sub_1.en r) (F_vec_each_vec_Sub_1.bx r)) (.exit 0) (E_vec_each_vec_Sub_1_l0 a1 a2 y1) v) [.l (lpA Tryz.prog 58 0)] .norm (S_vec_each_vec_Sub_1_l0 a1 a2 y1 x0 x1) := by
 refine M_vec_each_vec_Sub_1_l0.partial_correctness a1 a2 y1 (fun x0 x1 v => go Tryz.prog F_vec_each_vec_Sub_1.N (PostR (fun r => Fnl F_vec_each_vec_Sub_1.res (F_vec_each_vec_Sub_1.en r) (F_vec_each_vec_Sub_1.bx r)) (.exit 0) (E_vec_each_vec_Sub_1_l0 a1 a2 y1) v) [.l (lpA Tryz.prog 58 0)] .norm (S_vec_each_vec_Sub_1_l0 a1 a2 y1 x0 x1)) ?_ x0 x1
 clear x0 x1
 intro f IH x0 x1
 exact Tr.lpR (F := F_vec_each_vec_Sub_1) (S := fun x => S_vec_each_vec_Sub_1_l0 a1 a2 y1 x.1 x.2) (S' := E_vec_each_vec_Sub_1_l0 a1 a2 y1) (t_vec_each_vec_Sub_1_l0 a1 a2 y1 x0 x1) (fun x => f x.1 x.2) (fun x r h => IH x.1 x.2 r h) (by kernel_rfl) (by kernel_rfl)
theorem nl_vec_each_vec_Sub_1 : ∀ v, (en_vec_each_vec_Sub_1 v).noLst := fun _ => ⟨(flat_map_of fun _ => trivial), trivial, trivial⟩
noncomputable def t_vec_each_vec_Sub_1 (a0 : Int) (a1 : List Int) (a2 : List Int) : Tr F_vec_each_vec_Sub_1 Empty ((List Int) × Int) :=
 .mk 8 eI 8 0 a0 a0 <| .let_ (List.replicate (Int.toNat a0) 0 : List Int) fun y1 => .len 6 eI y1 <| .loopR 4 id ⟨_, _, _, _, _, ok_vec_each_vec_Sub_1_l0 a1 a2 y1 0 y1⟩ fun j6 => .ret 8 (j6, 0)
noncomputable def s_vec_each_vec_Sub_1 (a0 : Int) (a1 : List Int) (a2 : List Int) : Sg Tryz.prog ((List Int) × Int) := ⟨58, M_vec_each_vec_Sub_1 a0 a1 a2, [.int .i64 a0, .clo (.func 102) [] [.cp [.lst (List.map (D.int .i64) a1)] 0, .cp [.lst (List.map (D.int .i64) a2)] 0]], en_vec_each_vec_Sub_1⟩
theorem ok_vec_each_vec_Sub_1 (a0 : Int) (a1 : List Int) (a2 : List Int) : (s_vec_each_vec_Sub_1 a0 a1 a2).Holds := Tr.fn (F := F_vec_each_vec_Sub_1) (t_vec_each_vec_Sub_1 a0 a1 a2) (by kernel_rfl) (by kernel_rfl) (by kernel_rfl) (by kernel_rfl)
/-- thrum/vec.Sub. -/
def en_vec_Sub (v : (List Int) × Int) : PV := .tup [sI (.s 0) v.1, nI v.2]
noncomputable abbrev F_vec_Sub : Fe := .of Tryz.prog 43 en_vec_Sub
theorem nl_vec_Sub : ∀ v, (en_vec_Sub v).noLst := fun _ => ⟨(flat_map_of fun _ => trivial), trivial, trivial⟩
noncomputable def t_vec_Sub (a0 : List Int) (a1 : List Int) : Tr F_vec_Sub Empty ((List Int) × Int) :=
 .call 12 (ok_vec_pair a0 a1) nl_vec_pair fun r1 => .iteN 7 11 (r1 = 0)
 (.ret 9 ([], r1))
 (.len 5 eI a0 <| .call 1 (ok_vec_each_vec_Sub_1 (a0.length : Int) a0 a1) nl_vec_each_vec_Sub_1 fun r2 => .ret 6 (r2.1, r2.2))
noncomputable def s_vec_Sub (a0 : List Int) (a1 : List Int) : Sg Tryz.prog ((List Int) × Int) := ⟨43, M_vec_Sub a0 a1, [.lst (List.map (D.int .i64) a0), .lst (List.map (D.int .i64) a1)], en_vec_Sub⟩
theorem ok_vec_Sub (a0 : List Int) (a1 : List Int) : (s_vec_Sub a0 a1).Holds := Tr.fn (F := F_vec_Sub) (t_vec_Sub a0 a1) (by kernel_rfl) (by kernel_rfl) (by kernel_rfl) (by kernel_rfl)
/-- thrum/press.Left. -/
def en_press_Left (v : (List Int) × Int) : PV := .tup [sI (.s 0) v.1, nI v.2]
noncomputable abbrev F_press_Left : Fe := .of Tryz.prog 20 en_press_Left
theorem nl_press_Left : ∀ v, (en_press_Left v).noLst := fun _ => ⟨(flat_map_of fun _ => trivial), trivial, trivial⟩
noncomputable def t_press_Left (a0 : List Int) (a1 : T_api_Sent) : Tr F_press_Left Empty ((List Int) × Int) :=
 .call 9 (ok_press_Loosen a1) nl_press_Loosen fun r1 => .iteN 12 14 (r1.2 = 0)
 (.ret 9 ([], r1.2))
 (.call 6 (ok_vec_Sub a0 r1.1) nl_vec_Sub fun r2 => .ret 6 (r2.1, r2.2))
noncomputable def s_press_Left (a0 : List Int) (a1 : T_api_Sent) : Sg Tryz.prog ((List Int) × Int) := ⟨20, M_press_Left a0 a1, [.lst (List.map (D.int .i64) a0), .agg [.int .i64 a1.F_Scheme, .int .i64 a1.F_Dim, .lst (List.map (D.int .i64) a1.F_L), .lst (List.map (D.int .i64) a1.F_V), .int .i64 a1.F_Scale, .int .i64 a1.F_Wide, .lst (List.map (D.int .u64) a1.F_Lev), .lst (List.map D.bool a1.F_Neg)]], en_press_Left⟩
theorem ok_press_Left (a0 : List Int) (a1 : T_api_Sent) : (s_press_Left a0 a1).Holds := Tr.fn (F := F_press_Left) (t_press_Left a0 a1) (by kernel_rfl) (by kernel_rfl) (by kernel_rfl) (by kernel_rfl)
/-- thrum/press.Round. -/
def en_press_Round (v : Int × Int × (List Int) × (List Int) × Int × Int × (List Int) × (List Bool) × (List Int) × Int) : PV := .tup [.d (.agg [.int .i64 v.1, .int .i64 v.2.1, .lst (List.map (D.int .i64) v.2.2.1), .lst (List.map (D.int .i64) v.2.2.2.1), .int .i64 v.2.2.2.2.1, .int .i64 v.2.2.2.2.2.1, .lst (List.map (D.int .u64) v.2.2.2.2.2.2.1), .lst (List.map D.bool v.2.2.2.2.2.2.2.1)]), sI (.s 0) v.2.2.2.2.2.2.2.2.1, nI v.2.2.2.2.2.2.2.2.2]
noncomputable abbrev F_press_Round : Fe := .of Tryz.prog 13 en_press_Round
noncomputable def t_press_Round (a0 : T_api_How) (a1 : List Int) (a2 : List Int) (a3 : Int) (a4 : List Int) : Tr F_press_Round Empty (Int × Int × (List Int) × (List Int) × Int × Int × (List Int) × (List Bool) × (List Int) × Int) :=
 .call 11 (ok_vec_Add a1 a2) nl_vec_Add fun r1 => .join 12 0 (γ := Int × (List Int) × Int × Int × (List Int) × (List Int) × Int × Int × (List Int) × (List Bool)) ⟨fun x => [(12, nI x.1), (13, lI x.2.1)], [11, 10], fun x => [(.s 31, [nI x.2.2.1, nI x.2.2.2.1, lI x.2.2.2.2.1, lI x.2.2.2.2.2.1, nI x.2.2.2.2.2.2.1, nI x.2.2.2.2.2.2.2.1, lU x.2.2.2.2.2.2.2.2.1, lB x.2.2.2.2.2.2.2.2.2])], []⟩
 (.ite 0 21 (r1.2 = 0)
 (.callZ 6 (ok_press_Press a0 r1.1 a3 a4) fun r2 => .ret 6 (r2.2.2.2.2.2.2.2.2, r1.1, r2.1, r2.2.1, r2.2.2.1, r2.2.2.2.1, r2.2.2.2.2.1, r2.2.2.2.2.2.1, r2.2.2.2.2.2.2.1, r2.2.2.2.2.2.2.2.1))
 (.ret 2 (r1.2, r1.1, 0, 0, [], [], 0, 0, [], [])))
 fun j3 => .ite 6 31 (j3.1 = 0)
 (.call 4 (ok_press_Left j3.2.1 (⟨j3.2.2.1, j3.2.2.2.1, j3.2.2.2.2.1, j3.2.2.2.2.2.1, j3.2.2.2.2.2.2.1, j3.2.2.2.2.2.2.2.1, j3.2.2.2.2.2.2.2.2.1, j3.2.2.2.2.2.2.2.2.2⟩ : T_api_Sent)) nl_press_Left fun r4 => .iteN 12 39 (r4.2 = 0)
 (.ret 11 (0, 0, [], [], 0, 0, [], [], [], r4.2))
 (.ret 11 (j3.2.2.1, j3.2.2.2.1, j3.2.2.2.2.1, j3.2.2.2.2.2.1, j3.2.2.2.2.2.2.1, j3.2.2.2.2.2.2.2.1, j3.2.2.2.2.2.2.2.2.1, j3.2.2.2.2.2.2.2.2.2, r4.1, 0)))
 (.iteN 8 39 (j3.1 = 0)
 (.ret 11 (0, 0, [], [], 0, 0, [], [], [], j3.1))
 (.ret 11 (j3.2.2.1, j3.2.2.2.1, j3.2.2.2.2.1, j3.2.2.2.2.2.1, j3.2.2.2.2.2.2.1, j3.2.2.2.2.2.2.2.1, j3.2.2.2.2.2.2.2.2.1, j3.2.2.2.2.2.2.2.2.2, [], 0)))
noncomputable def s_press_Round (a0 : T_api_How) (a1 : List Int) (a2 : List Int) (a3 : Int) (a4 : List Int) : Sg Tryz.prog (Int × Int × (List Int) × (List Int) × Int × Int × (List Int) × (List Bool) × (List Int) × Int) := ⟨13, M_press_Round a0 a1 a2 a3 a4, [.agg [.int .i64 a0.F_Scheme, .int .i64 a0.F_K, .int .i64 a0.F_Wide], .lst (List.map (D.int .i64) a1), .lst (List.map (D.int .i64) a2), .int .u64 a3, .lst (List.map (D.int .i64) a4)], en_press_Round⟩
theorem ok_press_Round (a0 : T_api_How) (a1 : List Int) (a2 : List Int) (a3 : Int) (a4 : List Int) : (s_press_Round a0 a1 a2 a3 a4).Holds := Tr.fn (F := F_press_Round) (t_press_Round a0 a1 a2 a3 a4) (by kernel_rfl) (by kernel_rfl) (by kernel_rfl) (by kernel_rfl)
/-- thrum/thrumref02.Same. -/
def en_thrumref02_Same (v : Bool) : PV := bB v
noncomputable abbrev F_thrumref02_Same : Fe := .of Tryz.prog 16 en_thrumref02_Same
def S_thrumref02_Same_l0 (a0 : List Int) (a1 : List Int) (x0 : Int) : St := ⟨[(13, nI x0), (12, nI (a0.length : Int)), (0, lI a0), (1, lI a1)], []⟩
def E_thrumref02_Same_l0 (a0 : List Int) (a1 : List Int) (x : Unit) : St := ⟨[], []⟩
noncomputable def t_thrumref02_Same_l0 (a0 : List Int) (a1 : List Int) (x0 : Int) : Tr F_thrumref02_Same Int (Sum Bool Unit) :=
 .ite 6 14 (x0 < (a0.length : Int))
 (.idx 13 eI a0 x0 <| .idx 3 eI a1 x0 <| .iteN 3 24 ((at' a0 x0) = (at' a1 x0))
 (.ret 9 (.inl false))
 (.again 7 (IntKind.i64.wrap (x0 + 1))))
 (.ret 4 (.inr ()))
theorem ok_thrumref02_Same_l0 (a0 : List Int) (a1 : List Int) (x0 : Int) : Ok (M_thrumref02_Same_l0 a0 a1 x0) fun v => go Tryz.prog F_thrumref02_Same.N (PostR (fun r => Fnl F_thrumref02_Same.res (F_thrumref02_Same.en r) (F_thrumref02_Same.bx r)) (.exit 0) (E_thrumref02_Same_l0 a0 a1) v) [.l (lpA Tryz.prog 16 0)] .norm (S_thrumref02_Same_l0 a0 a1 x0) := by
 refine M_thrumref02_Same_l0.partial_correctness a0 a1 (fun x0 v => go Tryz.prog F_thrumref02_Same.N (PostR (fun r => Fnl F_thrumref02_Same.res (F_thrumref02_Same.en r) (F_thrumref02_Same.bx r)) (.exit 0) (E_thrumref02_Same_l0 a0 a1) v) [.l (lpA Tryz.prog 16 0)] .norm (S_thrumref02_Same_l0 a0 a1 x0)) ?_ x0
 clear x0
 intro f IH x0
 exact Tr.lpR (F := F_thrumref02_Same) (S := fun x => S_thrumref02_Same_l0 a0 a1 x) (S' := E_thrumref02_Same_l0 a0 a1) (t_thrumref02_Same_l0 a0 a1 x0) (fun x => f x) (fun x r h => IH x r h) (by kernel_rfl) (by kernel_rfl)
theorem nl_thrumref02_Same : ∀ v, (en_thrumref02_Same v).noLst := fun _ => trivial
noncomputable def t_thrumref02_Same (a0 : List Int) (a1 : List Int) : Tr F_thrumref02_Same Empty Bool :=
 .len 8 eI a0 <| .len 1 eI a1 <| .iteN 2 10 ((a0.length : Int) = (a1.length : Int))
 (.ret 7 false)
 (.len 6 eI a0 <| .loopR 4 id ⟨_, _, _, _, _, ok_thrumref02_Same_l0 a0 a1 0⟩ fun j1 => .ret 6 true)
noncomputable def s_thrumref02_Same (a0 : List Int) (a1 : List Int) : Sg Tryz.prog Bool := ⟨16, M_thrumref02_Same a0 a1, [.lst (List.map (D.int .i64) a0), .lst (List.map (D.int .i64) a1)], en_thrumref02_Same⟩
theorem ok_thrumref02_Same (a0 : List Int) (a1 : List Int) : (s_thrumref02_Same a0 a1).Holds := Tr.fn (F := F_thrumref02_Same) (t_thrumref02_Same a0 a1) (by kernel_rfl) (by kernel_rfl) (by kernel_rfl) (by kernel_rfl)
/-- thrum/thrumlaw12.live. -/
def en_thrumlaw12_live (v : Bool) : PV := bB v
noncomputable abbrev F_thrumlaw12_live : Fe := .of Tryz.prog 9 en_thrumlaw12_live
theorem nl_thrumlaw12_live : ∀ v, (en_thrumlaw12_live v).noLst := fun _ => trivial
noncomputable def t_thrumlaw12_live : Tr F_thrumlaw12_live Empty Bool :=
 .callZ 9 (ok_press_Round (⟨1, 1, 0⟩ : T_api_How) [3, -5] [0, 0] 1 []) fun r1 => .join 14 5 (γ := Bool) ⟨fun x => [(19, bB x)], [2, 1], fun _ => [], [.s 1743]⟩
 (.ite 0 14 (r1.2.2.2.2.2.2.2.2.2 = 0)
 (.len 2 eI r1.2.2.1 <| .ret 3 ((r1.2.2.1.length : Int) == 1))
 (.ret 6 false))
 fun j2 => .join 1 6 (γ := Bool) ⟨fun x => [(26, bB x)], [2, 1], fun _ => [], [.s 1743]⟩
 (.iteB 0 20 (j2)
 (.idx 2 eI r1.2.2.1 0 <| .ret 4 ((at' r1.2.2.1 0) == 1))
 (.ret 7 false))
 fun j3 => .join 1 5 (γ := Bool) ⟨fun x => [(32, bB x)], [2], fun _ => [], []⟩
 (.iteB 0 27 (j3)
 (.call 3 (ok_thrumref02_Same r1.2.2.2.1 [-5]) nl_thrumref02_Same fun r4 => .ret 2 r4)
 (.ret 6 false))
 fun j5 => .join 1 4 (γ := Bool) ⟨fun x => [(37, bB x)], [], fun _ => [], []⟩
 (.iteB 0 33 (j5)
 (.call 2 (ok_thrumref02_Same r1.2.2.2.2.2.2.2.2.1 [3, 0]) nl_thrumref02_Same fun r6 => .ret 2 r6)
 (.ret 5 false))
 fun j7 => .ret 3 j7
noncomputable def s_thrumlaw12_live : Sg Tryz.prog Bool := ⟨9, M_thrumlaw12_live, [], en_thrumlaw12_live⟩
theorem ok_thrumlaw12_live : s_thrumlaw12_live.Holds := Tr.fn (F := F_thrumlaw12_live) t_thrumlaw12_live (by kernel_rfl) (by kernel_rfl) (by kernel_rfl) (by kernel_rfl)
/-- thrum/thrumlaw12.few. -/
def en_thrumlaw12_few (v : Bool) : PV := bB v
noncomputable abbrev F_thrumlaw12_few : Fe := .of Tryz.prog 10 en_thrumlaw12_few
def S_thrumlaw12_few_l0 (a0 : List Int) (a1 : List (List Int)) (x0 : Int) : St := ⟨[(9, nI x0), (8, nI (a1.length : Int)), (7, .d (.lst (List.map (enL (D.int .i64)) a1))), (0, lI a0), (1, .d (.lst (List.map (enL (D.int .i64)) a1)))], []⟩
def E_thrumlaw12_few_l0 (a0 : List Int) (a1 : List (List Int)) (x : Unit) : St := ⟨[(0, lI a0), (1, .d (.lst (List.map (enL (D.int .i64)) a1)))], []⟩
noncomputable def t_thrumlaw12_few_l0 (a0 : List Int) (a1 : List (List Int)) (x0 : Int) : Tr F_thrumlaw12_few Int (Sum Bool Unit) :=
 .ite 6 10 (x0 < (a1.length : Int))
 (.idx 6 (eL eI) a1 x0 <| .len 6 eI (at' a1 x0) <| .join 2 4 (γ := Bool) ⟨fun x => [(20, bB x)], [6, 9, 8, 7, 0, 1], fun _ => [], []⟩
 (.ite 0 16 (((at' a1 x0).length : Int) > 200)
 (.len 1 eI (at' a1 x0) <| .ret 3 (decide (((at' a1 x0).length : Int) ≤ 4096)))
 (.ret 5 false))
 fun j1 => .join 1 4 (γ := Bool) ⟨fun x => [(25, bB x)], [9, 8, 7, 0, 1], fun _ => [], []⟩
 (.iteB 0 21 (j1)
 (.ret 5 true)
 (.len 1 eI (at' a1 x0) <| .ret 3 (decide (((at' a1 x0).length : Int) > 5000))))
 fun j2 => .iteB 1 25 (j2)
 (.ret 9 (.inl false))
 (.again 7 (IntKind.i64.wrap (x0 + 1))))
 (.ret 4 (.inr ()))
theorem ok_thrumlaw12_few_l0 (a0 : List Int) (a1 : List (List Int)) (x0 : Int) : Ok (M_thrumlaw12_few_l0 a0 a1 x0) fun v => go Tryz.prog F_thrumlaw12_few.N (PostR (fun r => Fnl F_thrumlaw12_few.res (F_thrumlaw12_few.en r) (F_thrumlaw12_few.bx r)) (.exit 0) (E_thrumlaw12_few_l0 a0 a1) v) [.l (lpA Tryz.prog 10 0)] .norm (S_thrumlaw12_few_l0 a0 a1 x0) := by
 refine M_thrumlaw12_few_l0.partial_correctness a0 a1 (fun x0 v => go Tryz.prog F_thrumlaw12_few.N (PostR (fun r => Fnl F_thrumlaw12_few.res (F_thrumlaw12_few.en r) (F_thrumlaw12_few.bx r)) (.exit 0) (E_thrumlaw12_few_l0 a0 a1) v) [.l (lpA Tryz.prog 10 0)] .norm (S_thrumlaw12_few_l0 a0 a1 x0)) ?_ x0
 clear x0
 intro f IH x0
 exact Tr.lpR (F := F_thrumlaw12_few) (S := fun x => S_thrumlaw12_few_l0 a0 a1 x) (S' := E_thrumlaw12_few_l0 a0 a1) (t_thrumlaw12_few_l0 a0 a1 x0) (fun x => f x) (fun x r h => IH x r h) (by kernel_rfl) (by kernel_rfl)
theorem nl_thrumlaw12_few : ∀ v, (en_thrumlaw12_few v).noLst := fun _ => trivial
noncomputable def t_thrumlaw12_few (a0 : List Int) (a1 : List (List Int)) : Tr F_thrumlaw12_few Empty Bool :=
 .len 8 (eL eI) a1 <| .loopR 4 id ⟨_, _, _, _, _, ok_thrumlaw12_few_l0 a0 a1 0⟩ fun j3 => .len 4 eI a0 <| .join 2 4 (γ := Bool) ⟨fun x => [(34, bB x)], [], fun _ => [], []⟩
 (.ite 0 30 ((a0.length : Int) ≤ 50)
 (.len 1 (eL eI) a1 <| .ret 3 (decide ((a1.length : Int) ≤ 30)))
 (.ret 5 false))
 fun j4 => .ret 3 j4
noncomputable def s_thrumlaw12_few (a0 : List Int) (a1 : List (List Int)) : Sg Tryz.prog Bool := ⟨10, M_thrumlaw12_few a0 a1, [.lst (List.map (D.int .i64) a0), .lst (List.map (enL (D.int .i64)) a1)], en_thrumlaw12_few⟩
theorem ok_thrumlaw12_few (a0 : List Int) (a1 : List (List Int)) : (s_thrumlaw12_few a0 a1).Holds := Tr.fn (F := F_thrumlaw12_few) (t_thrumlaw12_few a0 a1) (by kernel_rfl) (by kernel_rfl) (by kernel_rfl) (by kernel_rfl)
/-- thrum/vec.Same. -/
def en_vec_Same (v : Bool) : PV := bB v
noncomputable abbrev F_vec_Same : Fe := .of Tryz.prog 22 en_vec_Same
theorem nl_vec_Same : ∀ v, (en_vec_Same v).noLst := fun _ => trivial
noncomputable def t_vec_Same (a0 : List Int) (a1 : List Int) : Tr F_vec_Same Empty Bool :=
 .call 8 (ok_slices_Equal_int64_int64 a0 a1) nl_slices_Equal_int64_int64 fun r1 => .ret 3 r1
noncomputable def s_vec_Same (a0 : List Int) (a1 : List Int) : Sg Tryz.prog Bool := ⟨22, M_vec_Same a0 a1, [.lst (List.map (D.int .i64) a0), .lst (List.map (D.int .i64) a1)], en_vec_Same⟩
theorem ok_vec_Same (a0 : List Int) (a1 : List Int) : (s_vec_Same a0 a1).Holds := Tr.fn (F := F_vec_Same) (t_vec_Same a0 a1) (by kernel_rfl) (by kernel_rfl) (by kernel_rfl) (by kernel_rfl)
/-- thrum/thrumlaw12.PressAgain. -/
def en_thrumlaw12_PressAgain (v : Bool) : PV := bB v
noncomputable abbrev F_thrumlaw12_PressAgain : Fe := .of Tryz.prog 6 en_thrumlaw12_PressAgain
noncomputable def t_thrumlaw12_PressAgain (a0 : T_api_How) (a1 : List Int) (a2 : Int) : Tr F_thrumlaw12_PressAgain Empty Bool :=
 .call 7 ok_thrumlaw12_live nl_thrumlaw12_live fun r1 => .iteX 8 18 (r1)
 (.ret 7 false)
 (.call 7 (ok_thrumlaw12_few [] [a1]) nl_thrumlaw12_few fun r2 => .join 2 4 (γ := Bool) ⟨fun x => [(27, bB x)], [7, 3, 1, 2], fun _ => [], [.s 15]⟩
 (.iteX 0 23 (r2)
 (.ret 5 true)
 (.len 1 eI a1 <| .ret 3 (decide ((a1.length : Int) > 200))))
 fun j3 => .join 1 4 (γ := Bool) ⟨fun x => [(32, bB x)], [7, 3, 1, 2], fun _ => [], [.s 15]⟩
 (.iteB 0 28 (j3)
 (.ret 5 true)
 (.ret 5 (a0.F_Scheme == 2)))
 fun j4 => .iteB 1 32 (j4)
 (.ret 8 r1)
 (.callZ 7 (ok_press_Press a0 a1 a2 []) fun r5 => .iteN 13 42 (r5.2.2.2.2.2.2.2.2 = 0)
 (.ret 8 r1)
 (.call 5 (ok_press_Loosen (⟨r5.1, r5.2.1, r5.2.2.1, r5.2.2.2.1, r5.2.2.2.2.1, r5.2.2.2.2.2.1, r5.2.2.2.2.2.2.1, r5.2.2.2.2.2.2.2.1⟩ : T_api_Sent)) nl_press_Loosen fun r6 => .callZ 12 (ok_press_Press a0 r6.1 (IntKind.u64.wrap (a2 + 1)) []) fun r7 => .join 13 3 (γ := Bool) ⟨fun x => [(62, bB x)], [12, 10, 7], fun _ => [], [.s 16143]⟩
 (.iteN 0 59 (r6.2 = 0)
 (.ret 4 true)
 (.ret 4 (r7.2.2.2.2.2.2.2.2 != 0)))
 fun j8 => .iteB 1 62 (j8)
 (.ret 7 false)
 (.call 5 (ok_press_Loosen (⟨r7.1, r7.2.1, r7.2.2.1, r7.2.2.2.1, r7.2.2.2.2.1, r7.2.2.2.2.2.1, r7.2.2.2.2.2.2.1, r7.2.2.2.2.2.2.2.1⟩ : T_api_Sent)) nl_press_Loosen fun r9 => .join 10 3 (γ := Bool) ⟨fun x => [(72, bB x)], [14, 10], fun _ => [], []⟩
 (.iteB 0 69 (r1)
 (.ret 4 (r9.2 == 0))
 (.ret 4 false))
 fun j10 => .join 1 4 (γ := Bool) ⟨fun x => [(77, bB x)], [], fun _ => [], []⟩
 (.iteB 0 73 (j10)
 (.call 2 (ok_vec_Same r6.1 r9.1) nl_vec_Same fun r11 => .ret 2 r11)
 (.ret 5 false))
 fun j12 => .ret 3 j12))))
noncomputable def s_thrumlaw12_PressAgain (a0 : T_api_How) (a1 : List Int) (a2 : Int) : Sg Tryz.prog Bool := ⟨6, M_thrumlaw12_PressAgain a0 a1 a2, [.agg [.int .i64 a0.F_Scheme, .int .i64 a0.F_K, .int .i64 a0.F_Wide], .lst (List.map (D.int .i64) a1), .int .u64 a2], en_thrumlaw12_PressAgain⟩
theorem ok_thrumlaw12_PressAgain (a0 : T_api_How) (a1 : List Int) (a2 : Int) : (s_thrumlaw12_PressAgain a0 a1 a2).Holds := Tr.fn (F := F_thrumlaw12_PressAgain) (t_thrumlaw12_PressAgain a0 a1 a2) (by kernel_rfl) (by kernel_rfl) (by kernel_rfl) (by kernel_rfl)
end Go.Proofs.YtdgdgfckcnjpfaaGreat.Abs
