/- Walks of functions, printed by a program. Conditions: none. -/
import Derived.Test.YtelobmiooldoaaaGreatProg
import Derived.Test.YtelobmiooldoaaaGreatGW
namespace Go.Proofs.YtelobmiooldoaaaGreat.Abs
open Go Go.RowKit
set_option linter.unusedVariables false
set_option maxRecDepth 100000
open Z
/-- thrum/topk.size. -/
def en_topk_size (v : Int) : PV := nU v
noncomputable abbrev F_topk_size : Fe := .of Tryz.prog 72 en_topk_size
theorem nl_topk_size : ∀ v, (en_topk_size v).noLst := fun _ => trivial
noncomputable def t_topk_size (a0 : Int) : Tr F_topk_size Empty Int :=
 .ite 10 4 (a0 < 0)
 (.ret 10 (IntKind.u64.wrap (0 - (IntKind.u64.wrap a0))))
 (.ret 9 (IntKind.u64.wrap a0))
noncomputable def s_topk_size (a0 : Int) : Sg Tryz.prog Int := ⟨72, M_topk_size a0, [.int .i64 a0], en_topk_size⟩
theorem ok_topk_size (a0 : Int) : (s_topk_size a0).Holds := Tr.fn (F := F_topk_size) (t_topk_size a0) (by kernel_rfl) (by kernel_rfl) (by kernel_rfl) (by kernel_rfl)
/-- thrum/topk.ones. -/
def en_topk_ones (v : (List T_topk_one)) : PV := .sl (.s 0) 2 0 (List.map T_topk_one.en v)
noncomputable abbrev F_topk_ones : Fe := .of Tryz.prog 66 en_topk_ones
def S_topk_ones_l0 (a0 : List Int) (x0 : Int) (x1 : List T_topk_one) : St := ⟨[(11, nI x0), (10, nI (a0.length : Int)), (9, lI a0), (3, .sl (.h 0) 2 0 (List.map T_topk_one.en x1))], []⟩
def E_topk_ones_l0 (a0 : List Int) (x : (List T_topk_one)) : St := ⟨[(3, .sl (.h 1) 2 0 (List.map T_topk_one.en x))], []⟩
noncomputable def t_topk_ones_l0 (a0 : List Int) (x0 : Int) (x1 : List T_topk_one) : Tr F_topk_ones (Int × (List T_topk_one)) (List T_topk_one) :=
 .ite 6 12 (x0 < (a0.length : Int))
 (.idx 7 eI a0 x0 <| .call 9 (ok_topk_size (at' a0 x0)) nl_topk_size fun r3 => .idx 1 T_topk_one.e x1 x0 <| .sto 0 [3] T_topk_one.e x1 x0 (⟨x0, r3⟩ : T_topk_one) <| .let_ (x1.set (Int.toNat x0) (⟨x0, r3⟩ : T_topk_one) : List T_topk_one) fun y4 => .again 6 (IntKind.i64.wrap (x0 + 1), y4))
 (.ret 4 x1)
theorem ok_topk_ones_l0 (a0 : List Int) (x0 : Int) (x1 : List T_topk_one) : Ok (M_topk_ones_l0 a0 x0 x1) fun v => go Tryz.prog F_topk_ones.N (PostN (.exit 0) (E_topk_ones_l0 a0) v) [.l (lpA Tryz.prog 66 0)] .norm (S_topk_ones_l0 a0 x0 x1) := by
 refine M_topk_ones_l0.partial_correctness a0 (fun x0 x1 v => go Tryz.prog F_topk_ones.N (PostN (.exit 0) (E_topk_ones_l0 a0) v) [.l (lpA Tryz.prog 66 0)] .norm (S_topk_ones_l0 a0 x0 x1)) ?_ x0 x1
 clear x0 x1
 intro f IH x0 x1
 exact Tr.lpN (F := F_topk_ones) (S := fun x => S_topk_ones_l0 a0 x.1 x.2) (S' := E_topk_ones_l0 a0) (t_topk_ones_l0 a0 x0 x1) (fun x => f x.1 x.2) (fun x r h => IH x.1 x.2 r h) (by kernel_rfl) (by kernel_rfl)
theorem nl_topk_ones : ∀ v, (en_topk_ones v).noLst := fun _ => (flat_map_of fun _ => ⟨trivial, trivial, trivial⟩)
noncomputable def t_topk_ones (a0 : List Int) : Tr F_topk_ones Empty (List T_topk_one) :=
 .len 7 eI a0 <| .mk 0 T_topk_one.e 16 (⟨0, 0⟩ : T_topk_one) (a0.length : Int) (a0.length : Int) <| .let_ (List.replicate (Int.toNat (a0.length : Int)) (⟨0, 0⟩ : T_topk_one) : List T_topk_one) fun y1 => .len 6 eI a0 <| .loop 4 ⟨_, _, _, _, _, ok_topk_ones_l0 a0 0 y1⟩ fun j6 => .ret 7 j6
noncomputable def s_topk_ones (a0 : List Int) : Sg Tryz.prog (List T_topk_one) := ⟨66, M_topk_ones a0, [.lst (List.map (D.int .i64) a0)], en_topk_ones⟩
theorem ok_topk_ones (a0 : List Int) : (s_topk_ones a0).Holds := Tr.fn (F := F_topk_ones) (t_topk_ones a0) (by kernel_rfl) (by kernel_rfl) (by kernel_rfl) (by kernel_rfl)
/-- (*thrum/topk.best).Push. -/
def en_thrum_topk_best_Push_c (v : (List T_topk_one)) : PV := .tup []
def bx_thrum_topk_best_Push_c (v : (List T_topk_one)) : List (Tg × List PV) := [(.up (.s 0), [.sl (.s 0) 2 0 (List.map T_topk_one.en v)])]
noncomputable abbrev F_thrum_topk_best_Push_c : Fe := .of Tryz.prog 197 en_thrum_topk_best_Push_c bx_thrum_topk_best_Push_c
theorem nl_thrum_topk_best_Push_c : ∀ v, (en_thrum_topk_best_Push_c v).noLst := fun _ => trivial
theorem nlB_thrum_topk_best_Push_c : ∀ v, noLstB (bx_thrum_topk_best_Push_c v) := fun _ => ⟨⟨(flat_map_of fun _ => ⟨trivial, trivial, trivial⟩), trivial⟩, trivial⟩
noncomputable def t_thrum_topk_best_Push_c (a0 : List T_topk_one) (a1 : Int) (a2 : Int) : Tr F_thrum_topk_best_Push_c Empty (List T_topk_one) :=
 .hold 9 [] <| .app 0 T_topk_one.e 16 a0 [(⟨a1, a2⟩ : T_topk_one)] <| .hold 1 [] <| .ret 4 (a0 ++ [(⟨a1, a2⟩ : T_topk_one)])
noncomputable def s_thrum_topk_best_Push_c (a0 : List T_topk_one) (a1 : Int) (a2 : Int) : SgG Tryz.prog (List T_topk_one) := ⟨197, M_thrum_topk_best_Push_c a0 a1 a2, [.ptr (.up (.s 0)) 0, .d (.ifc 106 (.agg [.int .i64 a1, .int .u64 a2]))], [(.up (.s 0), [.sl (.h 0) 2 0 (List.map T_topk_one.en a0)])], en_thrum_topk_best_Push_c, bx_thrum_topk_best_Push_c⟩
theorem ok_thrum_topk_best_Push_c (a0 : List T_topk_one) (a1 : Int) (a2 : Int) : (s_thrum_topk_best_Push_c a0 a1 a2).Holds := Tr.fnG (F := F_thrum_topk_best_Push_c) (t_thrum_topk_best_Push_c a0 a1 a2) (by kernel_rfl) (by kernel_rfl) (by kernel_rfl) (by kernel_rfl)
/-- (thrum/topk.best).Len. -/
def en_thrum_topk_best_Len (v : Int) : PV := nI v
noncomputable abbrev F_thrum_topk_best_Len : Fe := .of Tryz.prog 68 en_thrum_topk_best_Len
theorem nl_thrum_topk_best_Len : ∀ v, (en_thrum_topk_best_Len v).noLst := fun _ => trivial
noncomputable def t_thrum_topk_best_Len (a0 : List T_topk_one) : Tr F_thrum_topk_best_Len Empty Int :=
 .len 7 T_topk_one.e a0 <| .ret 3 (a0.length : Int)
noncomputable def s_thrum_topk_best_Len (a0 : List T_topk_one) : Sg Tryz.prog Int := ⟨68, M_thrum_topk_best_Len a0, [.lst (List.map T_topk_one.en a0)], en_thrum_topk_best_Len⟩
theorem ok_thrum_topk_best_Len (a0 : List T_topk_one) : (s_thrum_topk_best_Len a0).Holds := Tr.fn (F := F_thrum_topk_best_Len) (t_thrum_topk_best_Len a0) (by kernel_rfl) (by kernel_rfl) (by kernel_rfl) (by kernel_rfl)
/-- cmp.isNaN[uint64]. -/
def en_cmp_isNaN_uint64 (v : Bool) : PV := bB v
noncomputable abbrev F_cmp_isNaN_uint64 : Fe := .of Tryz.prog 203 en_cmp_isNaN_uint64
theorem nl_cmp_isNaN_uint64 : ∀ v, (en_cmp_isNaN_uint64 v).noLst := fun _ => trivial
noncomputable def t_cmp_isNaN_uint64 (a0 : Int) : Tr F_cmp_isNaN_uint64 Empty Bool :=
 .ret 12 (a0 != a0)
noncomputable def s_cmp_isNaN_uint64 (a0 : Int) : Sg Tryz.prog Bool := ⟨203, M_cmp_isNaN_uint64 a0, [.int .u64 a0], en_cmp_isNaN_uint64⟩
theorem ok_cmp_isNaN_uint64 (a0 : Int) : (s_cmp_isNaN_uint64 a0).Holds := Tr.fn (F := F_cmp_isNaN_uint64) (t_cmp_isNaN_uint64 a0) (by kernel_rfl) (by kernel_rfl) (by kernel_rfl) (by kernel_rfl)
/-- cmp.Compare[uint64]. -/
def en_cmp_Compare_uint64 (v : Int) : PV := nI v
noncomputable abbrev F_cmp_Compare_uint64 : Fe := .of Tryz.prog 201 en_cmp_Compare_uint64
theorem nl_cmp_Compare_uint64 : ∀ v, (en_cmp_Compare_uint64 v).noLst := fun _ => trivial
noncomputable def t_cmp_Compare_uint64 (a0 : Int) (a1 : Int) : Tr F_cmp_Compare_uint64 Empty Int :=
 .call 7 (ok_cmp_isNaN_uint64 a0) nl_cmp_isNaN_uint64 fun r1 => .call 5 (ok_cmp_isNaN_uint64 a1) nl_cmp_isNaN_uint64 fun r2 => .iteB 7 11 (r1)
 (.iteB 6 12 (r2)
 (.ret 8 0)
 (.ret 8 (-1)))
 (.iteB 7 13 (r2)
 (.ret 7 1)
 (.ite 9 16 (a0 < a1)
 (.ret 7 (-1))
 (.ite 9 19 (a0 > a1)
 (.ret 7 1)
 (.ret 7 0))))
noncomputable def s_cmp_Compare_uint64 (a0 : Int) (a1 : Int) : Sg Tryz.prog Int := ⟨201, M_cmp_Compare_uint64 a0 a1, [.int .u64 a0, .int .u64 a1], en_cmp_Compare_uint64⟩
theorem ok_cmp_Compare_uint64 (a0 : Int) (a1 : Int) : (s_cmp_Compare_uint64 a0 a1).Holds := Tr.fn (F := F_cmp_Compare_uint64) (t_cmp_Compare_uint64 a0 a1) (by kernel_rfl) (by kernel_rfl) (by kernel_rfl) (by kernel_rfl)
/-- cmp.isNaN[int]. -/
def en_cmp_isNaN_int (v : Bool) : PV := bB v
noncomputable abbrev F_cmp_isNaN_int : Fe := .of Tryz.prog 151 en_cmp_isNaN_int
theorem nl_cmp_isNaN_int : ∀ v, (en_cmp_isNaN_int v).noLst := fun _ => trivial
noncomputable def t_cmp_isNaN_int (a0 : Int) : Tr F_cmp_isNaN_int Empty Bool :=
 .ret 12 (a0 != a0)
noncomputable def s_cmp_isNaN_int (a0 : Int) : Sg Tryz.prog Bool := ⟨151, M_cmp_isNaN_int a0, [.int .i64 a0], en_cmp_isNaN_int⟩
theorem ok_cmp_isNaN_int (a0 : Int) : (s_cmp_isNaN_int a0).Holds := Tr.fn (F := F_cmp_isNaN_int) (t_cmp_isNaN_int a0) (by kernel_rfl) (by kernel_rfl) (by kernel_rfl) (by kernel_rfl)
/-- cmp.Compare[int]. -/
def en_cmp_Compare_int (v : Int) : PV := nI v
noncomputable abbrev F_cmp_Compare_int : Fe := .of Tryz.prog 202 en_cmp_Compare_int
theorem nl_cmp_Compare_int : ∀ v, (en_cmp_Compare_int v).noLst := fun _ => trivial
noncomputable def t_cmp_Compare_int (a0 : Int) (a1 : Int) : Tr F_cmp_Compare_int Empty Int :=
 .call 7 (ok_cmp_isNaN_int a0) nl_cmp_isNaN_int fun r1 => .call 5 (ok_cmp_isNaN_int a1) nl_cmp_isNaN_int fun r2 => .iteB 7 11 (r1)
 (.iteB 6 12 (r2)
 (.ret 8 0)
 (.ret 8 (-1)))
 (.iteB 7 13 (r2)
 (.ret 7 1)
 (.ite 9 16 (a0 < a1)
 (.ret 7 (-1))
 (.ite 9 19 (a0 > a1)
 (.ret 7 1)
 (.ret 7 0))))
noncomputable def s_cmp_Compare_int (a0 : Int) (a1 : Int) : Sg Tryz.prog Int := ⟨202, M_cmp_Compare_int a0 a1, [.int .i64 a0, .int .i64 a1], en_cmp_Compare_int⟩
theorem ok_cmp_Compare_int (a0 : Int) (a1 : Int) : (s_cmp_Compare_int a0 a1).Holds := Tr.fn (F := F_cmp_Compare_int) (t_cmp_Compare_int a0 a1) (by kernel_rfl) (by kernel_rfl) (by kernel_rfl) (by kernel_rfl)
/-- cmp.Or[int]. -/
def en_cmp_Or_int (v : Int) : PV := nI v
noncomputable abbrev F_cmp_Or_int : Fe := .of Tryz.prog 200 en_cmp_Or_int
def S_cmp_Or_int_l0 (a0 : List Int) (x0 : Int) : St := ⟨[(8, nI x0), (7, nI (a0.length : Int)), (6, lI a0), (3, nI 0)], []⟩
def E_cmp_Or_int_l0 (a0 : List Int) (x : Unit) : St := ⟨[(3, nI 0)], []⟩
noncomputable def t_cmp_Or_int_l0 (a0 : List Int) (x0 : Int) : Tr F_cmp_Or_int Int (Sum Int Unit) :=
 .ite 6 9 (x0 < (a0.length : Int))
 (.idx 6 eI a0 x0 <| .iteN 9 14 ((at' a0 x0) = 0)
 (.ret 10 (.inl (at' a0 x0)))
 (.again 7 (IntKind.i64.wrap (x0 + 1))))
 (.ret 4 (.inr ()))
theorem ok_cmp_Or_int_l0 (a0 : List Int) (x0 : Int) : Ok (M_cmp_Or_int_l0 a0 x0) fun v => go Tryz.prog F_cmp_Or_int.N (PostR (fun r => Fnl F_cmp_Or_int.res (F_cmp_Or_int.en r) (F_cmp_Or_int.bx r)) (.exit 0) (E_cmp_Or_int_l0 a0) v) [.l (lpA Tryz.prog 200 0)] .norm (S_cmp_Or_int_l0 a0 x0) := by
 refine M_cmp_Or_int_l0.partial_correctness a0 (fun x0 v => go Tryz.prog F_cmp_Or_int.N (PostR (fun r => Fnl F_cmp_Or_int.res (F_cmp_Or_int.en r) (F_cmp_Or_int.bx r)) (.exit 0) (E_cmp_Or_int_l0 a0) v) [.l (lpA Tryz.prog 200 0)] .norm (S_cmp_Or_int_l0 a0 x0)) ?_ x0
 clear x0
 intro f IH x0
 exact Tr.lpR (F := F_cmp_Or_int) (S := fun x => S_cmp_Or_int_l0 a0 x) (S' := E_cmp_Or_int_l0 a0) (t_cmp_Or_int_l0 a0 x0) (fun x => f x) (fun x r h => IH x r h) (by kernel_rfl) (by kernel_rfl)
theorem nl_cmp_Or_int : ∀ v, (en_cmp_Or_int v).noLst := fun _ => trivial
noncomputable def t_cmp_Or_int (a0 : List Int) : Tr F_cmp_Or_int Empty Int :=
 .len 12 eI a0 <| .loopR 4 id ⟨_, _, _, _, _, ok_cmp_Or_int_l0 a0 0⟩ fun j1 => .ret 7 0
noncomputable def s_cmp_Or_int (a0 : List Int) : Sg Tryz.prog Int := ⟨200, M_cmp_Or_int a0, [.lst (List.map (D.int .i64) a0)], en_cmp_Or_int⟩
theorem ok_cmp_Or_int (a0 : List Int) : (s_cmp_Or_int a0).Holds := Tr.fn (F := F_cmp_Or_int) (t_cmp_Or_int a0) (by kernel_rfl) (by kernel_rfl) (by kernel_rfl) (by kernel_rfl)
/-- (thrum/topk.one).compare. -/
def en_thrum_topk_one_compare (v : Int) : PV := nI v
noncomputable abbrev F_thrum_topk_one_compare : Fe := .of Tryz.prog 199 en_thrum_topk_one_compare
theorem nl_thrum_topk_one_compare : ∀ v, (en_thrum_topk_one_compare v).noLst := fun _ => trivial
noncomputable def t_thrum_topk_one_compare (a0 : T_topk_one) (a1 : T_topk_one) : Tr F_thrum_topk_one_compare Empty Int :=
 .call 16 (ok_cmp_Compare_uint64 a1.F_size a0.F_size) nl_cmp_Compare_uint64 fun r1 => .hold 1 [] <| .call 0 (ok_cmp_Compare_int a0.F_place a1.F_place) nl_cmp_Compare_int fun r2 => .call 1 (ok_cmp_Or_int [r1, r2]) nl_cmp_Or_int fun r3 => .ret 4 r3
noncomputable def s_thrum_topk_one_compare (a0 : T_topk_one) (a1 : T_topk_one) : Sg Tryz.prog Int := ⟨199, M_thrum_topk_one_compare a0 a1, [.agg [.int .i64 a0.F_place, .int .u64 a0.F_size], .agg [.int .i64 a1.F_place, .int .u64 a1.F_size]], en_thrum_topk_one_compare⟩
theorem ok_thrum_topk_one_compare (a0 : T_topk_one) (a1 : T_topk_one) : (s_thrum_topk_one_compare a0 a1).Holds := Tr.fn (F := F_thrum_topk_one_compare) (t_thrum_topk_one_compare a0 a1) (by kernel_rfl) (by kernel_rfl) (by kernel_rfl) (by kernel_rfl)
/-- (thrum/topk.best).Less. -/
def en_thrum_topk_best_Less (v : Bool) : PV := bB v
noncomputable abbrev F_thrum_topk_best_Less : Fe := .of Tryz.prog 195 en_thrum_topk_best_Less
theorem nl_thrum_topk_best_Less : ∀ v, (en_thrum_topk_best_Less v).noLst := fun _ => trivial
noncomputable def t_thrum_topk_best_Less (a0 : List T_topk_one) (a1 : Int) (a2 : Int) : Tr F_thrum_topk_best_Less Empty Bool :=
 .idx 8 T_topk_one.e a0 a1 <| .idx 3 T_topk_one.e a0 a2 <| .call 1 (ok_thrum_topk_one_compare (at' a0 a1) (at' a0 a2)) nl_thrum_topk_one_compare fun r1 => .ret 4 (decide (r1 > 0))
noncomputable def s_thrum_topk_best_Less (a0 : List T_topk_one) (a1 : Int) (a2 : Int) : Sg Tryz.prog Bool := ⟨195, M_thrum_topk_best_Less a0 a1 a2, [.lst (List.map T_topk_one.en a0), .int .i64 a1, .int .i64 a2], en_thrum_topk_best_Less⟩
theorem ok_thrum_topk_best_Less (a0 : List T_topk_one) (a1 : Int) (a2 : Int) : (s_thrum_topk_best_Less a0 a1 a2).Holds := Tr.fn (F := F_thrum_topk_best_Less) (t_thrum_topk_best_Less a0 a1 a2) (by kernel_rfl) (by kernel_rfl) (by kernel_rfl) (by kernel_rfl)
/-- (thrum/topk.best).Swap. -/
def en_thrum_topk_best_Swap_g (v : (List T_topk_one)) : PV := .tup []
def bx_thrum_topk_best_Swap_g (v : (List T_topk_one)) : List (Tg × List PV) := [(.up (.s 0), [.sl (.s 0) 2 0 (List.map T_topk_one.en v)])]
noncomputable abbrev F_thrum_topk_best_Swap_g : Fe := .of Tryz.prog 198 en_thrum_topk_best_Swap_g bx_thrum_topk_best_Swap_g
theorem nl_thrum_topk_best_Swap_g : ∀ v, (en_thrum_topk_best_Swap_g v).noLst := fun _ => trivial
theorem nlB_thrum_topk_best_Swap_g : ∀ v, noLstB (bx_thrum_topk_best_Swap_g v) := fun _ => ⟨⟨(flat_map_of fun _ => ⟨trivial, trivial, trivial⟩), trivial⟩, trivial⟩
noncomputable def t_thrum_topk_best_Swap_g (a0 : List T_topk_one) (a1 : Int) (a2 : Int) : Tr F_thrum_topk_best_Swap_g Empty (List T_topk_one) :=
 .idx 7 T_topk_one.e a0 a2 <| .idx 3 T_topk_one.e a0 a1 <| .idx 1 T_topk_one.e a0 a1 <| .sto 0 [14, 10, 8, 6, 0] T_topk_one.e a0 a1 (at' a0 a2) <| .hold 1 [] <| .idx 0 T_topk_one.e (a0.set (Int.toNat a1) (at' a0 a2)) a2 <| .sto 0 [14, 10, 8, 6, 0] T_topk_one.e (a0.set (Int.toNat a1) (at' a0 a2)) a2 (at' a0 a1) <| .ret 2 ((a0.set (Int.toNat a1) (at' a0 a2)).set (Int.toNat a2) (at' a0 a1))
noncomputable def s_thrum_topk_best_Swap_g (a0 : List T_topk_one) (a1 : Int) (a2 : Int) : SgG Tryz.prog (List T_topk_one) := ⟨198, M_thrum_topk_best_Swap_g a0 a1 a2, [.sl (.h 0) 2 0 (List.map T_topk_one.en a0), nI a1, nI a2], [(.up (.s 0), [.sl (.h 0) 2 0 (List.map T_topk_one.en a0)])], en_thrum_topk_best_Swap_g, bx_thrum_topk_best_Swap_g⟩
theorem ok_thrum_topk_best_Swap_g (a0 : List T_topk_one) (a1 : Int) (a2 : Int) : (s_thrum_topk_best_Swap_g a0 a1 a2).Holds := Tr.fnG (F := F_thrum_topk_best_Swap_g) (t_thrum_topk_best_Swap_g a0 a1 a2) (by kernel_rfl) (by kernel_rfl) (by kernel_rfl) (by kernel_rfl)
/-- container/heap.up. -/
def en_container_heap_up_c (v : (List T_topk_one)) : PV := .tup []
def bx_container_heap_up_c (v : (List T_topk_one)) : List (Tg × List PV) := [(.up (.s 0), [.sl (.s 0) 2 0 (List.map T_topk_one.en v)])]
noncomputable abbrev F_container_heap_up_c : Fe := .of Tryz.prog 109 en_container_heap_up_c bx_container_heap_up_c
def S_container_heap_up_c_l0 (x0 : Int) (x1 : List T_topk_one) : St := ⟨[(0, .ifc 101 (.ptr (.up (.s 0)) 0)), (1, nI x0)], [(.up (.s 0), [.sl (.h 1) 2 0 (List.map T_topk_one.en x1)])]⟩
def E_container_heap_up_c_l0 (x : (List T_topk_one)) : St := ⟨[], [(.up (.s 0), [.sl (.h 2) 2 0 (List.map T_topk_one.en x)])]⟩
noncomputable def t_container_heap_up_c_l0 (x0 : Int) (x1 : List T_topk_one) : Tr F_container_heap_up_c (Int × (List T_topk_one)) (List T_topk_one) :=
 .join 16 6 (γ := Bool) ⟨fun x => [(17, bB x)], [4, 0, 1], fun _ => [], [.up (.s 0)]⟩
 (.ite 0 11 ((IntKind.i64.wrap (Int.tdiv (IntKind.i64.wrap (x0 - 1)) 2)) = x0)
 (.ret 7 true)
 (.call 3 (ok_thrum_topk_best_Less x1 x0 (IntKind.i64.wrap (Int.tdiv (IntKind.i64.wrap (x0 - 1)) 2))) nl_thrum_topk_best_Less fun r1 => .ret 3 (!r1)))
 fun j2 => .iteB 1 17 (j2)
 (.ret 5 x1)
 (.callB 7 [(.h 0, .h 1), (.up (.s 0), .up (.s 0))] (ok_thrum_topk_best_Swap_g x1 (IntKind.i64.wrap (Int.tdiv (IntKind.i64.wrap (x0 - 1)) 2)) x0) nl_thrum_topk_best_Swap_g nlB_thrum_topk_best_Swap_g fun r3 => .again 6 (IntKind.i64.wrap (Int.tdiv (IntKind.i64.wrap (x0 - 1)) 2), r3))
theorem ok_container_heap_up_c_l0 (x0 : Int) (x1 : List T_topk_one) : Ok (M_container_heap_up_c_l0 x0 x1) fun v => go Tryz.prog F_container_heap_up_c.N (PostN (.exit 0) (E_container_heap_up_c_l0) v) [.l (lpA Tryz.prog 109 0)] .norm (S_container_heap_up_c_l0 x0 x1) := by
 refine M_container_heap_up_c_l0.partial_correctness (fun x0 x1 v => go Tryz.prog F_container_heap_up_c.N (PostN (.exit 0) (E_container_heap_up_c_l0) v) [.l (lpA Tryz.prog 109 0)] .norm (S_container_heap_up_c_l0 x0 x1)) ?_ x0 x1
 clear x0 x1
 intro f IH x0 x1
 exact Tr.lpN (F := F_container_heap_up_c) (S := fun x => S_container_heap_up_c_l0 x.1 x.2) (S' := E_container_heap_up_c_l0) (t_container_heap_up_c_l0 x0 x1) (fun x => f x.1 x.2) (fun x r h => IH x.1 x.2 r h) (by kernel_rfl) (by kernel_rfl)
theorem nl_container_heap_up_c : ∀ v, (en_container_heap_up_c v).noLst := fun _ => trivial
theorem nlB_container_heap_up_c : ∀ v, noLstB (bx_container_heap_up_c v) := fun _ => ⟨⟨(flat_map_of fun _ => ⟨trivial, trivial, trivial⟩), trivial⟩, trivial⟩
noncomputable def t_container_heap_up_c (a0 : List T_topk_one) (a1 : Int) : Tr F_container_heap_up_c Empty (List T_topk_one) :=
 .loop 2 ⟨_, _, _, _, _, ok_container_heap_up_c_l0 a1 a0⟩ fun j4 => .ret 1 j4
noncomputable def s_container_heap_up_c (a0 : List T_topk_one) (a1 : Int) : SgG Tryz.prog (List T_topk_one) := ⟨109, M_container_heap_up_c a0 a1, [.ifc 101 (.ptr (.up (.s 0)) 0), nI a1], [(.up (.s 0), [.sl (.h 0) 2 0 (List.map T_topk_one.en a0)])], en_container_heap_up_c, bx_container_heap_up_c⟩
theorem ok_container_heap_up_c (a0 : List T_topk_one) (a1 : Int) : (s_container_heap_up_c a0 a1).Holds := Tr.fnG (F := F_container_heap_up_c) (t_container_heap_up_c a0 a1) (by kernel_rfl) (by kernel_rfl) (by kernel_rfl) (by kernel_rfl)
/-- container/heap.Push. -/
def en_container_heap_Push_c_c (v : (List T_topk_one)) : PV := .tup []
def bx_container_heap_Push_c_c (v : (List T_topk_one)) : List (Tg × List PV) := [(.up (.s 0), [.sl (.s 0) 2 0 (List.map T_topk_one.en v)])]
noncomputable abbrev F_container_heap_Push_c_c : Fe := .of Tryz.prog 67 en_container_heap_Push_c_c bx_container_heap_Push_c_c
theorem nl_container_heap_Push_c_c : ∀ v, (en_container_heap_Push_c_c v).noLst := fun _ => trivial
theorem nlB_container_heap_Push_c_c : ∀ v, noLstB (bx_container_heap_Push_c_c v) := fun _ => ⟨⟨(flat_map_of fun _ => ⟨trivial, trivial, trivial⟩), trivial⟩, trivial⟩
noncomputable def t_container_heap_Push_c_c (a0 : List T_topk_one) (a1 : Int) (a2 : Int) : Tr F_container_heap_Push_c_c Empty (List T_topk_one) :=
 .callB 4 [(.up (.s 0), .up (.s 0)), (.h 0, .h 0)] (ok_thrum_topk_best_Push_c a0 a1 a2) nl_thrum_topk_best_Push_c nlB_thrum_topk_best_Push_c fun r1 => .call 4 (ok_thrum_topk_best_Len r1) nl_thrum_topk_best_Len fun r2 => .callB 1 [(.up (.s 0), .up (.s 0)), (.h 0, .s 32)] (ok_container_heap_up_c r1 (IntKind.i64.wrap (r2 - 1))) nl_container_heap_up_c nlB_container_heap_up_c fun r3 => .ret 1 r3
noncomputable def s_container_heap_Push_c_c (a0 : List T_topk_one) (a1 : Int) (a2 : Int) : SgG Tryz.prog (List T_topk_one) := ⟨67, M_container_heap_Push_c_c a0 a1 a2, [.ifc 101 (.ptr (.up (.s 0)) 0), .d (.ifc 106 (.agg [.int .i64 a1, .int .u64 a2]))], [(.up (.s 0), [.sl (.h 0) 2 0 (List.map T_topk_one.en a0)])], en_container_heap_Push_c_c, bx_container_heap_Push_c_c⟩
theorem ok_container_heap_Push_c_c (a0 : List T_topk_one) (a1 : Int) (a2 : Int) : (s_container_heap_Push_c_c a0 a1 a2).Holds := Tr.fnG (F := F_container_heap_Push_c_c) (t_container_heap_Push_c_c a0 a1 a2) (by kernel_rfl) (by kernel_rfl) (by kernel_rfl) (by kernel_rfl)
/-- container/heap.down. -/
def en_container_heap_down_c (v : Bool × (List T_topk_one)) : PV := bB v.1
def bx_container_heap_down_c (v : Bool × (List T_topk_one)) : List (Tg × List PV) := [(.up (.s 0), [.sl (.s 0) 2 0 (List.map T_topk_one.en v.2)])]
noncomputable abbrev F_container_heap_down_c : Fe := .of Tryz.prog 110 en_container_heap_down_c bx_container_heap_down_c
def S_container_heap_down_c_l0 (a1 : Int) (a2 : Int) (x0 : Int) (x1 : List T_topk_one) : St := ⟨[(7, nI x0), (0, .ifc 101 (.ptr (.up (.s 0)) 0)), (1, nI a1), (2, nI a2)], [(.up (.s 0), [.sl (.h 1) 2 0 (List.map T_topk_one.en x1)])]⟩
def E_container_heap_down_c_l0 (a1 : Int) (a2 : Int) (x : Int × (List T_topk_one)) : St := ⟨[(7, nI x.1), (1, nI a1)], [(.up (.s 0), [.sl (.h 2) 2 0 (List.map T_topk_one.en x.2)])]⟩
noncomputable def t_container_heap_down_c_l0 (a1 : Int) (a2 : Int) (x0 : Int) (x1 : List T_topk_one) : Tr F_container_heap_down_c (Int × (List T_topk_one)) (Int × (List T_topk_one)) :=
 .join 16 3 (γ := Bool) ⟨fun x => [(21, bB x)], [8, 7, 0, 1, 2], fun _ => [], [.up (.s 0)]⟩
 (.ite 0 18 ((IntKind.i64.wrap ((IntKind.i64.wrap (2 * x0)) + 1)) ≥ a2)
 (.ret 4 true)
 (.ret 4 (decide ((IntKind.i64.wrap ((IntKind.i64.wrap (2 * x0)) + 1)) < 0))))
 fun j1 => .iteB 1 21 (j1)
 (.ret 5 (x0, x1))
 (.let_ (IntKind.i64.wrap ((IntKind.i64.wrap ((IntKind.i64.wrap (2 * x0)) + 1)) + 1) : Int) fun y2 => .join 20 5 (γ := Bool) ⟨fun x => [(33, bB x)], [10, 9, 7, 0, 1, 2], fun _ => [], [.up (.s 0)]⟩
 (.ite 0 28 (y2 < a2)
 (.call 3 (ok_thrum_topk_best_Less x1 y2 (IntKind.i64.wrap ((IntKind.i64.wrap (2 * x0)) + 1))) nl_thrum_topk_best_Less fun r4 => .ret 2 r4)
 (.ret 6 false))
 fun j5 => .iteB 1 33 (j5)
 (.call 11 (ok_thrum_topk_best_Less x1 y2 x0) nl_thrum_topk_best_Less fun r6 => .iteX 2 39 (r6)
 (.ret 5 (x0, x1))
 (.callB 7 [(.h 0, .h 1), (.up (.s 0), .up (.s 0))] (ok_thrum_topk_best_Swap_g x1 x0 y2) nl_thrum_topk_best_Swap_g nlB_thrum_topk_best_Swap_g fun r7 => .again 6 (y2, r7)))
 (.call 8 (ok_thrum_topk_best_Less x1 (IntKind.i64.wrap ((IntKind.i64.wrap (2 * x0)) + 1)) x0) nl_thrum_topk_best_Less fun r8 => .iteX 2 39 (r8)
 (.ret 5 (x0, x1))
 (.callB 7 [(.h 0, .h 1), (.up (.s 0), .up (.s 0))] (ok_thrum_topk_best_Swap_g x1 x0 (IntKind.i64.wrap ((IntKind.i64.wrap (2 * x0)) + 1))) nl_thrum_topk_best_Swap_g nlB_thrum_topk_best_Swap_g fun r9 => .again 6 (IntKind.i64.wrap ((IntKind.i64.wrap (2 * x0)) + 1), r9))))
theorem ok_container_heap_down_c_l0 (a1 : Int) (a2 : Int) (x0 : Int) (x1 : List T_topk_one) : Ok (M_container_heap_down_c_l0 a1 a2 x0 x1) fun v => go Tryz.prog F_container_heap_down_c.N (PostN (.exit 0) (E_container_heap_down_c_l0 a1 a2) v) [.l (lpA Tryz.prog 110 0)] .norm (S_container_heap_down_c_l0 a1 a2 x0 x1) := by
 refine M_container_heap_down_c_l0.partial_correctness a1 a2 (fun x0 x1 v => go Tryz.prog F_container_heap_down_c.N (PostN (.exit 0) (E_container_heap_down_c_l0 a1 a2) v) [.l (lpA Tryz.prog 110 0)] .norm (S_container_heap_down_c_l0 a1 a2 x0 x1)) ?_ x0 x1
 clear x0 x1
 intro f IH x0 x1
 exact Tr.lpN (F := F_container_heap_down_c) (S := fun x => S_container_heap_down_c_l0 a1 a2 x.1 x.2) (S' := E_container_heap_down_c_l0 a1 a2) (t_container_heap_down_c_l0 a1 a2 x0 x1) (fun x => f x.1 x.2) (fun x r h => IH x.1 x.2 r h) (by kernel_rfl) (by kernel_rfl)
theorem nl_container_heap_down_c : ∀ v, (en_container_heap_down_c v).noLst := fun _ => trivial
theorem nlB_container_heap_down_c : ∀ v, noLstB (bx_container_heap_down_c v) := fun _ => ⟨⟨(flat_map_of fun _ => ⟨trivial, trivial, trivial⟩), trivial⟩, trivial⟩
noncomputable def t_container_heap_down_c (a0 : List T_topk_one) (a1 : Int) (a2 : Int) : Tr F_container_heap_down_c Empty (Bool × (List T_topk_one)) :=
 .loop 12 ⟨_, _, _, _, _, ok_container_heap_down_c_l0 a1 a2 a1 a0⟩ fun j10 => .ret 9 (decide (j10.1 > a1), j10.2)
noncomputable def s_container_heap_down_c (a0 : List T_topk_one) (a1 : Int) (a2 : Int) : SgG Tryz.prog (Bool × (List T_topk_one)) := ⟨110, M_container_heap_down_c a0 a1 a2, [.ifc 101 (.ptr (.up (.s 0)) 0), nI a1, nI a2], [(.up (.s 0), [.sl (.h 0) 2 0 (List.map T_topk_one.en a0)])], en_container_heap_down_c, bx_container_heap_down_c⟩
theorem ok_container_heap_down_c (a0 : List T_topk_one) (a1 : Int) (a2 : Int) : (s_container_heap_down_c a0 a1 a2).Holds := Tr.fnG (F := F_container_heap_down_c) (t_container_heap_down_c a0 a1 a2) (by kernel_rfl) (by kernel_rfl) (by kernel_rfl) (by kernel_rfl)
/-- (*thrum/topk.best).Pop. -/
def en_thrum_topk_best_Pop (v : Int × Int × (List T_topk_one)) : PV := .d (.ifc 106 (.agg [.int .i64 v.1, .int .u64 v.2.1]))
def bx_thrum_topk_best_Pop (v : Int × Int × (List T_topk_one)) : List (Tg × List PV) := [(.up (.s 0), [.sl (.s 0) 2 0 (List.map T_topk_one.en v.2.2)])]
noncomputable abbrev F_thrum_topk_best_Pop : Fe := .of Tryz.prog 196 en_thrum_topk_best_Pop bx_thrum_topk_best_Pop
theorem nl_thrum_topk_best_Pop : ∀ v, (en_thrum_topk_best_Pop v).noLst := fun _ => ⟨trivial, trivial, trivial⟩
theorem nlB_thrum_topk_best_Pop : ∀ v, noLstB (bx_thrum_topk_best_Pop v) := fun _ => ⟨⟨(flat_map_of fun _ => ⟨trivial, trivial, trivial⟩), trivial⟩, trivial⟩
noncomputable def t_thrum_topk_best_Pop (a0 : List T_topk_one) : Tr F_thrum_topk_best_Pop Empty (Int × Int × (List T_topk_one)) :=
 .len 16 T_topk_one.e a0 <| .cut 1 T_topk_one.e a0 none (some (IntKind.i64.wrap ((a0.length : Int) - 1))) <| .let_ (cut' a0 none (some (IntKind.i64.wrap ((a0.length : Int) - 1))) : List T_topk_one) fun y1 => .len 7 T_topk_one.e a0 <| .idx 1 T_topk_one.e a0 (IntKind.i64.wrap ((a0.length : Int) - 1)) <| .ret 5 ((at' a0 (IntKind.i64.wrap ((a0.length : Int) - 1))).F_place, (at' a0 (IntKind.i64.wrap ((a0.length : Int) - 1))).F_size, y1)
noncomputable def s_thrum_topk_best_Pop (a0 : List T_topk_one) : SgG Tryz.prog (Int × Int × (List T_topk_one)) := ⟨196, M_thrum_topk_best_Pop a0, [.ptr (.up (.s 0)) 0], [(.up (.s 0), [.sl (.h 0) 2 0 (List.map T_topk_one.en a0)])], en_thrum_topk_best_Pop, bx_thrum_topk_best_Pop⟩
theorem ok_thrum_topk_best_Pop (a0 : List T_topk_one) : (s_thrum_topk_best_Pop a0).Holds := Tr.fnG (F := F_thrum_topk_best_Pop) (t_thrum_topk_best_Pop a0) (by kernel_rfl) (by kernel_rfl) (by kernel_rfl) (by kernel_rfl)
/-- container/heap.Pop. -/
def en_container_heap_Pop_c (v : Int × Int × (List T_topk_one)) : PV := .d (.ifc 106 (.agg [.int .i64 v.1, .int .u64 v.2.1]))
def bx_container_heap_Pop_c (v : Int × Int × (List T_topk_one)) : List (Tg × List PV) := [(.up (.s 0), [.sl (.s 0) 2 0 (List.map T_topk_one.en v.2.2)])]
noncomputable abbrev F_container_heap_Pop_c : Fe := .of Tryz.prog 69 en_container_heap_Pop_c bx_container_heap_Pop_c
theorem nl_container_heap_Pop_c : ∀ v, (en_container_heap_Pop_c v).noLst := fun _ => ⟨trivial, trivial, trivial⟩
theorem nlB_container_heap_Pop_c : ∀ v, noLstB (bx_container_heap_Pop_c v) := fun _ => ⟨⟨(flat_map_of fun _ => ⟨trivial, trivial, trivial⟩), trivial⟩, trivial⟩
noncomputable def t_container_heap_Pop_c (a0 : List T_topk_one) : Tr F_container_heap_Pop_c Empty (Int × Int × (List T_topk_one)) :=
 .call 7 (ok_thrum_topk_best_Len a0) nl_thrum_topk_best_Len fun r1 => .callB 7 [(.h 0, .h 0), (.up (.s 0), .up (.s 0))] (ok_thrum_topk_best_Swap_g a0 0 (IntKind.i64.wrap (r1 - 1))) nl_thrum_topk_best_Swap_g nlB_thrum_topk_best_Swap_g fun r2 => .callB 5 [(.up (.s 0), .up (.s 0)), (.h 0, .s 3232)] (ok_container_heap_down_c r2 0 (IntKind.i64.wrap (r1 - 1))) nl_container_heap_down_c nlB_container_heap_down_c fun r3 => .callB 4 [(.up (.s 0), .up (.s 0)), (.h 0, .s 4832)] (ok_thrum_topk_best_Pop r3.2) nl_thrum_topk_best_Pop nlB_thrum_topk_best_Pop fun r4 => .ret 3 (r4.1, r4.2.1, r4.2.2)
noncomputable def s_container_heap_Pop_c (a0 : List T_topk_one) : SgG Tryz.prog (Int × Int × (List T_topk_one)) := ⟨69, M_container_heap_Pop_c a0, [.ifc 101 (.ptr (.up (.s 0)) 0)], [(.up (.s 0), [.sl (.h 0) 2 0 (List.map T_topk_one.en a0)])], en_container_heap_Pop_c, bx_container_heap_Pop_c⟩
theorem ok_container_heap_Pop_c (a0 : List T_topk_one) : (s_container_heap_Pop_c a0).Holds := Tr.fnG (F := F_container_heap_Pop_c) (t_container_heap_Pop_c a0) (by kernel_rfl) (by kernel_rfl) (by kernel_rfl) (by kernel_rfl)
/-- thrum/topk.places. -/
def en_topk_places (v : (List Int)) : PV := sI (.s 0) v
noncomputable abbrev F_topk_places : Fe := .of Tryz.prog 70 en_topk_places
def S_topk_places_l0 (a0 : List T_topk_one) (x0 : Int) (x1 : List Int) : St := ⟨[(11, nI x0), (10, nI (a0.length : Int)), (9, .d (.lst (List.map T_topk_one.en a0))), (3, sI (.h 0) x1)], []⟩
def E_topk_places_l0 (a0 : List T_topk_one) (x : (List Int)) : St := ⟨[(3, sI (.h 1) x)], []⟩
noncomputable def t_topk_places_l0 (a0 : List T_topk_one) (x0 : Int) (x1 : List Int) : Tr F_topk_places (Int × (List Int)) (List Int) :=
 .ite 6 12 (x0 < (a0.length : Int))
 (.idx 6 T_topk_one.e a0 x0 <| .app 9 eI 8 x1 [(at' a0 x0).F_place] <| .let_ (x1 ++ [(at' a0 x0).F_place] : List Int) fun y3 => .again 7 (IntKind.i64.wrap (x0 + 1), y3))
 (.ret 4 x1)
theorem ok_topk_places_l0 (a0 : List T_topk_one) (x0 : Int) (x1 : List Int) : Ok (M_topk_places_l0 a0 x0 x1) fun v => go Tryz.prog F_topk_places.N (PostN (.exit 0) (E_topk_places_l0 a0) v) [.l (lpA Tryz.prog 70 0)] .norm (S_topk_places_l0 a0 x0 x1) := by
 refine M_topk_places_l0.partial_correctness a0 (fun x0 x1 v => go Tryz.prog F_topk_places.N (PostN (.exit 0) (E_topk_places_l0 a0) v) [.l (lpA Tryz.prog 70 0)] .norm (S_topk_places_l0 a0 x0 x1)) ?_ x0 x1
 clear x0 x1
 intro f IH x0 x1
 exact Tr.lpN (F := F_topk_places) (S := fun x => S_topk_places_l0 a0 x.1 x.2) (S' := E_topk_places_l0 a0) (t_topk_places_l0 a0 x0 x1) (fun x => f x.1 x.2) (fun x r h => IH x.1 x.2 r h) (by kernel_rfl) (by kernel_rfl)
theorem nl_topk_places : ∀ v, (en_topk_places v).noLst := fun _ => (flat_map_of fun _ => trivial)
noncomputable def t_topk_places (a0 : List T_topk_one) : Tr F_topk_places Empty (List Int) :=
 .len 7 T_topk_one.e a0 <| .mk 0 eI 8 0 0 (a0.length : Int) <| .let_ (List.replicate (Int.toNat 0) 0 : List Int) fun y1 => .len 6 T_topk_one.e a0 <| .loop 4 ⟨_, _, _, _, _, ok_topk_places_l0 a0 0 y1⟩ fun j5 => .ret 7 j5
noncomputable def s_topk_places (a0 : List T_topk_one) : Sg Tryz.prog (List Int) := ⟨70, M_topk_places a0, [.lst (List.map T_topk_one.en a0)], en_topk_places⟩
theorem ok_topk_places (a0 : List T_topk_one) : (s_topk_places a0).Holds := Tr.fn (F := F_topk_places) (t_topk_places a0) (by kernel_rfl) (by kernel_rfl) (by kernel_rfl) (by kernel_rfl)
/-- thrum/topk.Pick. -/
def en_topk_Pick (v : (List Int) × Int) : PV := .tup [sI (.s 0) v.1, nI v.2]
noncomputable abbrev F_topk_Pick : Fe := .of Tryz.prog 31 en_topk_Pick
def S_topk_Pick_l0 (a0 : Int) (r2 : (List T_topk_one)) (x0 : Int) (x1 : List T_topk_one) : St := ⟨[(28, nI x0), (27, nI (r2.length : Int)), (26, .sl (.s 9616) 2 0 (List.map T_topk_one.en r2)), (6, .ptr (.s 8031) 0), (0, nI a0)], [(.s 8031, [.sl (.h 0) 2 0 (List.map T_topk_one.en x1)])]⟩
def E_topk_Pick_l0 (a0 : Int) (r2 : (List T_topk_one)) (x : (List T_topk_one)) : St := ⟨[(6, .ptr (.s 8031) 0)], [(.s 8031, [.sl (.h 1) 2 0 (List.map T_topk_one.en x)])]⟩
noncomputable def t_topk_Pick_l0 (a0 : Int) (r2 : (List T_topk_one)) (x0 : Int) (x1 : List T_topk_one) : Tr F_topk_Pick (Int × (List T_topk_one)) (List T_topk_one) :=
 .ite 6 29 (x0 < (r2.length : Int))
 (.idx 6 T_topk_one.e r2 x0 <| .callB 10 [(.up (.s 0), .s 8031), (.h 0, .h 0)] (ok_container_heap_Push_c_c x1 ((at' r2 x0).F_place) ((at' r2 x0).F_size)) nl_container_heap_Push_c_c nlB_container_heap_Push_c_c fun r3 => .call 6 (ok_thrum_topk_best_Len r3) nl_thrum_topk_best_Len fun r4 => .ite 3 42 (r4 > a0)
 (.callB 4 [(.up (.s 0), .s 8031), (.h 0, .s 14464)] (ok_container_heap_Pop_c r3) nl_container_heap_Pop_c nlB_container_heap_Pop_c fun r5 => .again 6 (IntKind.i64.wrap (x0 + 1), r5.2.2))
 (.again 7 (IntKind.i64.wrap (x0 + 1), r3)))
 (.ret 4 x1)
theorem ok_topk_Pick_l0 (a0 : Int) (r2 : (List T_topk_one)) (x0 : Int) (x1 : List T_topk_one) : Ok (M_topk_Pick_l0 a0 r2 x0 x1) fun v => go Tryz.prog F_topk_Pick.N (PostN (.exit 1) (E_topk_Pick_l0 a0 r2) v) [.l (lpA Tryz.prog 31 0)] .norm (S_topk_Pick_l0 a0 r2 x0 x1) := by
 refine M_topk_Pick_l0.partial_correctness a0 r2 (fun x0 x1 v => go Tryz.prog F_topk_Pick.N (PostN (.exit 1) (E_topk_Pick_l0 a0 r2) v) [.l (lpA Tryz.prog 31 0)] .norm (S_topk_Pick_l0 a0 r2 x0 x1)) ?_ x0 x1
 clear x0 x1
 intro f IH x0 x1
 exact Tr.lpN (F := F_topk_Pick) (S := fun x => S_topk_Pick_l0 a0 r2 x.1 x.2) (S' := E_topk_Pick_l0 a0 r2) (t_topk_Pick_l0 a0 r2 x0 x1) (fun x => f x.1 x.2) (fun x r h => IH x.1 x.2 r h) (by kernel_rfl) (by kernel_rfl)
theorem nl_topk_Pick : ∀ v, (en_topk_Pick v).noLst := fun _ => ⟨(flat_map_of fun _ => trivial), trivial, trivial⟩
noncomputable def t_topk_Pick (a0 : Int) (a1 : List Int) : Tr F_topk_Pick Empty ((List Int) × Int) :=
 .len 10 eI a1 <| .ite 3 10 ((a1.length : Int) > 4096)
 (.ret 9 ([], 3))
 (.join 6 5 (γ := Bool) ⟨fun x => [(22, bB x)], [0, 1], fun _ => [], []⟩
 (.ite 0 17 (a0 < 0)
 (.ret 6 true)
 (.len 2 eI a1 <| .ret 3 (decide (a0 > (a1.length : Int)))))
 fun j1 => .iteB 2 14 (j1)
 (.ret 9 ([], 1))
 (.call 13 (ok_topk_ones a1) nl_topk_ones fun r2 => .len 0 T_topk_one.e r2 <| .loop 4 ⟨_, _, _, _, _, ok_topk_Pick_l0 a0 r2 0 []⟩ fun j6 => .call 6 (ok_topk_places j6) nl_topk_places fun r7 => .srt 5 [51, 9] (sk_slices_Sort_int r7) fun r8 => .ret 8 (r8, 0)))
noncomputable def s_topk_Pick (a0 : Int) (a1 : List Int) : Sg Tryz.prog ((List Int) × Int) := ⟨31, M_topk_Pick a0 a1, [.int .i64 a0, .lst (List.map (D.int .i64) a1)], en_topk_Pick⟩
theorem ok_topk_Pick (a0 : Int) (a1 : List Int) : (s_topk_Pick a0 a1).Holds := Tr.fn (F := F_topk_Pick) (t_topk_Pick a0 a1) (by kernel_rfl) (by kernel_rfl) (by kernel_rfl) (by kernel_rfl)
/-- thrum/topk.Least. -/
def en_topk_Least (v : Int × Bool) : PV := .tup [nU v.1, bB v.2]
noncomputable abbrev F_topk_Least : Fe := .of Tryz.prog 32 en_topk_Least
def S_topk_Least_l0 (a0 : List Int) (a1 : List Int) (x0 : Int) (x1 : Bool) (x2 : Int) : St := ⟨[(11, nI x0), (10, nI (a0.length : Int)), (9, lI a0), (5, bB x1), (4, nU x2), (1, lI a1)], []⟩
def E_topk_Least_l0 (a0 : List Int) (a1 : List Int) (x : Bool × Int) : St := ⟨[(5, bB x.1), (4, nU x.2)], []⟩
noncomputable def t_topk_Least_l0 (a0 : List Int) (a1 : List Int) (x0 : Int) (x1 : Bool) (x2 : Int) : Tr F_topk_Least (Int × Bool × Int) (Bool × Int) :=
 .ite 6 12 (x0 < (a0.length : Int))
 (.idx 6 eI a0 x0 <| .join 9 5 (γ := Bool) ⟨fun x => [(22, bB x)], [7, 11, 10, 9, 5, 4, 1], fun _ => [], []⟩
 (.ite 0 17 ((at' a0 x0) < 0)
 (.ret 6 true)
 (.len 2 eI a1 <| .ret 3 (decide ((at' a0 x0) ≥ (a1.length : Int)))))
 fun j1 => .iteB 1 22 (j1)
 (.again 8 (IntKind.i64.wrap (x0 + 1), x1, x2))
 (.idx 6 eI a1 (at' a0 x0) <| .call 1 (ok_topk_size (at' a1 (at' a0 x0))) nl_topk_size fun r2 => .join 7 4 (γ := Bool) ⟨fun x => [(34, bB x)], [8, 11, 10, 9, 5, 4, 1], fun _ => [], []⟩
 (.iteX 0 30 (x1)
 (.ret 5 true)
 (.ret 5 (decide (r2 < x2))))
 fun j3 => .iteB 1 34 (j3)
 (.again 11 (IntKind.i64.wrap (x0 + 1), true, r2))
 (.again 7 (IntKind.i64.wrap (x0 + 1), x1, x2))))
 (.ret 4 (x1, x2))
theorem ok_topk_Least_l0 (a0 : List Int) (a1 : List Int) (x0 : Int) (x1 : Bool) (x2 : Int) : Ok (M_topk_Least_l0 a0 a1 x0 x1 x2) fun v => go Tryz.prog F_topk_Least.N (PostN (.exit 0) (E_topk_Least_l0 a0 a1) v) [.l (lpA Tryz.prog 32 0)] .norm (S_topk_Least_l0 a0 a1 x0 x1 x2) := by
 refine M_topk_Least_l0.partial_correctness a0 a1 (fun x0 x1 x2 v => go Tryz.prog F_topk_Least.N (PostN (.exit 0) (E_topk_Least_l0 a0 a1) v) [.l (lpA Tryz.prog 32 0)] .norm (S_topk_Least_l0 a0 a1 x0 x1 x2)) ?_ x0 x1 x2
 clear x0 x1 x2
 intro f IH x0 x1 x2
 exact Tr.lpN (F := F_topk_Least) (S := fun x => S_topk_Least_l0 a0 a1 x.1 x.2.1 x.2.2) (S' := E_topk_Least_l0 a0 a1) (t_topk_Least_l0 a0 a1 x0 x1 x2) (fun x => f x.1 x.2.1 x.2.2) (fun x r h => IH x.1 x.2.1 x.2.2 r h) (by kernel_rfl) (by kernel_rfl)
theorem nl_topk_Least : ∀ v, (en_topk_Least v).noLst := fun _ => ⟨trivial, trivial, trivial⟩
noncomputable def t_topk_Least (a0 : List Int) (a1 : List Int) : Tr F_topk_Least Empty (Int × Bool) :=
 .len 9 eI a0 <| .loop 4 ⟨_, _, _, _, _, ok_topk_Least_l0 a0 a1 0 false 0⟩ fun j4 => .ret 9 (j4.2, j4.1)
noncomputable def s_topk_Least (a0 : List Int) (a1 : List Int) : Sg Tryz.prog (Int × Bool) := ⟨32, M_topk_Least a0 a1, [.lst (List.map (D.int .i64) a0), .lst (List.map (D.int .i64) a1)], en_topk_Least⟩
theorem ok_topk_Least (a0 : List Int) (a1 : List Int) : (s_topk_Least a0 a1).Holds := Tr.fn (F := F_topk_Least) (t_topk_Least a0 a1) (by kernel_rfl) (by kernel_rfl) (by kernel_rfl) (by kernel_rfl)
/-- thrum/thrumlaw09.live. -/
def en_thrumlaw09_live (v : Bool) : PV := bB v
noncomputable abbrev F_thrumlaw09_live : Fe := .of Tryz.prog 6 en_thrumlaw09_live
theorem nl_thrumlaw09_live : ∀ v, (en_thrumlaw09_live v).noLst := fun _ => trivial
noncomputable def t_thrumlaw09_live : Tr F_thrumlaw09_live Empty Bool :=
 .call 7 (ok_topk_Pick 2 [3, -5, 5, 1]) nl_topk_Pick fun r1 => .call 10 (ok_topk_Least r1.1 [3, -5, 5, 1]) nl_topk_Least fun r2 => .join 11 4 (γ := Bool) ⟨fun x => [(22, bB x)], [4, 3], fun _ => [], []⟩
 (.ite 0 18 (r1.2 = 0)
 (.call 2 (ok_thrumref06_Equal r1.1 [1, 2]) nl_thrumref06_Equal fun r3 => .ret 2 r3)
 (.ret 5 false))
 fun j4 => .join 1 3 (γ := Bool) ⟨fun x => [(26, bB x)], [4], fun _ => [], []⟩
 (.iteB 0 23 (j4)
 (.ret 4 (r2.1 == 5))
 (.ret 4 false))
 fun j5 => .join 1 2 (γ := Bool) ⟨fun x => [(29, bB x)], [], fun _ => [], []⟩
 (.iteB 0 27 (j5)
 (.ret 3 r2.2)
 (.ret 3 false))
 fun j6 => .ret 3 j6
noncomputable def s_thrumlaw09_live : Sg Tryz.prog Bool := ⟨6, M_thrumlaw09_live, [], en_thrumlaw09_live⟩
theorem ok_thrumlaw09_live : s_thrumlaw09_live.Holds := Tr.fn (F := F_thrumlaw09_live) t_thrumlaw09_live (by kernel_rfl) (by kernel_rfl) (by kernel_rfl) (by kernel_rfl)
/-- thrum/thrumlaw09.few. -/
def en_thrumlaw09_few (v : Bool) : PV := bB v
noncomputable abbrev F_thrumlaw09_few : Fe := .of Tryz.prog 7 en_thrumlaw09_few
theorem nl_thrumlaw09_few : ∀ v, (en_thrumlaw09_few v).noLst := fun _ => trivial
noncomputable def t_thrumlaw09_few (a0 : List Int) : Tr F_thrumlaw09_few Empty Bool :=
 .len 7 eI a0 <| .ite 2 6 ((a0.length : Int) ≤ 200)
 (.ret 12 true)
 (.len 1 eI a0 <| .ite 2 10 ((a0.length : Int) > 4096)
 (.len 1 eI a0 <| .ret 6 (decide ((a0.length : Int) ≤ 5000)))
 (.ret 8 false))
noncomputable def s_thrumlaw09_few (a0 : List Int) : Sg Tryz.prog Bool := ⟨7, M_thrumlaw09_few a0, [.lst (List.map (D.int .i64) a0)], en_thrumlaw09_few⟩
theorem ok_thrumlaw09_few (a0 : List Int) : (s_thrumlaw09_few a0).Holds := Tr.fn (F := F_thrumlaw09_few) (t_thrumlaw09_few a0) (by kernel_rfl) (by kernel_rfl) (by kernel_rfl) (by kernel_rfl)
/-- thrum/index.Gather$1. -/
def en_index_Gather_1_c (v : Bool) : PV := bB v
noncomputable abbrev F_index_Gather_1_c : Fe := .of Tryz.prog 42 en_index_Gather_1_c
theorem nl_index_Gather_1_c : ∀ v, (en_index_Gather_1_c v).noLst := fun _ => trivial
noncomputable def t_index_Gather_1_c (a0 : Int) (a1 : List Int) : Tr F_index_Gather_1_c Empty Bool :=
 .join 9 5 (γ := Bool) ⟨fun x => [(11, bB x)], [], fun _ => [], []⟩
 (.ite 0 6 (a0 < 0)
 (.ret 6 true)
 (.len 2 eI a1 <| .ret 3 (decide (a0 ≥ (a1.length : Int)))))
 fun j1 => .ret 3 j1
noncomputable def s_index_Gather_1_c (a0 : Int) (a1 : List Int) : Sg Tryz.prog Bool := ⟨42, M_index_Gather_1_c a0 a1, [.int .i64 a0, .cp [.lst (List.map (D.int .i64) a1)] 0], en_index_Gather_1_c⟩
theorem ok_index_Gather_1_c (a0 : Int) (a1 : List Int) : (s_index_Gather_1_c a0 a1).Holds := Tr.fn (F := F_index_Gather_1_c) (t_index_Gather_1_c a0 a1) (by kernel_rfl) (by kernel_rfl) (by kernel_rfl) (by kernel_rfl)
/-- slices.IndexFunc[[]int,int]. -/
def en_slices_IndexFunc_int_int_index_Gather_1 (v : Int) : PV := nI v
noncomputable abbrev F_slices_IndexFunc_int_int_index_Gather_1 : Fe := .of Tryz.prog 82 en_slices_IndexFunc_int_int_index_Gather_1
def S_slices_IndexFunc_int_int_index_Gather_1_l0 (a0 : List Int) (a1 : List Int) (x0 : Int) : St := ⟨[(8, nI x0), (7, nI (a0.length : Int)), (0, lI a0), (1, .d (.clo (.func 42) [] [.cp [.lst (List.map (D.int .i64) a1)] 0]))], []⟩
def E_slices_IndexFunc_int_int_index_Gather_1_l0 (a0 : List Int) (a1 : List Int) (x : Unit) : St := ⟨[], []⟩
noncomputable def t_slices_IndexFunc_int_int_index_Gather_1_l0 (a0 : List Int) (a1 : List Int) (x0 : Int) : Tr F_slices_IndexFunc_int_int_index_Gather_1 Int (Sum Int Unit) :=
 .ite 6 9 (x0 < (a0.length : Int))
 (.idx 14 eI a0 x0 <| .call 1 (ok_index_Gather_1_c (at' a0 x0) a1) nl_index_Gather_1_c fun r1 => .iteB 1 16 (r1)
 (.ret 10 (.inl x0))
 (.again 7 (IntKind.i64.wrap (x0 + 1))))
 (.ret 4 (.inr ()))
theorem ok_slices_IndexFunc_int_int_index_Gather_1_l0 (a0 : List Int) (a1 : List Int) (x0 : Int) : Ok (M_slices_IndexFunc_int_int_index_Gather_1_l0 a0 a1 x0) fun v => go Tryz.prog F_slices_IndexFunc_int_int_index_Gather_1.N (PostR (fun r => Fnl F_slices_IndexFunc_int_int_index_Gather_1.res (F_slices_IndexFunc_int_int_index_Gather_1.en r) (F_slices_IndexFunc_int_int_index_Gather_1.bx r)) (.exit 0) (E_slices_IndexFunc_int_int_index_Gather_1_l0 a0 a1) v) [.l (lpA Tryz.prog 82 0)] .norm (S_slices_IndexFunc_int_int_index_Gather_1_l0 a0 a1 x0) := by
 refine M_slices_IndexFunc_int_int_index_Gather_1_l0.partial_correctness a0 a1 (fun x0 v => go Tryz.prog F_slices_IndexFunc_int_int_index_Gather_1.N (PostR (fun r => Fnl F_slices_IndexFunc_int_int_index_Gather_1.res (F_slices_IndexFunc_int_int_index_Gather_1.en r) (F_slices_IndexFunc_int_int_index_Gather_1.bx r)) (.exit 0) (E_slices_IndexFunc_int_int_index_Gather_1_l0 a0 a1) v) [.l (lpA Tryz.prog 82 0)] .norm (S_slices_IndexFunc_int_int_index_Gather_1_l0 a0 a1 x0)) ?_ x0
 clear x0
 intro f IH x0
 exact Tr.lpR (F := F_slices_IndexFunc_int_int_index_Gather_1) (S := fun x => S_slices_IndexFunc_int_int_index_Gather_1_l0 a0 a1 x) (S' := E_slices_IndexFunc_int_int_index_Gather_1_l0 a0 a1) (t_slices_IndexFunc_int_int_index_Gather_1_l0 a0 a1 x0) (fun x => f x) (fun x r h => IH x r h) (by kernel_rfl) (by kernel_rfl)
theorem nl_slices_IndexFunc_int_int_index_Gather_1 : ∀ v, (en_slices_IndexFunc_int_int_index_Gather_1 v).noLst := fun _ => trivial
noncomputable def t_slices_IndexFunc_int_int_index_Gather_1 (a0 : List Int) (a1 : List Int) : Tr F_slices_IndexFunc_int_int_index_Gather_1 Empty Int :=
 .len 8 eI a0 <| .loopR 4 id ⟨_, _, _, _, _, ok_slices_IndexFunc_int_int_index_Gather_1_l0 a0 a1 0⟩ fun j2 => .ret 6 (-1)
noncomputable def s_slices_IndexFunc_int_int_index_Gather_1 (a0 : List Int) (a1 : List Int) : Sg Tryz.prog Int := ⟨82, M_slices_IndexFunc_int_int_index_Gather_1 a0 a1, [.lst (List.map (D.int .i64) a0), .clo (.func 42) [] [.cp [.lst (List.map (D.int .i64) a1)] 0]], en_slices_IndexFunc_int_int_index_Gather_1⟩
theorem ok_slices_IndexFunc_int_int_index_Gather_1 (a0 : List Int) (a1 : List Int) : (s_slices_IndexFunc_int_int_index_Gather_1 a0 a1).Holds := Tr.fn (F := F_slices_IndexFunc_int_int_index_Gather_1) (t_slices_IndexFunc_int_int_index_Gather_1 a0 a1) (by kernel_rfl) (by kernel_rfl) (by kernel_rfl) (by kernel_rfl)
/-- slices.ContainsFunc[[]int,int]. -/
def en_slices_ContainsFunc_int_int_index_Gather_1 (v : Bool) : PV := bB v
noncomputable abbrev F_slices_ContainsFunc_int_int_index_Gather_1 : Fe := .of Tryz.prog 41 en_slices_ContainsFunc_int_int_index_Gather_1
theorem nl_slices_ContainsFunc_int_int_index_Gather_1 : ∀ v, (en_slices_ContainsFunc_int_int_index_Gather_1 v).noLst := fun _ => trivial
noncomputable def t_slices_ContainsFunc_int_int_index_Gather_1 (a0 : List Int) (a1 : List Int) : Tr F_slices_ContainsFunc_int_int_index_Gather_1 Empty Bool :=
 .call 8 (ok_slices_IndexFunc_int_int_index_Gather_1 a0 a1) nl_slices_IndexFunc_int_int_index_Gather_1 fun r1 => .ret 4 (decide (r1 ≥ 0))
noncomputable def s_slices_ContainsFunc_int_int_index_Gather_1 (a0 : List Int) (a1 : List Int) : Sg Tryz.prog Bool := ⟨41, M_slices_ContainsFunc_int_int_index_Gather_1 a0 a1, [.lst (List.map (D.int .i64) a0), .clo (.func 42) [] [.cp [.lst (List.map (D.int .i64) a1)] 0]], en_slices_ContainsFunc_int_int_index_Gather_1⟩
theorem ok_slices_ContainsFunc_int_int_index_Gather_1 (a0 : List Int) (a1 : List Int) : (s_slices_ContainsFunc_int_int_index_Gather_1 a0 a1).Holds := Tr.fn (F := F_slices_ContainsFunc_int_int_index_Gather_1) (t_slices_ContainsFunc_int_int_index_Gather_1 a0 a1) (by kernel_rfl) (by kernel_rfl) (by kernel_rfl) (by kernel_rfl)
/-- thrum/index.Gather. -/
def en_index_Gather (v : (List Int) × Int) : PV := .tup [sI (.s 0) v.1, nI v.2]
noncomputable abbrev F_index_Gather : Fe := .of Tryz.prog 11 en_index_Gather
def S_index_Gather_l0 (a0 : List Int) (a1 : List Int) (x0 : Int) (x1 : List Int) : St := ⟨[(22, nI x0), (21, nI (a0.length : Int)), (20, lI a0), (6, sI (.h 0) x1), (3, .ptr (.s 15) 0)], [(.s 15, [lI a1])]⟩
def E_index_Gather_l0 (a0 : List Int) (a1 : List Int) (x : (List Int)) : St := ⟨[(6, sI (.h 1) x)], []⟩
noncomputable def t_index_Gather_l0 (a0 : List Int) (a1 : List Int) (x0 : Int) (x1 : List Int) : Tr F_index_Gather (Int × (List Int)) (List Int) :=
 .ite 6 23 (x0 < (a0.length : Int))
 (.idx 6 eI a0 x0 <| .idx 7 eI a1 (at' a0 x0) <| .app 2 eI 8 x1 [at' a1 (at' a0 x0)] <| .let_ (x1 ++ [at' a1 (at' a0 x0)] : List Int) fun y6 => .again 7 (IntKind.i64.wrap (x0 + 1), y6))
 (.ret 4 x1)
theorem ok_index_Gather_l0 (a0 : List Int) (a1 : List Int) (x0 : Int) (x1 : List Int) : Ok (M_index_Gather_l0 a0 a1 x0 x1) fun v => go Tryz.prog F_index_Gather.N (PostN (.exit 0) (E_index_Gather_l0 a0 a1) v) [.l (lpA Tryz.prog 11 0)] .norm (S_index_Gather_l0 a0 a1 x0 x1) := by
 refine M_index_Gather_l0.partial_correctness a0 a1 (fun x0 x1 v => go Tryz.prog F_index_Gather.N (PostN (.exit 0) (E_index_Gather_l0 a0 a1) v) [.l (lpA Tryz.prog 11 0)] .norm (S_index_Gather_l0 a0 a1 x0 x1)) ?_ x0 x1
 clear x0 x1
 intro f IH x0 x1
 exact Tr.lpN (F := F_index_Gather) (S := fun x => S_index_Gather_l0 a0 a1 x.1 x.2) (S' := E_index_Gather_l0 a0 a1) (t_index_Gather_l0 a0 a1 x0 x1) (fun x => f x.1 x.2) (fun x r h => IH x.1 x.2 r h) (by kernel_rfl) (by kernel_rfl)
theorem nl_index_Gather : ∀ v, (en_index_Gather v).noLst := fun _ => ⟨(flat_map_of fun _ => trivial), trivial, trivial⟩
noncomputable def t_index_Gather (a0 : List Int) (a1 : List Int) : Tr F_index_Gather Empty ((List Int) × Int) :=
 .call 10 (ok_index_rises a0) nl_index_rises fun r1 => .join 2 4 (γ := Bool) ⟨fun x => [(16, bB x)], [3, 0], fun _ => [], [.s 15]⟩
 (.iteX 0 12 (r1)
 (.ret 5 true)
 (.call 2 (ok_slices_ContainsFunc_int_int_index_Gather_1 a0 a1) nl_slices_ContainsFunc_int_int_index_Gather_1 fun r2 => .ret 2 r2))
 fun j3 => .iteB 1 16 (j3)
 (.ret 8 ([], 1))
 (.len 5 eI a0 <| .mk 0 eI 8 0 0 (a0.length : Int) <| .let_ (List.replicate (Int.toNat 0) 0 : List Int) fun y4 => .len 6 eI a0 <| .loop 4 ⟨_, _, _, _, _, ok_index_Gather_l0 a0 a1 0 y4⟩ fun j8 => .ret 8 (j8, 0))
noncomputable def s_index_Gather (a0 : List Int) (a1 : List Int) : Sg Tryz.prog ((List Int) × Int) := ⟨11, M_index_Gather a0 a1, [.lst (List.map (D.int .i64) a0), .lst (List.map (D.int .i64) a1)], en_index_Gather⟩
theorem ok_index_Gather (a0 : List Int) (a1 : List Int) : (s_index_Gather a0 a1).Holds := Tr.fn (F := F_index_Gather) (t_index_Gather a0 a1) (by kernel_rfl) (by kernel_rfl) (by kernel_rfl) (by kernel_rfl)
/-- thrum/topk.Press. -/
def en_topk_Press (v : Int × Int × (List Int) × (List Int) × Int × Int × Int) : PV := .tup [.d (.agg [.int .i64 v.1, .int .i64 v.2.1, .lst (List.map (D.int .i64) v.2.2.1), .lst (List.map (D.int .i64) v.2.2.2.1), .int .i64 v.2.2.2.2.1, .int .i64 v.2.2.2.2.2.1, .lst [], .lst []]), nI v.2.2.2.2.2.2]
noncomputable abbrev F_topk_Press : Fe := .of Tryz.prog 8 en_topk_Press
noncomputable def t_topk_Press (a0 : Int) (a1 : List Int) : Tr F_topk_Press Empty (Int × Int × (List Int) × (List Int) × Int × Int × Int) :=
 .len 9 eI a1 <| .ite 2 11 ((a1.length : Int) = 0)
 (.ret 9 (0, 0, [], [], 0, 0, 1))
 (.call 6 (ok_topk_Pick a0 a1) nl_topk_Pick fun r1 => .iteN 12 20 (r1.2 = 0)
 (.ret 10 (0, 0, [], [], 0, 0, r1.2))
 (.call 6 (ok_index_Gather r1.1 a1) nl_index_Gather fun r2 => .iteN 12 30 (r2.2 = 0)
 (.ret 10 (0, 0, [], [], 0, 0, r2.2))
 (.len 5 eI a1 <| .ret 7 (1, (a1.length : Int), r1.1, r2.1, 0, 0, 0))))
noncomputable def s_topk_Press (a0 : Int) (a1 : List Int) : Sg Tryz.prog (Int × Int × (List Int) × (List Int) × Int × Int × Int) := ⟨8, M_topk_Press a0 a1, [.int .i64 a0, .lst (List.map (D.int .i64) a1)], en_topk_Press⟩
theorem ok_topk_Press (a0 : Int) (a1 : List Int) : (s_topk_Press a0 a1).Holds := Tr.fn (F := F_topk_Press) (t_topk_Press a0 a1) (by kernel_rfl) (by kernel_rfl) (by kernel_rfl) (by kernel_rfl)
/-- thrum/thrumlaw09.TopkFrames. -/
def en_thrumlaw09_TopkFrames (v : Bool) : PV := bB v
noncomputable abbrev F_thrumlaw09_TopkFrames : Fe := .of Tryz.prog 3 en_thrumlaw09_TopkFrames
def S_thrumlaw09_TopkFrames_l0 (r1 : Bool) (r3 : Int × Int × (List Int) × (List Int) × Int × Int × Int) (r7 : (List Int) × Int) (x0 : Int) : St := ⟨[(93, nI x0), (92, nI (r7.1.length : Int)), (12, sI (.s 17648) r7.1), (6, .ptr (.s 9711) 0), (5, bB r1)], [(.s 9711, [nI r3.1, nI r3.2.1, lI r3.2.2.1, lI r3.2.2.2.1, nI r3.2.2.2.2.1, nI r3.2.2.2.2.2.1, .d (.lst []), .d (.lst [])])]⟩
def E_thrumlaw09_TopkFrames_l0 (r1 : Bool) (r3 : Int × Int × (List Int) × (List Int) × Int × Int × Int) (r7 : (List Int) × Int) (x : Unit) : St := ⟨[(5, bB r1)], []⟩
noncomputable def t_thrumlaw09_TopkFrames_l0 (r1 : Bool) (r3 : Int × Int × (List Int) × (List Int) × Int × Int × Int) (r7 : (List Int) × Int) (x0 : Int) : Tr F_thrumlaw09_TopkFrames Int (Sum Bool Unit) :=
 .ite 6 94 (x0 < (r7.1.length : Int))
 (.idx 13 eI r7.1 x0 <| .idx 4 eI r3.2.2.2.1 x0 <| .iteN 3 105 ((at' r7.1 x0) = (at' r3.2.2.2.1 x0))
 (.ret 9 (.inl false))
 (.again 7 (IntKind.i64.wrap (x0 + 1))))
 (.ret 4 (.inr ()))
theorem ok_thrumlaw09_TopkFrames_l0 (r1 : Bool) (r3 : Int × Int × (List Int) × (List Int) × Int × Int × Int) (r7 : (List Int) × Int) (x0 : Int) : Ok (M_thrumlaw09_TopkFrames_l0 r1 r3 r7 x0) fun v => go Tryz.prog F_thrumlaw09_TopkFrames.N (PostR (fun r => Fnl F_thrumlaw09_TopkFrames.res (F_thrumlaw09_TopkFrames.en r) (F_thrumlaw09_TopkFrames.bx r)) (.exit 0) (E_thrumlaw09_TopkFrames_l0 r1 r3 r7) v) [.l (lpA Tryz.prog 3 0)] .norm (S_thrumlaw09_TopkFrames_l0 r1 r3 r7 x0) := by
 refine M_thrumlaw09_TopkFrames_l0.partial_correctness r1 r3 r7 (fun x0 v => go Tryz.prog F_thrumlaw09_TopkFrames.N (PostR (fun r => Fnl F_thrumlaw09_TopkFrames.res (F_thrumlaw09_TopkFrames.en r) (F_thrumlaw09_TopkFrames.bx r)) (.exit 0) (E_thrumlaw09_TopkFrames_l0 r1 r3 r7) v) [.l (lpA Tryz.prog 3 0)] .norm (S_thrumlaw09_TopkFrames_l0 r1 r3 r7 x0)) ?_ x0
 clear x0
 intro f IH x0
 exact Tr.lpR (F := F_thrumlaw09_TopkFrames) (S := fun x => S_thrumlaw09_TopkFrames_l0 r1 r3 r7 x) (S' := E_thrumlaw09_TopkFrames_l0 r1 r3 r7) (t_thrumlaw09_TopkFrames_l0 r1 r3 r7 x0) (fun x => f x) (fun x r h => IH x r h) (by kernel_rfl) (by kernel_rfl)
noncomputable def t_thrumlaw09_TopkFrames (a0 : Int) (a1 : List Int) : Tr F_thrumlaw09_TopkFrames Empty Bool :=
 .call 6 ok_thrumlaw09_live nl_thrumlaw09_live fun r1 => .iteX 8 17 (r1)
 (.ret 7 false)
 (.call 6 (ok_thrumlaw09_few a1) nl_thrumlaw09_few fun r2 => .iteX 2 20 (r2)
 (.ret 8 r1)
 (.callZ 6 (ok_topk_Press a0 a1) fun r3 => .iteN 13 29 (r3.2.2.2.2.2.2 = 0)
 (.join 5 4 (γ := Bool) ⟨fun x => [(35, bB x)], [], fun _ => [], []⟩
 (.iteB 0 31 (r1)
 (.ret 5 (r3.2.1 == 0))
 (.ret 5 false))
 fun j4 => .ret 4 j4)
 (.call 6 (ok_frame_Write (⟨1, 0, 0, (⟨r3.1, r3.2.1, r3.2.2.1, r3.2.2.2.1, r3.2.2.2.2.1, r3.2.2.2.2.2.1, [], []⟩ : T_api_Sent)⟩ : T_api_Frame)) nl_frame_Write fun r5 => .callZ 9 (ok_frame_Read r5.1) fun r6 => .call 12 (ok_index_Gather r3.2.2.1 a1) nl_index_Gather fun r7 => .join 12 3 (γ := Bool) ⟨fun x => [(59, bB x)], [13, 12, 10, 6, 5, 1], fun _ => [], [.s 16095, .s 9711]⟩
 (.iteN 0 56 (r5.2 = 0)
 (.ret 4 true)
 (.ret 4 (r6.2.2.2.2.2.2.2.2.2.2.2 != 0)))
 fun j8 => .join 1 3 (γ := Bool) ⟨fun x => [(63, bB x)], [12, 10, 6, 5, 1], fun _ => [], [.s 16095, .s 9711]⟩
 (.iteB 0 60 (j8)
 (.ret 4 true)
 (.ret 4 (r7.2 != 0)))
 fun j9 => .join 1 4 (γ := Bool) ⟨fun x => [(68, bB x)], [12, 10, 6, 5, 1], fun _ => [], [.s 16095, .s 9711]⟩
 (.iteB 0 64 (j9)
 (.ret 5 true)
 (.call 1 (ok_frame_May (⟨r3.1, r3.2.1, r3.2.2.1, r3.2.2.2.1, r3.2.2.2.2.1, r3.2.2.2.2.2.1, [], []⟩ : T_api_Sent)) nl_frame_May fun r10 => .ret 3 (!r10)))
 fun j11 => .join 1 6 (γ := Bool) ⟨fun x => [(75, bB x)], [12, 6, 5, 1], fun _ => [], [.s 9711]⟩
 (.iteB 0 69 (j11)
 (.ret 7 true)
 (.call 3 (ok_thrumref07_SameSent (⟨r6.2.2.2.1, r6.2.2.2.2.1, r6.2.2.2.2.2.1, r6.2.2.2.2.2.2.1, r6.2.2.2.2.2.2.2.1, r6.2.2.2.2.2.2.2.2.1, r6.2.2.2.2.2.2.2.2.2.1, r6.2.2.2.2.2.2.2.2.2.2.1⟩ : T_api_Sent) (⟨r3.1, r3.2.1, r3.2.2.1, r3.2.2.2.1, r3.2.2.2.2.1, r3.2.2.2.2.2.1, [], []⟩ : T_api_Sent)) nl_thrumref07_SameSent fun r12 => .ret 3 (!r12)))
 fun j13 => .join 1 6 (γ := Bool) ⟨fun x => [(82, bB x)], [12, 6, 5], fun _ => [], [.s 9711]⟩
 (.iteB 0 76 (j13)
 (.ret 7 true)
 (.len 3 eI a1 <| .ret 3 (r3.2.1 != (a1.length : Int))))
 fun j14 => .join 1 7 (γ := Bool) ⟨fun x => [(90, bB x)], [12, 6, 5], fun _ => [], [.s 9711]⟩
 (.iteB 0 83 (j14)
 (.ret 8 true)
 (.len 1 eI r7.1 <| .len 2 eI r3.2.2.2.1 <| .ret 3 ((r7.1.length : Int) != (r3.2.2.2.1.length : Int))))
 fun j15 => .iteB 1 90 (j15)
 (.ret 7 false)
 (.len 6 eI r7.1 <| .loopR 4 id ⟨_, _, _, _, _, ok_thrumlaw09_TopkFrames_l0 r1 r3 r7 0⟩ fun j16 => .ret 7 r1))))
noncomputable def s_thrumlaw09_TopkFrames (a0 : Int) (a1 : List Int) : Sg Tryz.prog Bool := ⟨3, M_thrumlaw09_TopkFrames a0 a1, [.int .i64 a0, .lst (List.map (D.int .i64) a1)], en_thrumlaw09_TopkFrames⟩
theorem ok_thrumlaw09_TopkFrames (a0 : Int) (a1 : List Int) : (s_thrumlaw09_TopkFrames a0 a1).Holds := Tr.fn (F := F_thrumlaw09_TopkFrames) (t_thrumlaw09_TopkFrames a0 a1) (by kernel_rfl) (by kernel_rfl) (by kernel_rfl) (by kernel_rfl)
end Go.Proofs.YtelobmiooldoaaaGreat.Abs
