/- Walks of functions, printed by a program. Conditions: none. -/
import Derived.Test.YtelobmiooldoaaaProg
import Derived.Test.YtelobmiooldoaaaAbsG8
import Derived.Test.YtelobmiooldoaaaTM
namespace Go.Proofs.Ytelobmiooldoaaa.Abs
open Go Go.RowKit
set_option linter.unusedVariables false
set_option maxRecDepth 100000
open Z
def T_api_Sent.e : Enc T_api_Sent := ⟨T_api_Sent.en, 8, fun _ => rfl⟩
def T_topk_one.e : Enc T_topk_one := ⟨T_topk_one.en, 2, fun _ => rfl⟩
/-- thrum/topk.size. -/
def en_topk_size (v : Int) : PV := nU v
noncomputable abbrev F_topk_size : Fe := .of Try.prog 57 en_topk_size
theorem nl_topk_size : ∀ v, (en_topk_size v).noLst := fun _ => trivial
noncomputable def t_topk_size (a0 : Int) : Tr F_topk_size Empty Int :=
 .ite 10 4 (a0 < 0)
 (.ret 10 (IntKind.u64.wrap (0 - (IntKind.u64.wrap a0))))
 (.ret 9 (IntKind.u64.wrap a0))
noncomputable def s_topk_size (a0 : Int) : Sg Try.prog Int := ⟨57, M_topk_size a0, [.int .i64 a0], en_topk_size⟩
theorem ok_topk_size (a0 : Int) : (s_topk_size a0).Holds := Tr.fn (F := F_topk_size) (t_topk_size a0) (by kernel_rfl) (by kernel_rfl) (by kernel_rfl) (by kernel_rfl)
/-- thrum/topk.ones. -/
def en_topk_ones (v : (List T_topk_one)) : PV := .sl (.s 0) 2 0 (List.map T_topk_one.en v)
noncomputable abbrev F_topk_ones : Fe := .of Try.prog 46 en_topk_ones
def S_topk_ones_l0 (a0 : List Int) (x0 : Int) (x1 : List T_topk_one) : St := ⟨[(11, nI x0), (10, nI (a0.length : Int)), (9, lI a0), (3, .sl (.h 0) 2 0 (List.map T_topk_one.en x1))], []⟩
def E_topk_ones_l0 (a0 : List Int) (x : (List T_topk_one)) : St := ⟨[(3, .sl (.h 1) 2 0 (List.map T_topk_one.en x))], []⟩
noncomputable def t_topk_ones_l0 (a0 : List Int) (x0 : Int) (x1 : List T_topk_one) : Tr F_topk_ones (Int × (List T_topk_one)) (List T_topk_one) :=
 .ite 6 12 (x0 < (a0.length : Int))
 (.idx 7 eI a0 x0 <| .call 9 (ok_topk_size (at' a0 x0)) nl_topk_size fun r3 => .idx 1 T_topk_one.e x1 x0 <| .sto 0 [3] T_topk_one.e x1 x0 (⟨x0, r3⟩ : T_topk_one) <| .let_ (x1.set (Int.toNat x0) (⟨x0, r3⟩ : T_topk_one) : List T_topk_one) fun y4 => .again 6 (IntKind.i64.wrap (x0 + 1), y4))
 (.ret 4 x1)
theorem ok_topk_ones_l0 (a0 : List Int) (x0 : Int) (x1 : List T_topk_one) : Ok (M_topk_ones_l0 a0 x0 x1) fun v => go Try.prog F_topk_ones.N (PostN (.exit 0) (E_topk_ones_l0 a0) v) [.l (lpA Try.prog 46 0)] .norm (S_topk_ones_l0 a0 x0 x1) := by
 refine M_topk_ones_l0.partial_correctness a0 (fun x0 x1 v => go Try.prog F_topk_ones.N (PostN (.exit 0) (E_topk_ones_l0 a0) v) [.l (lpA Try.prog 46 0)] .norm (S_topk_ones_l0 a0 x0 x1)) ?_ x0 x1
 clear x0 x1
 intro f IH x0 x1
 exact Tr.lpN (F := F_topk_ones) (S := fun x => S_topk_ones_l0 a0 x.1 x.2) (S' := E_topk_ones_l0 a0) (t_topk_ones_l0 a0 x0 x1) (fun x => f x.1 x.2) (fun x r h => IH x.1 x.2 r h) (by kernel_rfl) (by kernel_rfl)
theorem nl_topk_ones : ∀ v, (en_topk_ones v).noLst := fun _ => (flat_map_of fun _ => ⟨trivial, trivial, trivial⟩)
noncomputable def t_topk_ones (a0 : List Int) : Tr F_topk_ones Empty (List T_topk_one) :=
 .len 7 eI a0 <| .mk 0 T_topk_one.e 16 (⟨0, 0⟩ : T_topk_one) (a0.length : Int) (a0.length : Int) <| .let_ (List.replicate (Int.toNat (a0.length : Int)) (⟨0, 0⟩ : T_topk_one) : List T_topk_one) fun y1 => .len 6 eI a0 <| .loop 4 ⟨_, _, _, _, _, ok_topk_ones_l0 a0 0 y1⟩ fun j6 => .ret 7 j6
noncomputable def s_topk_ones (a0 : List Int) : Sg Try.prog (List T_topk_one) := ⟨46, M_topk_ones a0, [.lst (List.map (D.int .i64) a0)], en_topk_ones⟩
theorem ok_topk_ones (a0 : List Int) : (s_topk_ones a0).Holds := Tr.fn (F := F_topk_ones) (t_topk_ones a0) (by kernel_rfl) (by kernel_rfl) (by kernel_rfl) (by kernel_rfl)
/-- (*thrum/topk.best).Push. -/
def en_thrum_topk_best_Push_c (v : (List T_topk_one)) : PV := .tup []
def bx_thrum_topk_best_Push_c (v : (List T_topk_one)) : List (Tg × List PV) := [(.up (.s 0), [.sl (.s 0) 2 0 (List.map T_topk_one.en v)])]
noncomputable abbrev F_thrum_topk_best_Push_c : Fe := .of Try.prog 193 en_thrum_topk_best_Push_c bx_thrum_topk_best_Push_c
theorem nl_thrum_topk_best_Push_c : ∀ v, (en_thrum_topk_best_Push_c v).noLst := fun _ => trivial
theorem nlB_thrum_topk_best_Push_c : ∀ v, noLstB (bx_thrum_topk_best_Push_c v) := fun _ => ⟨⟨(flat_map_of fun _ => ⟨trivial, trivial, trivial⟩), trivial⟩, trivial⟩
noncomputable def t_thrum_topk_best_Push_c (a0 : List T_topk_one) (a1 : Int) (a2 : Int) : Tr F_thrum_topk_best_Push_c Empty (List T_topk_one) :=
 .hold 9 [] <| .app 0 T_topk_one.e 16 a0 [(⟨a1, a2⟩ : T_topk_one)] <| .hold 1 [] <| .ret 4 (a0 ++ [(⟨a1, a2⟩ : T_topk_one)])
noncomputable def s_thrum_topk_best_Push_c (a0 : List T_topk_one) (a1 : Int) (a2 : Int) : SgG Try.prog (List T_topk_one) := ⟨193, M_thrum_topk_best_Push_c a0 a1 a2, [.ptr (.up (.s 0)) 0, .d (.ifc 80 (.agg [.int .i64 a1, .int .u64 a2]))], [(.up (.s 0), [.sl (.h 0) 2 0 (List.map T_topk_one.en a0)])], en_thrum_topk_best_Push_c, bx_thrum_topk_best_Push_c⟩
theorem ok_thrum_topk_best_Push_c (a0 : List T_topk_one) (a1 : Int) (a2 : Int) : (s_thrum_topk_best_Push_c a0 a1 a2).Holds := Tr.fnG (F := F_thrum_topk_best_Push_c) (t_thrum_topk_best_Push_c a0 a1 a2) (by kernel_rfl) (by kernel_rfl) (by kernel_rfl) (by kernel_rfl)
/-- (thrum/topk.best).Len. -/
def en_thrum_topk_best_Len (v : Int) : PV := nI v
noncomputable abbrev F_thrum_topk_best_Len : Fe := .of Try.prog 48 en_thrum_topk_best_Len
theorem nl_thrum_topk_best_Len : ∀ v, (en_thrum_topk_best_Len v).noLst := fun _ => trivial
noncomputable def t_thrum_topk_best_Len (a0 : List T_topk_one) : Tr F_thrum_topk_best_Len Empty Int :=
 .len 7 T_topk_one.e a0 <| .ret 3 (a0.length : Int)
noncomputable def s_thrum_topk_best_Len (a0 : List T_topk_one) : Sg Try.prog Int := ⟨48, M_thrum_topk_best_Len a0, [.lst (List.map T_topk_one.en a0)], en_thrum_topk_best_Len⟩
theorem ok_thrum_topk_best_Len (a0 : List T_topk_one) : (s_thrum_topk_best_Len a0).Holds := Tr.fn (F := F_thrum_topk_best_Len) (t_thrum_topk_best_Len a0) (by kernel_rfl) (by kernel_rfl) (by kernel_rfl) (by kernel_rfl)
/-- cmp.isNaN[uint64]. -/
def en_cmp_isNaN_uint64 (v : Bool) : PV := bB v
noncomputable abbrev F_cmp_isNaN_uint64 : Fe := .of Try.prog 128 en_cmp_isNaN_uint64
theorem nl_cmp_isNaN_uint64 : ∀ v, (en_cmp_isNaN_uint64 v).noLst := fun _ => trivial
noncomputable def t_cmp_isNaN_uint64 (a0 : Int) : Tr F_cmp_isNaN_uint64 Empty Bool :=
 .ret 12 (a0 != a0)
noncomputable def s_cmp_isNaN_uint64 (a0 : Int) : Sg Try.prog Bool := ⟨128, M_cmp_isNaN_uint64 a0, [.int .u64 a0], en_cmp_isNaN_uint64⟩
theorem ok_cmp_isNaN_uint64 (a0 : Int) : (s_cmp_isNaN_uint64 a0).Holds := Tr.fn (F := F_cmp_isNaN_uint64) (t_cmp_isNaN_uint64 a0) (by kernel_rfl) (by kernel_rfl) (by kernel_rfl) (by kernel_rfl)
/-- cmp.Compare[uint64]. -/
def en_cmp_Compare_uint64 (v : Int) : PV := nI v
noncomputable abbrev F_cmp_Compare_uint64 : Fe := .of Try.prog 89 en_cmp_Compare_uint64
theorem nl_cmp_Compare_uint64 : ∀ v, (en_cmp_Compare_uint64 v).noLst := fun _ => trivial
noncomputable def t_cmp_Compare_uint64 (a0 : Int) (a1 : Int) : Tr F_cmp_Compare_uint64 Empty Int :=
 .call 7 (ok_cmp_isNaN_uint64 a0) nl_cmp_isNaN_uint64 fun r1 => .call 5 (ok_cmp_isNaN_uint64 a1) nl_cmp_isNaN_uint64 fun r2 => .iteB 7 11 (r1)
 (.iteB 6 12 (r2)
 (.ret 8 0)
 (.ret 8 (-1)))
 (.iteB 7 13 (r2)
 (.ret 7 1)
 (.ite 9 16 (a0 < a1)
 (.ret 7 (-1))
 (.ite 9 19 (a0 > a1)
 (.ret 7 1)
 (.ret 7 0))))
noncomputable def s_cmp_Compare_uint64 (a0 : Int) (a1 : Int) : Sg Try.prog Int := ⟨89, M_cmp_Compare_uint64 a0 a1, [.int .u64 a0, .int .u64 a1], en_cmp_Compare_uint64⟩
theorem ok_cmp_Compare_uint64 (a0 : Int) (a1 : Int) : (s_cmp_Compare_uint64 a0 a1).Holds := Tr.fn (F := F_cmp_Compare_uint64) (t_cmp_Compare_uint64 a0 a1) (by kernel_rfl) (by kernel_rfl) (by kernel_rfl) (by kernel_rfl)
/-- cmp.isNaN[int]. -/
def en_cmp_isNaN_int (v : Bool) : PV := bB v
noncomputable abbrev F_cmp_isNaN_int : Fe := .of Try.prog 129 en_cmp_isNaN_int
theorem nl_cmp_isNaN_int : ∀ v, (en_cmp_isNaN_int v).noLst := fun _ => trivial
noncomputable def t_cmp_isNaN_int (a0 : Int) : Tr F_cmp_isNaN_int Empty Bool :=
 .ret 12 (a0 != a0)
noncomputable def s_cmp_isNaN_int (a0 : Int) : Sg Try.prog Bool := ⟨129, M_cmp_isNaN_int a0, [.int .i64 a0], en_cmp_isNaN_int⟩
theorem ok_cmp_isNaN_int (a0 : Int) : (s_cmp_isNaN_int a0).Holds := Tr.fn (F := F_cmp_isNaN_int) (t_cmp_isNaN_int a0) (by kernel_rfl) (by kernel_rfl) (by kernel_rfl) (by kernel_rfl)
/-- cmp.Compare[int]. -/
def en_cmp_Compare_int (v : Int) : PV := nI v
noncomputable abbrev F_cmp_Compare_int : Fe := .of Try.prog 90 en_cmp_Compare_int
theorem nl_cmp_Compare_int : ∀ v, (en_cmp_Compare_int v).noLst := fun _ => trivial
noncomputable def t_cmp_Compare_int (a0 : Int) (a1 : Int) : Tr F_cmp_Compare_int Empty Int :=
 .call 7 (ok_cmp_isNaN_int a0) nl_cmp_isNaN_int fun r1 => .call 5 (ok_cmp_isNaN_int a1) nl_cmp_isNaN_int fun r2 => .iteB 7 11 (r1)
 (.iteB 6 12 (r2)
 (.ret 8 0)
 (.ret 8 (-1)))
 (.iteB 7 13 (r2)
 (.ret 7 1)
 (.ite 9 16 (a0 < a1)
 (.ret 7 (-1))
 (.ite 9 19 (a0 > a1)
 (.ret 7 1)
 (.ret 7 0))))
noncomputable def s_cmp_Compare_int (a0 : Int) (a1 : Int) : Sg Try.prog Int := ⟨90, M_cmp_Compare_int a0 a1, [.int .i64 a0, .int .i64 a1], en_cmp_Compare_int⟩
theorem ok_cmp_Compare_int (a0 : Int) (a1 : Int) : (s_cmp_Compare_int a0 a1).Holds := Tr.fn (F := F_cmp_Compare_int) (t_cmp_Compare_int a0 a1) (by kernel_rfl) (by kernel_rfl) (by kernel_rfl) (by kernel_rfl)
/-- cmp.Or[int]. -/
def en_cmp_Or_int (v : Int) : PV := nI v
noncomputable abbrev F_cmp_Or_int : Fe := .of Try.prog 88 en_cmp_Or_int
def S_cmp_Or_int_l0 (a0 : List Int) (x0 : Int) : St := ⟨[(8, nI x0), (7, nI (a0.length : Int)), (6, lI a0), (3, nI 0)], []⟩
def E_cmp_Or_int_l0 (a0 : List Int) (x : Unit) : St := ⟨[(3, nI 0)], []⟩
noncomputable def t_cmp_Or_int_l0 (a0 : List Int) (x0 : Int) : Tr F_cmp_Or_int Int (Sum Int Unit) :=
 .ite 6 9 (x0 < (a0.length : Int))
 (.idx 6 eI a0 x0 <| .iteN 9 14 ((at' a0 x0) = 0)
 (.ret 10 (.inl (at' a0 x0)))
 (.again 7 (IntKind.i64.wrap (x0 + 1))))
 (.ret 4 (.inr ()))
theorem ok_cmp_Or_int_l0 (a0 : List Int) (x0 : Int) : Ok (M_cmp_Or_int_l0 a0 x0) fun v => go Try.prog F_cmp_Or_int.N (PostR (fun r => Fnl F_cmp_Or_int.res (F_cmp_Or_int.en r) (F_cmp_Or_int.bx r)) (.exit 0) (E_cmp_Or_int_l0 a0) v) [.l (lpA Try.prog 88 0)] .norm (S_cmp_Or_int_l0 a0 x0) := by
 refine M_cmp_Or_int_l0.partial_correctness a0 (fun x0 v => go Try.prog F_cmp_Or_int.N (PostR (fun r => Fnl F_cmp_Or_int.res (F_cmp_Or_int.en r) (F_cmp_Or_int.bx r)) (.exit 0) (E_cmp_Or_int_l0 a0) v) [.l (lpA Try.prog 88 0)] .norm (S_cmp_Or_int_l0 a0 x0)) ?_ x0
 clear x0
 intro f IH x0
 exact Tr.lpR (F := F_cmp_Or_int) (S := fun x => S_cmp_Or_int_l0 a0 x) (S' := E_cmp_Or_int_l0 a0) (t_cmp_Or_int_l0 a0 x0) (fun x => f x) (fun x r h => IH x r h) (by kernel_rfl) (by kernel_rfl)
theorem nl_cmp_Or_int : ∀ v, (en_cmp_Or_int v).noLst := fun _ => trivial
noncomputable def t_cmp_Or_int (a0 : List Int) : Tr F_cmp_Or_int Empty Int :=
 .len 12 eI a0 <| .loopR 4 id ⟨_, _, _, _, _, ok_cmp_Or_int_l0 a0 0⟩ fun j1 => .ret 7 0
noncomputable def s_cmp_Or_int (a0 : List Int) : Sg Try.prog Int := ⟨88, M_cmp_Or_int a0, [.lst (List.map (D.int .i64) a0)], en_cmp_Or_int⟩
theorem ok_cmp_Or_int (a0 : List Int) : (s_cmp_Or_int a0).Holds := Tr.fn (F := F_cmp_Or_int) (t_cmp_Or_int a0) (by kernel_rfl) (by kernel_rfl) (by kernel_rfl) (by kernel_rfl)
/-- (thrum/topk.one).compare. -/
def en_thrum_topk_one_compare (v : Int) : PV := nI v
noncomputable abbrev F_thrum_topk_one_compare : Fe := .of Try.prog 54 en_thrum_topk_one_compare
theorem nl_thrum_topk_one_compare : ∀ v, (en_thrum_topk_one_compare v).noLst := fun _ => trivial
noncomputable def t_thrum_topk_one_compare (a0 : T_topk_one) (a1 : T_topk_one) : Tr F_thrum_topk_one_compare Empty Int :=
 .call 16 (ok_cmp_Compare_uint64 a1.F_size a0.F_size) nl_cmp_Compare_uint64 fun r1 => .hold 1 [] <| .call 0 (ok_cmp_Compare_int a0.F_place a1.F_place) nl_cmp_Compare_int fun r2 => .call 1 (ok_cmp_Or_int [r1, r2]) nl_cmp_Or_int fun r3 => .ret 4 r3
noncomputable def s_thrum_topk_one_compare (a0 : T_topk_one) (a1 : T_topk_one) : Sg Try.prog Int := ⟨54, M_thrum_topk_one_compare a0 a1, [.agg [.int .i64 a0.F_place, .int .u64 a0.F_size], .agg [.int .i64 a1.F_place, .int .u64 a1.F_size]], en_thrum_topk_one_compare⟩
theorem ok_thrum_topk_one_compare (a0 : T_topk_one) (a1 : T_topk_one) : (s_thrum_topk_one_compare a0 a1).Holds := Tr.fn (F := F_thrum_topk_one_compare) (t_thrum_topk_one_compare a0 a1) (by kernel_rfl) (by kernel_rfl) (by kernel_rfl) (by kernel_rfl)
/-- (thrum/topk.best).Less. -/
def en_thrum_topk_best_Less (v : Bool) : PV := bB v
noncomputable abbrev F_thrum_topk_best_Less : Fe := .of Try.prog 191 en_thrum_topk_best_Less
theorem nl_thrum_topk_best_Less : ∀ v, (en_thrum_topk_best_Less v).noLst := fun _ => trivial
noncomputable def t_thrum_topk_best_Less (a0 : List T_topk_one) (a1 : Int) (a2 : Int) : Tr F_thrum_topk_best_Less Empty Bool :=
 .idx 8 T_topk_one.e a0 a1 <| .idx 3 T_topk_one.e a0 a2 <| .call 1 (ok_thrum_topk_one_compare (at' a0 a1) (at' a0 a2)) nl_thrum_topk_one_compare fun r1 => .ret 4 (decide (r1 > 0))
noncomputable def s_thrum_topk_best_Less (a0 : List T_topk_one) (a1 : Int) (a2 : Int) : Sg Try.prog Bool := ⟨191, M_thrum_topk_best_Less a0 a1 a2, [.lst (List.map T_topk_one.en a0), .int .i64 a1, .int .i64 a2], en_thrum_topk_best_Less⟩
theorem ok_thrum_topk_best_Less (a0 : List T_topk_one) (a1 : Int) (a2 : Int) : (s_thrum_topk_best_Less a0 a1 a2).Holds := Tr.fn (F := F_thrum_topk_best_Less) (t_thrum_topk_best_Less a0 a1 a2) (by kernel_rfl) (by kernel_rfl) (by kernel_rfl) (by kernel_rfl)
/-- (thrum/topk.best).Swap. -/
def en_thrum_topk_best_Swap (v : Unit) : PV := .tup []
def bx_thrum_topk_best_Swap (v : Unit) : List (Tg × List PV) := []
noncomputable abbrev F_thrum_topk_best_Swap : Fe := .of Try.prog 194 en_thrum_topk_best_Swap bx_thrum_topk_best_Swap
theorem nl_thrum_topk_best_Swap : ∀ v, (en_thrum_topk_best_Swap v).noLst := fun _ => trivial
theorem nlB_thrum_topk_best_Swap : ∀ v, noLstB (bx_thrum_topk_best_Swap v) := fun _ => trivial
noncomputable def t_thrum_topk_best_Swap (a0 : List T_topk_one) (a1 : Int) (a2 : Int) : Tr F_thrum_topk_best_Swap Empty Unit :=
 .idx 7 T_topk_one.e a0 a2 <| .idx 3 T_topk_one.e a0 a1 <| .idx 1 T_topk_one.e a0 a1 <| .sto 0 [14, 10, 8, 6, 0] T_topk_one.e a0 a1 (at' a0 a2) <| .hold 1 [] <| .idx 0 T_topk_one.e (a0.set (Int.toNat a1) (at' a0 a2)) a2 <| .sto 0 [14, 10, 8, 6, 0] T_topk_one.e (a0.set (Int.toNat a1) (at' a0 a2)) a2 (at' a0 a1) <| .ret 2 ()
noncomputable def s_thrum_topk_best_Swap (a0 : List T_topk_one) (a1 : Int) (a2 : Int) : SgG Try.prog Unit := ⟨194, M_thrum_topk_best_Swap a0 a1 a2, [.sl (.h 0) 2 0 (List.map T_topk_one.en a0), nI a1, nI a2], [], en_thrum_topk_best_Swap, bx_thrum_topk_best_Swap⟩
theorem ok_thrum_topk_best_Swap (a0 : List T_topk_one) (a1 : Int) (a2 : Int) : (s_thrum_topk_best_Swap a0 a1 a2).Holds := Tr.fnG (F := F_thrum_topk_best_Swap) (t_thrum_topk_best_Swap a0 a1 a2) (by kernel_rfl) (by kernel_rfl) (by kernel_rfl) (by kernel_rfl)
/-- (thrum/topk.best).Swap. -/
def en_thrum_topk_best_Swap_g (v : (List T_topk_one)) : PV := .tup []
def bx_thrum_topk_best_Swap_g (v : (List T_topk_one)) : List (Tg × List PV) := [(.up (.s 0), [.sl (.s 0) 2 0 (List.map T_topk_one.en v)])]
noncomputable abbrev F_thrum_topk_best_Swap_g : Fe := .of Try.prog 194 en_thrum_topk_best_Swap_g bx_thrum_topk_best_Swap_g
theorem nl_thrum_topk_best_Swap_g : ∀ v, (en_thrum_topk_best_Swap_g v).noLst := fun _ => trivial
theorem nlB_thrum_topk_best_Swap_g : ∀ v, noLstB (bx_thrum_topk_best_Swap_g v) := fun _ => ⟨⟨(flat_map_of fun _ => ⟨trivial, trivial, trivial⟩), trivial⟩, trivial⟩
noncomputable def t_thrum_topk_best_Swap_g (a0 : List T_topk_one) (a1 : Int) (a2 : Int) : Tr F_thrum_topk_best_Swap_g Empty (List T_topk_one) :=
 .idx 7 T_topk_one.e a0 a2 <| .idx 3 T_topk_one.e a0 a1 <| .idx 1 T_topk_one.e a0 a1 <| .sto 0 [14, 10, 8, 6, 0] T_topk_one.e a0 a1 (at' a0 a2) <| .hold 1 [] <| .idx 0 T_topk_one.e (a0.set (Int.toNat a1) (at' a0 a2)) a2 <| .sto 0 [14, 10, 8, 6, 0] T_topk_one.e (a0.set (Int.toNat a1) (at' a0 a2)) a2 (at' a0 a1) <| .ret 2 ((a0.set (Int.toNat a1) (at' a0 a2)).set (Int.toNat a2) (at' a0 a1))
noncomputable def s_thrum_topk_best_Swap_g (a0 : List T_topk_one) (a1 : Int) (a2 : Int) : SgG Try.prog (List T_topk_one) := ⟨194, M_thrum_topk_best_Swap_g a0 a1 a2, [.sl (.h 0) 2 0 (List.map T_topk_one.en a0), nI a1, nI a2], [(.up (.s 0), [.sl (.h 0) 2 0 (List.map T_topk_one.en a0)])], en_thrum_topk_best_Swap_g, bx_thrum_topk_best_Swap_g⟩
theorem ok_thrum_topk_best_Swap_g (a0 : List T_topk_one) (a1 : Int) (a2 : Int) : (s_thrum_topk_best_Swap_g a0 a1 a2).Holds := Tr.fnG (F := F_thrum_topk_best_Swap_g) (t_thrum_topk_best_Swap_g a0 a1 a2) (by kernel_rfl) (by kernel_rfl) (by kernel_rfl) (by kernel_rfl)
/-- container/heap.up. -/
def en_container_heap_up_c (v : (List T_topk_one)) : PV := .tup []
def bx_container_heap_up_c (v : (List T_topk_one)) : List (Tg × List PV) := [(.up (.s 0), [.sl (.s 0) 2 0 (List.map T_topk_one.en v)])]
noncomputable abbrev F_container_heap_up_c : Fe := .of Try.prog 82 en_container_heap_up_c bx_container_heap_up_c
def S_container_heap_up_c_l0 (x0 : Int) (x1 : List T_topk_one) : St := ⟨[(0, .ifc 75 (.ptr (.up (.s 0)) 0)), (1, nI x0)], [(.up (.s 0), [.sl (.h 1) 2 0 (List.map T_topk_one.en x1)])]⟩
def E_container_heap_up_c_l0 (x : (List T_topk_one)) : St := ⟨[], [(.up (.s 0), [.sl (.h 2) 2 0 (List.map T_topk_one.en x)])]⟩
noncomputable def t_container_heap_up_c_l0 (x0 : Int) (x1 : List T_topk_one) : Tr F_container_heap_up_c (Int × (List T_topk_one)) (List T_topk_one) :=
 .join 16 6 (γ := Bool) ⟨fun x => [(17, bB x)], [4, 0, 1], fun _ => [], [.up (.s 0)]⟩
 (.ite 0 11 ((IntKind.i64.wrap (Int.tdiv (IntKind.i64.wrap (x0 - 1)) 2)) = x0)
 (.ret 7 true)
 (.call 3 (ok_thrum_topk_best_Less x1 x0 (IntKind.i64.wrap (Int.tdiv (IntKind.i64.wrap (x0 - 1)) 2))) nl_thrum_topk_best_Less fun r1 => .ret 3 (!r1)))
 fun j2 => .iteB 1 17 (j2)
 (.ret 5 x1)
 (.callB 7 [(.h 0, .h 1), (.up (.s 0), .up (.s 0))] (ok_thrum_topk_best_Swap_g x1 (IntKind.i64.wrap (Int.tdiv (IntKind.i64.wrap (x0 - 1)) 2)) x0) nl_thrum_topk_best_Swap_g nlB_thrum_topk_best_Swap_g fun r3 => .again 6 (IntKind.i64.wrap (Int.tdiv (IntKind.i64.wrap (x0 - 1)) 2), r3))
theorem ok_container_heap_up_c_l0 (x0 : Int) (x1 : List T_topk_one) : Ok (M_container_heap_up_c_l0 x0 x1) fun v => go Try.prog F_container_heap_up_c.N (PostN (.exit 0) (E_container_heap_up_c_l0) v) [.l (lpA Try.prog 82 0)] .norm (S_container_heap_up_c_l0 x0 x1) := by
 refine M_container_heap_up_c_l0.partial_correctness (fun x0 x1 v => go Try.prog F_container_heap_up_c.N (PostN (.exit 0) (E_container_heap_up_c_l0) v) [.l (lpA Try.prog 82 0)] .norm (S_container_heap_up_c_l0 x0 x1)) ?_ x0 x1
 clear x0 x1
 intro f IH x0 x1
 exact Tr.lpN (F := F_container_heap_up_c) (S := fun x => S_container_heap_up_c_l0 x.1 x.2) (S' := E_container_heap_up_c_l0) (t_container_heap_up_c_l0 x0 x1) (fun x => f x.1 x.2) (fun x r h => IH x.1 x.2 r h) (by kernel_rfl) (by kernel_rfl)
theorem nl_container_heap_up_c : ∀ v, (en_container_heap_up_c v).noLst := fun _ => trivial
theorem nlB_container_heap_up_c : ∀ v, noLstB (bx_container_heap_up_c v) := fun _ => ⟨⟨(flat_map_of fun _ => ⟨trivial, trivial, trivial⟩), trivial⟩, trivial⟩
noncomputable def t_container_heap_up_c (a0 : List T_topk_one) (a1 : Int) : Tr F_container_heap_up_c Empty (List T_topk_one) :=
 .loop 2 ⟨_, _, _, _, _, ok_container_heap_up_c_l0 a1 a0⟩ fun j4 => .ret 1 j4
noncomputable def s_container_heap_up_c (a0 : List T_topk_one) (a1 : Int) : SgG Try.prog (List T_topk_one) := ⟨82, M_container_heap_up_c a0 a1, [.ifc 75 (.ptr (.up (.s 0)) 0), nI a1], [(.up (.s 0), [.sl (.h 0) 2 0 (List.map T_topk_one.en a0)])], en_container_heap_up_c, bx_container_heap_up_c⟩
theorem ok_container_heap_up_c (a0 : List T_topk_one) (a1 : Int) : (s_container_heap_up_c a0 a1).Holds := Tr.fnG (F := F_container_heap_up_c) (t_container_heap_up_c a0 a1) (by kernel_rfl) (by kernel_rfl) (by kernel_rfl) (by kernel_rfl)
/-- container/heap.Push. -/
def en_container_heap_Push_c_c (v : (List T_topk_one)) : PV := .tup []
def bx_container_heap_Push_c_c (v : (List T_topk_one)) : List (Tg × List PV) := [(.up (.s 0), [.sl (.s 0) 2 0 (List.map T_topk_one.en v)])]
noncomputable abbrev F_container_heap_Push_c_c : Fe := .of Try.prog 47 en_container_heap_Push_c_c bx_container_heap_Push_c_c
theorem nl_container_heap_Push_c_c : ∀ v, (en_container_heap_Push_c_c v).noLst := fun _ => trivial
theorem nlB_container_heap_Push_c_c : ∀ v, noLstB (bx_container_heap_Push_c_c v) := fun _ => ⟨⟨(flat_map_of fun _ => ⟨trivial, trivial, trivial⟩), trivial⟩, trivial⟩
noncomputable def t_container_heap_Push_c_c (a0 : List T_topk_one) (a1 : Int) (a2 : Int) : Tr F_container_heap_Push_c_c Empty (List T_topk_one) :=
 .callB 4 [(.up (.s 0), .up (.s 0)), (.h 0, .h 0)] (ok_thrum_topk_best_Push_c a0 a1 a2) nl_thrum_topk_best_Push_c nlB_thrum_topk_best_Push_c fun r1 => .call 4 (ok_thrum_topk_best_Len r1) nl_thrum_topk_best_Len fun r2 => .callB 1 [(.up (.s 0), .up (.s 0)), (.h 0, .s 32)] (ok_container_heap_up_c r1 (IntKind.i64.wrap (r2 - 1))) nl_container_heap_up_c nlB_container_heap_up_c fun r3 => .ret 1 r3
noncomputable def s_container_heap_Push_c_c (a0 : List T_topk_one) (a1 : Int) (a2 : Int) : SgG Try.prog (List T_topk_one) := ⟨47, M_container_heap_Push_c_c a0 a1 a2, [.ifc 75 (.ptr (.up (.s 0)) 0), .d (.ifc 80 (.agg [.int .i64 a1, .int .u64 a2]))], [(.up (.s 0), [.sl (.h 0) 2 0 (List.map T_topk_one.en a0)])], en_container_heap_Push_c_c, bx_container_heap_Push_c_c⟩
theorem ok_container_heap_Push_c_c (a0 : List T_topk_one) (a1 : Int) (a2 : Int) : (s_container_heap_Push_c_c a0 a1 a2).Holds := Tr.fnG (F := F_container_heap_Push_c_c) (t_container_heap_Push_c_c a0 a1 a2) (by kernel_rfl) (by kernel_rfl) (by kernel_rfl) (by kernel_rfl)
/-- container/heap.down. -/
def en_container_heap_down_c (v : Bool × (List T_topk_one)) : PV := bB v.1
def bx_container_heap_down_c (v : Bool × (List T_topk_one)) : List (Tg × List PV) := [(.up (.s 0), [.sl (.s 0) 2 0 (List.map T_topk_one.en v.2)])]
noncomputable abbrev F_container_heap_down_c : Fe := .of Try.prog 83 en_container_heap_down_c bx_container_heap_down_c
def S_container_heap_down_c_l0 (a1 : Int) (a2 : Int) (x0 : Int) (x1 : List T_topk_one) : St := ⟨[(7, nI x0), (0, .ifc 75 (.ptr (.up (.s 0)) 0)), (1, nI a1), (2, nI a2)], [(.up (.s 0), [.sl (.h 1) 2 0 (List.map T_topk_one.en x1)])]⟩
def E_container_heap_down_c_l0 (a1 : Int) (a2 : Int) (x : Int × (List T_topk_one)) : St := ⟨[(7, nI x.1), (1, nI a1)], [(.up (.s 0), [.sl (.h 2) 2 0 (List.map T_topk_one.en x.2)])]⟩
noncomputable def t_container_heap_down_c_l0 (a1 : Int) (a2 : Int) (x0 : Int) (x1 : List T_topk_one) : Tr F_container_heap_down_c (Int × (List T_topk_one)) (Int × (List T_topk_one)) :=
 .join 16 3 (γ := Bool) ⟨fun x => [(21, bB x)], [8, 7, 0, 1, 2], fun _ => [], [.up (.s 0)]⟩
 (.ite 0 18 ((IntKind.i64.wrap ((IntKind.i64.wrap (2 * x0)) + 1)) ≥ a2)
 (.ret 4 true)
 (.ret 4 (decide ((IntKind.i64.wrap ((IntKind.i64.wrap (2 * x0)) + 1)) < 0))))
 fun j1 => .iteB 1 21 (j1)
 (.ret 5 (x0, x1))
 (.let_ (IntKind.i64.wrap ((IntKind.i64.wrap ((IntKind.i64.wrap (2 * x0)) + 1)) + 1) : Int) fun y2 => .join 20 5 (γ := Bool) ⟨fun x => [(33, bB x)], [10, 9, 7, 0, 1, 2], fun _ => [], [.up (.s 0)]⟩
 (.ite 0 28 (y2 < a2)
 (.call 3 (ok_thrum_topk_best_Less x1 y2 (IntKind.i64.wrap ((IntKind.i64.wrap (2 * x0)) + 1))) nl_thrum_topk_best_Less fun r4 => .ret 2 r4)
 (.ret 6 false))
 fun j5 => .iteB 1 33 (j5)
 (.call 11 (ok_thrum_topk_best_Less x1 y2 x0) nl_thrum_topk_best_Less fun r6 => .iteX 2 39 (r6)
 (.ret 5 (x0, x1))
 (.callB 7 [(.h 0, .h 1), (.up (.s 0), .up (.s 0))] (ok_thrum_topk_best_Swap_g x1 x0 y2) nl_thrum_topk_best_Swap_g nlB_thrum_topk_best_Swap_g fun r7 => .again 6 (y2, r7)))
 (.call 8 (ok_thrum_topk_best_Less x1 (IntKind.i64.wrap ((IntKind.i64.wrap (2 * x0)) + 1)) x0) nl_thrum_topk_best_Less fun r8 => .iteX 2 39 (r8)
 (.ret 5 (x0, x1))
 (.callB 7 [(.h 0, .h 1), (.up (.s 0), .up (.s 0))] (ok_thrum_topk_best_Swap_g x1 x0 (IntKind.i64.wrap ((IntKind.i64.wrap (2 * x0)) + 1))) nl_thrum_topk_best_Swap_g nlB_thrum_topk_best_Swap_g fun r9 => .again 6 (IntKind.i64.wrap ((IntKind.i64.wrap (2 * x0)) + 1), r9))))
theorem ok_container_heap_down_c_l0 (a1 : Int) (a2 : Int) (x0 : Int) (x1 : List T_topk_one) : Ok (M_container_heap_down_c_l0 a1 a2 x0 x1) fun v => go Try.prog F_container_heap_down_c.N (PostN (.exit 0) (E_container_heap_down_c_l0 a1 a2) v) [.l (lpA Try.prog 83 0)] .norm (S_container_heap_down_c_l0 a1 a2 x0 x1) := by
 refine M_container_heap_down_c_l0.partial_correctness a1 a2 (fun x0 x1 v => go Try.prog F_container_heap_down_c.N (PostN (.exit 0) (E_container_heap_down_c_l0 a1 a2) v) [.l (lpA Try.prog 83 0)] .norm (S_container_heap_down_c_l0 a1 a2 x0 x1)) ?_ x0 x1
 clear x0 x1
 intro f IH x0 x1
 exact Tr.lpN (F := F_container_heap_down_c) (S := fun x => S_container_heap_down_c_l0 a1 a2 x.1 x.2) (S' := E_container_heap_down_c_l0 a1 a2) (t_container_heap_down_c_l0 a1 a2 x0 x1) (fun x => f x.1 x.2) (fun x r h => IH x.1 x.2 r h) (by kernel_rfl) (by kernel_rfl)
theorem nl_container_heap_down_c : ∀ v, (en_container_heap_down_c v).noLst := fun _ => trivial
theorem nlB_container_heap_down_c : ∀ v, noLstB (bx_container_heap_down_c v) := fun _ => ⟨⟨(flat_map_of fun _ => ⟨trivial, trivial, trivial⟩), trivial⟩, trivial⟩
noncomputable def t_container_heap_down_c (a0 : List T_topk_one) (a1 : Int) (a2 : Int) : Tr F_container_heap_down_c Empty (Bool × (List T_topk_one)) :=
 .loop 12 ⟨_, _, _, _, _, ok_container_heap_down_c_l0 a1 a2 a1 a0⟩ fun j10 => .ret 9 (decide (j10.1 > a1), j10.2)
noncomputable def s_container_heap_down_c (a0 : List T_topk_one) (a1 : Int) (a2 : Int) : SgG Try.prog (Bool × (List T_topk_one)) := ⟨83, M_container_heap_down_c a0 a1 a2, [.ifc 75 (.ptr (.up (.s 0)) 0), nI a1, nI a2], [(.up (.s 0), [.sl (.h 0) 2 0 (List.map T_topk_one.en a0)])], en_container_heap_down_c, bx_container_heap_down_c⟩
theorem ok_container_heap_down_c (a0 : List T_topk_one) (a1 : Int) (a2 : Int) : (s_container_heap_down_c a0 a1 a2).Holds := Tr.fnG (F := F_container_heap_down_c) (t_container_heap_down_c a0 a1 a2) (by kernel_rfl) (by kernel_rfl) (by kernel_rfl) (by kernel_rfl)
/-- (*thrum/topk.best).Pop. -/
def en_thrum_topk_best_Pop (v : Int × Int × (List T_topk_one)) : PV := .d (.ifc 80 (.agg [.int .i64 v.1, .int .u64 v.2.1]))
def bx_thrum_topk_best_Pop (v : Int × Int × (List T_topk_one)) : List (Tg × List PV) := [(.up (.s 0), [.sl (.s 0) 2 0 (List.map T_topk_one.en v.2.2)])]
noncomputable abbrev F_thrum_topk_best_Pop : Fe := .of Try.prog 192 en_thrum_topk_best_Pop bx_thrum_topk_best_Pop
theorem nl_thrum_topk_best_Pop : ∀ v, (en_thrum_topk_best_Pop v).noLst := fun _ => ⟨trivial, trivial, trivial⟩
theorem nlB_thrum_topk_best_Pop : ∀ v, noLstB (bx_thrum_topk_best_Pop v) := fun _ => ⟨⟨(flat_map_of fun _ => ⟨trivial, trivial, trivial⟩), trivial⟩, trivial⟩
noncomputable def t_thrum_topk_best_Pop (a0 : List T_topk_one) : Tr F_thrum_topk_best_Pop Empty (Int × Int × (List T_topk_one)) :=
 .len 16 T_topk_one.e a0 <| .cut 1 T_topk_one.e a0 none (some (IntKind.i64.wrap ((a0.length : Int) - 1))) <| .let_ (cut' a0 none (some (IntKind.i64.wrap ((a0.length : Int) - 1))) : List T_topk_one) fun y1 => .len 7 T_topk_one.e a0 <| .idx 1 T_topk_one.e a0 (IntKind.i64.wrap ((a0.length : Int) - 1)) <| .ret 5 ((at' a0 (IntKind.i64.wrap ((a0.length : Int) - 1))).F_place, (at' a0 (IntKind.i64.wrap ((a0.length : Int) - 1))).F_size, y1)
noncomputable def s_thrum_topk_best_Pop (a0 : List T_topk_one) : SgG Try.prog (Int × Int × (List T_topk_one)) := ⟨192, M_thrum_topk_best_Pop a0, [.ptr (.up (.s 0)) 0], [(.up (.s 0), [.sl (.h 0) 2 0 (List.map T_topk_one.en a0)])], en_thrum_topk_best_Pop, bx_thrum_topk_best_Pop⟩
theorem ok_thrum_topk_best_Pop (a0 : List T_topk_one) : (s_thrum_topk_best_Pop a0).Holds := Tr.fnG (F := F_thrum_topk_best_Pop) (t_thrum_topk_best_Pop a0) (by kernel_rfl) (by kernel_rfl) (by kernel_rfl) (by kernel_rfl)
/-- container/heap.Pop. -/
def en_container_heap_Pop_c (v : Int × Int × (List T_topk_one)) : PV := .d (.ifc 80 (.agg [.int .i64 v.1, .int .u64 v.2.1]))
def bx_container_heap_Pop_c (v : Int × Int × (List T_topk_one)) : List (Tg × List PV) := [(.up (.s 0), [.sl (.s 0) 2 0 (List.map T_topk_one.en v.2.2)])]
noncomputable abbrev F_container_heap_Pop_c : Fe := .of Try.prog 49 en_container_heap_Pop_c bx_container_heap_Pop_c
theorem nl_container_heap_Pop_c : ∀ v, (en_container_heap_Pop_c v).noLst := fun _ => ⟨trivial, trivial, trivial⟩
theorem nlB_container_heap_Pop_c : ∀ v, noLstB (bx_container_heap_Pop_c v) := fun _ => ⟨⟨(flat_map_of fun _ => ⟨trivial, trivial, trivial⟩), trivial⟩, trivial⟩
noncomputable def t_container_heap_Pop_c (a0 : List T_topk_one) : Tr F_container_heap_Pop_c Empty (Int × Int × (List T_topk_one)) :=
 .call 7 (ok_thrum_topk_best_Len a0) nl_thrum_topk_best_Len fun r1 => .callB 7 [(.h 0, .h 0), (.up (.s 0), .up (.s 0))] (ok_thrum_topk_best_Swap_g a0 0 (IntKind.i64.wrap (r1 - 1))) nl_thrum_topk_best_Swap_g nlB_thrum_topk_best_Swap_g fun r2 => .callB 5 [(.up (.s 0), .up (.s 0)), (.h 0, .s 3232)] (ok_container_heap_down_c r2 0 (IntKind.i64.wrap (r1 - 1))) nl_container_heap_down_c nlB_container_heap_down_c fun r3 => .callB 4 [(.up (.s 0), .up (.s 0)), (.h 0, .s 4832)] (ok_thrum_topk_best_Pop r3.2) nl_thrum_topk_best_Pop nlB_thrum_topk_best_Pop fun r4 => .ret 3 (r4.1, r4.2.1, r4.2.2)
noncomputable def s_container_heap_Pop_c (a0 : List T_topk_one) : SgG Try.prog (Int × Int × (List T_topk_one)) := ⟨49, M_container_heap_Pop_c a0, [.ifc 75 (.ptr (.up (.s 0)) 0)], [(.up (.s 0), [.sl (.h 0) 2 0 (List.map T_topk_one.en a0)])], en_container_heap_Pop_c, bx_container_heap_Pop_c⟩
theorem ok_container_heap_Pop_c (a0 : List T_topk_one) : (s_container_heap_Pop_c a0).Holds := Tr.fnG (F := F_container_heap_Pop_c) (t_container_heap_Pop_c a0) (by kernel_rfl) (by kernel_rfl) (by kernel_rfl) (by kernel_rfl)
/-- thrum/topk.places. -/
def en_topk_places (v : (List Int)) : PV := sI (.s 0) v
noncomputable abbrev F_topk_places : Fe := .of Try.prog 50 en_topk_places
def S_topk_places_l0 (a0 : List T_topk_one) (x0 : Int) (x1 : List Int) : St := ⟨[(11, nI x0), (10, nI (a0.length : Int)), (9, .d (.lst (List.map T_topk_one.en a0))), (3, sI (.h 0) x1)], []⟩
def E_topk_places_l0 (a0 : List T_topk_one) (x : (List Int)) : St := ⟨[(3, sI (.h 1) x)], []⟩
noncomputable def t_topk_places_l0 (a0 : List T_topk_one) (x0 : Int) (x1 : List Int) : Tr F_topk_places (Int × (List Int)) (List Int) :=
 .ite 6 12 (x0 < (a0.length : Int))
 (.idx 6 T_topk_one.e a0 x0 <| .app 9 eI 8 x1 [(at' a0 x0).F_place] <| .let_ (x1 ++ [(at' a0 x0).F_place] : List Int) fun y3 => .again 7 (IntKind.i64.wrap (x0 + 1), y3))
 (.ret 4 x1)
theorem ok_topk_places_l0 (a0 : List T_topk_one) (x0 : Int) (x1 : List Int) : Ok (M_topk_places_l0 a0 x0 x1) fun v => go Try.prog F_topk_places.N (PostN (.exit 0) (E_topk_places_l0 a0) v) [.l (lpA Try.prog 50 0)] .norm (S_topk_places_l0 a0 x0 x1) := by
 refine M_topk_places_l0.partial_correctness a0 (fun x0 x1 v => go Try.prog F_topk_places.N (PostN (.exit 0) (E_topk_places_l0 a0) v) [.l (lpA Try.prog 50 0)] .norm (S_topk_places_l0 a0 x0 x1)) ?_ x0 x1
 clear x0 x1
 intro f IH x0 x1
 exact Tr.lpN (F := F_topk_places) (S := fun x => S_topk_places_l0 a0 x.1 x.2) (S' := E_topk_places_l0 a0) (t_topk_places_l0 a0 x0 x1) (fun x => f x.1 x.2) (fun x r h => IH x.1 x.2 r h) (by kernel_rfl) (by kernel_rfl)
theorem nl_topk_places : ∀ v, (en_topk_places v).noLst := fun _ => (flat_map_of fun _ => trivial)
noncomputable def t_topk_places (a0 : List T_topk_one) : Tr F_topk_places Empty (List Int) :=
 .len 7 T_topk_one.e a0 <| .mk 0 eI 8 0 0 (a0.length : Int) <| .let_ (List.replicate (Int.toNat 0) 0 : List Int) fun y1 => .len 6 T_topk_one.e a0 <| .loop 4 ⟨_, _, _, _, _, ok_topk_places_l0 a0 0 y1⟩ fun j5 => .ret 7 j5
noncomputable def s_topk_places (a0 : List T_topk_one) : Sg Try.prog (List Int) := ⟨50, M_topk_places a0, [.lst (List.map T_topk_one.en a0)], en_topk_places⟩
theorem ok_topk_places (a0 : List T_topk_one) : (s_topk_places a0).Holds := Tr.fn (F := F_topk_places) (t_topk_places a0) (by kernel_rfl) (by kernel_rfl) (by kernel_rfl) (by kernel_rfl)
/-- thrum/topk.Pick. -/
def en_topk_Pick (v : (List Int) × Int) : PV := .tup [sI (.s 0) v.1, nI v.2]
noncomputable abbrev F_topk_Pick : Fe := .of Try.prog 10 en_topk_Pick
def S_topk_Pick_l0 (a0 : Int) (r2 : (List T_topk_one)) (x0 : Int) (x1 : List T_topk_one) : St := ⟨[(28, nI x0), (27, nI (r2.length : Int)), (26, .sl (.s 9616) 2 0 (List.map T_topk_one.en r2)), (6, .ptr (.s 8031) 0), (0, nI a0)], [(.s 8031, [.sl (.h 0) 2 0 (List.map T_topk_one.en x1)])]⟩
def E_topk_Pick_l0 (a0 : Int) (r2 : (List T_topk_one)) (x : (List T_topk_one)) : St := ⟨[(6, .ptr (.s 8031) 0)], [(.s 8031, [.sl (.h 1) 2 0 (List.map T_topk_one.en x)])]⟩
noncomputable def t_topk_Pick_l0 (a0 : Int) (r2 : (List T_topk_one)) (x0 : Int) (x1 : List T_topk_one) : Tr F_topk_Pick (Int × (List T_topk_one)) (List T_topk_one) :=
 .ite 6 29 (x0 < (r2.length : Int))
 (.idx 6 T_topk_one.e r2 x0 <| .callB 10 [(.up (.s 0), .s 8031), (.h 0, .h 0)] (ok_container_heap_Push_c_c x1 ((at' r2 x0).F_place) ((at' r2 x0).F_size)) nl_container_heap_Push_c_c nlB_container_heap_Push_c_c fun r3 => .call 6 (ok_thrum_topk_best_Len r3) nl_thrum_topk_best_Len fun r4 => .ite 3 42 (r4 > a0)
 (.callB 4 [(.up (.s 0), .s 8031), (.h 0, .s 14464)] (ok_container_heap_Pop_c r3) nl_container_heap_Pop_c nlB_container_heap_Pop_c fun r5 => .again 6 (IntKind.i64.wrap (x0 + 1), r5.2.2))
 (.again 7 (IntKind.i64.wrap (x0 + 1), r3)))
 (.ret 4 x1)
theorem ok_topk_Pick_l0 (a0 : Int) (r2 : (List T_topk_one)) (x0 : Int) (x1 : List T_topk_one) : Ok (M_topk_Pick_l0 a0 r2 x0 x1) fun v => go Try.prog F_topk_Pick.N (PostN (.exit 1) (E_topk_Pick_l0 a0 r2) v) [.l (lpA Try.prog 10 0)] .norm (S_topk_Pick_l0 a0 r2 x0 x1) := by
 refine M_topk_Pick_l0.partial_correctness a0 r2 (fun x0 x1 v => go Try.prog F_topk_Pick.N (PostN (.exit 1) (E_topk_Pick_l0 a0 r2) v) [.l (lpA Try.prog 10 0)] .norm (S_topk_Pick_l0 a0 r2 x0 x1)) ?_ x0 x1
 clear x0 x1
 intro f IH x0 x1
 exact Tr.lpN (F := F_topk_Pick) (S := fun x => S_topk_Pick_l0 a0 r2 x.1 x.2) (S' := E_topk_Pick_l0 a0 r2) (t_topk_Pick_l0 a0 r2 x0 x1) (fun x => f x.1 x.2) (fun x r h => IH x.1 x.2 r h) (by kernel_rfl) (by kernel_rfl)
theorem nl_topk_Pick : ∀ v, (en_topk_Pick v).noLst := fun _ => ⟨(flat_map_of fun _ => trivial), trivial, trivial⟩
noncomputable def t_topk_Pick (a0 : Int) (a1 : List Int) : Tr F_topk_Pick Empty ((List Int) × Int) :=
 .len 10 eI a1 <| .ite 3 10 ((a1.length : Int) > 4096)
 (.ret 9 ([], 3))
 (.join 6 5 (γ := Bool) ⟨fun x => [(22, bB x)], [0, 1], fun _ => [], []⟩
 (.ite 0 17 (a0 < 0)
 (.ret 6 true)
 (.len 2 eI a1 <| .ret 3 (decide (a0 > (a1.length : Int)))))
 fun j1 => .iteB 2 14 (j1)
 (.ret 9 ([], 1))
 (.call 13 (ok_topk_ones a1) nl_topk_ones fun r2 => .len 0 T_topk_one.e r2 <| .loop 4 ⟨_, _, _, _, _, ok_topk_Pick_l0 a0 r2 0 []⟩ fun j6 => .call 6 (ok_topk_places j6) nl_topk_places fun r7 => .srt 5 [51, 9] (sk_slices_Sort_int r7) fun r8 => .ret 8 (r8, 0)))
noncomputable def s_topk_Pick (a0 : Int) (a1 : List Int) : Sg Try.prog ((List Int) × Int) := ⟨10, M_topk_Pick a0 a1, [.int .i64 a0, .lst (List.map (D.int .i64) a1)], en_topk_Pick⟩
theorem ok_topk_Pick (a0 : Int) (a1 : List Int) : (s_topk_Pick a0 a1).Holds := Tr.fn (F := F_topk_Pick) (t_topk_Pick a0 a1) (by kernel_rfl) (by kernel_rfl) (by kernel_rfl) (by kernel_rfl)
/-- thrum/topk.Least. -/
def en_topk_Least (v : Int × Bool) : PV := .tup [nU v.1, bB v.2]
noncomputable abbrev F_topk_Least : Fe := .of Try.prog 16 en_topk_Least
def S_topk_Least_l0 (a0 : List Int) (a1 : List Int) (x0 : Int) (x1 : Bool) (x2 : Int) : St := ⟨[(11, nI x0), (10, nI (a0.length : Int)), (9, lI a0), (5, bB x1), (4, nU x2), (1, lI a1)], []⟩
def E_topk_Least_l0 (a0 : List Int) (a1 : List Int) (x : Bool × Int) : St := ⟨[(5, bB x.1), (4, nU x.2)], []⟩
noncomputable def t_topk_Least_l0 (a0 : List Int) (a1 : List Int) (x0 : Int) (x1 : Bool) (x2 : Int) : Tr F_topk_Least (Int × Bool × Int) (Bool × Int) :=
 .ite 6 12 (x0 < (a0.length : Int))
 (.idx 6 eI a0 x0 <| .join 9 5 (γ := Bool) ⟨fun x => [(22, bB x)], [7, 11, 10, 9, 5, 4, 1], fun _ => [], []⟩
 (.ite 0 17 ((at' a0 x0) < 0)
 (.ret 6 true)
 (.len 2 eI a1 <| .ret 3 (decide ((at' a0 x0) ≥ (a1.length : Int)))))
 fun j1 => .iteB 1 22 (j1)
 (.again 8 (IntKind.i64.wrap (x0 + 1), x1, x2))
 (.idx 6 eI a1 (at' a0 x0) <| .call 1 (ok_topk_size (at' a1 (at' a0 x0))) nl_topk_size fun r2 => .join 7 4 (γ := Bool) ⟨fun x => [(34, bB x)], [8, 11, 10, 9, 5, 4, 1], fun _ => [], []⟩
 (.iteX 0 30 (x1)
 (.ret 5 true)
 (.ret 5 (decide (r2 < x2))))
 fun j3 => .iteB 1 34 (j3)
 (.again 11 (IntKind.i64.wrap (x0 + 1), true, r2))
 (.again 7 (IntKind.i64.wrap (x0 + 1), x1, x2))))
 (.ret 4 (x1, x2))
theorem ok_topk_Least_l0 (a0 : List Int) (a1 : List Int) (x0 : Int) (x1 : Bool) (x2 : Int) : Ok (M_topk_Least_l0 a0 a1 x0 x1 x2) fun v => go Try.prog F_topk_Least.N (PostN (.exit 0) (E_topk_Least_l0 a0 a1) v) [.l (lpA Try.prog 16 0)] .norm (S_topk_Least_l0 a0 a1 x0 x1 x2) := by
 refine M_topk_Least_l0.partial_correctness a0 a1 (fun x0 x1 x2 v => go Try.prog F_topk_Least.N (PostN (.exit 0) (E_topk_Least_l0 a0 a1) v) [.l (lpA Try.prog 16 0)] .norm (S_topk_Least_l0 a0 a1 x0 x1 x2)) ?_ x0 x1 x2
 clear x0 x1 x2
 intro f IH x0 x1 x2
 exact Tr.lpN (F := F_topk_Least) (S := fun x => S_topk_Least_l0 a0 a1 x.1 x.2.1 x.2.2) (S' := E_topk_Least_l0 a0 a1) (t_topk_Least_l0 a0 a1 x0 x1 x2) (fun x => f x.1 x.2.1 x.2.2) (fun x r h => IH x.1 x.2.1 x.2.2 r h) (by kernel_rfl) (by kernel_rfl)
theorem nl_topk_Least : ∀ v, (en_topk_Least v).noLst := fun _ => ⟨trivial, trivial, trivial⟩
noncomputable def t_topk_Least (a0 : List Int) (a1 : List Int) : Tr F_topk_Least Empty (Int × Bool) :=
 .len 9 eI a0 <| .loop 4 ⟨_, _, _, _, _, ok_topk_Least_l0 a0 a1 0 false 0⟩ fun j4 => .ret 9 (j4.2, j4.1)
noncomputable def s_topk_Least (a0 : List Int) (a1 : List Int) : Sg Try.prog (Int × Bool) := ⟨16, M_topk_Least a0 a1, [.lst (List.map (D.int .i64) a0), .lst (List.map (D.int .i64) a1)], en_topk_Least⟩
theorem ok_topk_Least (a0 : List Int) (a1 : List Int) : (s_topk_Least a0 a1).Holds := Tr.fn (F := F_topk_Least) (t_topk_Least a0 a1) (by kernel_rfl) (by kernel_rfl) (by kernel_rfl) (by kernel_rfl)
/-- thrum/thrumref06.Equal. -/
def en_thrumref06_Equal (v : Bool) : PV := bB v
noncomputable abbrev F_thrumref06_Equal : Fe := .of Try.prog 18 en_thrumref06_Equal
def S_thrumref06_Equal_l0 (a0 : List Int) (a1 : List Int) (x0 : Int) : St := ⟨[(13, nI x0), (12, nI (a0.length : Int)), (0, lI a0), (1, lI a1)], []⟩
def E_thrumref06_Equal_l0 (a0 : List Int) (a1 : List Int) (x : Unit) : St := ⟨[], []⟩
noncomputable def t_thrumref06_Equal_l0 (a0 : List Int) (a1 : List Int) (x0 : Int) : Tr F_thrumref06_Equal Int (Sum Bool Unit) :=
 .ite 6 14 (x0 < (a0.length : Int))
 (.idx 13 eI a0 x0 <| .idx 3 eI a1 x0 <| .iteN 3 24 ((at' a0 x0) = (at' a1 x0))
 (.ret 9 (.inl false))
 (.again 7 (IntKind.i64.wrap (x0 + 1))))
 (.ret 4 (.inr ()))
theorem ok_thrumref06_Equal_l0 (a0 : List Int) (a1 : List Int) (x0 : Int) : Ok (M_thrumref06_Equal_l0 a0 a1 x0) fun v => go Try.prog F_thrumref06_Equal.N (PostR (fun r => Fnl F_thrumref06_Equal.res (F_thrumref06_Equal.en r) (F_thrumref06_Equal.bx r)) (.exit 0) (E_thrumref06_Equal_l0 a0 a1) v) [.l (lpA Try.prog 18 0)] .norm (S_thrumref06_Equal_l0 a0 a1 x0) := by
 refine M_thrumref06_Equal_l0.partial_correctness a0 a1 (fun x0 v => go Try.prog F_thrumref06_Equal.N (PostR (fun r => Fnl F_thrumref06_Equal.res (F_thrumref06_Equal.en r) (F_thrumref06_Equal.bx r)) (.exit 0) (E_thrumref06_Equal_l0 a0 a1) v) [.l (lpA Try.prog 18 0)] .norm (S_thrumref06_Equal_l0 a0 a1 x0)) ?_ x0
 clear x0
 intro f IH x0
 exact Tr.lpR (F := F_thrumref06_Equal) (S := fun x => S_thrumref06_Equal_l0 a0 a1 x) (S' := E_thrumref06_Equal_l0 a0 a1) (t_thrumref06_Equal_l0 a0 a1 x0) (fun x => f x) (fun x r h => IH x r h) (by kernel_rfl) (by kernel_rfl)
theorem nl_thrumref06_Equal : ∀ v, (en_thrumref06_Equal v).noLst := fun _ => trivial
noncomputable def t_thrumref06_Equal (a0 : List Int) (a1 : List Int) : Tr F_thrumref06_Equal Empty Bool :=
 .len 8 eI a0 <| .len 1 eI a1 <| .iteN 2 10 ((a0.length : Int) = (a1.length : Int))
 (.ret 7 false)
 (.len 6 eI a0 <| .loopR 4 id ⟨_, _, _, _, _, ok_thrumref06_Equal_l0 a0 a1 0⟩ fun j1 => .ret 6 true)
noncomputable def s_thrumref06_Equal (a0 : List Int) (a1 : List Int) : Sg Try.prog Bool := ⟨18, M_thrumref06_Equal a0 a1, [.lst (List.map (D.int .i64) a0), .lst (List.map (D.int .i64) a1)], en_thrumref06_Equal⟩
theorem ok_thrumref06_Equal (a0 : List Int) (a1 : List Int) : (s_thrumref06_Equal a0 a1).Holds := Tr.fn (F := F_thrumref06_Equal) (t_thrumref06_Equal a0 a1) (by kernel_rfl) (by kernel_rfl) (by kernel_rfl) (by kernel_rfl)
/-- thrum/thrumlaw09.live. -/
def en_thrumlaw09_live (v : Bool) : PV := bB v
noncomputable abbrev F_thrumlaw09_live : Fe := .of Try.prog 7 en_thrumlaw09_live
theorem nl_thrumlaw09_live : ∀ v, (en_thrumlaw09_live v).noLst := fun _ => trivial
noncomputable def t_thrumlaw09_live : Tr F_thrumlaw09_live Empty Bool :=
 .call 7 (ok_topk_Pick 2 [3, -5, 5, 1]) nl_topk_Pick fun r1 => .call 10 (ok_topk_Least r1.1 [3, -5, 5, 1]) nl_topk_Least fun r2 => .join 11 4 (γ := Bool) ⟨fun x => [(22, bB x)], [4, 3], fun _ => [], []⟩
 (.ite 0 18 (r1.2 = 0)
 (.call 2 (ok_thrumref06_Equal r1.1 [1, 2]) nl_thrumref06_Equal fun r3 => .ret 2 r3)
 (.ret 5 false))
 fun j4 => .join 1 3 (γ := Bool) ⟨fun x => [(26, bB x)], [4], fun _ => [], []⟩
 (.iteB 0 23 (j4)
 (.ret 4 (r2.1 == 5))
 (.ret 4 false))
 fun j5 => .join 1 2 (γ := Bool) ⟨fun x => [(29, bB x)], [], fun _ => [], []⟩
 (.iteB 0 27 (j5)
 (.ret 3 r2.2)
 (.ret 3 false))
 fun j6 => .ret 3 j6
noncomputable def s_thrumlaw09_live : Sg Try.prog Bool := ⟨7, M_thrumlaw09_live, [], en_thrumlaw09_live⟩
theorem ok_thrumlaw09_live : s_thrumlaw09_live.Holds := Tr.fn (F := F_thrumlaw09_live) t_thrumlaw09_live (by kernel_rfl) (by kernel_rfl) (by kernel_rfl) (by kernel_rfl)
/-- thrum/thrumlaw09.few. -/
def en_thrumlaw09_few (v : Bool) : PV := bB v
noncomputable abbrev F_thrumlaw09_few : Fe := .of Try.prog 8 en_thrumlaw09_few
theorem nl_thrumlaw09_few : ∀ v, (en_thrumlaw09_few v).noLst := fun _ => trivial
noncomputable def t_thrumlaw09_few (a0 : List Int) : Tr F_thrumlaw09_few Empty Bool :=
 .len 7 eI a0 <| .ite 2 6 ((a0.length : Int) ≤ 200)
 (.ret 12 true)
 (.len 1 eI a0 <| .ite 2 10 ((a0.length : Int) > 4096)
 (.len 1 eI a0 <| .ret 6 (decide ((a0.length : Int) ≤ 5000)))
 (.ret 8 false))
noncomputable def s_thrumlaw09_few (a0 : List Int) : Sg Try.prog Bool := ⟨8, M_thrumlaw09_few a0, [.lst (List.map (D.int .i64) a0)], en_thrumlaw09_few⟩
theorem ok_thrumlaw09_few (a0 : List Int) : (s_thrumlaw09_few a0).Holds := Tr.fn (F := F_thrumlaw09_few) (t_thrumlaw09_few a0) (by kernel_rfl) (by kernel_rfl) (by kernel_rfl) (by kernel_rfl)
/-- thrum/thrumref07.Big. -/
def en_thrumref07_Big (v : Bool) : PV := bB v
noncomputable abbrev F_thrumref07_Big : Fe := .of Try.prog 9 en_thrumref07_Big
theorem nl_thrumref07_Big : ∀ v, (en_thrumref07_Big v).noLst := fun _ => trivial
noncomputable def t_thrumref07_Big (a0 : T_api_Sent) : Tr F_thrumref07_Big Empty Bool :=
 .len 9 eI a0.F_L <| .join 2 5 (γ := Bool) ⟨fun x => [(12, bB x)], [1], fun _ => [], [.s 15]⟩
 (.ite 0 7 ((a0.F_L.length : Int) > 500)
 (.ret 6 true)
 (.len 2 eI a0.F_V <| .ret 3 (decide ((a0.F_V.length : Int) > 500))))
 fun j1 => .join 1 5 (γ := Bool) ⟨fun x => [(18, bB x)], [1], fun _ => [], [.s 15]⟩
 (.iteB 0 13 (j1)
 (.ret 6 true)
 (.len 2 eU a0.F_Lev <| .ret 3 (decide ((a0.F_Lev.length : Int) > 500))))
 fun j2 => .join 1 5 (γ := Bool) ⟨fun x => [(24, bB x)], [], fun _ => [], []⟩
 (.iteB 0 19 (j2)
 (.ret 6 true)
 (.len 2 eB a0.F_Neg <| .ret 3 (decide ((a0.F_Neg.length : Int) > 500))))
 fun j3 => .ret 3 j3
noncomputable def s_thrumref07_Big (a0 : T_api_Sent) : Sg Try.prog Bool := ⟨9, M_thrumref07_Big a0, [.agg [.int .i64 a0.F_Scheme, .int .i64 a0.F_Dim, .lst (List.map (D.int .i64) a0.F_L), .lst (List.map (D.int .i64) a0.F_V), .int .i64 a0.F_Scale, .int .i64 a0.F_Wide, .lst (List.map (D.int .u64) a0.F_Lev), .lst (List.map D.bool a0.F_Neg)]], en_thrumref07_Big⟩
theorem ok_thrumref07_Big (a0 : T_api_Sent) : (s_thrumref07_Big a0).Holds := Tr.fn (F := F_thrumref07_Big) (t_thrumref07_Big a0) (by kernel_rfl) (by kernel_rfl) (by kernel_rfl) (by kernel_rfl)
/-- thrum/thrumref09.Size. -/
def en_thrumref09_Size (v : Int) : PV := nU v
noncomputable abbrev F_thrumref09_Size : Fe := .of Try.prog 58 en_thrumref09_Size
theorem nl_thrumref09_Size : ∀ v, (en_thrumref09_Size v).noLst := fun _ => trivial
noncomputable def t_thrumref09_Size (a0 : Int) : Tr F_thrumref09_Size Empty Int :=
 .ite 10 4 (a0 < 0)
 (.ret 12 (IntKind.u64.wrap ((IntKind.u64.wrap (IntKind.i64.wrap (0 - (IntKind.i64.wrap (a0 + 1))))) + 1)))
 (.ret 9 (IntKind.u64.wrap a0))
noncomputable def s_thrumref09_Size (a0 : Int) : Sg Try.prog Int := ⟨58, M_thrumref09_Size a0, [.int .i64 a0], en_thrumref09_Size⟩
theorem ok_thrumref09_Size (a0 : Int) : (s_thrumref09_Size a0).Holds := Tr.fn (F := F_thrumref09_Size) (t_thrumref09_Size a0) (by kernel_rfl) (by kernel_rfl) (by kernel_rfl) (by kernel_rfl)
/-- thrum/thrumref09.Ahead. -/
def en_thrumref09_Ahead (v : Bool) : PV := bB v
noncomputable abbrev F_thrumref09_Ahead : Fe := .of Try.prog 55 en_thrumref09_Ahead
theorem nl_thrumref09_Ahead : ∀ v, (en_thrumref09_Ahead v).noLst := fun _ => trivial
noncomputable def t_thrumref09_Ahead (a0 : List Int) (a1 : Int) (a2 : Int) : Tr F_thrumref09_Ahead Empty Bool :=
 .idx 8 eI a0 a1 <| .call 1 (ok_thrumref09_Size (at' a0 a1)) nl_thrumref09_Size fun r1 => .idx 6 eI a0 a2 <| .call 1 (ok_thrumref09_Size (at' a0 a2)) nl_thrumref09_Size fun r2 => .ite 8 22 (r1 > r2)
 (.ret 12 true)
 (.ite 4 26 (r1 = r2)
 (.ret 8 (decide (a1 < a2)))
 (.ret 8 false))
noncomputable def s_thrumref09_Ahead (a0 : List Int) (a1 : Int) (a2 : Int) : Sg Try.prog Bool := ⟨55, M_thrumref09_Ahead a0 a1 a2, [.lst (List.map (D.int .i64) a0), .int .i64 a1, .int .i64 a2], en_thrumref09_Ahead⟩
theorem ok_thrumref09_Ahead (a0 : List Int) (a1 : Int) (a2 : Int) : (s_thrumref09_Ahead a0 a1 a2).Holds := Tr.fn (F := F_thrumref09_Ahead) (t_thrumref09_Ahead a0 a1 a2) (by kernel_rfl) (by kernel_rfl) (by kernel_rfl) (by kernel_rfl)
/-- thrum/thrumref09.Order. -/
def en_thrumref09_Order (v : (List Int) × Int) : PV := .tup [sI (.s 0) v.1, nI v.2]
noncomputable abbrev F_thrumref09_Order : Fe := .of Try.prog 13 en_thrumref09_Order
def S_thrumref09_Order_l1 (a0 : List Int) (x0 : Int) (x1 : List Int) (x0_ : Int) (x1_ : Int) : St := ⟨[(21, nI x0_), (20, nI (a0.length : Int)), (6, nI x1_), (5, nI x0), (16, nI x0), (15, nI (a0.length : Int)), (4, sI (.h 0) x1), (0, lI a0)], []⟩
def E_thrumref09_Order_l1 (a0 : List Int) (x0 : Int) (x1 : List Int) (x : Int) : St := ⟨[(6, nI x), (5, nI x0), (16, nI x0), (15, nI (a0.length : Int)), (4, sI (.h 0) x1), (0, lI a0)], []⟩
noncomputable def t_thrumref09_Order_l1 (a0 : List Int) (x0 : Int) (x1 : List Int) (x0_ : Int) (x1_ : Int) : Tr F_thrumref09_Order (Int × Int) Int :=
 .ite 6 22 (x0_ < (a0.length : Int))
 (.call 14 (ok_thrumref09_Ahead a0 x0_ x0) nl_thrumref09_Ahead fun r3 => .iteB 1 27 (r3)
 (.again 11 (IntKind.i64.wrap (x0_ + 1), IntKind.i64.wrap (x1_ + 1)))
 (.again 7 (IntKind.i64.wrap (x0_ + 1), x1_)))
 (.ret 4 x1_)
theorem ok_thrumref09_Order_l1 (a0 : List Int) (x0 : Int) (x1 : List Int) (x0_ : Int) (x1_ : Int) : Ok (M_thrumref09_Order_l1 a0 x0 x1 x0_ x1_) fun v => go Try.prog F_thrumref09_Order.N (PostN (.exit 2) (E_thrumref09_Order_l1 a0 x0 x1) v) [.l (lpA Try.prog 13 1)] .norm (S_thrumref09_Order_l1 a0 x0 x1 x0_ x1_) := by
 refine M_thrumref09_Order_l1.partial_correctness a0 x0 x1 (fun x0_ x1_ v => go Try.prog F_thrumref09_Order.N (PostN (.exit 2) (E_thrumref09_Order_l1 a0 x0 x1) v) [.l (lpA Try.prog 13 1)] .norm (S_thrumref09_Order_l1 a0 x0 x1 x0_ x1_)) ?_ x0_ x1_
 clear x0_ x1_
 intro f IH x0_ x1_
 exact Tr.lpN (F := F_thrumref09_Order) (S := fun x => S_thrumref09_Order_l1 a0 x0 x1 x.1 x.2) (S' := E_thrumref09_Order_l1 a0 x0 x1) (t_thrumref09_Order_l1 a0 x0 x1 x0_ x1_) (fun x => f x.1 x.2) (fun x r h => IH x.1 x.2 r h) (by kernel_rfl) (by kernel_rfl)
def S_thrumref09_Order_l0 (a0 : List Int) (x0 : Int) (x1 : List Int) : St := ⟨[(16, nI x0), (15, nI (a0.length : Int)), (4, sI (.h 0) x1), (0, lI a0)], []⟩
def E_thrumref09_Order_l0 (a0 : List Int) (x : (List Int)) : St := ⟨[(4, sI (.h 1) x)], []⟩
noncomputable def t_thrumref09_Order_l0 (a0 : List Int) (x0 : Int) (x1 : List Int) : Tr F_thrumref09_Order (Int × (List Int)) (List Int) :=
 .ite 6 17 (x0 < (a0.length : Int))
 (.len 17 eI a0 <| .loop 4 ⟨_, _, _, _, _, ok_thrumref09_Order_l1 a0 x0 x1 0 0⟩ fun j4 => .idx 5 eI x1 j4 <| .sto 0 [4] eI x1 j4 x0 <| .again 6 (IntKind.i64.wrap (x0 + 1), x1.set (Int.toNat j4) x0))
 (.ret 4 x1)
theorem ok_thrumref09_Order_l0 (a0 : List Int) (x0 : Int) (x1 : List Int) : Ok (M_thrumref09_Order_l0 a0 x0 x1) fun v => go Try.prog F_thrumref09_Order.N (PostN (.exit 0) (E_thrumref09_Order_l0 a0) v) [.l (lpA Try.prog 13 0)] .norm (S_thrumref09_Order_l0 a0 x0 x1) := by
 refine M_thrumref09_Order_l0.partial_correctness a0 (fun x0 x1 v => go Try.prog F_thrumref09_Order.N (PostN (.exit 0) (E_thrumref09_Order_l0 a0) v) [.l (lpA Try.prog 13 0)] .norm (S_thrumref09_Order_l0 a0 x0 x1)) ?_ x0 x1
 clear x0 x1
 intro f IH x0 x1
 exact Tr.lpN (F := F_thrumref09_Order) (S := fun x => S_thrumref09_Order_l0 a0 x.1 x.2) (S' := E_thrumref09_Order_l0 a0) (t_thrumref09_Order_l0 a0 x0 x1) (fun x => f x.1 x.2) (fun x r h => IH x.1 x.2 r h) (by kernel_rfl) (by kernel_rfl)
theorem nl_thrumref09_Order : ∀ v, (en_thrumref09_Order v).noLst := fun _ => ⟨(flat_map_of fun _ => trivial), trivial, trivial⟩
noncomputable def t_thrumref09_Order (a0 : List Int) : Tr F_thrumref09_Order Empty ((List Int) × Int) :=
 .len 9 eI a0 <| .ite 2 10 ((a0.length : Int) > 4096)
 (.ret 8 ([], 3))
 (.len 5 eI a0 <| .mk 0 eI 8 0 (a0.length : Int) (a0.length : Int) <| .let_ (List.replicate (Int.toNat (a0.length : Int)) 0 : List Int) fun y1 => .len 6 eI a0 <| .loop 4 ⟨_, _, _, _, _, ok_thrumref09_Order_l0 a0 0 y1⟩ fun j5 => .ret 8 (j5, 0))
noncomputable def s_thrumref09_Order (a0 : List Int) : Sg Try.prog ((List Int) × Int) := ⟨13, M_thrumref09_Order a0, [.lst (List.map (D.int .i64) a0)], en_thrumref09_Order⟩
theorem ok_thrumref09_Order (a0 : List Int) : (s_thrumref09_Order a0).Holds := Tr.fn (F := F_thrumref09_Order) (t_thrumref09_Order a0) (by kernel_rfl) (by kernel_rfl) (by kernel_rfl) (by kernel_rfl)
/-- thrum/thrumref06.in. -/
def en_thrumref06_in (v : Bool) : PV := bB v
noncomputable abbrev F_thrumref06_in : Fe := .of Try.prog 86 en_thrumref06_in
def S_thrumref06_in_l0 (a0 : List Int) (a1 : Int) (x0 : Int) : St := ⟨[(9, nI x0), (8, nI (a0.length : Int)), (7, lI a0), (1, nI a1)], []⟩
def E_thrumref06_in_l0 (a0 : List Int) (a1 : Int) (x : Unit) : St := ⟨[], []⟩
noncomputable def t_thrumref06_in_l0 (a0 : List Int) (a1 : Int) (x0 : Int) : Tr F_thrumref06_in Int (Sum Bool Unit) :=
 .ite 6 10 (x0 < (a0.length : Int))
 (.idx 6 eI a0 x0 <| .ite 9 15 ((at' a0 x0) = a1)
 (.ret 9 (.inl true))
 (.again 7 (IntKind.i64.wrap (x0 + 1))))
 (.ret 4 (.inr ()))
theorem ok_thrumref06_in_l0 (a0 : List Int) (a1 : Int) (x0 : Int) : Ok (M_thrumref06_in_l0 a0 a1 x0) fun v => go Try.prog F_thrumref06_in.N (PostR (fun r => Fnl F_thrumref06_in.res (F_thrumref06_in.en r) (F_thrumref06_in.bx r)) (.exit 0) (E_thrumref06_in_l0 a0 a1) v) [.l (lpA Try.prog 86 0)] .norm (S_thrumref06_in_l0 a0 a1 x0) := by
 refine M_thrumref06_in_l0.partial_correctness a0 a1 (fun x0 v => go Try.prog F_thrumref06_in.N (PostR (fun r => Fnl F_thrumref06_in.res (F_thrumref06_in.en r) (F_thrumref06_in.bx r)) (.exit 0) (E_thrumref06_in_l0 a0 a1) v) [.l (lpA Try.prog 86 0)] .norm (S_thrumref06_in_l0 a0 a1 x0)) ?_ x0
 clear x0
 intro f IH x0
 exact Tr.lpR (F := F_thrumref06_in) (S := fun x => S_thrumref06_in_l0 a0 a1 x) (S' := E_thrumref06_in_l0 a0 a1) (t_thrumref06_in_l0 a0 a1 x0) (fun x => f x) (fun x r h => IH x r h) (by kernel_rfl) (by kernel_rfl)
theorem nl_thrumref06_in : ∀ v, (en_thrumref06_in v).noLst := fun _ => trivial
noncomputable def t_thrumref06_in (a0 : List Int) (a1 : Int) : Tr F_thrumref06_in Empty Bool :=
 .len 8 eI a0 <| .loopR 4 id ⟨_, _, _, _, _, ok_thrumref06_in_l0 a0 a1 0⟩ fun j1 => .ret 6 false
noncomputable def s_thrumref06_in (a0 : List Int) (a1 : Int) : Sg Try.prog Bool := ⟨86, M_thrumref06_in a0 a1, [.lst (List.map (D.int .i64) a0), .int .i64 a1], en_thrumref06_in⟩
theorem ok_thrumref06_in (a0 : List Int) (a1 : Int) : (s_thrumref06_in a0 a1).Holds := Tr.fn (F := F_thrumref06_in) (t_thrumref06_in a0 a1) (by kernel_rfl) (by kernel_rfl) (by kernel_rfl) (by kernel_rfl)
/-- thrum/thrumref06.Merge. -/
def en_thrumref06_Merge (v : (List Int)) : PV := sI (.s 0) v
noncomputable abbrev F_thrumref06_Merge : Fe := .of Try.prog 52 en_thrumref06_Merge
def S_thrumref06_Merge_l2 (a0 : List (List Int)) (x0 : Int) (x0_ : Int) (x1_ : List Int) (x0__ : Int) (x1__ : List Int) : St := ⟨[(30, nI x0__), (29, nI (x1_.length : Int)), (28, sI (.h 1) x1_), (8, sI (.h 2) x1__), (7, nI (at' (at' a0 x0) x0_)), (21, nI x0_), (20, nI ((at' a0 x0).length : Int)), (19, lI (at' a0 x0)), (15, nI x0), (14, nI (a0.length : Int)), (13, .d (.lst (List.map (enL (D.int .i64)) a0))), (3, sI (.h 1) x1_)], []⟩
def E_thrumref06_Merge_l2 (a0 : List (List Int)) (x0 : Int) (x0_ : Int) (x1_ : List Int) (x : (List Int)) : St := ⟨[(8, sI (.h 3) x), (7, nI (at' (at' a0 x0) x0_)), (21, nI x0_), (20, nI ((at' a0 x0).length : Int)), (19, lI (at' a0 x0)), (15, nI x0), (14, nI (a0.length : Int)), (13, .d (.lst (List.map (enL (D.int .i64)) a0))), (3, sI (.h 1) x1_)], []⟩
noncomputable def t_thrumref06_Merge_l2 (a0 : List (List Int)) (x0 : Int) (x0_ : Int) (x1_ : List Int) (x0__ : Int) (x1__ : List Int) : Tr F_thrumref06_Merge (Int × (List Int)) (List Int) :=
 .ite 6 31 (x0__ < (x1_.length : Int))
 (.idx 6 eI x1_ x0__ <| .ite 9 36 ((at' x1_ x0__) < (at' (at' a0 x0) x0_))
 (.app 5 eI 8 x1__ [at' x1_ x0__] <| .again 7 (IntKind.i64.wrap (x0__ + 1), x1__ ++ [at' x1_ x0__]))
 (.again 7 (IntKind.i64.wrap (x0__ + 1), x1__)))
 (.ret 4 x1__)
theorem ok_thrumref06_Merge_l2 (a0 : List (List Int)) (x0 : Int) (x0_ : Int) (x1_ : List Int) (x0__ : Int) (x1__ : List Int) : Ok (M_thrumref06_Merge_l2 a0 x0 x0_ x1_ x0__ x1__) fun v => go Try.prog F_thrumref06_Merge.N (PostN (.exit 4) (E_thrumref06_Merge_l2 a0 x0 x0_ x1_) v) [.l (lpA Try.prog 52 2)] .norm (S_thrumref06_Merge_l2 a0 x0 x0_ x1_ x0__ x1__) := by
 refine M_thrumref06_Merge_l2.partial_correctness a0 x0 x0_ x1_ (fun x0__ x1__ v => go Try.prog F_thrumref06_Merge.N (PostN (.exit 4) (E_thrumref06_Merge_l2 a0 x0 x0_ x1_) v) [.l (lpA Try.prog 52 2)] .norm (S_thrumref06_Merge_l2 a0 x0 x0_ x1_ x0__ x1__)) ?_ x0__ x1__
 clear x0__ x1__
 intro f IH x0__ x1__
 exact Tr.lpN (F := F_thrumref06_Merge) (S := fun x => S_thrumref06_Merge_l2 a0 x0 x0_ x1_ x.1 x.2) (S' := E_thrumref06_Merge_l2 a0 x0 x0_ x1_) (t_thrumref06_Merge_l2 a0 x0 x0_ x1_ x0__ x1__) (fun x => f x.1 x.2) (fun x r h => IH x.1 x.2 r h) (by kernel_rfl) (by kernel_rfl)
def S_thrumref06_Merge_l3 (a0 : List (List Int)) (x0 : Int) (x0_ : Int) (x1_ : List Int) (x0__ : Int) (x1__ : List Int) : St := ⟨[(48, nI x0__), (47, nI (x1_.length : Int)), (46, sI (.h 1) x1_), (8, sI (.h 2) x1__), (7, nI (at' (at' a0 x0) x0_)), (21, nI x0_), (20, nI ((at' a0 x0).length : Int)), (19, lI (at' a0 x0)), (15, nI x0), (14, nI (a0.length : Int)), (13, .d (.lst (List.map (enL (D.int .i64)) a0)))], []⟩
def E_thrumref06_Merge_l3 (a0 : List (List Int)) (x0 : Int) (x0_ : Int) (x1_ : List Int) (x : (List Int)) : St := ⟨[(8, sI (.h 3) x), (21, nI x0_), (20, nI ((at' a0 x0).length : Int)), (19, lI (at' a0 x0)), (15, nI x0), (14, nI (a0.length : Int)), (13, .d (.lst (List.map (enL (D.int .i64)) a0)))], []⟩
noncomputable def t_thrumref06_Merge_l3 (a0 : List (List Int)) (x0 : Int) (x0_ : Int) (x1_ : List Int) (x0__ : Int) (x1__ : List Int) : Tr F_thrumref06_Merge (Int × (List Int)) (List Int) :=
 .ite 6 49 (x0__ < (x1_.length : Int))
 (.idx 6 eI x1_ x0__ <| .ite 9 54 ((at' x1_ x0__) > (at' (at' a0 x0) x0_))
 (.app 5 eI 8 x1__ [at' x1_ x0__] <| .again 7 (IntKind.i64.wrap (x0__ + 1), x1__ ++ [at' x1_ x0__]))
 (.again 7 (IntKind.i64.wrap (x0__ + 1), x1__)))
 (.ret 4 x1__)
theorem ok_thrumref06_Merge_l3 (a0 : List (List Int)) (x0 : Int) (x0_ : Int) (x1_ : List Int) (x0__ : Int) (x1__ : List Int) : Ok (M_thrumref06_Merge_l3 a0 x0 x0_ x1_ x0__ x1__) fun v => go Try.prog F_thrumref06_Merge.N (PostN (.exit 6) (E_thrumref06_Merge_l3 a0 x0 x0_ x1_) v) [.l (lpA Try.prog 52 3)] .norm (S_thrumref06_Merge_l3 a0 x0 x0_ x1_ x0__ x1__) := by
 refine M_thrumref06_Merge_l3.partial_correctness a0 x0 x0_ x1_ (fun x0__ x1__ v => go Try.prog F_thrumref06_Merge.N (PostN (.exit 6) (E_thrumref06_Merge_l3 a0 x0 x0_ x1_) v) [.l (lpA Try.prog 52 3)] .norm (S_thrumref06_Merge_l3 a0 x0 x0_ x1_ x0__ x1__)) ?_ x0__ x1__
 clear x0__ x1__
 intro f IH x0__ x1__
 exact Tr.lpN (F := F_thrumref06_Merge) (S := fun x => S_thrumref06_Merge_l3 a0 x0 x0_ x1_ x.1 x.2) (S' := E_thrumref06_Merge_l3 a0 x0 x0_ x1_) (t_thrumref06_Merge_l3 a0 x0 x0_ x1_ x0__ x1__) (fun x => f x.1 x.2) (fun x r h => IH x.1 x.2 r h) (by kernel_rfl) (by kernel_rfl)
def S_thrumref06_Merge_l1 (a0 : List (List Int)) (x0 : Int) (x0_ : Int) (x1_ : List Int) : St := ⟨[(21, nI x0_), (20, nI ((at' a0 x0).length : Int)), (19, lI (at' a0 x0)), (15, nI x0), (14, nI (a0.length : Int)), (13, .d (.lst (List.map (enL (D.int .i64)) a0))), (3, sI (.h 1) x1_)], []⟩
def E_thrumref06_Merge_l1 (a0 : List (List Int)) (x0 : Int) (x : (List Int)) : St := ⟨[(15, nI x0), (14, nI (a0.length : Int)), (13, .d (.lst (List.map (enL (D.int .i64)) a0))), (3, sI (.h 2) x)], []⟩
noncomputable def t_thrumref06_Merge_l1 (a0 : List (List Int)) (x0 : Int) (x0_ : Int) (x1_ : List Int) : Tr F_thrumref06_Merge (Int × (List Int)) (List Int) :=
 .ite 6 22 (x0_ < ((at' a0 x0).length : Int))
 (.idx 6 eI (at' a0 x0) x0_ <| .call 8 (ok_thrumref06_in x1_ (at' (at' a0 x0) x0_)) nl_thrumref06_in fun r1 => .iteB 1 27 (r1)
 (.again 8 (IntKind.i64.wrap (x0_ + 1), x1_))
 (.len 10 eI x1_ <| .loop 4 ⟨_, _, _, _, _, ok_thrumref06_Merge_l2 a0 x0 x0_ x1_ 0 []⟩ fun j2 => .app 6 eI 8 j2 [at' (at' a0 x0) x0_] <| .let_ (j2 ++ [at' (at' a0 x0) x0_] : List Int) fun y3 => .len 6 eI x1_ <| .loop 4 ⟨_, _, _, _, _, ok_thrumref06_Merge_l3 a0 x0 x0_ x1_ 0 y3⟩ fun j5 => .again 10 (IntKind.i64.wrap (x0_ + 1), j5)))
 (.ret 4 x1_)
theorem ok_thrumref06_Merge_l1 (a0 : List (List Int)) (x0 : Int) (x0_ : Int) (x1_ : List Int) : Ok (M_thrumref06_Merge_l1 a0 x0 x0_ x1_) fun v => go Try.prog F_thrumref06_Merge.N (PostN (.exit 2) (E_thrumref06_Merge_l1 a0 x0) v) [.l (lpA Try.prog 52 1)] .norm (S_thrumref06_Merge_l1 a0 x0 x0_ x1_) := by
 refine M_thrumref06_Merge_l1.partial_correctness a0 x0 (fun x0_ x1_ v => go Try.prog F_thrumref06_Merge.N (PostN (.exit 2) (E_thrumref06_Merge_l1 a0 x0) v) [.l (lpA Try.prog 52 1)] .norm (S_thrumref06_Merge_l1 a0 x0 x0_ x1_)) ?_ x0_ x1_
 clear x0_ x1_
 intro f IH x0_ x1_
 exact Tr.lpN (F := F_thrumref06_Merge) (S := fun x => S_thrumref06_Merge_l1 a0 x0 x.1 x.2) (S' := E_thrumref06_Merge_l1 a0 x0) (t_thrumref06_Merge_l1 a0 x0 x0_ x1_) (fun x => f x.1 x.2) (fun x r h => IH x.1 x.2 r h) (by kernel_rfl) (by kernel_rfl)
def S_thrumref06_Merge_l0 (a0 : List (List Int)) (x0 : Int) (x1 : List Int) : St := ⟨[(15, nI x0), (14, nI (a0.length : Int)), (13, .d (.lst (List.map (enL (D.int .i64)) a0))), (3, sI (.h 0) x1)], []⟩
def E_thrumref06_Merge_l0 (a0 : List (List Int)) (x : (List Int)) : St := ⟨[(3, sI (.h 1) x)], []⟩
noncomputable def t_thrumref06_Merge_l0 (a0 : List (List Int)) (x0 : Int) (x1 : List Int) : Tr F_thrumref06_Merge (Int × (List Int)) (List Int) :=
 .ite 6 16 (x0 < (a0.length : Int))
 (.idx 6 (eL eI) a0 x0 <| .len 6 eI (at' a0 x0) <| .loop 4 ⟨_, _, _, _, _, ok_thrumref06_Merge_l1 a0 x0 0 x1⟩ fun j6 => .again 6 (IntKind.i64.wrap (x0 + 1), j6))
 (.ret 4 x1)
theorem ok_thrumref06_Merge_l0 (a0 : List (List Int)) (x0 : Int) (x1 : List Int) : Ok (M_thrumref06_Merge_l0 a0 x0 x1) fun v => go Try.prog F_thrumref06_Merge.N (PostN (.exit 0) (E_thrumref06_Merge_l0 a0) v) [.l (lpA Try.prog 52 0)] .norm (S_thrumref06_Merge_l0 a0 x0 x1) := by
 refine M_thrumref06_Merge_l0.partial_correctness a0 (fun x0 x1 v => go Try.prog F_thrumref06_Merge.N (PostN (.exit 0) (E_thrumref06_Merge_l0 a0) v) [.l (lpA Try.prog 52 0)] .norm (S_thrumref06_Merge_l0 a0 x0 x1)) ?_ x0 x1
 clear x0 x1
 intro f IH x0 x1
 exact Tr.lpN (F := F_thrumref06_Merge) (S := fun x => S_thrumref06_Merge_l0 a0 x.1 x.2) (S' := E_thrumref06_Merge_l0 a0) (t_thrumref06_Merge_l0 a0 x0 x1) (fun x => f x.1 x.2) (fun x r h => IH x.1 x.2 r h) (by kernel_rfl) (by kernel_rfl)
theorem nl_thrumref06_Merge : ∀ v, (en_thrumref06_Merge v).noLst := fun _ => (flat_map_of fun _ => trivial)
noncomputable def t_thrumref06_Merge (a0 : List (List Int)) : Tr F_thrumref06_Merge Empty (List Int) :=
 .len 12 (eL eI) a0 <| .loop 4 ⟨_, _, _, _, _, ok_thrumref06_Merge_l0 a0 0 []⟩ fun j7 => .ret 7 j7
noncomputable def s_thrumref06_Merge (a0 : List (List Int)) : Sg Try.prog (List Int) := ⟨52, M_thrumref06_Merge a0, [.lst (List.map (enL (D.int .i64)) a0)], en_thrumref06_Merge⟩
theorem ok_thrumref06_Merge (a0 : List (List Int)) : (s_thrumref06_Merge a0).Holds := Tr.fn (F := F_thrumref06_Merge) (t_thrumref06_Merge a0) (by kernel_rfl) (by kernel_rfl) (by kernel_rfl) (by kernel_rfl)
/-- thrum/thrumref09.Pick. -/
def en_thrumref09_Pick (v : (List Int) × Int) : PV := .tup [sI (.s 0) v.1, nI v.2]
noncomputable abbrev F_thrumref09_Pick : Fe := .of Try.prog 11 en_thrumref09_Pick
theorem nl_thrumref09_Pick : ∀ v, (en_thrumref09_Pick v).noLst := fun _ => ⟨(flat_map_of fun _ => trivial), trivial, trivial⟩
noncomputable def t_thrumref09_Pick (a0 : Int) (a1 : List Int) : Tr F_thrumref09_Pick Empty ((List Int) × Int) :=
 .call 8 (ok_thrumref09_Order a1) nl_thrumref09_Order fun r1 => .iteN 12 14 (r1.2 = 0)
 (.ret 9 ([], r1.2))
 (.join 8 5 (γ := Bool) ⟨fun x => [(23, bB x)], [6, 0], fun _ => [], []⟩
 (.ite 0 18 (a0 < 0)
 (.ret 6 true)
 (.len 2 eI a1 <| .ret 3 (decide (a0 > (a1.length : Int)))))
 fun j2 => .iteB 1 23 (j2)
 (.ret 8 ([], 1))
 (.cut 6 eI r1.1 none (some a0) <| .call 1 (ok_thrumref06_Merge [cut' r1.1 none (some a0)]) nl_thrumref06_Merge fun r3 => .ret 4 (r3, 0)))
noncomputable def s_thrumref09_Pick (a0 : Int) (a1 : List Int) : Sg Try.prog ((List Int) × Int) := ⟨11, M_thrumref09_Pick a0 a1, [.int .i64 a0, .lst (List.map (D.int .i64) a1)], en_thrumref09_Pick⟩
theorem ok_thrumref09_Pick (a0 : Int) (a1 : List Int) : (s_thrumref09_Pick a0 a1).Holds := Tr.fn (F := F_thrumref09_Pick) (t_thrumref09_Pick a0 a1) (by kernel_rfl) (by kernel_rfl) (by kernel_rfl) (by kernel_rfl)
def cfOne (x y : T_topk_one) : Int := if y.F_size < x.F_size then -1 else if y.F_size > x.F_size then 1 else if x.F_place < y.F_place then -1 else if x.F_place > y.F_place then 1 else 0
theorem cf_cmpU (a b : Int) : M_cmp_Compare_uint64 a b = some (if a < b then -1 else if a > b then 1 else 0) := by
  have hb : ∀ {α β : Type} (a : α) (f : α → Option β), (some a >>= f) = f a := fun _ _ => rfl
  rw [M_cmp_Compare_uint64, M_cmp_isNaN_uint64, M_cmp_isNaN_uint64, hb, hb, if_neg (by simp), if_neg (by simp)]
  split
  · rfl
  · split <;> rfl
theorem cf_cmpI (a b : Int) : M_cmp_Compare_int a b = some (if a < b then -1 else if a > b then 1 else 0) := by
  have hb : ∀ {α β : Type} (a : α) (f : α → Option β), (some a >>= f) = f a := fun _ _ => rfl
  rw [M_cmp_Compare_int, M_cmp_isNaN_int, M_cmp_isNaN_int, hb, hb, if_neg (by simp), if_neg (by simp)]
  split
  · rfl
  · split <;> rfl
theorem cf_or (a b : Int) : M_cmp_Or_int [a, b] = some (if a ≠ 0 then a else b) := by
  have hb : ∀ {α β : Type} (a : α) (f : α → Option β), (some a >>= f) = f a := fun _ _ => rfl
  have w0 : IntKind.i64.wrap (0 + 1) = 1 := by decide
  have w1 : IntKind.i64.wrap (1 + 1) = 2 := by decide
  rw [M_cmp_Or_int, M_cmp_Or_int_l0, if_pos (by simp), if_pos (by simp), show at' [a, b] 0 = a from rfl]
  by_cases ha : a ≠ 0
  · rw [if_pos ha, hb, if_pos ha]
  · rw [if_neg ha, w0, M_cmp_Or_int_l0, if_pos (by simp), if_pos (by simp), show at' [a, b] 1 = b from rfl]
    by_cases h2 : b ≠ 0
    · rw [if_pos h2, hb, if_neg ha]
    · rw [if_neg h2, w1, M_cmp_Or_int_l0, if_neg (by simp), hb, if_neg ha]
      have : b = 0 := by simpa using h2
      rw [this]
theorem cf_eq (x y : T_topk_one) : M_thrum_topk_one_compare x y = some (cfOne x y) := by
  have hb : ∀ {α β : Type} (a : α) (f : α → Option β), (some a >>= f) = f a := fun _ _ => rfl
  rw [M_thrum_topk_one_compare, cf_cmpU, hb, cf_cmpI, hb, cf_or, hb]
  congr 1
  unfold cfOne
  repeat' split
  all_goals first | rfl | omega | (simp at *; done) | (simp at *; omega)
theorem ltOne (x y : T_topk_one) : ltOf cfOne x y = decide (y.F_size < x.F_size ∨ (y.F_size = x.F_size ∧ x.F_place < y.F_place)) := by
  unfold ltOf cfOne
  rw [decide_eq_decide]
  repeat' split
  all_goals omega
theorem swoOne : Sort.SWO (ltOf cfOne) where
  irrefl x := by rw [ltOne]; simp
  trans x y z h1 h2 := by rw [ltOne] at *; simp only [decide_eq_true_eq] at *; omega
  ntrans x y z h1 h2 := by rw [ltOne] at *; simp only [decide_eq_false_iff_not] at *; omega
def encOne (x : T_topk_one) : List Value := [.int .i64 x.F_place, .int .u64 x.F_size]
theorem flatOne : ∀ (l : List T_topk_one) (t : Nat), t < l.length * 2 → (l.flatMap encOne)[t]! = (encOne (l[t / 2]!))[t % 2]!
  | [], t, h => by simp at h
  | x :: l, 0, h => by simp [encOne]
  | x :: l, 1, h => by simp [encOne]
  | x :: l, t + 2, h => by
    have := flatOne l t (by simp only [List.length_cons] at h; omega)
    rw [show (t + 2) / 2 = t / 2 + 1 by omega, show (t + 2) % 2 = t % 2 by omega]
    simp only [List.flatMap_cons, encOne, List.cons_append, List.nil_append, List.getElem!_cons_succ] at this ⊢
    exact this
theorem flatK_one (l : List T_topk_one) : Sort.flatK encOne 2 l.toArray = (l.flatMap encOne).toArray := by
  have hlen : (l.flatMap encOne).length = l.length * 2 := by
    induction l with
    | nil => rfl
    | cons x t ih => simp only [List.flatMap_cons, List.length_append, ih, List.length_cons, encOne, List.length_nil]; omega
  refine Sort.ext_get! (by simp [hlen]) fun t ht => ?_
  have ht' : t < l.length * 2 := by simpa using ht
  rw [Sort.get_flatK _ _ _ t (by simpa using ht')]
  have := flatOne l t ht'
  simpa using this.symm
theorem ones_of {pr : Nat → Prop} {w : World} : ∀ {l : List T_topk_one} {vs : List Value}, DRs pr w (l.map T_topk_one.en) vs → vs = l.map fun x => .agg #[.int .i64 x.F_place, .int .u64 x.F_size]
  | [], vs, h => by simpa only [List.map_nil, DRs] using h
  | x :: l, vs, h => by
    simp only [List.map_cons, DRs] at h
    obtain ⟨u, us, rfl, h1, h2⟩ := h
    simp only [T_topk_one.en, DR, DRs] at h1
    obtain ⟨arr, rfl, h0, u1, us1, e1, rfl, u2, us2, rfl, rfl, rfl⟩ := h1
    rw [ones_of h2, List.map_cons]
    congr 2
    apply Array.ext'
    rw [e1]
theorem of_ones {pr : Nat → Prop} {w : World} : ∀ (l : List T_topk_one), DRs pr w (l.map T_topk_one.en) (l.map fun x => .agg #[.int .i64 x.F_place, .int .u64 x.F_size])
  | [] => by simp only [List.map_nil, DRs]
  | x :: l => by
    simp only [List.map_cons, DRs]
    refine ⟨_, _, rfl, ?_, of_ones l⟩
    simp only [T_topk_one.en, DR, DRs]
    exact ⟨_, rfl, by intro c hc; simp at hc; rcases hc with rfl | rfl <;> rfl, _, _, rfl, rfl, _, _, rfl, rfl, rfl⟩
theorem flat_ones : ∀ (l : List T_topk_one), flat (l.map fun x => .agg #[.int .i64 x.F_place, .int .u64 x.F_size]) = l.flatMap encOne
  | [] => rfl
  | x :: l => by
    have := flat_ones l
    simp only [flat, List.map_cons, List.flatMap_cons] at this ⊢
    rw [this]; rfl
theorem holds_vals {w : World} {b p : Nat} {l : List Value} {c : Array Value} {el : TypeId} {fr : Nat × Nat} (hb : w.heap[b]? = some (.cells c el fr)) (hf : Unfz c fr) (hp : p + l.length ≤ c.size) (h : CellsAt w b p l) :
    Sort.Holds id w b p l.toArray := by
  intro j hj
  have hj' : j < l.length := by simpa using hj
  refine ⟨?_, ?_⟩
  · have e : (l.toArray)[j]! = l[j] := by rw [getElem!_pos l.toArray j hj]; simp
    exact h j _ (by rw [id, e, List.getElem?_eq_getElem hj'])
  · simp only [World.frozen?, hb]
    rcases hf with hf | hf
    · simp; omega
    · simp; omega
theorem bel_grow {w w' : World} (h : Bel w w') : ∃ q os, w' = Sort.grow (w.drewN q) os := by
  refine ⟨w'.drawn - w.drawn, w'.heap.extract w.heap.size w'.heap.size, ?_⟩
  have hs := h.size
  have hh : w'.heap = w.heap ++ w'.heap.extract w.heap.size w'.heap.size := by
    apply Array.ext_getElem?
    intro i
    rw [Array.getElem?_append]
    split
    · rename_i hi; exact h.block i hi
    · rename_i hi
      rw [Array.getElem?_extract]
      by_cases h2 : i < w'.heap.size
      · rw [if_pos (by omega), show w.heap.size + (i - w.heap.size) = i by omega]
      · rw [if_neg (by omega), Array.getElem?_eq_none (by omega)]
  have hd := h.drawn
  cases w'
  simp only [Sort.grow, World.drewN, World.mk.injEq]
  exact ⟨hh, h.tape, by simp only at hd; omega, h.os, h.output⟩
noncomputable def s_slices_SortFunc_one (l : List T_topk_one) : SgI Try.prog (List T_topk_one) T_topk_one := ⟨53, M_slices_SortFunc_one l, T_topk_one.e, l, [.clo (.func 54) [] []], fun v => v, fun _ => none⟩
theorem sk_slices_SortFunc_one (l : List T_topk_one) : (s_slices_SortFunc_one l).Holds := by
  intro v hv
  simp only [s_slices_SortFunc_one, M_slices_SortFunc_one] at hv
  split at hv
  rotate_left
  · cases hv
  rename_i hl
  cases hv
  have hm : (l.mergeSort oneLe).length = l.length := by simp
  refine ⟨⟨_, Try.func53, rfl, by kernel_rfl⟩, by simp [s_slices_SortFunc_one], ?_⟩
  intro E w t off u us vs hV hu hx hvs
  simp only [s_slices_SortFunc_one, DRs] at hx
  obtain ⟨cl, us0, rfl, hcl, rfl⟩ := hx
  simp only [DR, DRs] at hcl
  obtain ⟨fa, fb, rfl, hfa, hfb⟩ := hcl
  have ea : fa = #[] := by apply Array.ext'; simpa using hfa
  have eb : fb = #[] := by apply Array.ext'; simpa using hfb
  subst ea; subst eb
  have e : vs = #[u, .func (.func 54) #[] #[]] := by apply Array.ext'; rw [hvs]
  subst e
  have eg : ∀ args w, (callFunc 54 args).run Try.prog w = .ok (.enter 54 args) w := fun args w => run_callFunc (ok_thrum_topk_one_compare default default _ (cf_eq default default)).1 args
  have hcmp : ∀ (blk p size : Nat) (W : World), CmpLays Try.prog 54 #[] encOne 2 cfOne blk p size W := by
    intro blk p size W m os dk hdk x y
    have hc := (ok_thrum_topk_one_compare x y _ (cf_eq x y)).2 (fun _ => False) (sortWorldK encOne 2 W blk p m dk os) (#[.agg (encOne x).toArray, .agg (encOne y).toArray] ++ #[]) (fun _ h => h.elim) (by
      have h1 := of_ones (pr := fun _ => False) (w := sortWorldK encOne 2 W blk p m dk os) [x, y]
      exact h1)
    refine hc.mono ?_
    rintro e w' ⟨v, E', rfl, _, hv, hbel, _⟩
    have hv' : VR E' w' (.d (.int .i64 (cfOne x y))) v := hv
    simp only [VR, DR] at hv'
    subst hv'
    exact ⟨rfl, bel_grow hbel⟩
  have main : ∀ (b p cap : Nat) (w : World) (c : Array Value) (el : TypeId) (fr : Nat × Nat), w.heap[b]? = some (.cells c el fr) → Unfz c fr → p + l.length * 2 ≤ c.size → CellsAt w b p (l.flatMap encOne) →
      Calls Try.prog 53 #[.slice (some ⟨b, p, none⟩) l.length cap, .func (.func 54) #[] #[]] w fun e w' => e = .returned (.tuple #[]) ∧ ∃ n os, w' = Sort.grow (Sort.putRow id (Sort.ahead w n) b p ((l.mergeSort oneLe).flatMap encOne).toArray) os := by
    intro b p cap w c el fr h4 h5 hp h8
    have hlen : ∀ (l : List T_topk_one), (l.flatMap encOne).length = l.length * 2 := by
      intro l
      induction l with
      | nil => rfl
      | cons x t ih => simp only [List.flatMap_cons, List.length_append, ih, List.length_cons, encOne, List.length_nil]; omega
    have hH : Sort.HoldsK encOne 2 w b p l.toArray := by
      unfold Sort.HoldsK
      rw [flatK_one]
      exact holds_vals h4 h5 (by rw [hlen]; omega) h8
    have hle : (fun x y => !(ltOf cfOne) y x) = oneLe := by
      funext x y
      rw [ltOne]; rfl
    have := AnyQ.slices_SortFunc_total Try.sortOne 2 Try.isAgg80 Try.sizeOf80 encOne (fun _ => rfl) (fun x v hv => by simp [encOne] at hv; rcases hv with rfl | rfl <;> rfl) cfOne swoOne 54 #[] b p cap l.toArray w eg (hcmp b p _ w) hH (Array.getElem?_eq_some_iff.1 h4).1 (by simpa using hl)
      (fun x y h1 h2 => by
        rw [ltOne] at h1 h2
        simp only [decide_eq_false_iff_not] at h1 h2
        cases x; cases y
        simp only [T_topk_one.mk.injEq] at *
        omega)
    rw [hle] at this
    refine Calls.mono this ?_
    rintro e w' ⟨rfl, n, os, rfl⟩
    refine ⟨rfl, n, os, ?_⟩
    unfold sortWorldK Sort.putRowK
    rw [flatK_one]
  simp only [s_slices_SortFunc_one, VR] at hu
  rcases hu with ⟨h0, a, rfl⟩ | ⟨b, o, cap, c, el, fr, ws, h1, rfl, h3, h4, h5, h6, h7, h8, h9⟩
  · have hn : l = [] := by simpa using h0
    subst hn
    refine (AnyF.slices_SortFunc_none Try.sortOne a 0 (.func (.func 54) #[] #[]) w).mono ?_
    rintro e w' ⟨rfl, rfl⟩
    refine ⟨_, w', rfl, .inl ⟨by simp [s_slices_SortFunc_one], rfl⟩, ⟨rfl, rfl, rfl, Nat.le_refl _, Nat.le_refl _, fun _ _ => rfl⟩, ?_⟩
    simp only [s_slices_SortFunc_one, resI, VR, VRs]
    exact ⟨_, rfl, rfl⟩
  · have hw := ones_of (l := l) h9
    subst hw
    simp only [List.length_map] at h3 ⊢
    have hcap := Nat.mul_le_mul_right 2 h3
    have h6' : o + (off + cap) * 2 ≤ c.size := h6
    have hp : o + off * 2 + l.length * 2 ≤ c.size := by omega
    rw [flat_ones] at h8
    have hlen : ∀ (l : List T_topk_one), (l.flatMap encOne).length = l.length * 2 := by
      intro l
      induction l with
      | nil => rfl
      | cons x t ih => simp only [List.flatMap_cons, List.length_append, ih, List.length_cons, encOne, List.length_nil]; omega
    refine (main b (o + off * 2) cap w c el fr h4 h5 hp h8).mono ?_
    rintro e w' ⟨rfl, n, os, rfl⟩
    have hb := behind_put id (l := (l.mergeSort oneLe).flatMap encOne) n os h4 (p := o + off * 2) (by rw [hlen, hm]; exact hp)
    rw [List.map_id] at hb
    refine ⟨_, setBlk w b (.cells (laid c (o + off * 2) ((l.mergeSort oneLe).flatMap encOne)) el fr), rfl, .inr ⟨b, o, c, el, fr, (l.mergeSort oneLe).map (fun x => .agg #[.int .i64 x.F_place, .int .u64 x.F_size]), h1, h4, of_ones _, ?_, ?_, ?_⟩, hb, ?_⟩
    · intro u hu
      obtain ⟨x, _, rfl⟩ := List.mem_map.1 hu
      rfl
    · have : (T_topk_one.e).sz = 2 := rfl
      simp only [s_slices_SortFunc_one, List.length_map, hm, this]; exact hp
    · rw [flat_ones]; rfl
    · simp only [s_slices_SortFunc_one, resI, VR, VRs]
      exact ⟨_, rfl, rfl⟩
/-- thrum/topk.Order. -/
def en_topk_Order (v : (List Int) × Int) : PV := .tup [sI (.s 0) v.1, nI v.2]
noncomputable abbrev F_topk_Order : Fe := .of Try.prog 12 en_topk_Order
theorem nl_topk_Order : ∀ v, (en_topk_Order v).noLst := fun _ => ⟨(flat_map_of fun _ => trivial), trivial, trivial⟩
noncomputable def t_topk_Order (a0 : List Int) : Tr F_topk_Order Empty ((List Int) × Int) :=
 .len 9 eI a0 <| .ite 2 7 ((a0.length : Int) > 4096)
 (.ret 8 ([], 3))
 (.call 5 (ok_topk_ones a0) nl_topk_ones fun r1 => .srt 5 [10, 4] (sk_slices_SortFunc_one r1) fun r2 => .call 4 (ok_topk_places r2) nl_topk_places fun r3 => .ret 4 (r3, 0))
noncomputable def s_topk_Order (a0 : List Int) : Sg Try.prog ((List Int) × Int) := ⟨12, M_topk_Order a0, [.lst (List.map (D.int .i64) a0)], en_topk_Order⟩
theorem ok_topk_Order (a0 : List Int) : (s_topk_Order a0).Holds := Tr.fn (F := F_topk_Order) (t_topk_Order a0) (by kernel_rfl) (by kernel_rfl) (by kernel_rfl) (by kernel_rfl)
/-- thrum/index.rises. -/
def en_index_rises (v : Bool) : PV := bB v
noncomputable abbrev F_index_rises : Fe := .of Try.prog 91 en_index_rises
def S_index_rises_l0 (a0 : List Int) (x0 : Int) : St := ⟨[(3, nI x0), (0, lI a0)], []⟩
def E_index_rises_l0 (a0 : List Int) (x : Unit) : St := ⟨[], []⟩
noncomputable def t_index_rises_l0 (a0 : List Int) (x0 : Int) : Tr F_index_rises Int (Sum Bool Unit) :=
 .len 6 eI a0 <| .ite 2 7 (x0 < (a0.length : Int))
 (.idx 9 eI a0 (IntKind.i64.wrap (x0 - 1)) <| .idx 3 eI a0 x0 <| .ite 3 19 ((at' a0 (IntKind.i64.wrap (x0 - 1))) ≥ (at' a0 x0))
 (.ret 9 (.inl false))
 (.again 8 (IntKind.i64.wrap (x0 + 1))))
 (.ret 4 (.inr ()))
theorem ok_index_rises_l0 (a0 : List Int) (x0 : Int) : Ok (M_index_rises_l0 a0 x0) fun v => go Try.prog F_index_rises.N (PostR (fun r => Fnl F_index_rises.res (F_index_rises.en r) (F_index_rises.bx r)) (.exit 0) (E_index_rises_l0 a0) v) [.l (lpA Try.prog 91 0)] .norm (S_index_rises_l0 a0 x0) := by
 refine M_index_rises_l0.partial_correctness a0 (fun x0 v => go Try.prog F_index_rises.N (PostR (fun r => Fnl F_index_rises.res (F_index_rises.en r) (F_index_rises.bx r)) (.exit 0) (E_index_rises_l0 a0) v) [.l (lpA Try.prog 91 0)] .norm (S_index_rises_l0 a0 x0)) ?_ x0
 clear x0
 intro f IH x0
 exact Tr.lpR (F := F_index_rises) (S := fun x => S_index_rises_l0 a0 x) (S' := E_index_rises_l0 a0) (t_index_rises_l0 a0 x0) (fun x => f x) (fun x r h => IH x r h) (by kernel_rfl) (by kernel_rfl)
theorem nl_index_rises : ∀ v, (en_index_rises v).noLst := fun _ => trivial
noncomputable def t_index_rises (a0 : List Int) : Tr F_index_rises Empty Bool :=
 .loopR 11 id ⟨_, _, _, _, _, ok_index_rises_l0 a0 1⟩ fun j1 => .ret 6 true
noncomputable def s_index_rises (a0 : List Int) : Sg Try.prog Bool := ⟨91, M_index_rises a0, [.lst (List.map (D.int .i64) a0)], en_index_rises⟩
theorem ok_index_rises (a0 : List Int) : (s_index_rises a0).Holds := Tr.fn (F := F_index_rises) (t_index_rises a0) (by kernel_rfl) (by kernel_rfl) (by kernel_rfl) (by kernel_rfl)
/-- thrum/index.Gather$1. -/
def en_index_Gather_1_c (v : Bool) : PV := bB v
noncomputable abbrev F_index_Gather_1_c : Fe := .of Try.prog 93 en_index_Gather_1_c
theorem nl_index_Gather_1_c : ∀ v, (en_index_Gather_1_c v).noLst := fun _ => trivial
noncomputable def t_index_Gather_1_c (a0 : Int) (a1 : List Int) : Tr F_index_Gather_1_c Empty Bool :=
 .join 9 5 (γ := Bool) ⟨fun x => [(11, bB x)], [], fun _ => [], []⟩
 (.ite 0 6 (a0 < 0)
 (.ret 6 true)
 (.len 2 eI a1 <| .ret 3 (decide (a0 ≥ (a1.length : Int)))))
 fun j1 => .ret 3 j1
noncomputable def s_index_Gather_1_c (a0 : Int) (a1 : List Int) : Sg Try.prog Bool := ⟨93, M_index_Gather_1_c a0 a1, [.int .i64 a0, .cp [.lst (List.map (D.int .i64) a1)] 0], en_index_Gather_1_c⟩
theorem ok_index_Gather_1_c (a0 : Int) (a1 : List Int) : (s_index_Gather_1_c a0 a1).Holds := Tr.fn (F := F_index_Gather_1_c) (t_index_Gather_1_c a0 a1) (by kernel_rfl) (by kernel_rfl) (by kernel_rfl) (by kernel_rfl)
/-- slices.IndexFunc[[]int,int]. -/
def en_slices_IndexFunc_int_int_index_Gather_1 (v : Int) : PV := nI v
noncomputable abbrev F_slices_IndexFunc_int_int_index_Gather_1 : Fe := .of Try.prog 130 en_slices_IndexFunc_int_int_index_Gather_1
def S_slices_IndexFunc_int_int_index_Gather_1_l0 (a0 : List Int) (a1 : List Int) (x0 : Int) : St := ⟨[(8, nI x0), (7, nI (a0.length : Int)), (0, lI a0), (1, .d (.clo (.func 93) [] [.cp [.lst (List.map (D.int .i64) a1)] 0]))], []⟩
def E_slices_IndexFunc_int_int_index_Gather_1_l0 (a0 : List Int) (a1 : List Int) (x : Unit) : St := ⟨[], []⟩
noncomputable def t_slices_IndexFunc_int_int_index_Gather_1_l0 (a0 : List Int) (a1 : List Int) (x0 : Int) : Tr F_slices_IndexFunc_int_int_index_Gather_1 Int (Sum Int Unit) :=
 .ite 6 9 (x0 < (a0.length : Int))
 (.idx 14 eI a0 x0 <| .call 1 (ok_index_Gather_1_c (at' a0 x0) a1) nl_index_Gather_1_c fun r1 => .iteB 1 16 (r1)
 (.ret 10 (.inl x0))
 (.again 7 (IntKind.i64.wrap (x0 + 1))))
 (.ret 4 (.inr ()))
theorem ok_slices_IndexFunc_int_int_index_Gather_1_l0 (a0 : List Int) (a1 : List Int) (x0 : Int) : Ok (M_slices_IndexFunc_int_int_index_Gather_1_l0 a0 a1 x0) fun v => go Try.prog F_slices_IndexFunc_int_int_index_Gather_1.N (PostR (fun r => Fnl F_slices_IndexFunc_int_int_index_Gather_1.res (F_slices_IndexFunc_int_int_index_Gather_1.en r) (F_slices_IndexFunc_int_int_index_Gather_1.bx r)) (.exit 0) (E_slices_IndexFunc_int_int_index_Gather_1_l0 a0 a1) v) [.l (lpA Try.prog 130 0)] .norm (S_slices_IndexFunc_int_int_index_Gather_1_l0 a0 a1 x0) := by
 refine M_slices_IndexFunc_int_int_index_Gather_1_l0.partial_correctness a0 a1 (fun x0 v => go Try.prog F_slices_IndexFunc_int_int_index_Gather_1.N (PostR (fun r => Fnl F_slices_IndexFunc_int_int_index_Gather_1.res (F_slices_IndexFunc_int_int_index_Gather_1.en r) (F_slices_IndexFunc_int_int_index_Gather_1.bx r)) (.exit 0) (E_slices_IndexFunc_int_int_index_Gather_1_l0 a0 a1) v) [.l (lpA Try.prog 130 0)] .norm (S_slices_IndexFunc_int_int_index_Gather_1_l0 a0 a1 x0)) ?_ x0
 clear x0
 intro f IH x0
 exact Tr.lpR (F := F_slices_IndexFunc_int_int_index_Gather_1) (S := fun x => S_slices_IndexFunc_int_int_index_Gather_1_l0 a0 a1 x) (S' := E_slices_IndexFunc_int_int_index_Gather_1_l0 a0 a1) (t_slices_IndexFunc_int_int_index_Gather_1_l0 a0 a1 x0) (fun x => f x) (fun x r h => IH x r h) (by kernel_rfl) (by kernel_rfl)
theorem nl_slices_IndexFunc_int_int_index_Gather_1 : ∀ v, (en_slices_IndexFunc_int_int_index_Gather_1 v).noLst := fun _ => trivial
noncomputable def t_slices_IndexFunc_int_int_index_Gather_1 (a0 : List Int) (a1 : List Int) : Tr F_slices_IndexFunc_int_int_index_Gather_1 Empty Int :=
 .len 8 eI a0 <| .loopR 4 id ⟨_, _, _, _, _, ok_slices_IndexFunc_int_int_index_Gather_1_l0 a0 a1 0⟩ fun j2 => .ret 6 (-1)
noncomputable def s_slices_IndexFunc_int_int_index_Gather_1 (a0 : List Int) (a1 : List Int) : Sg Try.prog Int := ⟨130, M_slices_IndexFunc_int_int_index_Gather_1 a0 a1, [.lst (List.map (D.int .i64) a0), .clo (.func 93) [] [.cp [.lst (List.map (D.int .i64) a1)] 0]], en_slices_IndexFunc_int_int_index_Gather_1⟩
theorem ok_slices_IndexFunc_int_int_index_Gather_1 (a0 : List Int) (a1 : List Int) : (s_slices_IndexFunc_int_int_index_Gather_1 a0 a1).Holds := Tr.fn (F := F_slices_IndexFunc_int_int_index_Gather_1) (t_slices_IndexFunc_int_int_index_Gather_1 a0 a1) (by kernel_rfl) (by kernel_rfl) (by kernel_rfl) (by kernel_rfl)
/-- slices.ContainsFunc[[]int,int]. -/
def en_slices_ContainsFunc_int_int_index_Gather_1 (v : Bool) : PV := bB v
noncomputable abbrev F_slices_ContainsFunc_int_int_index_Gather_1 : Fe := .of Try.prog 92 en_slices_ContainsFunc_int_int_index_Gather_1
theorem nl_slices_ContainsFunc_int_int_index_Gather_1 : ∀ v, (en_slices_ContainsFunc_int_int_index_Gather_1 v).noLst := fun _ => trivial
noncomputable def t_slices_ContainsFunc_int_int_index_Gather_1 (a0 : List Int) (a1 : List Int) : Tr F_slices_ContainsFunc_int_int_index_Gather_1 Empty Bool :=
 .call 8 (ok_slices_IndexFunc_int_int_index_Gather_1 a0 a1) nl_slices_IndexFunc_int_int_index_Gather_1 fun r1 => .ret 4 (decide (r1 ≥ 0))
noncomputable def s_slices_ContainsFunc_int_int_index_Gather_1 (a0 : List Int) (a1 : List Int) : Sg Try.prog Bool := ⟨92, M_slices_ContainsFunc_int_int_index_Gather_1 a0 a1, [.lst (List.map (D.int .i64) a0), .clo (.func 93) [] [.cp [.lst (List.map (D.int .i64) a1)] 0]], en_slices_ContainsFunc_int_int_index_Gather_1⟩
theorem ok_slices_ContainsFunc_int_int_index_Gather_1 (a0 : List Int) (a1 : List Int) : (s_slices_ContainsFunc_int_int_index_Gather_1 a0 a1).Holds := Tr.fn (F := F_slices_ContainsFunc_int_int_index_Gather_1) (t_slices_ContainsFunc_int_int_index_Gather_1 a0 a1) (by kernel_rfl) (by kernel_rfl) (by kernel_rfl) (by kernel_rfl)
/-- thrum/index.Gather. -/
def en_index_Gather (v : (List Int) × Int) : PV := .tup [sI (.s 0) v.1, nI v.2]
noncomputable abbrev F_index_Gather : Fe := .of Try.prog 56 en_index_Gather
def S_index_Gather_l0 (a0 : List Int) (a1 : List Int) (x0 : Int) (x1 : List Int) : St := ⟨[(22, nI x0), (21, nI (a0.length : Int)), (20, lI a0), (6, sI (.h 0) x1), (3, .ptr (.s 15) 0)], [(.s 15, [lI a1])]⟩
def E_index_Gather_l0 (a0 : List Int) (a1 : List Int) (x : (List Int)) : St := ⟨[(6, sI (.h 1) x)], []⟩
noncomputable def t_index_Gather_l0 (a0 : List Int) (a1 : List Int) (x0 : Int) (x1 : List Int) : Tr F_index_Gather (Int × (List Int)) (List Int) :=
 .ite 6 23 (x0 < (a0.length : Int))
 (.idx 6 eI a0 x0 <| .idx 7 eI a1 (at' a0 x0) <| .app 2 eI 8 x1 [at' a1 (at' a0 x0)] <| .let_ (x1 ++ [at' a1 (at' a0 x0)] : List Int) fun y6 => .again 7 (IntKind.i64.wrap (x0 + 1), y6))
 (.ret 4 x1)
theorem ok_index_Gather_l0 (a0 : List Int) (a1 : List Int) (x0 : Int) (x1 : List Int) : Ok (M_index_Gather_l0 a0 a1 x0 x1) fun v => go Try.prog F_index_Gather.N (PostN (.exit 0) (E_index_Gather_l0 a0 a1) v) [.l (lpA Try.prog 56 0)] .norm (S_index_Gather_l0 a0 a1 x0 x1) := by
 refine M_index_Gather_l0.partial_correctness a0 a1 (fun x0 x1 v => go Try.prog F_index_Gather.N (PostN (.exit 0) (E_index_Gather_l0 a0 a1) v) [.l (lpA Try.prog 56 0)] .norm (S_index_Gather_l0 a0 a1 x0 x1)) ?_ x0 x1
 clear x0 x1
 intro f IH x0 x1
 exact Tr.lpN (F := F_index_Gather) (S := fun x => S_index_Gather_l0 a0 a1 x.1 x.2) (S' := E_index_Gather_l0 a0 a1) (t_index_Gather_l0 a0 a1 x0 x1) (fun x => f x.1 x.2) (fun x r h => IH x.1 x.2 r h) (by kernel_rfl) (by kernel_rfl)
theorem nl_index_Gather : ∀ v, (en_index_Gather v).noLst := fun _ => ⟨(flat_map_of fun _ => trivial), trivial, trivial⟩
noncomputable def t_index_Gather (a0 : List Int) (a1 : List Int) : Tr F_index_Gather Empty ((List Int) × Int) :=
 .call 10 (ok_index_rises a0) nl_index_rises fun r1 => .join 2 4 (γ := Bool) ⟨fun x => [(16, bB x)], [3, 0], fun _ => [], [.s 15]⟩
 (.iteX 0 12 (r1)
 (.ret 5 true)
 (.call 2 (ok_slices_ContainsFunc_int_int_index_Gather_1 a0 a1) nl_slices_ContainsFunc_int_int_index_Gather_1 fun r2 => .ret 2 r2))
 fun j3 => .iteB 1 16 (j3)
 (.ret 8 ([], 1))
 (.len 5 eI a0 <| .mk 0 eI 8 0 0 (a0.length : Int) <| .let_ (List.replicate (Int.toNat 0) 0 : List Int) fun y4 => .len 6 eI a0 <| .loop 4 ⟨_, _, _, _, _, ok_index_Gather_l0 a0 a1 0 y4⟩ fun j8 => .ret 8 (j8, 0))
noncomputable def s_index_Gather (a0 : List Int) (a1 : List Int) : Sg Try.prog ((List Int) × Int) := ⟨56, M_index_Gather a0 a1, [.lst (List.map (D.int .i64) a0), .lst (List.map (D.int .i64) a1)], en_index_Gather⟩
theorem ok_index_Gather (a0 : List Int) (a1 : List Int) : (s_index_Gather a0 a1).Holds := Tr.fn (F := F_index_Gather) (t_index_Gather a0 a1) (by kernel_rfl) (by kernel_rfl) (by kernel_rfl) (by kernel_rfl)
/-- thrum/topk.Press. -/
def en_topk_Press (v : Int × Int × (List Int) × (List Int) × Int × Int × Int) : PV := .tup [.agg [nI v.1, nI v.2.1, sI (.s 0) v.2.2.1, sI (.s 1) v.2.2.2.1, nI v.2.2.2.2.1, nI v.2.2.2.2.2.1, .nils, .nils], nI v.2.2.2.2.2.2]
noncomputable abbrev F_topk_Press : Fe := .of Try.prog 14 en_topk_Press
theorem nl_topk_Press : ∀ v, (en_topk_Press v).noLst := fun _ => ⟨⟨trivial, trivial, (flat_map_of fun _ => trivial), (flat_map_of fun _ => trivial), trivial, trivial, trivial, trivial, trivial⟩, trivial, trivial⟩
noncomputable def t_topk_Press (a0 : Int) (a1 : List Int) : Tr F_topk_Press Empty (Int × Int × (List Int) × (List Int) × Int × Int × Int) :=
 .len 9 eI a1 <| .ite 2 11 ((a1.length : Int) = 0)
 (.ret 9 (0, 0, [], [], 0, 0, 1))
 (.call 6 (ok_topk_Pick a0 a1) nl_topk_Pick fun r1 => .iteN 12 20 (r1.2 = 0)
 (.ret 10 (0, 0, [], [], 0, 0, r1.2))
 (.call 6 (ok_index_Gather r1.1 a1) nl_index_Gather fun r2 => .iteN 12 30 (r2.2 = 0)
 (.ret 10 (0, 0, [], [], 0, 0, r2.2))
 (.len 5 eI a1 <| .ret 7 (1, (a1.length : Int), r1.1, r2.1, 0, 0, 0))))
noncomputable def s_topk_Press (a0 : Int) (a1 : List Int) : Sg Try.prog (Int × Int × (List Int) × (List Int) × Int × Int × Int) := ⟨14, M_topk_Press a0 a1, [.int .i64 a0, .lst (List.map (D.int .i64) a1)], en_topk_Press⟩
theorem ok_topk_Press (a0 : Int) (a1 : List Int) : (s_topk_Press a0 a1).Holds := Tr.fn (F := F_topk_Press) (t_topk_Press a0 a1) (by kernel_rfl) (by kernel_rfl) (by kernel_rfl) (by kernel_rfl)
/-- thrum/thrumref09.Press. -/
def en_thrumref09_Press (v : Int × Int × (List Int) × (List Int) × Int × Int × Int) : PV := .tup [.d (.agg [.int .i64 v.1, .int .i64 v.2.1, .lst (List.map (D.int .i64) v.2.2.1), .lst (List.map (D.int .i64) v.2.2.2.1), .int .i64 v.2.2.2.2.1, .int .i64 v.2.2.2.2.2.1, .lst [], .lst []]), nI v.2.2.2.2.2.2]
noncomputable abbrev F_thrumref09_Press : Fe := .of Try.prog 15 en_thrumref09_Press
def S_thrumref09_Press_l0 (a1 : List Int) (r1 : (List Int) × Int) (x0 : Int) (x1 : List Int) : St := ⟨[(31, nI x0), (30, nI (r1.1.length : Int)), (29, sI (.s 4832) r1.1), (8, .ptr (.s 9679) 0), (4, .ptr (.s 15) 0), (1, lI a1)], [(.s 9679, [nI 1, nI (a1.length : Int), sI (.s 4832) r1.1, sI (.h 0) x1, nI 0, nI 0, .nils, .nils]), (.s 15, [nI 0, nI 0, .nils, .nils, nI 0, nI 0, .nils, .nils])]⟩
def E_thrumref09_Press_l0 (a1 : List Int) (r1 : (List Int) × Int) (x : (List Int)) : St := ⟨[(8, .ptr (.s 9679) 0), (4, .ptr (.s 15) 0)], [(.s 9679, [nI 1, nI (a1.length : Int), sI (.s 4832) r1.1, sI (.h 1) x, nI 0, nI 0, .nils, .nils]), (.s 15, [nI 0, nI 0, .nils, .nils, nI 0, nI 0, .nils, .nils])]⟩
noncomputable def t_thrumref09_Press_l0 (a1 : List Int) (r1 : (List Int) × Int) (x0 : Int) (x1 : List Int) : Tr F_thrumref09_Press (Int × (List Int)) (List Int) :=
 .ite 6 32 (x0 < (r1.1.length : Int))
 (.idx 6 eI r1.1 x0 <| .idx 8 eI a1 (at' r1.1 x0) <| .hold 3 [] <| .app 0 eI 8 x1 [at' a1 (at' r1.1 x0)] <| .let_ (x1 ++ [at' a1 (at' r1.1 x0)] : List Int) fun y2 => .again 9 (IntKind.i64.wrap (x0 + 1), y2))
 (.ret 4 x1)
theorem ok_thrumref09_Press_l0 (a1 : List Int) (r1 : (List Int) × Int) (x0 : Int) (x1 : List Int) : Ok (M_thrumref09_Press_l0 a1 r1 x0 x1) fun v => go Try.prog F_thrumref09_Press.N (PostN (.exit 0) (E_thrumref09_Press_l0 a1 r1) v) [.l (lpA Try.prog 15 0)] .norm (S_thrumref09_Press_l0 a1 r1 x0 x1) := by
 refine M_thrumref09_Press_l0.partial_correctness a1 r1 (fun x0 x1 v => go Try.prog F_thrumref09_Press.N (PostN (.exit 0) (E_thrumref09_Press_l0 a1 r1) v) [.l (lpA Try.prog 15 0)] .norm (S_thrumref09_Press_l0 a1 r1 x0 x1)) ?_ x0 x1
 clear x0 x1
 intro f IH x0 x1
 exact Tr.lpN (F := F_thrumref09_Press) (S := fun x => S_thrumref09_Press_l0 a1 r1 x.1 x.2) (S' := E_thrumref09_Press_l0 a1 r1) (t_thrumref09_Press_l0 a1 r1 x0 x1) (fun x => f x.1 x.2) (fun x r h => IH x.1 x.2 r h) (by kernel_rfl) (by kernel_rfl)
noncomputable def t_thrumref09_Press (a0 : Int) (a1 : List Int) : Tr F_thrumref09_Press Empty (Int × Int × (List Int) × (List Int) × Int × Int × Int) :=
 .len 9 eI a1 <| .ite 2 13 ((a1.length : Int) = 0)
 (.ret 9 (0, 0, [], [], 0, 0, 1))
 (.call 6 (ok_thrumref09_Pick a0 a1) nl_thrumref09_Pick fun r1 => .iteN 12 22 (r1.2 = 0)
 (.ret 10 (0, 0, [], [], 0, 0, r1.2))
 (.len 5 eI a1 <| .len 9 eI r1.1 <| .loop 4 ⟨_, _, _, _, _, ok_thrumref09_Press_l0 a1 r1 0 []⟩ fun j4 => .ret 8 (1, (a1.length : Int), r1.1, j4, 0, 0, 0)))
noncomputable def s_thrumref09_Press (a0 : Int) (a1 : List Int) : Sg Try.prog (Int × Int × (List Int) × (List Int) × Int × Int × Int) := ⟨15, M_thrumref09_Press a0 a1, [.int .i64 a0, .lst (List.map (D.int .i64) a1)], en_thrumref09_Press⟩
theorem ok_thrumref09_Press (a0 : Int) (a1 : List Int) : (s_thrumref09_Press a0 a1).Holds := Tr.fn (F := F_thrumref09_Press) (t_thrumref09_Press a0 a1) (by kernel_rfl) (by kernel_rfl) (by kernel_rfl) (by kernel_rfl)
/-- thrum/thrumref09.Least. -/
def en_thrumref09_Least (v : Int × Bool) : PV := .tup [nU v.1, bB v.2]
noncomputable abbrev F_thrumref09_Least : Fe := .of Try.prog 17 en_thrumref09_Least
def S_thrumref09_Least_l0 (a0 : List Int) (a1 : List Int) (x0 : Int) (x1 : Bool) (x2 : Int) : St := ⟨[(13, nI x0), (12, nI (a0.length : Int)), (11, lI a0), (7, bB x1), (6, nU x2), (1, lI a1)], []⟩
def E_thrumref09_Least_l0 (a0 : List Int) (a1 : List Int) (x : Bool × Int) : St := ⟨[(7, bB x.1), (6, nU x.2)], []⟩
noncomputable def t_thrumref09_Least_l0 (a0 : List Int) (a1 : List Int) (x0 : Int) (x1 : Bool) (x2 : Int) : Tr F_thrumref09_Least (Int × Bool × Int) (Bool × Int) :=
 .ite 6 14 (x0 < (a0.length : Int))
 (.idx 6 eI a0 x0 <| .join 9 5 (γ := Bool) ⟨fun x => [(24, bB x)], [9, 13, 12, 11, 7, 6, 1], fun _ => [], []⟩
 (.ite 0 19 ((at' a0 x0) < 0)
 (.ret 6 true)
 (.len 2 eI a1 <| .ret 3 (decide ((at' a0 x0) ≥ (a1.length : Int)))))
 fun j1 => .iteB 1 24 (j1)
 (.again 8 (IntKind.i64.wrap (x0 + 1), x1, x2))
 (.idx 6 eI a1 (at' a0 x0) <| .call 1 (ok_thrumref09_Size (at' a1 (at' a0 x0))) nl_thrumref09_Size fun r2 => .join 7 4 (γ := Bool) ⟨fun x => [(36, bB x)], [10, 13, 12, 11, 7, 6, 1], fun _ => [], []⟩
 (.iteX 0 32 (x1)
 (.ret 5 true)
 (.ret 5 (decide (r2 < x2))))
 fun j3 => .iteB 1 36 (j3)
 (.again 14 (IntKind.i64.wrap (x0 + 1), true, r2))
 (.again 7 (IntKind.i64.wrap (x0 + 1), x1, x2))))
 (.ret 4 (x1, x2))
theorem ok_thrumref09_Least_l0 (a0 : List Int) (a1 : List Int) (x0 : Int) (x1 : Bool) (x2 : Int) : Ok (M_thrumref09_Least_l0 a0 a1 x0 x1 x2) fun v => go Try.prog F_thrumref09_Least.N (PostN (.exit 0) (E_thrumref09_Least_l0 a0 a1) v) [.l (lpA Try.prog 17 0)] .norm (S_thrumref09_Least_l0 a0 a1 x0 x1 x2) := by
 refine M_thrumref09_Least_l0.partial_correctness a0 a1 (fun x0 x1 x2 v => go Try.prog F_thrumref09_Least.N (PostN (.exit 0) (E_thrumref09_Least_l0 a0 a1) v) [.l (lpA Try.prog 17 0)] .norm (S_thrumref09_Least_l0 a0 a1 x0 x1 x2)) ?_ x0 x1 x2
 clear x0 x1 x2
 intro f IH x0 x1 x2
 exact Tr.lpN (F := F_thrumref09_Least) (S := fun x => S_thrumref09_Least_l0 a0 a1 x.1 x.2.1 x.2.2) (S' := E_thrumref09_Least_l0 a0 a1) (t_thrumref09_Least_l0 a0 a1 x0 x1 x2) (fun x => f x.1 x.2.1 x.2.2) (fun x r h => IH x.1 x.2.1 x.2.2 r h) (by kernel_rfl) (by kernel_rfl)
theorem nl_thrumref09_Least : ∀ v, (en_thrumref09_Least v).noLst := fun _ => ⟨trivial, trivial, trivial⟩
noncomputable def t_thrumref09_Least (a0 : List Int) (a1 : List Int) : Tr F_thrumref09_Least Empty (Int × Bool) :=
 .len 17 eI a0 <| .loop 4 ⟨_, _, _, _, _, ok_thrumref09_Least_l0 a0 a1 0 false 0⟩ fun j4 => .ret 9 (j4.2, j4.1)
noncomputable def s_thrumref09_Least (a0 : List Int) (a1 : List Int) : Sg Try.prog (Int × Bool) := ⟨17, M_thrumref09_Least a0 a1, [.lst (List.map (D.int .i64) a0), .lst (List.map (D.int .i64) a1)], en_thrumref09_Least⟩
theorem ok_thrumref09_Least (a0 : List Int) (a1 : List Int) : (s_thrumref09_Least a0 a1).Holds := Tr.fn (F := F_thrumref09_Least) (t_thrumref09_Least a0 a1) (by kernel_rfl) (by kernel_rfl) (by kernel_rfl) (by kernel_rfl)
/-- thrum/thrumref02.Same. -/
def en_thrumref02_Same (v : Bool) : PV := bB v
noncomputable abbrev F_thrumref02_Same : Fe := .of Try.prog 59 en_thrumref02_Same
def S_thrumref02_Same_l0 (a0 : List Int) (a1 : List Int) (x0 : Int) : St := ⟨[(13, nI x0), (12, nI (a0.length : Int)), (0, lI a0), (1, lI a1)], []⟩
def E_thrumref02_Same_l0 (a0 : List Int) (a1 : List Int) (x : Unit) : St := ⟨[], []⟩
noncomputable def t_thrumref02_Same_l0 (a0 : List Int) (a1 : List Int) (x0 : Int) : Tr F_thrumref02_Same Int (Sum Bool Unit) :=
 .ite 6 14 (x0 < (a0.length : Int))
 (.idx 13 eI a0 x0 <| .idx 3 eI a1 x0 <| .iteN 3 24 ((at' a0 x0) = (at' a1 x0))
 (.ret 9 (.inl false))
 (.again 7 (IntKind.i64.wrap (x0 + 1))))
 (.ret 4 (.inr ()))
theorem ok_thrumref02_Same_l0 (a0 : List Int) (a1 : List Int) (x0 : Int) : Ok (M_thrumref02_Same_l0 a0 a1 x0) fun v => go Try.prog F_thrumref02_Same.N (PostR (fun r => Fnl F_thrumref02_Same.res (F_thrumref02_Same.en r) (F_thrumref02_Same.bx r)) (.exit 0) (E_thrumref02_Same_l0 a0 a1) v) [.l (lpA Try.prog 59 0)] .norm (S_thrumref02_Same_l0 a0 a1 x0) := by
 refine M_thrumref02_Same_l0.partial_correctness a0 a1 (fun x0 v => go Try.prog F_thrumref02_Same.N (PostR (fun r => Fnl F_thrumref02_Same.res (F_thrumref02_Same.en r) (F_thrumref02_Same.bx r)) (.exit 0) (E_thrumref02_Same_l0 a0 a1) v) [.l (lpA Try.prog 59 0)] .norm (S_thrumref02_Same_l0 a0 a1 x0)) ?_ x0
 clear x0
 intro f IH x0
 exact Tr.lpR (F := F_thrumref02_Same) (S := fun x => S_thrumref02_Same_l0 a0 a1 x) (S' := E_thrumref02_Same_l0 a0 a1) (t_thrumref02_Same_l0 a0 a1 x0) (fun x => f x) (fun x r h => IH x r h) (by kernel_rfl) (by kernel_rfl)
theorem nl_thrumref02_Same : ∀ v, (en_thrumref02_Same v).noLst := fun _ => trivial
noncomputable def t_thrumref02_Same (a0 : List Int) (a1 : List Int) : Tr F_thrumref02_Same Empty Bool :=
 .len 8 eI a0 <| .len 1 eI a1 <| .iteN 2 10 ((a0.length : Int) = (a1.length : Int))
 (.ret 7 false)
 (.len 6 eI a0 <| .loopR 4 id ⟨_, _, _, _, _, ok_thrumref02_Same_l0 a0 a1 0⟩ fun j1 => .ret 6 true)
noncomputable def s_thrumref02_Same (a0 : List Int) (a1 : List Int) : Sg Try.prog Bool := ⟨59, M_thrumref02_Same a0 a1, [.lst (List.map (D.int .i64) a0), .lst (List.map (D.int .i64) a1)], en_thrumref02_Same⟩
theorem ok_thrumref02_Same (a0 : List Int) (a1 : List Int) : (s_thrumref02_Same a0 a1).Holds := Tr.fn (F := F_thrumref02_Same) (t_thrumref02_Same a0 a1) (by kernel_rfl) (by kernel_rfl) (by kernel_rfl) (by kernel_rfl)
/-- thrum/thrumref03.SameNumbers. -/
def en_thrumref03_SameNumbers (v : Bool) : PV := bB v
noncomputable abbrev F_thrumref03_SameNumbers : Fe := .of Try.prog 60 en_thrumref03_SameNumbers
def S_thrumref03_SameNumbers_l0 (a0 : List Int) (a1 : List Int) (x0 : Int) : St := ⟨[(13, nI x0), (12, nI (a0.length : Int)), (0, lU a0), (1, lU a1)], []⟩
def E_thrumref03_SameNumbers_l0 (a0 : List Int) (a1 : List Int) (x : Unit) : St := ⟨[], []⟩
noncomputable def t_thrumref03_SameNumbers_l0 (a0 : List Int) (a1 : List Int) (x0 : Int) : Tr F_thrumref03_SameNumbers Int (Sum Bool Unit) :=
 .ite 6 14 (x0 < (a0.length : Int))
 (.idx 13 eU a0 x0 <| .idx 3 eU a1 x0 <| .iteN 3 24 ((at' a0 x0) = (at' a1 x0))
 (.ret 9 (.inl false))
 (.again 7 (IntKind.i64.wrap (x0 + 1))))
 (.ret 4 (.inr ()))
theorem ok_thrumref03_SameNumbers_l0 (a0 : List Int) (a1 : List Int) (x0 : Int) : Ok (M_thrumref03_SameNumbers_l0 a0 a1 x0) fun v => go Try.prog F_thrumref03_SameNumbers.N (PostR (fun r => Fnl F_thrumref03_SameNumbers.res (F_thrumref03_SameNumbers.en r) (F_thrumref03_SameNumbers.bx r)) (.exit 0) (E_thrumref03_SameNumbers_l0 a0 a1) v) [.l (lpA Try.prog 60 0)] .norm (S_thrumref03_SameNumbers_l0 a0 a1 x0) := by
 refine M_thrumref03_SameNumbers_l0.partial_correctness a0 a1 (fun x0 v => go Try.prog F_thrumref03_SameNumbers.N (PostR (fun r => Fnl F_thrumref03_SameNumbers.res (F_thrumref03_SameNumbers.en r) (F_thrumref03_SameNumbers.bx r)) (.exit 0) (E_thrumref03_SameNumbers_l0 a0 a1) v) [.l (lpA Try.prog 60 0)] .norm (S_thrumref03_SameNumbers_l0 a0 a1 x0)) ?_ x0
 clear x0
 intro f IH x0
 exact Tr.lpR (F := F_thrumref03_SameNumbers) (S := fun x => S_thrumref03_SameNumbers_l0 a0 a1 x) (S' := E_thrumref03_SameNumbers_l0 a0 a1) (t_thrumref03_SameNumbers_l0 a0 a1 x0) (fun x => f x) (fun x r h => IH x r h) (by kernel_rfl) (by kernel_rfl)
theorem nl_thrumref03_SameNumbers : ∀ v, (en_thrumref03_SameNumbers v).noLst := fun _ => trivial
noncomputable def t_thrumref03_SameNumbers (a0 : List Int) (a1 : List Int) : Tr F_thrumref03_SameNumbers Empty Bool :=
 .len 8 eU a0 <| .len 1 eU a1 <| .iteN 2 10 ((a0.length : Int) = (a1.length : Int))
 (.ret 7 false)
 (.len 6 eU a0 <| .loopR 4 id ⟨_, _, _, _, _, ok_thrumref03_SameNumbers_l0 a0 a1 0⟩ fun j1 => .ret 6 true)
noncomputable def s_thrumref03_SameNumbers (a0 : List Int) (a1 : List Int) : Sg Try.prog Bool := ⟨60, M_thrumref03_SameNumbers a0 a1, [.lst (List.map (D.int .u64) a0), .lst (List.map (D.int .u64) a1)], en_thrumref03_SameNumbers⟩
theorem ok_thrumref03_SameNumbers (a0 : List Int) (a1 : List Int) : (s_thrumref03_SameNumbers a0 a1).Holds := Tr.fn (F := F_thrumref03_SameNumbers) (t_thrumref03_SameNumbers a0 a1) (by kernel_rfl) (by kernel_rfl) (by kernel_rfl) (by kernel_rfl)
/-- thrum/thrumref05.SameSigns. -/
def en_thrumref05_SameSigns (v : Bool) : PV := bB v
noncomputable abbrev F_thrumref05_SameSigns : Fe := .of Try.prog 61 en_thrumref05_SameSigns
def S_thrumref05_SameSigns_l0 (a0 : List Bool) (a1 : List Bool) (x0 : Int) : St := ⟨[(13, nI x0), (12, nI (a0.length : Int)), (0, lB a0), (1, lB a1)], []⟩
def E_thrumref05_SameSigns_l0 (a0 : List Bool) (a1 : List Bool) (x : Unit) : St := ⟨[], []⟩
noncomputable def t_thrumref05_SameSigns_l0 (a0 : List Bool) (a1 : List Bool) (x0 : Int) : Tr F_thrumref05_SameSigns Int (Sum Bool Unit) :=
 .ite 6 14 (x0 < (a0.length : Int))
 (.idx 13 eB a0 x0 <| .idx 3 eB a1 x0 <| .iteN 3 24 ((at' a0 x0) = (at' a1 x0))
 (.ret 9 (.inl false))
 (.again 7 (IntKind.i64.wrap (x0 + 1))))
 (.ret 4 (.inr ()))
theorem ok_thrumref05_SameSigns_l0 (a0 : List Bool) (a1 : List Bool) (x0 : Int) : Ok (M_thrumref05_SameSigns_l0 a0 a1 x0) fun v => go Try.prog F_thrumref05_SameSigns.N (PostR (fun r => Fnl F_thrumref05_SameSigns.res (F_thrumref05_SameSigns.en r) (F_thrumref05_SameSigns.bx r)) (.exit 0) (E_thrumref05_SameSigns_l0 a0 a1) v) [.l (lpA Try.prog 61 0)] .norm (S_thrumref05_SameSigns_l0 a0 a1 x0) := by
 refine M_thrumref05_SameSigns_l0.partial_correctness a0 a1 (fun x0 v => go Try.prog F_thrumref05_SameSigns.N (PostR (fun r => Fnl F_thrumref05_SameSigns.res (F_thrumref05_SameSigns.en r) (F_thrumref05_SameSigns.bx r)) (.exit 0) (E_thrumref05_SameSigns_l0 a0 a1) v) [.l (lpA Try.prog 61 0)] .norm (S_thrumref05_SameSigns_l0 a0 a1 x0)) ?_ x0
 clear x0
 intro f IH x0
 exact Tr.lpR (F := F_thrumref05_SameSigns) (S := fun x => S_thrumref05_SameSigns_l0 a0 a1 x) (S' := E_thrumref05_SameSigns_l0 a0 a1) (t_thrumref05_SameSigns_l0 a0 a1 x0) (fun x => f x) (fun x r h => IH x r h) (by kernel_rfl) (by kernel_rfl)
theorem nl_thrumref05_SameSigns : ∀ v, (en_thrumref05_SameSigns v).noLst := fun _ => trivial
noncomputable def t_thrumref05_SameSigns (a0 : List Bool) (a1 : List Bool) : Tr F_thrumref05_SameSigns Empty Bool :=
 .len 8 eB a0 <| .len 1 eB a1 <| .iteN 2 10 ((a0.length : Int) = (a1.length : Int))
 (.ret 7 false)
 (.len 6 eB a0 <| .loopR 4 id ⟨_, _, _, _, _, ok_thrumref05_SameSigns_l0 a0 a1 0⟩ fun j1 => .ret 6 true)
noncomputable def s_thrumref05_SameSigns (a0 : List Bool) (a1 : List Bool) : Sg Try.prog Bool := ⟨61, M_thrumref05_SameSigns a0 a1, [.lst (List.map D.bool a0), .lst (List.map D.bool a1)], en_thrumref05_SameSigns⟩
theorem ok_thrumref05_SameSigns (a0 : List Bool) (a1 : List Bool) : (s_thrumref05_SameSigns a0 a1).Holds := Tr.fn (F := F_thrumref05_SameSigns) (t_thrumref05_SameSigns a0 a1) (by kernel_rfl) (by kernel_rfl) (by kernel_rfl) (by kernel_rfl)
/-- thrum/thrumref07.SameSent. -/
def en_thrumref07_SameSent (v : Bool) : PV := bB v
noncomputable abbrev F_thrumref07_SameSent : Fe := .of Try.prog 19 en_thrumref07_SameSent
theorem nl_thrumref07_SameSent : ∀ v, (en_thrumref07_SameSent v).noLst := fun _ => trivial
noncomputable def t_thrumref07_SameSent (a0 : T_api_Sent) (a1 : T_api_Sent) : Tr F_thrumref07_SameSent Empty Bool :=
 .join 14 6 (γ := Bool) ⟨fun x => [(16, bB x)], [3, 2], fun _ => [], [.s 31, .s 15]⟩
 (.ite 0 10 (a0.F_Scheme = a1.F_Scheme)
 (.ret 7 (a0.F_Dim == a1.F_Dim))
 (.ret 7 false))
 fun j1 => .join 1 6 (γ := Bool) ⟨fun x => [(23, bB x)], [3, 2], fun _ => [], [.s 31, .s 15]⟩
 (.iteB 0 17 (j1)
 (.call 4 (ok_thrumref06_Equal a0.F_L a1.F_L) nl_thrumref06_Equal fun r2 => .ret 2 r2)
 (.ret 7 false))
 fun j3 => .join 1 6 (γ := Bool) ⟨fun x => [(30, bB x)], [3, 2], fun _ => [], [.s 31, .s 15]⟩
 (.iteB 0 24 (j3)
 (.call 4 (ok_thrumref02_Same a0.F_V a1.F_V) nl_thrumref02_Same fun r4 => .ret 2 r4)
 (.ret 7 false))
 fun j5 => .join 1 6 (γ := Bool) ⟨fun x => [(37, bB x)], [3, 2], fun _ => [], [.s 31, .s 15]⟩
 (.iteB 0 31 (j5)
 (.ret 7 (a0.F_Scale == a1.F_Scale))
 (.ret 7 false))
 fun j6 => .join 1 6 (γ := Bool) ⟨fun x => [(44, bB x)], [3, 2], fun _ => [], [.s 31, .s 15]⟩
 (.iteB 0 38 (j6)
 (.ret 7 (a0.F_Wide == a1.F_Wide))
 (.ret 7 false))
 fun j7 => .join 1 6 (γ := Bool) ⟨fun x => [(51, bB x)], [3, 2], fun _ => [], [.s 31, .s 15]⟩
 (.iteB 0 45 (j7)
 (.call 4 (ok_thrumref03_SameNumbers a0.F_Lev a1.F_Lev) nl_thrumref03_SameNumbers fun r8 => .ret 2 r8)
 (.ret 7 false))
 fun j9 => .join 1 6 (γ := Bool) ⟨fun x => [(58, bB x)], [], fun _ => [], []⟩
 (.iteB 0 52 (j9)
 (.call 4 (ok_thrumref05_SameSigns a0.F_Neg a1.F_Neg) nl_thrumref05_SameSigns fun r10 => .ret 2 r10)
 (.ret 7 false))
 fun j11 => .ret 3 j11
noncomputable def s_thrumref07_SameSent (a0 : T_api_Sent) (a1 : T_api_Sent) : Sg Try.prog Bool := ⟨19, M_thrumref07_SameSent a0 a1, [.agg [.int .i64 a0.F_Scheme, .int .i64 a0.F_Dim, .lst (List.map (D.int .i64) a0.F_L), .lst (List.map (D.int .i64) a0.F_V), .int .i64 a0.F_Scale, .int .i64 a0.F_Wide, .lst (List.map (D.int .u64) a0.F_Lev), .lst (List.map D.bool a0.F_Neg)], .agg [.int .i64 a1.F_Scheme, .int .i64 a1.F_Dim, .lst (List.map (D.int .i64) a1.F_L), .lst (List.map (D.int .i64) a1.F_V), .int .i64 a1.F_Scale, .int .i64 a1.F_Wide, .lst (List.map (D.int .u64) a1.F_Lev), .lst (List.map D.bool a1.F_Neg)]], en_thrumref07_SameSent⟩
theorem ok_thrumref07_SameSent (a0 : T_api_Sent) (a1 : T_api_Sent) : (s_thrumref07_SameSent a0 a1).Holds := Tr.fn (F := F_thrumref07_SameSent) (t_thrumref07_SameSent a0 a1) (by kernel_rfl) (by kernel_rfl) (by kernel_rfl) (by kernel_rfl)
/-- slices.Equal[[]int,int]. -/
def en_slices_Equal_int_int (v : Bool) : PV := bB v
noncomputable abbrev F_slices_Equal_int_int : Fe := .of Try.prog 62 en_slices_Equal_int_int
def S_slices_Equal_int_int_l0 (a0 : List Int) (a1 : List Int) (x0 : Int) : St := ⟨[(13, nI x0), (12, nI (a0.length : Int)), (0, lI a0), (1, lI a1)], []⟩
def E_slices_Equal_int_int_l0 (a0 : List Int) (a1 : List Int) (x : Unit) : St := ⟨[], []⟩
noncomputable def t_slices_Equal_int_int_l0 (a0 : List Int) (a1 : List Int) (x0 : Int) : Tr F_slices_Equal_int_int Int (Sum Bool Unit) :=
 .ite 6 14 (x0 < (a0.length : Int))
 (.idx 13 eI a0 x0 <| .idx 3 eI a1 x0 <| .iteN 3 24 ((at' a0 x0) = (at' a1 x0))
 (.ret 9 (.inl false))
 (.again 7 (IntKind.i64.wrap (x0 + 1))))
 (.ret 4 (.inr ()))
theorem ok_slices_Equal_int_int_l0 (a0 : List Int) (a1 : List Int) (x0 : Int) : Ok (M_slices_Equal_int_int_l0 a0 a1 x0) fun v => go Try.prog F_slices_Equal_int_int.N (PostR (fun r => Fnl F_slices_Equal_int_int.res (F_slices_Equal_int_int.en r) (F_slices_Equal_int_int.bx r)) (.exit 0) (E_slices_Equal_int_int_l0 a0 a1) v) [.l (lpA Try.prog 62 0)] .norm (S_slices_Equal_int_int_l0 a0 a1 x0) := by
 refine M_slices_Equal_int_int_l0.partial_correctness a0 a1 (fun x0 v => go Try.prog F_slices_Equal_int_int.N (PostR (fun r => Fnl F_slices_Equal_int_int.res (F_slices_Equal_int_int.en r) (F_slices_Equal_int_int.bx r)) (.exit 0) (E_slices_Equal_int_int_l0 a0 a1) v) [.l (lpA Try.prog 62 0)] .norm (S_slices_Equal_int_int_l0 a0 a1 x0)) ?_ x0
 clear x0
 intro f IH x0
 exact Tr.lpR (F := F_slices_Equal_int_int) (S := fun x => S_slices_Equal_int_int_l0 a0 a1 x) (S' := E_slices_Equal_int_int_l0 a0 a1) (t_slices_Equal_int_int_l0 a0 a1 x0) (fun x => f x) (fun x r h => IH x r h) (by kernel_rfl) (by kernel_rfl)
theorem nl_slices_Equal_int_int : ∀ v, (en_slices_Equal_int_int v).noLst := fun _ => trivial
noncomputable def t_slices_Equal_int_int (a0 : List Int) (a1 : List Int) : Tr F_slices_Equal_int_int Empty Bool :=
 .len 8 eI a0 <| .len 1 eI a1 <| .iteN 2 10 ((a0.length : Int) = (a1.length : Int))
 (.ret 7 false)
 (.len 6 eI a0 <| .loopR 4 id ⟨_, _, _, _, _, ok_slices_Equal_int_int_l0 a0 a1 0⟩ fun j1 => .ret 6 true)
noncomputable def s_slices_Equal_int_int (a0 : List Int) (a1 : List Int) : Sg Try.prog Bool := ⟨62, M_slices_Equal_int_int a0 a1, [.lst (List.map (D.int .i64) a0), .lst (List.map (D.int .i64) a1)], en_slices_Equal_int_int⟩
theorem ok_slices_Equal_int_int (a0 : List Int) (a1 : List Int) : (s_slices_Equal_int_int a0 a1).Holds := Tr.fn (F := F_slices_Equal_int_int) (t_slices_Equal_int_int a0 a1) (by kernel_rfl) (by kernel_rfl) (by kernel_rfl) (by kernel_rfl)
/-- slices.Equal[[]int64,int64]. -/
def en_slices_Equal_int64_int64 (v : Bool) : PV := bB v
noncomputable abbrev F_slices_Equal_int64_int64 : Fe := .of Try.prog 63 en_slices_Equal_int64_int64
def S_slices_Equal_int64_int64_l0 (a0 : List Int) (a1 : List Int) (x0 : Int) : St := ⟨[(13, nI x0), (12, nI (a0.length : Int)), (0, lI a0), (1, lI a1)], []⟩
def E_slices_Equal_int64_int64_l0 (a0 : List Int) (a1 : List Int) (x : Unit) : St := ⟨[], []⟩
noncomputable def t_slices_Equal_int64_int64_l0 (a0 : List Int) (a1 : List Int) (x0 : Int) : Tr F_slices_Equal_int64_int64 Int (Sum Bool Unit) :=
 .ite 6 14 (x0 < (a0.length : Int))
 (.idx 13 eI a0 x0 <| .idx 3 eI a1 x0 <| .iteN 3 24 ((at' a0 x0) = (at' a1 x0))
 (.ret 9 (.inl false))
 (.again 7 (IntKind.i64.wrap (x0 + 1))))
 (.ret 4 (.inr ()))
theorem ok_slices_Equal_int64_int64_l0 (a0 : List Int) (a1 : List Int) (x0 : Int) : Ok (M_slices_Equal_int64_int64_l0 a0 a1 x0) fun v => go Try.prog F_slices_Equal_int64_int64.N (PostR (fun r => Fnl F_slices_Equal_int64_int64.res (F_slices_Equal_int64_int64.en r) (F_slices_Equal_int64_int64.bx r)) (.exit 0) (E_slices_Equal_int64_int64_l0 a0 a1) v) [.l (lpA Try.prog 63 0)] .norm (S_slices_Equal_int64_int64_l0 a0 a1 x0) := by
 refine M_slices_Equal_int64_int64_l0.partial_correctness a0 a1 (fun x0 v => go Try.prog F_slices_Equal_int64_int64.N (PostR (fun r => Fnl F_slices_Equal_int64_int64.res (F_slices_Equal_int64_int64.en r) (F_slices_Equal_int64_int64.bx r)) (.exit 0) (E_slices_Equal_int64_int64_l0 a0 a1) v) [.l (lpA Try.prog 63 0)] .norm (S_slices_Equal_int64_int64_l0 a0 a1 x0)) ?_ x0
 clear x0
 intro f IH x0
 exact Tr.lpR (F := F_slices_Equal_int64_int64) (S := fun x => S_slices_Equal_int64_int64_l0 a0 a1 x) (S' := E_slices_Equal_int64_int64_l0 a0 a1) (t_slices_Equal_int64_int64_l0 a0 a1 x0) (fun x => f x) (fun x r h => IH x r h) (by kernel_rfl) (by kernel_rfl)
theorem nl_slices_Equal_int64_int64 : ∀ v, (en_slices_Equal_int64_int64 v).noLst := fun _ => trivial
noncomputable def t_slices_Equal_int64_int64 (a0 : List Int) (a1 : List Int) : Tr F_slices_Equal_int64_int64 Empty Bool :=
 .len 8 eI a0 <| .len 1 eI a1 <| .iteN 2 10 ((a0.length : Int) = (a1.length : Int))
 (.ret 7 false)
 (.len 6 eI a0 <| .loopR 4 id ⟨_, _, _, _, _, ok_slices_Equal_int64_int64_l0 a0 a1 0⟩ fun j1 => .ret 6 true)
noncomputable def s_slices_Equal_int64_int64 (a0 : List Int) (a1 : List Int) : Sg Try.prog Bool := ⟨63, M_slices_Equal_int64_int64 a0 a1, [.lst (List.map (D.int .i64) a0), .lst (List.map (D.int .i64) a1)], en_slices_Equal_int64_int64⟩
theorem ok_slices_Equal_int64_int64 (a0 : List Int) (a1 : List Int) : (s_slices_Equal_int64_int64 a0 a1).Holds := Tr.fn (F := F_slices_Equal_int64_int64) (t_slices_Equal_int64_int64 a0 a1) (by kernel_rfl) (by kernel_rfl) (by kernel_rfl) (by kernel_rfl)
/-- thrum/topk.Is. -/
def en_topk_Is (v : Bool) : PV := bB v
noncomputable abbrev F_topk_Is : Fe := .of Try.prog 20 en_topk_Is
theorem nl_topk_Is : ∀ v, (en_topk_Is v).noLst := fun _ => trivial
noncomputable def t_topk_Is (a0 : Int) (a1 : List Int) (a2 : T_api_Sent) : Tr F_topk_Is Empty Bool :=
 .call 9 (ok_topk_Press a0 a1) nl_topk_Press fun r1 => .join 13 7 (γ := Bool) ⟨fun x => [(24, bB x)], [7, 5], fun _ => [], [.s 1711, .s 15]⟩
 (.iteN 0 17 (r1.2.2.2.2.2.2 = 0)
 (.ret 8 true)
 (.call 4 (ok_slices_Equal_int_int r1.2.2.1 a2.F_L) nl_slices_Equal_int_int fun r2 => .ret 3 (!r2)))
 fun j3 => .join 1 7 (γ := Bool) ⟨fun x => [(32, bB x)], [7, 5], fun _ => [], [.s 1711, .s 15]⟩
 (.iteB 0 25 (j3)
 (.ret 8 true)
 (.call 4 (ok_slices_Equal_int64_int64 r1.2.2.2.1 a2.F_V) nl_slices_Equal_int64_int64 fun r4 => .ret 3 (!r4)))
 fun j5 => .iteB 1 32 (j5)
 (.ret 7 false)
 (.join 10 6 (γ := Bool) ⟨fun x => [(44, bB x)], [5], fun _ => [], [.s 15]⟩
 (.ite 0 38 (a2.F_Scheme = r1.1)
 (.ret 7 (a2.F_Dim == r1.2.1))
 (.ret 7 false))
 fun j6 => .join 1 4 (γ := Bool) ⟨fun x => [(49, bB x)], [5], fun _ => [], [.s 15]⟩
 (.iteB 0 45 (j6)
 (.ret 5 (a2.F_Scale == 0))
 (.ret 5 false))
 fun j7 => .join 1 4 (γ := Bool) ⟨fun x => [(54, bB x)], [5], fun _ => [], [.s 15]⟩
 (.iteB 0 50 (j7)
 (.ret 5 (a2.F_Wide == 0))
 (.ret 5 false))
 fun j8 => .join 1 9 (γ := Bool) ⟨fun x => [(64, bB x)], [], fun _ => [], []⟩
 (.iteB 0 55 (j8)
 (.len 2 eU a2.F_Lev <| .len 2 eB a2.F_Neg <| .ret 4 ((IntKind.i64.wrap ((a2.F_Lev.length : Int) + (a2.F_Neg.length : Int))) == 0))
 (.ret 10 false))
 fun j9 => .ret 3 j9)
noncomputable def s_topk_Is (a0 : Int) (a1 : List Int) (a2 : T_api_Sent) : Sg Try.prog Bool := ⟨20, M_topk_Is a0 a1 a2, [.int .i64 a0, .lst (List.map (D.int .i64) a1), .agg [.int .i64 a2.F_Scheme, .int .i64 a2.F_Dim, .lst (List.map (D.int .i64) a2.F_L), .lst (List.map (D.int .i64) a2.F_V), .int .i64 a2.F_Scale, .int .i64 a2.F_Wide, .lst (List.map (D.int .u64) a2.F_Lev), .lst (List.map D.bool a2.F_Neg)]], en_topk_Is⟩
theorem ok_topk_Is (a0 : Int) (a1 : List Int) (a2 : T_api_Sent) : (s_topk_Is a0 a1 a2).Holds := Tr.fn (F := F_topk_Is) (t_topk_Is a0 a1 a2) (by kernel_rfl) (by kernel_rfl) (by kernel_rfl) (by kernel_rfl)
/-- thrum/thrumref09.Is. -/
def en_thrumref09_Is (v : Bool) : PV := bB v
noncomputable abbrev F_thrumref09_Is : Fe := .of Try.prog 21 en_thrumref09_Is
theorem nl_thrumref09_Is : ∀ v, (en_thrumref09_Is v).noLst := fun _ => trivial
noncomputable def t_thrumref09_Is (a0 : Int) (a1 : List Int) (a2 : T_api_Sent) : Tr F_thrumref09_Is Empty Bool :=
 .callZ 9 (ok_thrumref09_Press a0 a1) fun r1 => .join 12 4 (γ := Bool) ⟨fun x => [(21, bB x)], [], fun _ => [], []⟩
 (.ite 0 17 (r1.2.2.2.2.2.2 = 0)
 (.call 2 (ok_thrumref07_SameSent (⟨r1.1, r1.2.1, r1.2.2.1, r1.2.2.2.1, r1.2.2.2.2.1, r1.2.2.2.2.2.1, [], []⟩ : T_api_Sent) a2) nl_thrumref07_SameSent fun r2 => .ret 2 r2)
 (.ret 5 false))
 fun j3 => .ret 3 j3
noncomputable def s_thrumref09_Is (a0 : Int) (a1 : List Int) (a2 : T_api_Sent) : Sg Try.prog Bool := ⟨21, M_thrumref09_Is a0 a1 a2, [.int .i64 a0, .lst (List.map (D.int .i64) a1), .agg [.int .i64 a2.F_Scheme, .int .i64 a2.F_Dim, .lst (List.map (D.int .i64) a2.F_L), .lst (List.map (D.int .i64) a2.F_V), .int .i64 a2.F_Scale, .int .i64 a2.F_Wide, .lst (List.map (D.int .u64) a2.F_Lev), .lst (List.map D.bool a2.F_Neg)]], en_thrumref09_Is⟩
theorem ok_thrumref09_Is (a0 : Int) (a1 : List Int) (a2 : T_api_Sent) : (s_thrumref09_Is a0 a1 a2).Holds := Tr.fn (F := F_thrumref09_Is) (t_thrumref09_Is a0 a1 a2) (by kernel_rfl) (by kernel_rfl) (by kernel_rfl) (by kernel_rfl)
/-- thrum/thrumlaw09.TopkPicks. -/
def en_thrumlaw09_TopkPicks (v : Bool) : PV := bB v
noncomputable abbrev F_thrumlaw09_TopkPicks : Fe := .of Try.prog 3 en_thrumlaw09_TopkPicks
def S_thrumlaw09_TopkPicks_l0 (a0 : Int) (a1 : List Int) (r1 : Bool) (r10 : Int × Int × (List Int) × (List Int) × Int × Int × Int) (r11 : Int × Int × (List Int) × (List Int) × Int × Int × Int) (x0 : Int) (x1 : List Int) : St := ⟨[(148, nI x0), (147, nI (r10.2.2.2.1.length : Int)), (21, .ptr (.s 19311) 0), (20, nI r10.2.2.2.2.2.2), (19, .ptr (.s 17711) 0), (10, sI (.s 9631) a1), (9, bB r1), (0, nI a0), (1, lI a1)], [(.s 19311, [nI r11.1, nI r11.2.1, lI r11.2.2.1, lI r11.2.2.2.1, nI r11.2.2.2.2.1, nI r11.2.2.2.2.2.1, .d (.lst []), .d (.lst [])]), (.s 17711, [nI r10.1, nI r10.2.1, sI (.s 17632) r10.2.2.1, sI (.h 0) x1, nI r10.2.2.2.2.1, nI r10.2.2.2.2.2.1, .nils, .nils])]⟩
def E_thrumlaw09_TopkPicks_l0 (a0 : Int) (a1 : List Int) (r1 : Bool) (r10 : Int × Int × (List Int) × (List Int) × Int × Int × Int) (r11 : Int × Int × (List Int) × (List Int) × Int × Int × Int) (x : Unit) : St := ⟨[(21, .ptr (.s 19311) 0), (20, nI r10.2.2.2.2.2.2), (10, sI (.s 9631) a1), (9, bB r1), (0, nI a0), (1, lI a1)], [(.s 19311, [nI r11.1, nI r11.2.1, lI r11.2.2.1, lI r11.2.2.2.1, nI r11.2.2.2.2.1, nI r11.2.2.2.2.2.1, .d (.lst []), .d (.lst [])])]⟩
noncomputable def t_thrumlaw09_TopkPicks_l0 (a0 : Int) (a1 : List Int) (r1 : Bool) (r10 : Int × Int × (List Int) × (List Int) × Int × Int × Int) (r11 : Int × Int × (List Int) × (List Int) × Int × Int × Int) (x0 : Int) (x1 : List Int) : Tr F_thrumlaw09_TopkPicks (Int × (List Int)) Unit :=
 .ite 6 149 (x0 < (r10.2.2.2.1.length : Int))
 (.idx 13 eI x1 x0 <| .idx 2 eI x1 x0 <| .sto 0 [] eI x1 x0 (IntKind.i64.wrap ((at' x1 x0) + 1)) <| .let_ (x1.set (Int.toNat x0) (IntKind.i64.wrap ((at' x1 x0) + 1)) : List Int) fun y19 => .again 6 (IntKind.i64.wrap (x0 + 1), y19))
 (.ret 4 ())
theorem ok_thrumlaw09_TopkPicks_l0 (a0 : Int) (a1 : List Int) (r1 : Bool) (r10 : Int × Int × (List Int) × (List Int) × Int × Int × Int) (r11 : Int × Int × (List Int) × (List Int) × Int × Int × Int) (x0 : Int) (x1 : List Int) : Ok (M_thrumlaw09_TopkPicks_l0 a0 a1 r1 r10 r11 x0 x1) fun v => go Try.prog F_thrumlaw09_TopkPicks.N (PostN (.exit 0) (E_thrumlaw09_TopkPicks_l0 a0 a1 r1 r10 r11) v) [.l (lpA Try.prog 3 0)] .norm (S_thrumlaw09_TopkPicks_l0 a0 a1 r1 r10 r11 x0 x1) := by
 refine M_thrumlaw09_TopkPicks_l0.partial_correctness a0 a1 r1 r10 r11 (fun x0 x1 v => go Try.prog F_thrumlaw09_TopkPicks.N (PostN (.exit 0) (E_thrumlaw09_TopkPicks_l0 a0 a1 r1 r10 r11) v) [.l (lpA Try.prog 3 0)] .norm (S_thrumlaw09_TopkPicks_l0 a0 a1 r1 r10 r11 x0 x1)) ?_ x0 x1
 clear x0 x1
 intro f IH x0 x1
 exact Tr.lpN (F := F_thrumlaw09_TopkPicks) (S := fun x => S_thrumlaw09_TopkPicks_l0 a0 a1 r1 r10 r11 x.1 x.2) (S' := E_thrumlaw09_TopkPicks_l0 a0 a1 r1 r10 r11) (t_thrumlaw09_TopkPicks_l0 a0 a1 r1 r10 r11 x0 x1) (fun x => f x.1 x.2) (fun x r h => IH x.1 x.2 r h) (by kernel_rfl) (by kernel_rfl)
def S_thrumlaw09_TopkPicks_l1 (a0 : Int) (a1 : List Int) (r1 : Bool) (r10 : Int × Int × (List Int) × (List Int) × Int × Int × Int) (r11 : Int × Int × (List Int) × (List Int) × Int × Int × Int) (x0 : Int) : St := ⟨[(161, nI x0), (160, nI (a1.length : Int)), (21, .ptr (.s 19311) 0), (20, nI r10.2.2.2.2.2.2), (10, sI (.s 9631) a1), (9, bB r1), (0, nI a0), (1, lI a1)], [(.s 19311, [nI r11.1, nI r11.2.1, lI r11.2.2.1, lI r11.2.2.2.1, nI r11.2.2.2.2.1, nI r11.2.2.2.2.2.1, .d (.lst []), .d (.lst [])])]⟩
def E_thrumlaw09_TopkPicks_l1 (a0 : Int) (a1 : List Int) (r1 : Bool) (r10 : Int × Int × (List Int) × (List Int) × Int × Int × Int) (r11 : Int × Int × (List Int) × (List Int) × Int × Int × Int) (x : Unit) : St := ⟨[(21, .ptr (.s 19311) 0), (20, nI r10.2.2.2.2.2.2), (9, bB r1), (0, nI a0), (1, lI a1)], [(.s 19311, [nI r11.1, nI r11.2.1, lI r11.2.2.1, lI r11.2.2.2.1, nI r11.2.2.2.2.1, nI r11.2.2.2.2.2.1, .d (.lst []), .d (.lst [])])]⟩
noncomputable def t_thrumlaw09_TopkPicks_l1 (a0 : Int) (a1 : List Int) (r1 : Bool) (r10 : Int × Int × (List Int) × (List Int) × Int × Int × Int) (r11 : Int × Int × (List Int) × (List Int) × Int × Int × Int) (x0 : Int) : Tr F_thrumlaw09_TopkPicks Int (Sum Bool Unit) :=
 .ite 6 162 (x0 < (a1.length : Int))
 (.idx 13 eI a1 x0 <| .idx 3 eI a1 x0 <| .iteN 3 172 ((at' a1 x0) = (at' a1 x0))
 (.ret 9 (.inl false))
 (.again 7 (IntKind.i64.wrap (x0 + 1))))
 (.ret 4 (.inr ()))
theorem ok_thrumlaw09_TopkPicks_l1 (a0 : Int) (a1 : List Int) (r1 : Bool) (r10 : Int × Int × (List Int) × (List Int) × Int × Int × Int) (r11 : Int × Int × (List Int) × (List Int) × Int × Int × Int) (x0 : Int) : Ok (M_thrumlaw09_TopkPicks_l1 a0 a1 r1 r10 r11 x0) fun v => go Try.prog F_thrumlaw09_TopkPicks.N (PostR (fun r => Fnl F_thrumlaw09_TopkPicks.res (F_thrumlaw09_TopkPicks.en r) (F_thrumlaw09_TopkPicks.bx r)) (.exit 2) (E_thrumlaw09_TopkPicks_l1 a0 a1 r1 r10 r11) v) [.l (lpA Try.prog 3 1)] .norm (S_thrumlaw09_TopkPicks_l1 a0 a1 r1 r10 r11 x0) := by
 refine M_thrumlaw09_TopkPicks_l1.partial_correctness a0 a1 r1 r10 r11 (fun x0 v => go Try.prog F_thrumlaw09_TopkPicks.N (PostR (fun r => Fnl F_thrumlaw09_TopkPicks.res (F_thrumlaw09_TopkPicks.en r) (F_thrumlaw09_TopkPicks.bx r)) (.exit 2) (E_thrumlaw09_TopkPicks_l1 a0 a1 r1 r10 r11) v) [.l (lpA Try.prog 3 1)] .norm (S_thrumlaw09_TopkPicks_l1 a0 a1 r1 r10 r11 x0)) ?_ x0
 clear x0
 intro f IH x0
 exact Tr.lpR (F := F_thrumlaw09_TopkPicks) (S := fun x => S_thrumlaw09_TopkPicks_l1 a0 a1 r1 r10 r11 x) (S' := E_thrumlaw09_TopkPicks_l1 a0 a1 r1 r10 r11) (t_thrumlaw09_TopkPicks_l1 a0 a1 r1 r10 r11 x0) (fun x => f x) (fun x r h => IH x r h) (by kernel_rfl) (by kernel_rfl)
theorem nl_thrumlaw09_TopkPicks : ∀ v, (en_thrumlaw09_TopkPicks v).noLst := fun _ => trivial
noncomputable def t_thrumlaw09_TopkPicks (a0 : Int) (a1 : List Int) (a2 : T_api_Sent) (a3 : List Int) : Tr F_thrumlaw09_TopkPicks Empty Bool :=
 .call 7 ok_thrumlaw09_live nl_thrumlaw09_live fun r1 => .iteX 8 31 (r1)
 (.ret 7 false)
 (.call 6 (ok_thrumlaw09_few a1) nl_thrumlaw09_few fun r2 => .join 2 3 (γ := Bool) ⟨fun x => [(38, bB x)], [9, 6, 0, 1, 3], fun _ => [], [.s 15]⟩
 (.iteX 0 35 (r2)
 (.ret 4 true)
 (.call 1 (ok_thrumref07_Big a2) nl_thrumref07_Big fun r3 => .ret 2 r3))
 fun j4 => .join 1 4 (γ := Bool) ⟨fun x => [(43, bB x)], [9, 6, 0, 1, 3], fun _ => [], [.s 15]⟩
 (.iteB 0 39 (j4)
 (.ret 5 true)
 (.len 1 eI a3 <| .ret 3 (decide ((a3.length : Int) > 500))))
 fun j5 => .iteB 1 43 (j5)
 (.ret 8 r1)
 (.appN 5 eI 8 a1 <| .call 6 (ok_topk_Pick a0 a1) nl_topk_Pick fun r6 => .call 10 (ok_thrumref09_Pick a0 a1) nl_thrumref09_Pick fun r7 => .call 9 (ok_topk_Order a1) nl_topk_Order fun r8 => .call 9 (ok_thrumref09_Order a1) nl_thrumref09_Order fun r9 => .call 10 (ok_topk_Press a0 a1) nl_topk_Press fun r10 => .callZ 11 (ok_thrumref09_Press a0 a1) fun r11 => .call 11 (ok_topk_Least a3 a1) nl_topk_Least fun r12 => .call 10 (ok_thrumref09_Least a3 a1) nl_thrumref09_Least fun r13 => .call 11 (ok_thrumref06_Equal r6.1 r7.1) nl_thrumref06_Equal fun r14 => .iteX 2 97 (r14)
 (.hold 45 [] <| .ret 12 false)
 (.iteN 5 102 (r6.2 = r7.2)
 (.hold 40 [] <| .ret 12 false)
 (.call 2 (ok_thrumref06_Equal r8.1 r9.1) nl_thrumref06_Equal fun r15 => .iteX 3 108 (r15)
 (.hold 34 [] <| .ret 12 false)
 (.iteN 5 113 (r8.2 = r9.2)
 (.hold 29 [] <| .ret 12 false)
 (.call 2 (ok_thrumref07_SameSent (⟨r10.1, r10.2.1, r10.2.2.1, r10.2.2.2.1, r10.2.2.2.2.1, r10.2.2.2.2.2.1, [], []⟩ : T_api_Sent) (⟨r11.1, r11.2.1, r11.2.2.1, r11.2.2.2.1, r11.2.2.2.2.1, r11.2.2.2.2.2.1, [], []⟩ : T_api_Sent)) nl_thrumref07_SameSent fun r16 => .iteX 3 119 (r16)
 (.hold 23 [] <| .ret 12 false)
 (.iteN 5 124 (r10.2.2.2.2.2.2 = r11.2.2.2.2.2.2)
 (.hold 18 [] <| .ret 12 false)
 (.iteN 5 129 (r12.1 = r13.1)
 (.hold 13 [] <| .ret 12 false)
 (.iteN 5 134 (r12.2 = r13.2)
 (.hold 8 [] <| .ret 12 false)
 (.call 6 (ok_topk_Is a0 a1 a2) nl_topk_Is fun r17 => .hold 1 [] <| .call 0 (ok_thrumref09_Is a0 a1 a2) nl_thrumref09_Is fun r18 => .iteN 4 144 (r17 = r18)
 (.ret 7 false)
 (.len 7 eI r10.2.2.2.1 <| .loop 4 ⟨_, _, _, _, _, ok_thrumlaw09_TopkPicks_l0 a0 a1 r1 r10 r11 0 r10.2.2.2.1⟩ fun j21 => .len 5 eI a1 <| .loopR 4 id ⟨_, _, _, _, _, ok_thrumlaw09_TopkPicks_l1 a0 a1 r1 r10 r11 0⟩ fun j22 => .iteB 5 175 (r1)
 (.iteN 3 178 (r10.2.2.2.2.2.2 = 0)
 (.ret 9 true)
 (.call 3 (ok_topk_Is a0 a1 (⟨r11.1, r11.2.1, r11.2.2.1, r11.2.2.2.1, r11.2.2.2.2.1, r11.2.2.2.2.2.1, [], []⟩ : T_api_Sent)) nl_topk_Is fun r23 => .ret 5 r23))
 (.ret 12 false))))))))))))
noncomputable def s_thrumlaw09_TopkPicks (a0 : Int) (a1 : List Int) (a2 : T_api_Sent) (a3 : List Int) : Sg Try.prog Bool := ⟨3, M_thrumlaw09_TopkPicks a0 a1 a2 a3, [.int .i64 a0, .lst (List.map (D.int .i64) a1), .agg [.int .i64 a2.F_Scheme, .int .i64 a2.F_Dim, .lst (List.map (D.int .i64) a2.F_L), .lst (List.map (D.int .i64) a2.F_V), .int .i64 a2.F_Scale, .int .i64 a2.F_Wide, .lst (List.map (D.int .u64) a2.F_Lev), .lst (List.map D.bool a2.F_Neg)], .lst (List.map (D.int .i64) a3)], en_thrumlaw09_TopkPicks⟩
theorem ok_thrumlaw09_TopkPicks (a0 : Int) (a1 : List Int) (a2 : T_api_Sent) (a3 : List Int) : (s_thrumlaw09_TopkPicks a0 a1 a2 a3).Holds := Tr.fn (F := F_thrumlaw09_TopkPicks) (t_thrumlaw09_TopkPicks a0 a1 a2 a3) (by kernel_rfl) (by kernel_rfl) (by kernel_rfl) (by kernel_rfl)
end Go.Proofs.Ytelobmiooldoaaa.Abs
