/- Walks of functions, printed by a program. Conditions: none. -/
import Derived.Test.YthhcgcaefjmekaaProg
import Derived.Test.YthhcgcaefjmekaaAbsG8
import Derived.Test.YthhcgcaefjmekaaKM
namespace Go.Proofs.Ythhcgcaefjmekaa.Abs
open Go Go.RowKit
set_option linter.unusedVariables false
set_option maxRecDepth 100000
open Z
def T_topk_one.e : Enc T_topk_one := ⟨T_topk_one.en, 2, fun _ => rfl⟩
/-- thrum/topk.size. -/
def en_topk_size (v : Int) : PV := nU v
noncomputable abbrev F_topk_size : Fe := .of Try.prog 107 en_topk_size
theorem nl_topk_size : ∀ v, (en_topk_size v).noLst := fun _ => trivial
noncomputable def t_topk_size (a0 : Int) : Tr F_topk_size Empty Int :=
 .ite 10 4 (a0 < 0)
 (.ret 10 (IntKind.u64.wrap (0 - (IntKind.u64.wrap a0))))
 (.ret 9 (IntKind.u64.wrap a0))
noncomputable def s_topk_size (a0 : Int) : Sg Try.prog Int := ⟨107, M_topk_size a0, [.int .i64 a0], en_topk_size⟩
theorem ok_topk_size (a0 : Int) : (s_topk_size a0).Holds := Tr.fn (F := F_topk_size) (t_topk_size a0) (by kernel_rfl) (by kernel_rfl) (by kernel_rfl) (by kernel_rfl)
/-- thrum/topk.ones. -/
def en_topk_ones (v : (List T_topk_one)) : PV := .sl (.s 0) 2 0 (List.map T_topk_one.en v)
noncomputable abbrev F_topk_ones : Fe := .of Try.prog 99 en_topk_ones
def S_topk_ones_l0 (a0 : List Int) (x0 : Int) (x1 : List T_topk_one) : St := ⟨[(11, nI x0), (10, nI (a0.length : Int)), (9, lI a0), (3, .sl (.h 0) 2 0 (List.map T_topk_one.en x1))], []⟩
def E_topk_ones_l0 (a0 : List Int) (x : (List T_topk_one)) : St := ⟨[(3, .sl (.h 1) 2 0 (List.map T_topk_one.en x))], []⟩
noncomputable def t_topk_ones_l0 (a0 : List Int) (x0 : Int) (x1 : List T_topk_one) : Tr F_topk_ones (Int × (List T_topk_one)) (List T_topk_one) :=
 .ite 6 12 (x0 < (a0.length : Int))
 (.idx 7 eI a0 x0 <| .call 9 (ok_topk_size (at' a0 x0)) nl_topk_size fun r3 => .idx 1 T_topk_one.e x1 x0 <| .sto 0 [3] T_topk_one.e x1 x0 (⟨x0, r3⟩ : T_topk_one) <| .let_ (x1.set (Int.toNat x0) (⟨x0, r3⟩ : T_topk_one) : List T_topk_one) fun y4 => .again 6 (IntKind.i64.wrap (x0 + 1), y4))
 (.ret 4 x1)
theorem ok_topk_ones_l0 (a0 : List Int) (x0 : Int) (x1 : List T_topk_one) : Ok (M_topk_ones_l0 a0 x0 x1) fun v => go Try.prog F_topk_ones.N (PostN (.exit 0) (E_topk_ones_l0 a0) v) [.l (lpA Try.prog 99 0)] .norm (S_topk_ones_l0 a0 x0 x1) := by
 refine M_topk_ones_l0.partial_correctness a0 (fun x0 x1 v => go Try.prog F_topk_ones.N (PostN (.exit 0) (E_topk_ones_l0 a0) v) [.l (lpA Try.prog 99 0)] .norm (S_topk_ones_l0 a0 x0 x1)) ?_ x0 x1
 clear x0 x1
 intro f IH x0 x1
 exact Tr.lpN (F := F_topk_ones) (S := fun x => S_topk_ones_l0 a0 x.1 x.2) (S' := E_topk_ones_l0 a0) (t_topk_ones_l0 a0 x0 x1) (fun x => f x.1 x.2) (fun x r h => IH x.1 x.2 r h) (by kernel_rfl) (by kernel_rfl)
theorem nl_topk_ones : ∀ v, (en_topk_ones v).noLst := fun _ => (flat_map_of fun _ => ⟨trivial, trivial, trivial⟩)
noncomputable def t_topk_ones (a0 : List Int) : Tr F_topk_ones Empty (List T_topk_one) :=
 .len 7 eI a0 <| .mk 0 T_topk_one.e 16 (⟨0, 0⟩ : T_topk_one) (a0.length : Int) (a0.length : Int) <| .let_ (List.replicate (Int.toNat (a0.length : Int)) (⟨0, 0⟩ : T_topk_one) : List T_topk_one) fun y1 => .len 6 eI a0 <| .loop 4 ⟨_, _, _, _, _, ok_topk_ones_l0 a0 0 y1⟩ fun j6 => .ret 7 j6
noncomputable def s_topk_ones (a0 : List Int) : Sg Try.prog (List T_topk_one) := ⟨99, M_topk_ones a0, [.lst (List.map (D.int .i64) a0)], en_topk_ones⟩
theorem ok_topk_ones (a0 : List Int) : (s_topk_ones a0).Holds := Tr.fn (F := F_topk_ones) (t_topk_ones a0) (by kernel_rfl) (by kernel_rfl) (by kernel_rfl) (by kernel_rfl)
/-- (*thrum/topk.best).Push. -/
def en_thrum_topk_best_Push_c (v : (List T_topk_one)) : PV := .tup []
def bx_thrum_topk_best_Push_c (v : (List T_topk_one)) : List (Tg × List PV) := [(.up (.s 0), [.sl (.s 0) 2 0 (List.map T_topk_one.en v)])]
noncomputable abbrev F_thrum_topk_best_Push_c : Fe := .of Try.prog 266 en_thrum_topk_best_Push_c bx_thrum_topk_best_Push_c
theorem nl_thrum_topk_best_Push_c : ∀ v, (en_thrum_topk_best_Push_c v).noLst := fun _ => trivial
theorem nlB_thrum_topk_best_Push_c : ∀ v, noLstB (bx_thrum_topk_best_Push_c v) := fun _ => ⟨⟨(flat_map_of fun _ => ⟨trivial, trivial, trivial⟩), trivial⟩, trivial⟩
noncomputable def t_thrum_topk_best_Push_c (a0 : List T_topk_one) (a1 : Int) (a2 : Int) : Tr F_thrum_topk_best_Push_c Empty (List T_topk_one) :=
 .hold 9 [] <| .app 0 T_topk_one.e 16 a0 [(⟨a1, a2⟩ : T_topk_one)] <| .hold 1 [] <| .ret 4 (a0 ++ [(⟨a1, a2⟩ : T_topk_one)])
noncomputable def s_thrum_topk_best_Push_c (a0 : List T_topk_one) (a1 : Int) (a2 : Int) : SgG Try.prog (List T_topk_one) := ⟨266, M_thrum_topk_best_Push_c a0 a1 a2, [.ptr (.up (.s 0)) 0, .d (.ifc 142 (.agg [.int .i64 a1, .int .u64 a2]))], [(.up (.s 0), [.sl (.h 0) 2 0 (List.map T_topk_one.en a0)])], en_thrum_topk_best_Push_c, bx_thrum_topk_best_Push_c⟩
theorem ok_thrum_topk_best_Push_c (a0 : List T_topk_one) (a1 : Int) (a2 : Int) : (s_thrum_topk_best_Push_c a0 a1 a2).Holds := Tr.fnG (F := F_thrum_topk_best_Push_c) (t_thrum_topk_best_Push_c a0 a1 a2) (by kernel_rfl) (by kernel_rfl) (by kernel_rfl) (by kernel_rfl)
/-- (thrum/topk.best).Len. -/
def en_thrum_topk_best_Len (v : Int) : PV := nI v
noncomputable abbrev F_thrum_topk_best_Len : Fe := .of Try.prog 101 en_thrum_topk_best_Len
theorem nl_thrum_topk_best_Len : ∀ v, (en_thrum_topk_best_Len v).noLst := fun _ => trivial
noncomputable def t_thrum_topk_best_Len (a0 : List T_topk_one) : Tr F_thrum_topk_best_Len Empty Int :=
 .len 7 T_topk_one.e a0 <| .ret 3 (a0.length : Int)
noncomputable def s_thrum_topk_best_Len (a0 : List T_topk_one) : Sg Try.prog Int := ⟨101, M_thrum_topk_best_Len a0, [.lst (List.map T_topk_one.en a0)], en_thrum_topk_best_Len⟩
theorem ok_thrum_topk_best_Len (a0 : List T_topk_one) : (s_thrum_topk_best_Len a0).Holds := Tr.fn (F := F_thrum_topk_best_Len) (t_thrum_topk_best_Len a0) (by kernel_rfl) (by kernel_rfl) (by kernel_rfl) (by kernel_rfl)
/-- cmp.isNaN[uint64]. -/
def en_cmp_isNaN_uint64 (v : Bool) : PV := bB v
noncomputable abbrev F_cmp_isNaN_uint64 : Fe := .of Try.prog 201 en_cmp_isNaN_uint64
theorem nl_cmp_isNaN_uint64 : ∀ v, (en_cmp_isNaN_uint64 v).noLst := fun _ => trivial
noncomputable def t_cmp_isNaN_uint64 (a0 : Int) : Tr F_cmp_isNaN_uint64 Empty Bool :=
 .ret 12 (a0 != a0)
noncomputable def s_cmp_isNaN_uint64 (a0 : Int) : Sg Try.prog Bool := ⟨201, M_cmp_isNaN_uint64 a0, [.int .u64 a0], en_cmp_isNaN_uint64⟩
theorem ok_cmp_isNaN_uint64 (a0 : Int) : (s_cmp_isNaN_uint64 a0).Holds := Tr.fn (F := F_cmp_isNaN_uint64) (t_cmp_isNaN_uint64 a0) (by kernel_rfl) (by kernel_rfl) (by kernel_rfl) (by kernel_rfl)
/-- cmp.Compare[uint64]. -/
def en_cmp_Compare_uint64 (v : Int) : PV := nI v
noncomputable abbrev F_cmp_Compare_uint64 : Fe := .of Try.prog 165 en_cmp_Compare_uint64
theorem nl_cmp_Compare_uint64 : ∀ v, (en_cmp_Compare_uint64 v).noLst := fun _ => trivial
noncomputable def t_cmp_Compare_uint64 (a0 : Int) (a1 : Int) : Tr F_cmp_Compare_uint64 Empty Int :=
 .call 7 (ok_cmp_isNaN_uint64 a0) nl_cmp_isNaN_uint64 fun r1 => .call 5 (ok_cmp_isNaN_uint64 a1) nl_cmp_isNaN_uint64 fun r2 => .iteB 7 11 (r1)
 (.iteB 6 12 (r2)
 (.ret 8 0)
 (.ret 8 (-1)))
 (.iteB 7 13 (r2)
 (.ret 7 1)
 (.ite 9 16 (a0 < a1)
 (.ret 7 (-1))
 (.ite 9 19 (a0 > a1)
 (.ret 7 1)
 (.ret 7 0))))
noncomputable def s_cmp_Compare_uint64 (a0 : Int) (a1 : Int) : Sg Try.prog Int := ⟨165, M_cmp_Compare_uint64 a0 a1, [.int .u64 a0, .int .u64 a1], en_cmp_Compare_uint64⟩
theorem ok_cmp_Compare_uint64 (a0 : Int) (a1 : Int) : (s_cmp_Compare_uint64 a0 a1).Holds := Tr.fn (F := F_cmp_Compare_uint64) (t_cmp_Compare_uint64 a0 a1) (by kernel_rfl) (by kernel_rfl) (by kernel_rfl) (by kernel_rfl)
/-- cmp.isNaN[int]. -/
def en_cmp_isNaN_int (v : Bool) : PV := bB v
noncomputable abbrev F_cmp_isNaN_int : Fe := .of Try.prog 187 en_cmp_isNaN_int
theorem nl_cmp_isNaN_int : ∀ v, (en_cmp_isNaN_int v).noLst := fun _ => trivial
noncomputable def t_cmp_isNaN_int (a0 : Int) : Tr F_cmp_isNaN_int Empty Bool :=
 .ret 12 (a0 != a0)
noncomputable def s_cmp_isNaN_int (a0 : Int) : Sg Try.prog Bool := ⟨187, M_cmp_isNaN_int a0, [.int .i64 a0], en_cmp_isNaN_int⟩
theorem ok_cmp_isNaN_int (a0 : Int) : (s_cmp_isNaN_int a0).Holds := Tr.fn (F := F_cmp_isNaN_int) (t_cmp_isNaN_int a0) (by kernel_rfl) (by kernel_rfl) (by kernel_rfl) (by kernel_rfl)
/-- cmp.Compare[int]. -/
def en_cmp_Compare_int (v : Int) : PV := nI v
noncomputable abbrev F_cmp_Compare_int : Fe := .of Try.prog 166 en_cmp_Compare_int
theorem nl_cmp_Compare_int : ∀ v, (en_cmp_Compare_int v).noLst := fun _ => trivial
noncomputable def t_cmp_Compare_int (a0 : Int) (a1 : Int) : Tr F_cmp_Compare_int Empty Int :=
 .call 7 (ok_cmp_isNaN_int a0) nl_cmp_isNaN_int fun r1 => .call 5 (ok_cmp_isNaN_int a1) nl_cmp_isNaN_int fun r2 => .iteB 7 11 (r1)
 (.iteB 6 12 (r2)
 (.ret 8 0)
 (.ret 8 (-1)))
 (.iteB 7 13 (r2)
 (.ret 7 1)
 (.ite 9 16 (a0 < a1)
 (.ret 7 (-1))
 (.ite 9 19 (a0 > a1)
 (.ret 7 1)
 (.ret 7 0))))
noncomputable def s_cmp_Compare_int (a0 : Int) (a1 : Int) : Sg Try.prog Int := ⟨166, M_cmp_Compare_int a0 a1, [.int .i64 a0, .int .i64 a1], en_cmp_Compare_int⟩
theorem ok_cmp_Compare_int (a0 : Int) (a1 : Int) : (s_cmp_Compare_int a0 a1).Holds := Tr.fn (F := F_cmp_Compare_int) (t_cmp_Compare_int a0 a1) (by kernel_rfl) (by kernel_rfl) (by kernel_rfl) (by kernel_rfl)
/-- cmp.Or[int]. -/
def en_cmp_Or_int (v : Int) : PV := nI v
noncomputable abbrev F_cmp_Or_int : Fe := .of Try.prog 164 en_cmp_Or_int
def S_cmp_Or_int_l0 (a0 : List Int) (x0 : Int) : St := ⟨[(8, nI x0), (7, nI (a0.length : Int)), (6, lI a0), (3, nI 0)], []⟩
def E_cmp_Or_int_l0 (a0 : List Int) (x : Unit) : St := ⟨[(3, nI 0)], []⟩
noncomputable def t_cmp_Or_int_l0 (a0 : List Int) (x0 : Int) : Tr F_cmp_Or_int Int (Sum Int Unit) :=
 .ite 6 9 (x0 < (a0.length : Int))
 (.idx 6 eI a0 x0 <| .iteN 9 14 ((at' a0 x0) = 0)
 (.ret 10 (.inl (at' a0 x0)))
 (.again 7 (IntKind.i64.wrap (x0 + 1))))
 (.ret 4 (.inr ()))
theorem ok_cmp_Or_int_l0 (a0 : List Int) (x0 : Int) : Ok (M_cmp_Or_int_l0 a0 x0) fun v => go Try.prog F_cmp_Or_int.N (PostR (fun r => Fnl F_cmp_Or_int.res (F_cmp_Or_int.en r) (F_cmp_Or_int.bx r)) (.exit 0) (E_cmp_Or_int_l0 a0) v) [.l (lpA Try.prog 164 0)] .norm (S_cmp_Or_int_l0 a0 x0) := by
 refine M_cmp_Or_int_l0.partial_correctness a0 (fun x0 v => go Try.prog F_cmp_Or_int.N (PostR (fun r => Fnl F_cmp_Or_int.res (F_cmp_Or_int.en r) (F_cmp_Or_int.bx r)) (.exit 0) (E_cmp_Or_int_l0 a0) v) [.l (lpA Try.prog 164 0)] .norm (S_cmp_Or_int_l0 a0 x0)) ?_ x0
 clear x0
 intro f IH x0
 exact Tr.lpR (F := F_cmp_Or_int) (S := fun x => S_cmp_Or_int_l0 a0 x) (S' := E_cmp_Or_int_l0 a0) (t_cmp_Or_int_l0 a0 x0) (fun x => f x) (fun x r h => IH x r h) (by kernel_rfl) (by kernel_rfl)
theorem nl_cmp_Or_int : ∀ v, (en_cmp_Or_int v).noLst := fun _ => trivial
noncomputable def t_cmp_Or_int (a0 : List Int) : Tr F_cmp_Or_int Empty Int :=
 .len 12 eI a0 <| .loopR 4 id ⟨_, _, _, _, _, ok_cmp_Or_int_l0 a0 0⟩ fun j1 => .ret 7 0
noncomputable def s_cmp_Or_int (a0 : List Int) : Sg Try.prog Int := ⟨164, M_cmp_Or_int a0, [.lst (List.map (D.int .i64) a0)], en_cmp_Or_int⟩
theorem ok_cmp_Or_int (a0 : List Int) : (s_cmp_Or_int a0).Holds := Tr.fn (F := F_cmp_Or_int) (t_cmp_Or_int a0) (by kernel_rfl) (by kernel_rfl) (by kernel_rfl) (by kernel_rfl)
/-- (thrum/topk.one).compare. -/
def en_thrum_topk_one_compare (v : Int) : PV := nI v
noncomputable abbrev F_thrum_topk_one_compare : Fe := .of Try.prog 116 en_thrum_topk_one_compare
theorem nl_thrum_topk_one_compare : ∀ v, (en_thrum_topk_one_compare v).noLst := fun _ => trivial
noncomputable def t_thrum_topk_one_compare (a0 : T_topk_one) (a1 : T_topk_one) : Tr F_thrum_topk_one_compare Empty Int :=
 .call 16 (ok_cmp_Compare_uint64 a1.F_size a0.F_size) nl_cmp_Compare_uint64 fun r1 => .hold 1 [] <| .call 0 (ok_cmp_Compare_int a0.F_place a1.F_place) nl_cmp_Compare_int fun r2 => .call 1 (ok_cmp_Or_int [r1, r2]) nl_cmp_Or_int fun r3 => .ret 4 r3
noncomputable def s_thrum_topk_one_compare (a0 : T_topk_one) (a1 : T_topk_one) : Sg Try.prog Int := ⟨116, M_thrum_topk_one_compare a0 a1, [.agg [.int .i64 a0.F_place, .int .u64 a0.F_size], .agg [.int .i64 a1.F_place, .int .u64 a1.F_size]], en_thrum_topk_one_compare⟩
theorem ok_thrum_topk_one_compare (a0 : T_topk_one) (a1 : T_topk_one) : (s_thrum_topk_one_compare a0 a1).Holds := Tr.fn (F := F_thrum_topk_one_compare) (t_thrum_topk_one_compare a0 a1) (by kernel_rfl) (by kernel_rfl) (by kernel_rfl) (by kernel_rfl)
/-- (thrum/topk.best).Less. -/
def en_thrum_topk_best_Less (v : Bool) : PV := bB v
noncomputable abbrev F_thrum_topk_best_Less : Fe := .of Try.prog 264 en_thrum_topk_best_Less
theorem nl_thrum_topk_best_Less : ∀ v, (en_thrum_topk_best_Less v).noLst := fun _ => trivial
noncomputable def t_thrum_topk_best_Less (a0 : List T_topk_one) (a1 : Int) (a2 : Int) : Tr F_thrum_topk_best_Less Empty Bool :=
 .idx 8 T_topk_one.e a0 a1 <| .idx 3 T_topk_one.e a0 a2 <| .call 1 (ok_thrum_topk_one_compare (at' a0 a1) (at' a0 a2)) nl_thrum_topk_one_compare fun r1 => .ret 4 (decide (r1 > 0))
noncomputable def s_thrum_topk_best_Less (a0 : List T_topk_one) (a1 : Int) (a2 : Int) : Sg Try.prog Bool := ⟨264, M_thrum_topk_best_Less a0 a1 a2, [.lst (List.map T_topk_one.en a0), .int .i64 a1, .int .i64 a2], en_thrum_topk_best_Less⟩
theorem ok_thrum_topk_best_Less (a0 : List T_topk_one) (a1 : Int) (a2 : Int) : (s_thrum_topk_best_Less a0 a1 a2).Holds := Tr.fn (F := F_thrum_topk_best_Less) (t_thrum_topk_best_Less a0 a1 a2) (by kernel_rfl) (by kernel_rfl) (by kernel_rfl) (by kernel_rfl)
/-- (thrum/topk.best).Swap. -/
def en_thrum_topk_best_Swap (v : Unit) : PV := .tup []
def bx_thrum_topk_best_Swap (v : Unit) : List (Tg × List PV) := []
noncomputable abbrev F_thrum_topk_best_Swap : Fe := .of Try.prog 267 en_thrum_topk_best_Swap bx_thrum_topk_best_Swap
theorem nl_thrum_topk_best_Swap : ∀ v, (en_thrum_topk_best_Swap v).noLst := fun _ => trivial
theorem nlB_thrum_topk_best_Swap : ∀ v, noLstB (bx_thrum_topk_best_Swap v) := fun _ => trivial
noncomputable def t_thrum_topk_best_Swap (a0 : List T_topk_one) (a1 : Int) (a2 : Int) : Tr F_thrum_topk_best_Swap Empty Unit :=
 .idx 7 T_topk_one.e a0 a2 <| .idx 3 T_topk_one.e a0 a1 <| .idx 1 T_topk_one.e a0 a1 <| .sto 0 [14, 10, 8, 6, 0] T_topk_one.e a0 a1 (at' a0 a2) <| .hold 1 [] <| .idx 0 T_topk_one.e (a0.set (Int.toNat a1) (at' a0 a2)) a2 <| .sto 0 [14, 10, 8, 6, 0] T_topk_one.e (a0.set (Int.toNat a1) (at' a0 a2)) a2 (at' a0 a1) <| .ret 2 ()
noncomputable def s_thrum_topk_best_Swap (a0 : List T_topk_one) (a1 : Int) (a2 : Int) : SgG Try.prog Unit := ⟨267, M_thrum_topk_best_Swap a0 a1 a2, [.sl (.h 0) 2 0 (List.map T_topk_one.en a0), nI a1, nI a2], [], en_thrum_topk_best_Swap, bx_thrum_topk_best_Swap⟩
theorem ok_thrum_topk_best_Swap (a0 : List T_topk_one) (a1 : Int) (a2 : Int) : (s_thrum_topk_best_Swap a0 a1 a2).Holds := Tr.fnG (F := F_thrum_topk_best_Swap) (t_thrum_topk_best_Swap a0 a1 a2) (by kernel_rfl) (by kernel_rfl) (by kernel_rfl) (by kernel_rfl)
/-- (thrum/topk.best).Swap. -/
def en_thrum_topk_best_Swap_g (v : (List T_topk_one)) : PV := .tup []
def bx_thrum_topk_best_Swap_g (v : (List T_topk_one)) : List (Tg × List PV) := [(.up (.s 0), [.sl (.s 0) 2 0 (List.map T_topk_one.en v)])]
noncomputable abbrev F_thrum_topk_best_Swap_g : Fe := .of Try.prog 267 en_thrum_topk_best_Swap_g bx_thrum_topk_best_Swap_g
theorem nl_thrum_topk_best_Swap_g : ∀ v, (en_thrum_topk_best_Swap_g v).noLst := fun _ => trivial
theorem nlB_thrum_topk_best_Swap_g : ∀ v, noLstB (bx_thrum_topk_best_Swap_g v) := fun _ => ⟨⟨(flat_map_of fun _ => ⟨trivial, trivial, trivial⟩), trivial⟩, trivial⟩
noncomputable def t_thrum_topk_best_Swap_g (a0 : List T_topk_one) (a1 : Int) (a2 : Int) : Tr F_thrum_topk_best_Swap_g Empty (List T_topk_one) :=
 .idx 7 T_topk_one.e a0 a2 <| .idx 3 T_topk_one.e a0 a1 <| .idx 1 T_topk_one.e a0 a1 <| .sto 0 [14, 10, 8, 6, 0] T_topk_one.e a0 a1 (at' a0 a2) <| .hold 1 [] <| .idx 0 T_topk_one.e (a0.set (Int.toNat a1) (at' a0 a2)) a2 <| .sto 0 [14, 10, 8, 6, 0] T_topk_one.e (a0.set (Int.toNat a1) (at' a0 a2)) a2 (at' a0 a1) <| .ret 2 ((a0.set (Int.toNat a1) (at' a0 a2)).set (Int.toNat a2) (at' a0 a1))
noncomputable def s_thrum_topk_best_Swap_g (a0 : List T_topk_one) (a1 : Int) (a2 : Int) : SgG Try.prog (List T_topk_one) := ⟨267, M_thrum_topk_best_Swap_g a0 a1 a2, [.sl (.h 0) 2 0 (List.map T_topk_one.en a0), nI a1, nI a2], [(.up (.s 0), [.sl (.h 0) 2 0 (List.map T_topk_one.en a0)])], en_thrum_topk_best_Swap_g, bx_thrum_topk_best_Swap_g⟩
theorem ok_thrum_topk_best_Swap_g (a0 : List T_topk_one) (a1 : Int) (a2 : Int) : (s_thrum_topk_best_Swap_g a0 a1 a2).Holds := Tr.fnG (F := F_thrum_topk_best_Swap_g) (t_thrum_topk_best_Swap_g a0 a1 a2) (by kernel_rfl) (by kernel_rfl) (by kernel_rfl) (by kernel_rfl)
/-- container/heap.up. -/
def en_container_heap_up_c (v : (List T_topk_one)) : PV := .tup []
def bx_container_heap_up_c (v : (List T_topk_one)) : List (Tg × List PV) := [(.up (.s 0), [.sl (.s 0) 2 0 (List.map T_topk_one.en v)])]
noncomputable abbrev F_container_heap_up_c : Fe := .of Try.prog 146 en_container_heap_up_c bx_container_heap_up_c
def S_container_heap_up_c_l0 (x0 : Int) (x1 : List T_topk_one) : St := ⟨[(0, .ifc 137 (.ptr (.up (.s 0)) 0)), (1, nI x0)], [(.up (.s 0), [.sl (.h 1) 2 0 (List.map T_topk_one.en x1)])]⟩
def E_container_heap_up_c_l0 (x : (List T_topk_one)) : St := ⟨[], [(.up (.s 0), [.sl (.h 2) 2 0 (List.map T_topk_one.en x)])]⟩
noncomputable def t_container_heap_up_c_l0 (x0 : Int) (x1 : List T_topk_one) : Tr F_container_heap_up_c (Int × (List T_topk_one)) (List T_topk_one) :=
 .join 16 6 (γ := Bool) ⟨fun x => [(17, bB x)], [4, 0, 1], fun _ => [], [.up (.s 0)]⟩
 (.ite 0 11 ((IntKind.i64.wrap (Int.tdiv (IntKind.i64.wrap (x0 - 1)) 2)) = x0)
 (.ret 7 true)
 (.call 3 (ok_thrum_topk_best_Less x1 x0 (IntKind.i64.wrap (Int.tdiv (IntKind.i64.wrap (x0 - 1)) 2))) nl_thrum_topk_best_Less fun r1 => .ret 3 (!r1)))
 fun j2 => .iteB 1 17 (j2)
 (.ret 5 x1)
 (.callB 7 [(.h 0, .h 1), (.up (.s 0), .up (.s 0))] (ok_thrum_topk_best_Swap_g x1 (IntKind.i64.wrap (Int.tdiv (IntKind.i64.wrap (x0 - 1)) 2)) x0) nl_thrum_topk_best_Swap_g nlB_thrum_topk_best_Swap_g fun r3 => .again 6 (IntKind.i64.wrap (Int.tdiv (IntKind.i64.wrap (x0 - 1)) 2), r3))
theorem ok_container_heap_up_c_l0 (x0 : Int) (x1 : List T_topk_one) : Ok (M_container_heap_up_c_l0 x0 x1) fun v => go Try.prog F_container_heap_up_c.N (PostN (.exit 0) (E_container_heap_up_c_l0) v) [.l (lpA Try.prog 146 0)] .norm (S_container_heap_up_c_l0 x0 x1) := by
 refine M_container_heap_up_c_l0.partial_correctness (fun x0 x1 v => go Try.prog F_container_heap_up_c.N (PostN (.exit 0) (E_container_heap_up_c_l0) v) [.l (lpA Try.prog 146 0)] .norm (S_container_heap_up_c_l0 x0 x1)) ?_ x0 x1
 clear x0 x1
 intro f IH x0 x1
 exact Tr.lpN (F := F_container_heap_up_c) (S := fun x => S_container_heap_up_c_l0 x.1 x.2) (S' := E_container_heap_up_c_l0) (t_container_heap_up_c_l0 x0 x1) (fun x => f x.1 x.2) (fun x r h => IH x.1 x.2 r h) (by kernel_rfl) (by kernel_rfl)
theorem nl_container_heap_up_c : ∀ v, (en_container_heap_up_c v).noLst := fun _ => trivial
theorem nlB_container_heap_up_c : ∀ v, noLstB (bx_container_heap_up_c v) := fun _ => ⟨⟨(flat_map_of fun _ => ⟨trivial, trivial, trivial⟩), trivial⟩, trivial⟩
noncomputable def t_container_heap_up_c (a0 : List T_topk_one) (a1 : Int) : Tr F_container_heap_up_c Empty (List T_topk_one) :=
 .loop 2 ⟨_, _, _, _, _, ok_container_heap_up_c_l0 a1 a0⟩ fun j4 => .ret 1 j4
noncomputable def s_container_heap_up_c (a0 : List T_topk_one) (a1 : Int) : SgG Try.prog (List T_topk_one) := ⟨146, M_container_heap_up_c a0 a1, [.ifc 137 (.ptr (.up (.s 0)) 0), nI a1], [(.up (.s 0), [.sl (.h 0) 2 0 (List.map T_topk_one.en a0)])], en_container_heap_up_c, bx_container_heap_up_c⟩
theorem ok_container_heap_up_c (a0 : List T_topk_one) (a1 : Int) : (s_container_heap_up_c a0 a1).Holds := Tr.fnG (F := F_container_heap_up_c) (t_container_heap_up_c a0 a1) (by kernel_rfl) (by kernel_rfl) (by kernel_rfl) (by kernel_rfl)
/-- container/heap.Push. -/
def en_container_heap_Push_c_c (v : (List T_topk_one)) : PV := .tup []
def bx_container_heap_Push_c_c (v : (List T_topk_one)) : List (Tg × List PV) := [(.up (.s 0), [.sl (.s 0) 2 0 (List.map T_topk_one.en v)])]
noncomputable abbrev F_container_heap_Push_c_c : Fe := .of Try.prog 100 en_container_heap_Push_c_c bx_container_heap_Push_c_c
theorem nl_container_heap_Push_c_c : ∀ v, (en_container_heap_Push_c_c v).noLst := fun _ => trivial
theorem nlB_container_heap_Push_c_c : ∀ v, noLstB (bx_container_heap_Push_c_c v) := fun _ => ⟨⟨(flat_map_of fun _ => ⟨trivial, trivial, trivial⟩), trivial⟩, trivial⟩
noncomputable def t_container_heap_Push_c_c (a0 : List T_topk_one) (a1 : Int) (a2 : Int) : Tr F_container_heap_Push_c_c Empty (List T_topk_one) :=
 .callB 4 [(.up (.s 0), .up (.s 0)), (.h 0, .h 0)] (ok_thrum_topk_best_Push_c a0 a1 a2) nl_thrum_topk_best_Push_c nlB_thrum_topk_best_Push_c fun r1 => .call 4 (ok_thrum_topk_best_Len r1) nl_thrum_topk_best_Len fun r2 => .callB 1 [(.up (.s 0), .up (.s 0)), (.h 0, .s 32)] (ok_container_heap_up_c r1 (IntKind.i64.wrap (r2 - 1))) nl_container_heap_up_c nlB_container_heap_up_c fun r3 => .ret 1 r3
noncomputable def s_container_heap_Push_c_c (a0 : List T_topk_one) (a1 : Int) (a2 : Int) : SgG Try.prog (List T_topk_one) := ⟨100, M_container_heap_Push_c_c a0 a1 a2, [.ifc 137 (.ptr (.up (.s 0)) 0), .d (.ifc 142 (.agg [.int .i64 a1, .int .u64 a2]))], [(.up (.s 0), [.sl (.h 0) 2 0 (List.map T_topk_one.en a0)])], en_container_heap_Push_c_c, bx_container_heap_Push_c_c⟩
theorem ok_container_heap_Push_c_c (a0 : List T_topk_one) (a1 : Int) (a2 : Int) : (s_container_heap_Push_c_c a0 a1 a2).Holds := Tr.fnG (F := F_container_heap_Push_c_c) (t_container_heap_Push_c_c a0 a1 a2) (by kernel_rfl) (by kernel_rfl) (by kernel_rfl) (by kernel_rfl)
/-- container/heap.down. -/
def en_container_heap_down_c (v : Bool × (List T_topk_one)) : PV := bB v.1
def bx_container_heap_down_c (v : Bool × (List T_topk_one)) : List (Tg × List PV) := [(.up (.s 0), [.sl (.s 0) 2 0 (List.map T_topk_one.en v.2)])]
noncomputable abbrev F_container_heap_down_c : Fe := .of Try.prog 147 en_container_heap_down_c bx_container_heap_down_c
def S_container_heap_down_c_l0 (a1 : Int) (a2 : Int) (x0 : Int) (x1 : List T_topk_one) : St := ⟨[(7, nI x0), (0, .ifc 137 (.ptr (.up (.s 0)) 0)), (1, nI a1), (2, nI a2)], [(.up (.s 0), [.sl (.h 1) 2 0 (List.map T_topk_one.en x1)])]⟩
def E_container_heap_down_c_l0 (a1 : Int) (a2 : Int) (x : Int × (List T_topk_one)) : St := ⟨[(7, nI x.1), (1, nI a1)], [(.up (.s 0), [.sl (.h 2) 2 0 (List.map T_topk_one.en x.2)])]⟩
noncomputable def t_container_heap_down_c_l0 (a1 : Int) (a2 : Int) (x0 : Int) (x1 : List T_topk_one) : Tr F_container_heap_down_c (Int × (List T_topk_one)) (Int × (List T_topk_one)) :=
 .join 16 3 (γ := Bool) ⟨fun x => [(21, bB x)], [8, 7, 0, 1, 2], fun _ => [], [.up (.s 0)]⟩
 (.ite 0 18 ((IntKind.i64.wrap ((IntKind.i64.wrap (2 * x0)) + 1)) ≥ a2)
 (.ret 4 true)
 (.ret 4 (decide ((IntKind.i64.wrap ((IntKind.i64.wrap (2 * x0)) + 1)) < 0))))
 fun j1 => .iteB 1 21 (j1)
 (.ret 5 (x0, x1))
 (.let_ (IntKind.i64.wrap ((IntKind.i64.wrap ((IntKind.i64.wrap (2 * x0)) + 1)) + 1) : Int) fun y2 => .join 20 5 (γ := Bool) ⟨fun x => [(33, bB x)], [10, 9, 7, 0, 1, 2], fun _ => [], [.up (.s 0)]⟩
 (.ite 0 28 (y2 < a2)
 (.call 3 (ok_thrum_topk_best_Less x1 y2 (IntKind.i64.wrap ((IntKind.i64.wrap (2 * x0)) + 1))) nl_thrum_topk_best_Less fun r4 => .ret 2 r4)
 (.ret 6 false))
 fun j5 => .iteB 1 33 (j5)
 (.call 11 (ok_thrum_topk_best_Less x1 y2 x0) nl_thrum_topk_best_Less fun r6 => .iteX 2 39 (r6)
 (.ret 5 (x0, x1))
 (.callB 7 [(.h 0, .h 1), (.up (.s 0), .up (.s 0))] (ok_thrum_topk_best_Swap_g x1 x0 y2) nl_thrum_topk_best_Swap_g nlB_thrum_topk_best_Swap_g fun r7 => .again 6 (y2, r7)))
 (.call 8 (ok_thrum_topk_best_Less x1 (IntKind.i64.wrap ((IntKind.i64.wrap (2 * x0)) + 1)) x0) nl_thrum_topk_best_Less fun r8 => .iteX 2 39 (r8)
 (.ret 5 (x0, x1))
 (.callB 7 [(.h 0, .h 1), (.up (.s 0), .up (.s 0))] (ok_thrum_topk_best_Swap_g x1 x0 (IntKind.i64.wrap ((IntKind.i64.wrap (2 * x0)) + 1))) nl_thrum_topk_best_Swap_g nlB_thrum_topk_best_Swap_g fun r9 => .again 6 (IntKind.i64.wrap ((IntKind.i64.wrap (2 * x0)) + 1), r9))))
theorem ok_container_heap_down_c_l0 (a1 : Int) (a2 : Int) (x0 : Int) (x1 : List T_topk_one) : Ok (M_container_heap_down_c_l0 a1 a2 x0 x1) fun v => go Try.prog F_container_heap_down_c.N (PostN (.exit 0) (E_container_heap_down_c_l0 a1 a2) v) [.l (lpA Try.prog 147 0)] .norm (S_container_heap_down_c_l0 a1 a2 x0 x1) := by
 refine M_container_heap_down_c_l0.partial_correctness a1 a2 (fun x0 x1 v => go Try.prog F_container_heap_down_c.N (PostN (.exit 0) (E_container_heap_down_c_l0 a1 a2) v) [.l (lpA Try.prog 147 0)] .norm (S_container_heap_down_c_l0 a1 a2 x0 x1)) ?_ x0 x1
 clear x0 x1
 intro f IH x0 x1
 exact Tr.lpN (F := F_container_heap_down_c) (S := fun x => S_container_heap_down_c_l0 a1 a2 x.1 x.2) (S' := E_container_heap_down_c_l0 a1 a2) (t_container_heap_down_c_l0 a1 a2 x0 x1) (fun x => f x.1 x.2) (fun x r h => IH x.1 x.2 r h) (by kernel_rfl) (by kernel_rfl)
theorem nl_container_heap_down_c : ∀ v, (en_container_heap_down_c v).noLst := fun _ => trivial
theorem nlB_container_heap_down_c : ∀ v, noLstB (bx_container_heap_down_c v) := fun _ => ⟨⟨(flat_map_of fun _ => ⟨trivial, trivial, trivial⟩), trivial⟩, trivial⟩
noncomputable def t_container_heap_down_c (a0 : List T_topk_one) (a1 : Int) (a2 : Int) : Tr F_container_heap_down_c Empty (Bool × (List T_topk_one)) :=
 .loop 12 ⟨_, _, _, _, _, ok_container_heap_down_c_l0 a1 a2 a1 a0⟩ fun j10 => .ret 9 (decide (j10.1 > a1), j10.2)
noncomputable def s_container_heap_down_c (a0 : List T_topk_one) (a1 : Int) (a2 : Int) : SgG Try.prog (Bool × (List T_topk_one)) := ⟨147, M_container_heap_down_c a0 a1 a2, [.ifc 137 (.ptr (.up (.s 0)) 0), nI a1, nI a2], [(.up (.s 0), [.sl (.h 0) 2 0 (List.map T_topk_one.en a0)])], en_container_heap_down_c, bx_container_heap_down_c⟩
theorem ok_container_heap_down_c (a0 : List T_topk_one) (a1 : Int) (a2 : Int) : (s_container_heap_down_c a0 a1 a2).Holds := Tr.fnG (F := F_container_heap_down_c) (t_container_heap_down_c a0 a1 a2) (by kernel_rfl) (by kernel_rfl) (by kernel_rfl) (by kernel_rfl)
/-- (*thrum/topk.best).Pop. -/
def en_thrum_topk_best_Pop (v : Int × Int × (List T_topk_one)) : PV := .d (.ifc 142 (.agg [.int .i64 v.1, .int .u64 v.2.1]))
def bx_thrum_topk_best_Pop (v : Int × Int × (List T_topk_one)) : List (Tg × List PV) := [(.up (.s 0), [.sl (.s 0) 2 0 (List.map T_topk_one.en v.2.2)])]
noncomputable abbrev F_thrum_topk_best_Pop : Fe := .of Try.prog 265 en_thrum_topk_best_Pop bx_thrum_topk_best_Pop
theorem nl_thrum_topk_best_Pop : ∀ v, (en_thrum_topk_best_Pop v).noLst := fun _ => ⟨trivial, trivial, trivial⟩
theorem nlB_thrum_topk_best_Pop : ∀ v, noLstB (bx_thrum_topk_best_Pop v) := fun _ => ⟨⟨(flat_map_of fun _ => ⟨trivial, trivial, trivial⟩), trivial⟩, trivial⟩
noncomputable def t_thrum_topk_best_Pop (a0 : List T_topk_one) : Tr F_thrum_topk_best_Pop Empty (Int × Int × (List T_topk_one)) :=
 .len 16 T_topk_one.e a0 <| .cut 1 T_topk_one.e a0 none (some (IntKind.i64.wrap ((a0.length : Int) - 1))) <| .let_ (cut' a0 none (some (IntKind.i64.wrap ((a0.length : Int) - 1))) : List T_topk_one) fun y1 => .len 7 T_topk_one.e a0 <| .idx 1 T_topk_one.e a0 (IntKind.i64.wrap ((a0.length : Int) - 1)) <| .ret 5 ((at' a0 (IntKind.i64.wrap ((a0.length : Int) - 1))).F_place, (at' a0 (IntKind.i64.wrap ((a0.length : Int) - 1))).F_size, y1)
noncomputable def s_thrum_topk_best_Pop (a0 : List T_topk_one) : SgG Try.prog (Int × Int × (List T_topk_one)) := ⟨265, M_thrum_topk_best_Pop a0, [.ptr (.up (.s 0)) 0], [(.up (.s 0), [.sl (.h 0) 2 0 (List.map T_topk_one.en a0)])], en_thrum_topk_best_Pop, bx_thrum_topk_best_Pop⟩
theorem ok_thrum_topk_best_Pop (a0 : List T_topk_one) : (s_thrum_topk_best_Pop a0).Holds := Tr.fnG (F := F_thrum_topk_best_Pop) (t_thrum_topk_best_Pop a0) (by kernel_rfl) (by kernel_rfl) (by kernel_rfl) (by kernel_rfl)
/-- container/heap.Pop. -/
def en_container_heap_Pop_c (v : Int × Int × (List T_topk_one)) : PV := .d (.ifc 142 (.agg [.int .i64 v.1, .int .u64 v.2.1]))
def bx_container_heap_Pop_c (v : Int × Int × (List T_topk_one)) : List (Tg × List PV) := [(.up (.s 0), [.sl (.s 0) 2 0 (List.map T_topk_one.en v.2.2)])]
noncomputable abbrev F_container_heap_Pop_c : Fe := .of Try.prog 102 en_container_heap_Pop_c bx_container_heap_Pop_c
theorem nl_container_heap_Pop_c : ∀ v, (en_container_heap_Pop_c v).noLst := fun _ => ⟨trivial, trivial, trivial⟩
theorem nlB_container_heap_Pop_c : ∀ v, noLstB (bx_container_heap_Pop_c v) := fun _ => ⟨⟨(flat_map_of fun _ => ⟨trivial, trivial, trivial⟩), trivial⟩, trivial⟩
noncomputable def t_container_heap_Pop_c (a0 : List T_topk_one) : Tr F_container_heap_Pop_c Empty (Int × Int × (List T_topk_one)) :=
 .call 7 (ok_thrum_topk_best_Len a0) nl_thrum_topk_best_Len fun r1 => .callB 7 [(.h 0, .h 0), (.up (.s 0), .up (.s 0))] (ok_thrum_topk_best_Swap_g a0 0 (IntKind.i64.wrap (r1 - 1))) nl_thrum_topk_best_Swap_g nlB_thrum_topk_best_Swap_g fun r2 => .callB 5 [(.up (.s 0), .up (.s 0)), (.h 0, .s 3232)] (ok_container_heap_down_c r2 0 (IntKind.i64.wrap (r1 - 1))) nl_container_heap_down_c nlB_container_heap_down_c fun r3 => .callB 4 [(.up (.s 0), .up (.s 0)), (.h 0, .s 4832)] (ok_thrum_topk_best_Pop r3.2) nl_thrum_topk_best_Pop nlB_thrum_topk_best_Pop fun r4 => .ret 3 (r4.1, r4.2.1, r4.2.2)
noncomputable def s_container_heap_Pop_c (a0 : List T_topk_one) : SgG Try.prog (Int × Int × (List T_topk_one)) := ⟨102, M_container_heap_Pop_c a0, [.ifc 137 (.ptr (.up (.s 0)) 0)], [(.up (.s 0), [.sl (.h 0) 2 0 (List.map T_topk_one.en a0)])], en_container_heap_Pop_c, bx_container_heap_Pop_c⟩
theorem ok_container_heap_Pop_c (a0 : List T_topk_one) : (s_container_heap_Pop_c a0).Holds := Tr.fnG (F := F_container_heap_Pop_c) (t_container_heap_Pop_c a0) (by kernel_rfl) (by kernel_rfl) (by kernel_rfl) (by kernel_rfl)
/-- thrum/topk.places. -/
def en_topk_places (v : (List Int)) : PV := sI (.s 0) v
noncomputable abbrev F_topk_places : Fe := .of Try.prog 103 en_topk_places
def S_topk_places_l0 (a0 : List T_topk_one) (x0 : Int) (x1 : List Int) : St := ⟨[(11, nI x0), (10, nI (a0.length : Int)), (9, .d (.lst (List.map T_topk_one.en a0))), (3, sI (.h 0) x1)], []⟩
def E_topk_places_l0 (a0 : List T_topk_one) (x : (List Int)) : St := ⟨[(3, sI (.h 1) x)], []⟩
noncomputable def t_topk_places_l0 (a0 : List T_topk_one) (x0 : Int) (x1 : List Int) : Tr F_topk_places (Int × (List Int)) (List Int) :=
 .ite 6 12 (x0 < (a0.length : Int))
 (.idx 6 T_topk_one.e a0 x0 <| .app 9 eI 8 x1 [(at' a0 x0).F_place] <| .let_ (x1 ++ [(at' a0 x0).F_place] : List Int) fun y3 => .again 7 (IntKind.i64.wrap (x0 + 1), y3))
 (.ret 4 x1)
theorem ok_topk_places_l0 (a0 : List T_topk_one) (x0 : Int) (x1 : List Int) : Ok (M_topk_places_l0 a0 x0 x1) fun v => go Try.prog F_topk_places.N (PostN (.exit 0) (E_topk_places_l0 a0) v) [.l (lpA Try.prog 103 0)] .norm (S_topk_places_l0 a0 x0 x1) := by
 refine M_topk_places_l0.partial_correctness a0 (fun x0 x1 v => go Try.prog F_topk_places.N (PostN (.exit 0) (E_topk_places_l0 a0) v) [.l (lpA Try.prog 103 0)] .norm (S_topk_places_l0 a0 x0 x1)) ?_ x0 x1
 clear x0 x1
 intro f IH x0 x1
 exact Tr.lpN (F := F_topk_places) (S := fun x => S_topk_places_l0 a0 x.1 x.2) (S' := E_topk_places_l0 a0) (t_topk_places_l0 a0 x0 x1) (fun x => f x.1 x.2) (fun x r h => IH x.1 x.2 r h) (by kernel_rfl) (by kernel_rfl)
theorem nl_topk_places : ∀ v, (en_topk_places v).noLst := fun _ => (flat_map_of fun _ => trivial)
noncomputable def t_topk_places (a0 : List T_topk_one) : Tr F_topk_places Empty (List Int) :=
 .len 7 T_topk_one.e a0 <| .mk 0 eI 8 0 0 (a0.length : Int) <| .let_ (List.replicate (Int.toNat 0) 0 : List Int) fun y1 => .len 6 T_topk_one.e a0 <| .loop 4 ⟨_, _, _, _, _, ok_topk_places_l0 a0 0 y1⟩ fun j5 => .ret 7 j5
noncomputable def s_topk_places (a0 : List T_topk_one) : Sg Try.prog (List Int) := ⟨103, M_topk_places a0, [.lst (List.map T_topk_one.en a0)], en_topk_places⟩
theorem ok_topk_places (a0 : List T_topk_one) : (s_topk_places a0).Holds := Tr.fn (F := F_topk_places) (t_topk_places a0) (by kernel_rfl) (by kernel_rfl) (by kernel_rfl) (by kernel_rfl)
/-- thrum/topk.Pick. -/
def en_topk_Pick (v : (List Int) × Int) : PV := .tup [sI (.s 0) v.1, nI v.2]
noncomputable abbrev F_topk_Pick : Fe := .of Try.prog 52 en_topk_Pick
def S_topk_Pick_l0 (a0 : Int) (r2 : (List T_topk_one)) (x0 : Int) (x1 : List T_topk_one) : St := ⟨[(28, nI x0), (27, nI (r2.length : Int)), (26, .sl (.s 9616) 2 0 (List.map T_topk_one.en r2)), (6, .ptr (.s 8031) 0), (0, nI a0)], [(.s 8031, [.sl (.h 0) 2 0 (List.map T_topk_one.en x1)])]⟩
def E_topk_Pick_l0 (a0 : Int) (r2 : (List T_topk_one)) (x : (List T_topk_one)) : St := ⟨[(6, .ptr (.s 8031) 0)], [(.s 8031, [.sl (.h 1) 2 0 (List.map T_topk_one.en x)])]⟩
noncomputable def t_topk_Pick_l0 (a0 : Int) (r2 : (List T_topk_one)) (x0 : Int) (x1 : List T_topk_one) : Tr F_topk_Pick (Int × (List T_topk_one)) (List T_topk_one) :=
 .ite 6 29 (x0 < (r2.length : Int))
 (.idx 6 T_topk_one.e r2 x0 <| .callB 10 [(.up (.s 0), .s 8031), (.h 0, .h 0)] (ok_container_heap_Push_c_c x1 ((at' r2 x0).F_place) ((at' r2 x0).F_size)) nl_container_heap_Push_c_c nlB_container_heap_Push_c_c fun r3 => .call 6 (ok_thrum_topk_best_Len r3) nl_thrum_topk_best_Len fun r4 => .ite 3 42 (r4 > a0)
 (.callB 4 [(.up (.s 0), .s 8031), (.h 0, .s 14464)] (ok_container_heap_Pop_c r3) nl_container_heap_Pop_c nlB_container_heap_Pop_c fun r5 => .again 6 (IntKind.i64.wrap (x0 + 1), r5.2.2))
 (.again 7 (IntKind.i64.wrap (x0 + 1), r3)))
 (.ret 4 x1)
theorem ok_topk_Pick_l0 (a0 : Int) (r2 : (List T_topk_one)) (x0 : Int) (x1 : List T_topk_one) : Ok (M_topk_Pick_l0 a0 r2 x0 x1) fun v => go Try.prog F_topk_Pick.N (PostN (.exit 1) (E_topk_Pick_l0 a0 r2) v) [.l (lpA Try.prog 52 0)] .norm (S_topk_Pick_l0 a0 r2 x0 x1) := by
 refine M_topk_Pick_l0.partial_correctness a0 r2 (fun x0 x1 v => go Try.prog F_topk_Pick.N (PostN (.exit 1) (E_topk_Pick_l0 a0 r2) v) [.l (lpA Try.prog 52 0)] .norm (S_topk_Pick_l0 a0 r2 x0 x1)) ?_ x0 x1
 clear x0 x1
 intro f IH x0 x1
 exact Tr.lpN (F := F_topk_Pick) (S := fun x => S_topk_Pick_l0 a0 r2 x.1 x.2) (S' := E_topk_Pick_l0 a0 r2) (t_topk_Pick_l0 a0 r2 x0 x1) (fun x => f x.1 x.2) (fun x r h => IH x.1 x.2 r h) (by kernel_rfl) (by kernel_rfl)
theorem nl_topk_Pick : ∀ v, (en_topk_Pick v).noLst := fun _ => ⟨(flat_map_of fun _ => trivial), trivial, trivial⟩
noncomputable def t_topk_Pick (a0 : Int) (a1 : List Int) : Tr F_topk_Pick Empty ((List Int) × Int) :=
 .len 10 eI a1 <| .ite 3 10 ((a1.length : Int) > 4096)
 (.ret 9 ([], 3))
 (.join 6 5 (γ := Bool) ⟨fun x => [(22, bB x)], [0, 1], fun _ => [], []⟩
 (.ite 0 17 (a0 < 0)
 (.ret 6 true)
 (.len 2 eI a1 <| .ret 3 (decide (a0 > (a1.length : Int)))))
 fun j1 => .iteB 2 14 (j1)
 (.ret 9 ([], 1))
 (.call 13 (ok_topk_ones a1) nl_topk_ones fun r2 => .len 0 T_topk_one.e r2 <| .loop 4 ⟨_, _, _, _, _, ok_topk_Pick_l0 a0 r2 0 []⟩ fun j6 => .call 6 (ok_topk_places j6) nl_topk_places fun r7 => .srt 5 [51, 9] (sk_slices_Sort_int r7) fun r8 => .ret 8 (r8, 0)))
noncomputable def s_topk_Pick (a0 : Int) (a1 : List Int) : Sg Try.prog ((List Int) × Int) := ⟨52, M_topk_Pick a0 a1, [.int .i64 a0, .lst (List.map (D.int .i64) a1)], en_topk_Pick⟩
theorem ok_topk_Pick (a0 : Int) (a1 : List Int) : (s_topk_Pick a0 a1).Holds := Tr.fn (F := F_topk_Pick) (t_topk_Pick a0 a1) (by kernel_rfl) (by kernel_rfl) (by kernel_rfl) (by kernel_rfl)
/-- thrum/topk.Least. -/
def en_topk_Least (v : Int × Bool) : PV := .tup [nU v.1, bB v.2]
noncomputable abbrev F_topk_Least : Fe := .of Try.prog 57 en_topk_Least
def S_topk_Least_l0 (a0 : List Int) (a1 : List Int) (x0 : Int) (x1 : Bool) (x2 : Int) : St := ⟨[(11, nI x0), (10, nI (a0.length : Int)), (9, lI a0), (5, bB x1), (4, nU x2), (1, lI a1)], []⟩
def E_topk_Least_l0 (a0 : List Int) (a1 : List Int) (x : Bool × Int) : St := ⟨[(5, bB x.1), (4, nU x.2)], []⟩
noncomputable def t_topk_Least_l0 (a0 : List Int) (a1 : List Int) (x0 : Int) (x1 : Bool) (x2 : Int) : Tr F_topk_Least (Int × Bool × Int) (Bool × Int) :=
 .ite 6 12 (x0 < (a0.length : Int))
 (.idx 6 eI a0 x0 <| .join 9 5 (γ := Bool) ⟨fun x => [(22, bB x)], [7, 11, 10, 9, 5, 4, 1], fun _ => [], []⟩
 (.ite 0 17 ((at' a0 x0) < 0)
 (.ret 6 true)
 (.len 2 eI a1 <| .ret 3 (decide ((at' a0 x0) ≥ (a1.length : Int)))))
 fun j1 => .iteB 1 22 (j1)
 (.again 8 (IntKind.i64.wrap (x0 + 1), x1, x2))
 (.idx 6 eI a1 (at' a0 x0) <| .call 1 (ok_topk_size (at' a1 (at' a0 x0))) nl_topk_size fun r2 => .join 7 4 (γ := Bool) ⟨fun x => [(34, bB x)], [8, 11, 10, 9, 5, 4, 1], fun _ => [], []⟩
 (.iteX 0 30 (x1)
 (.ret 5 true)
 (.ret 5 (decide (r2 < x2))))
 fun j3 => .iteB 1 34 (j3)
 (.again 11 (IntKind.i64.wrap (x0 + 1), true, r2))
 (.again 7 (IntKind.i64.wrap (x0 + 1), x1, x2))))
 (.ret 4 (x1, x2))
theorem ok_topk_Least_l0 (a0 : List Int) (a1 : List Int) (x0 : Int) (x1 : Bool) (x2 : Int) : Ok (M_topk_Least_l0 a0 a1 x0 x1 x2) fun v => go Try.prog F_topk_Least.N (PostN (.exit 0) (E_topk_Least_l0 a0 a1) v) [.l (lpA Try.prog 57 0)] .norm (S_topk_Least_l0 a0 a1 x0 x1 x2) := by
 refine M_topk_Least_l0.partial_correctness a0 a1 (fun x0 x1 x2 v => go Try.prog F_topk_Least.N (PostN (.exit 0) (E_topk_Least_l0 a0 a1) v) [.l (lpA Try.prog 57 0)] .norm (S_topk_Least_l0 a0 a1 x0 x1 x2)) ?_ x0 x1 x2
 clear x0 x1 x2
 intro f IH x0 x1 x2
 exact Tr.lpN (F := F_topk_Least) (S := fun x => S_topk_Least_l0 a0 a1 x.1 x.2.1 x.2.2) (S' := E_topk_Least_l0 a0 a1) (t_topk_Least_l0 a0 a1 x0 x1 x2) (fun x => f x.1 x.2.1 x.2.2) (fun x r h => IH x.1 x.2.1 x.2.2 r h) (by kernel_rfl) (by kernel_rfl)
theorem nl_topk_Least : ∀ v, (en_topk_Least v).noLst := fun _ => ⟨trivial, trivial, trivial⟩
noncomputable def t_topk_Least (a0 : List Int) (a1 : List Int) : Tr F_topk_Least Empty (Int × Bool) :=
 .len 9 eI a0 <| .loop 4 ⟨_, _, _, _, _, ok_topk_Least_l0 a0 a1 0 false 0⟩ fun j4 => .ret 9 (j4.2, j4.1)
noncomputable def s_topk_Least (a0 : List Int) (a1 : List Int) : Sg Try.prog (Int × Bool) := ⟨57, M_topk_Least a0 a1, [.lst (List.map (D.int .i64) a0), .lst (List.map (D.int .i64) a1)], en_topk_Least⟩
theorem ok_topk_Least (a0 : List Int) (a1 : List Int) : (s_topk_Least a0 a1).Holds := Tr.fn (F := F_topk_Least) (t_topk_Least a0 a1) (by kernel_rfl) (by kernel_rfl) (by kernel_rfl) (by kernel_rfl)
/-- thrum/thrumref06.Equal. -/
def en_thrumref06_Equal (v : Bool) : PV := bB v
noncomputable abbrev F_thrumref06_Equal : Fe := .of Try.prog 53 en_thrumref06_Equal
def S_thrumref06_Equal_l0 (a0 : List Int) (a1 : List Int) (x0 : Int) : St := ⟨[(13, nI x0), (12, nI (a0.length : Int)), (0, lI a0), (1, lI a1)], []⟩
def E_thrumref06_Equal_l0 (a0 : List Int) (a1 : List Int) (x : Unit) : St := ⟨[], []⟩
noncomputable def t_thrumref06_Equal_l0 (a0 : List Int) (a1 : List Int) (x0 : Int) : Tr F_thrumref06_Equal Int (Sum Bool Unit) :=
 .ite 6 14 (x0 < (a0.length : Int))
 (.idx 13 eI a0 x0 <| .idx 3 eI a1 x0 <| .iteN 3 24 ((at' a0 x0) = (at' a1 x0))
 (.ret 9 (.inl false))
 (.again 7 (IntKind.i64.wrap (x0 + 1))))
 (.ret 4 (.inr ()))
theorem ok_thrumref06_Equal_l0 (a0 : List Int) (a1 : List Int) (x0 : Int) : Ok (M_thrumref06_Equal_l0 a0 a1 x0) fun v => go Try.prog F_thrumref06_Equal.N (PostR (fun r => Fnl F_thrumref06_Equal.res (F_thrumref06_Equal.en r) (F_thrumref06_Equal.bx r)) (.exit 0) (E_thrumref06_Equal_l0 a0 a1) v) [.l (lpA Try.prog 53 0)] .norm (S_thrumref06_Equal_l0 a0 a1 x0) := by
 refine M_thrumref06_Equal_l0.partial_correctness a0 a1 (fun x0 v => go Try.prog F_thrumref06_Equal.N (PostR (fun r => Fnl F_thrumref06_Equal.res (F_thrumref06_Equal.en r) (F_thrumref06_Equal.bx r)) (.exit 0) (E_thrumref06_Equal_l0 a0 a1) v) [.l (lpA Try.prog 53 0)] .norm (S_thrumref06_Equal_l0 a0 a1 x0)) ?_ x0
 clear x0
 intro f IH x0
 exact Tr.lpR (F := F_thrumref06_Equal) (S := fun x => S_thrumref06_Equal_l0 a0 a1 x) (S' := E_thrumref06_Equal_l0 a0 a1) (t_thrumref06_Equal_l0 a0 a1 x0) (fun x => f x) (fun x r h => IH x r h) (by kernel_rfl) (by kernel_rfl)
theorem nl_thrumref06_Equal : ∀ v, (en_thrumref06_Equal v).noLst := fun _ => trivial
noncomputable def t_thrumref06_Equal (a0 : List Int) (a1 : List Int) : Tr F_thrumref06_Equal Empty Bool :=
 .len 8 eI a0 <| .len 1 eI a1 <| .iteN 2 10 ((a0.length : Int) = (a1.length : Int))
 (.ret 7 false)
 (.len 6 eI a0 <| .loopR 4 id ⟨_, _, _, _, _, ok_thrumref06_Equal_l0 a0 a1 0⟩ fun j1 => .ret 6 true)
noncomputable def s_thrumref06_Equal (a0 : List Int) (a1 : List Int) : Sg Try.prog Bool := ⟨53, M_thrumref06_Equal a0 a1, [.lst (List.map (D.int .i64) a0), .lst (List.map (D.int .i64) a1)], en_thrumref06_Equal⟩
theorem ok_thrumref06_Equal (a0 : List Int) (a1 : List Int) : (s_thrumref06_Equal a0 a1).Holds := Tr.fn (F := F_thrumref06_Equal) (t_thrumref06_Equal a0 a1) (by kernel_rfl) (by kernel_rfl) (by kernel_rfl) (by kernel_rfl)
/-- thrum/thrumlaw09.live. -/
def en_thrumlaw09_live (v : Bool) : PV := bB v
noncomputable abbrev F_thrumlaw09_live : Fe := .of Try.prog 50 en_thrumlaw09_live
theorem nl_thrumlaw09_live : ∀ v, (en_thrumlaw09_live v).noLst := fun _ => trivial
noncomputable def t_thrumlaw09_live : Tr F_thrumlaw09_live Empty Bool :=
 .call 7 (ok_topk_Pick 2 [3, -5, 5, 1]) nl_topk_Pick fun r1 => .call 10 (ok_topk_Least r1.1 [3, -5, 5, 1]) nl_topk_Least fun r2 => .join 11 4 (γ := Bool) ⟨fun x => [(22, bB x)], [4, 3], fun _ => [], []⟩
 (.ite 0 18 (r1.2 = 0)
 (.call 2 (ok_thrumref06_Equal r1.1 [1, 2]) nl_thrumref06_Equal fun r3 => .ret 2 r3)
 (.ret 5 false))
 fun j4 => .join 1 3 (γ := Bool) ⟨fun x => [(26, bB x)], [4], fun _ => [], []⟩
 (.iteB 0 23 (j4)
 (.ret 4 (r2.1 == 5))
 (.ret 4 false))
 fun j5 => .join 1 2 (γ := Bool) ⟨fun x => [(29, bB x)], [], fun _ => [], []⟩
 (.iteB 0 27 (j5)
 (.ret 3 r2.2)
 (.ret 3 false))
 fun j6 => .ret 3 j6
noncomputable def s_thrumlaw09_live : Sg Try.prog Bool := ⟨50, M_thrumlaw09_live, [], en_thrumlaw09_live⟩
theorem ok_thrumlaw09_live : s_thrumlaw09_live.Holds := Tr.fn (F := F_thrumlaw09_live) t_thrumlaw09_live (by kernel_rfl) (by kernel_rfl) (by kernel_rfl) (by kernel_rfl)
/-- thrum/thrumlaw09.few. -/
def en_thrumlaw09_few (v : Bool) : PV := bB v
noncomputable abbrev F_thrumlaw09_few : Fe := .of Try.prog 51 en_thrumlaw09_few
theorem nl_thrumlaw09_few : ∀ v, (en_thrumlaw09_few v).noLst := fun _ => trivial
noncomputable def t_thrumlaw09_few (a0 : List Int) : Tr F_thrumlaw09_few Empty Bool :=
 .len 7 eI a0 <| .ite 2 6 ((a0.length : Int) ≤ 200)
 (.ret 12 true)
 (.len 1 eI a0 <| .ite 2 10 ((a0.length : Int) > 4096)
 (.len 1 eI a0 <| .ret 6 (decide ((a0.length : Int) ≤ 5000)))
 (.ret 8 false))
noncomputable def s_thrumlaw09_few (a0 : List Int) : Sg Try.prog Bool := ⟨51, M_thrumlaw09_few a0, [.lst (List.map (D.int .i64) a0)], en_thrumlaw09_few⟩
theorem ok_thrumlaw09_few (a0 : List Int) : (s_thrumlaw09_few a0).Holds := Tr.fn (F := F_thrumlaw09_few) (t_thrumlaw09_few a0) (by kernel_rfl) (by kernel_rfl) (by kernel_rfl) (by kernel_rfl)
/-- cmp.Less[int]. -/
def en_cmp_Less_int (v : Bool) : PV := bB v
noncomputable abbrev F_cmp_Less_int : Fe := .of Try.prog 150 en_cmp_Less_int
theorem nl_cmp_Less_int : ∀ v, (en_cmp_Less_int v).noLst := fun _ => trivial
noncomputable def t_cmp_Less_int (a0 : Int) (a1 : Int) : Tr F_cmp_Less_int Empty Bool :=
 .call 7 (ok_cmp_isNaN_int a0) nl_cmp_isNaN_int fun r1 => .join 1 4 (γ := Bool) ⟨fun x => [(11, bB x)], [0, 1], fun _ => [], []⟩
 (.iteB 0 7 (r1)
 (.call 1 (ok_cmp_isNaN_int a1) nl_cmp_isNaN_int fun r2 => .ret 3 (!r2))
 (.ret 5 false))
 fun j3 => .join 1 4 (γ := Bool) ⟨fun x => [(16, bB x)], [], fun _ => [], []⟩
 (.iteB 0 12 (j3)
 (.ret 5 true)
 (.ret 5 (decide (a0 < a1))))
 fun j4 => .ret 3 j4
noncomputable def s_cmp_Less_int (a0 : Int) (a1 : Int) : Sg Try.prog Bool := ⟨150, M_cmp_Less_int a0 a1, [.int .i64 a0, .int .i64 a1], en_cmp_Less_int⟩
theorem ok_cmp_Less_int (a0 : Int) (a1 : Int) : (s_cmp_Less_int a0 a1).Holds := Tr.fn (F := F_cmp_Less_int) (t_cmp_Less_int a0 a1) (by kernel_rfl) (by kernel_rfl) (by kernel_rfl) (by kernel_rfl)
/-- slices.isNaN[int]. -/
def en_slices_isNaN_int (v : Bool) : PV := bB v
noncomputable abbrev F_slices_isNaN_int : Fe := .of Try.prog 151 en_slices_isNaN_int
theorem nl_slices_isNaN_int : ∀ v, (en_slices_isNaN_int v).noLst := fun _ => trivial
noncomputable def t_slices_isNaN_int (a0 : Int) : Tr F_slices_isNaN_int Empty Bool :=
 .ret 12 (a0 != a0)
noncomputable def s_slices_isNaN_int (a0 : Int) : Sg Try.prog Bool := ⟨151, M_slices_isNaN_int a0, [.int .i64 a0], en_slices_isNaN_int⟩
theorem ok_slices_isNaN_int (a0 : Int) : (s_slices_isNaN_int a0).Holds := Tr.fn (F := F_slices_isNaN_int) (t_slices_isNaN_int a0) (by kernel_rfl) (by kernel_rfl) (by kernel_rfl) (by kernel_rfl)
/-- slices.BinarySearch[[]int,int]. -/
def en_slices_BinarySearch_int_int (v : Int × Bool) : PV := .tup [nI v.1, bB v.2]
noncomputable abbrev F_slices_BinarySearch_int_int : Fe := .of Try.prog 105 en_slices_BinarySearch_int_int
def S_slices_BinarySearch_int_int_l0 (a0 : List Int) (a1 : Int) (x0 : Int) (x1 : Int) : St := ⟨[(8, nI x0), (7, nI x1), (6, nI (a0.length : Int)), (0, lI a0), (1, nI a1)], []⟩
def E_slices_BinarySearch_int_int_l0 (a0 : List Int) (a1 : Int) (x : Int) : St := ⟨[(7, nI x), (6, nI (a0.length : Int)), (0, lI a0), (1, nI a1)], []⟩
noncomputable def t_slices_BinarySearch_int_int_l0 (a0 : List Int) (a1 : Int) (x0 : Int) (x1 : Int) : Tr F_slices_BinarySearch_int_int (Int × Int) Int :=
 .ite 8 15 (x1 < x0)
 (.let_ (IntKind.i64.wrap (sShr .u64 (IntKind.u64.wrap (IntKind.i64.wrap (x1 + x0))) 1) : Int) fun y1 => .idx 17 eI a0 y1 <| .call 2 (ok_cmp_Less_int (at' a0 y1) a1) nl_cmp_Less_int fun r3 => .iteB 1 27 (r3)
 (.again 7 (x0, IntKind.i64.wrap (y1 + 1)))
 (.again 6 (y1, x1)))
 (.ret 4 x1)
theorem ok_slices_BinarySearch_int_int_l0 (a0 : List Int) (a1 : Int) (x0 : Int) (x1 : Int) : Ok (M_slices_BinarySearch_int_int_l0 a0 a1 x0 x1) fun v => go Try.prog F_slices_BinarySearch_int_int.N (PostN (.exit 0) (E_slices_BinarySearch_int_int_l0 a0 a1) v) [.l (lpA Try.prog 105 0)] .norm (S_slices_BinarySearch_int_int_l0 a0 a1 x0 x1) := by
 refine M_slices_BinarySearch_int_int_l0.partial_correctness a0 a1 (fun x0 x1 v => go Try.prog F_slices_BinarySearch_int_int.N (PostN (.exit 0) (E_slices_BinarySearch_int_int_l0 a0 a1) v) [.l (lpA Try.prog 105 0)] .norm (S_slices_BinarySearch_int_int_l0 a0 a1 x0 x1)) ?_ x0 x1
 clear x0 x1
 intro f IH x0 x1
 exact Tr.lpN (F := F_slices_BinarySearch_int_int) (S := fun x => S_slices_BinarySearch_int_int_l0 a0 a1 x.1 x.2) (S' := E_slices_BinarySearch_int_int_l0 a0 a1) (t_slices_BinarySearch_int_int_l0 a0 a1 x0 x1) (fun x => f x.1 x.2) (fun x r h => IH x.1 x.2 r h) (by kernel_rfl) (by kernel_rfl)
theorem nl_slices_BinarySearch_int_int : ∀ v, (en_slices_BinarySearch_int_int v).noLst := fun _ => ⟨trivial, trivial, trivial⟩
noncomputable def t_slices_BinarySearch_int_int (a0 : List Int) (a1 : Int) : Tr F_slices_BinarySearch_int_int Empty (Int × Bool) :=
 .len 8 eI a0 <| .loop 11 ⟨_, _, _, _, _, ok_slices_BinarySearch_int_int_l0 a0 a1 (a0.length : Int) 0⟩ fun j4 => .ite 8 35 (j4 < (a0.length : Int))
 (.idx 2 eI a0 j4 <| .ite 4 42 ((at' a0 j4) = a1)
 (.ret 15 (j4, true))
 (.idx 2 eI a0 j4 <| .call 1 (ok_slices_isNaN_int (at' a0 j4)) nl_slices_isNaN_int fun r5 => .iteB 1 48 (r5)
 (.call 1 (ok_slices_isNaN_int a1) nl_slices_isNaN_int fun r6 => .ret 7 (j4, r6))
 (.ret 9 (j4, false))))
 (.ret 22 (j4, false))
noncomputable def s_slices_BinarySearch_int_int (a0 : List Int) (a1 : Int) : Sg Try.prog (Int × Bool) := ⟨105, M_slices_BinarySearch_int_int a0 a1, [.lst (List.map (D.int .i64) a0), .int .i64 a1], en_slices_BinarySearch_int_int⟩
theorem ok_slices_BinarySearch_int_int (a0 : List Int) (a1 : Int) : (s_slices_BinarySearch_int_int a0 a1).Holds := Tr.fn (F := F_slices_BinarySearch_int_int) (t_slices_BinarySearch_int_int a0 a1) (by kernel_rfl) (by kernel_rfl) (by kernel_rfl) (by kernel_rfl)
/-- thrum/index.Has. -/
def en_index_Has (v : Int × Bool) : PV := .tup [nI v.1, bB v.2]
noncomputable abbrev F_index_Has : Fe := .of Try.prog 54 en_index_Has
theorem nl_index_Has : ∀ v, (en_index_Has v).noLst := fun _ => ⟨trivial, trivial, trivial⟩
noncomputable def t_index_Has (a0 : List Int) (a1 : Int) : Tr F_index_Has Empty (Int × Bool) :=
 .call 9 (ok_slices_BinarySearch_int_int a0 a1) nl_slices_BinarySearch_int_int fun r1 => .ret 6 (r1.1, r1.2)
noncomputable def s_index_Has (a0 : List Int) (a1 : Int) : Sg Try.prog (Int × Bool) := ⟨54, M_index_Has a0 a1, [.lst (List.map (D.int .i64) a0), .int .i64 a1], en_index_Has⟩
theorem ok_index_Has (a0 : List Int) (a1 : Int) : (s_index_Has a0 a1).Holds := Tr.fn (F := F_index_Has) (t_index_Has a0 a1) (by kernel_rfl) (by kernel_rfl) (by kernel_rfl) (by kernel_rfl)
/-- thrum/thrumlaw09.TopkMore. -/
def en_thrumlaw09_TopkMore (v : Bool) : PV := bB v
noncomputable abbrev F_thrumlaw09_TopkMore : Fe := .of Try.prog 11 en_thrumlaw09_TopkMore
def S_thrumlaw09_TopkMore_l0 (a1 : List Int) (r1 : Bool) (y13 : Int) (r15 : (List Int) × Int) (r16 : (List Int) × Int) (x0 : Int) (x1 : List Int) : St := ⟨[(112, nI x0), (111, nI (a1.length : Int)), (110, lI a1), (14, sI (.h 0) x1), (13, nI r16.2), (12, sI (.s 19248) r16.1), (11, nI r15.2), (10, sI (.s 17632) r15.1), (0, nI (Int.tmod y13 (a1.length : Int))), (5, bB r1)], []⟩
def E_thrumlaw09_TopkMore_l0 (a1 : List Int) (r1 : Bool) (y13 : Int) (r15 : (List Int) × Int) (r16 : (List Int) × Int) (x : (List Int)) : St := ⟨[(14, sI (.h 1) x), (13, nI r16.2), (12, sI (.s 19248) r16.1), (11, nI r15.2), (10, sI (.s 17632) r15.1), (0, nI (Int.tmod y13 (a1.length : Int))), (5, bB r1)], []⟩
noncomputable def t_thrumlaw09_TopkMore_l0 (a1 : List Int) (r1 : Bool) (y13 : Int) (r15 : (List Int) × Int) (r16 : (List Int) × Int) (x0 : Int) (x1 : List Int) : Tr F_thrumlaw09_TopkMore (Int × (List Int)) (List Int) :=
 .ite 6 113 (x0 < (a1.length : Int))
 (.idx 7 eI a1 x0 <| .idx 9 eI x1 x0 <| .sto 0 [14] eI x1 x0 (IntKind.i64.wrap (0 - (at' a1 x0))) <| .let_ (x1.set (Int.toNat x0) (IntKind.i64.wrap (0 - (at' a1 x0))) : List Int) fun y19 => .again 6 (IntKind.i64.wrap (x0 + 1), y19))
 (.ret 4 x1)
theorem ok_thrumlaw09_TopkMore_l0 (a1 : List Int) (r1 : Bool) (y13 : Int) (r15 : (List Int) × Int) (r16 : (List Int) × Int) (x0 : Int) (x1 : List Int) : Ok (M_thrumlaw09_TopkMore_l0 a1 r1 y13 r15 r16 x0 x1) fun v => go Try.prog F_thrumlaw09_TopkMore.N (PostN (.exit 0) (E_thrumlaw09_TopkMore_l0 a1 r1 y13 r15 r16) v) [.l (lpA Try.prog 11 0)] .norm (S_thrumlaw09_TopkMore_l0 a1 r1 y13 r15 r16 x0 x1) := by
 refine M_thrumlaw09_TopkMore_l0.partial_correctness a1 r1 y13 r15 r16 (fun x0 x1 v => go Try.prog F_thrumlaw09_TopkMore.N (PostN (.exit 0) (E_thrumlaw09_TopkMore_l0 a1 r1 y13 r15 r16) v) [.l (lpA Try.prog 11 0)] .norm (S_thrumlaw09_TopkMore_l0 a1 r1 y13 r15 r16 x0 x1)) ?_ x0 x1
 clear x0 x1
 intro f IH x0 x1
 exact Tr.lpN (F := F_thrumlaw09_TopkMore) (S := fun x => S_thrumlaw09_TopkMore_l0 a1 r1 y13 r15 r16 x.1 x.2) (S' := E_thrumlaw09_TopkMore_l0 a1 r1 y13 r15 r16) (t_thrumlaw09_TopkMore_l0 a1 r1 y13 r15 r16 x0 x1) (fun x => f x.1 x.2) (fun x r h => IH x.1 x.2 r h) (by kernel_rfl) (by kernel_rfl)
def S_thrumlaw09_TopkMore_l1 (r1 : Bool) (r15 : (List Int) × Int) (r16 : (List Int) × Int) (x0 : Int) : St := ⟨[(147, nI x0), (146, nI (r15.1.length : Int)), (145, sI (.s 17632) r15.1), (12, sI (.s 19248) r16.1), (5, bB r1)], []⟩
def E_thrumlaw09_TopkMore_l1 (r1 : Bool) (r15 : (List Int) × Int) (r16 : (List Int) × Int) (x : Unit) : St := ⟨[(5, bB r1)], []⟩
noncomputable def t_thrumlaw09_TopkMore_l1 (r1 : Bool) (r15 : (List Int) × Int) (r16 : (List Int) × Int) (x0 : Int) : Tr F_thrumlaw09_TopkMore Int (Sum Bool Unit) :=
 .ite 6 148 (x0 < (r15.1.length : Int))
 (.idx 6 eI r15.1 x0 <| .call 7 (ok_index_Has r16.1 (at' r15.1 x0)) nl_index_Has fun r27 => .iteX 11 158 (r27.2)
 (.ret 9 (.inl false))
 (.again 7 (IntKind.i64.wrap (x0 + 1))))
 (.ret 4 (.inr ()))
theorem ok_thrumlaw09_TopkMore_l1 (r1 : Bool) (r15 : (List Int) × Int) (r16 : (List Int) × Int) (x0 : Int) : Ok (M_thrumlaw09_TopkMore_l1 r1 r15 r16 x0) fun v => go Try.prog F_thrumlaw09_TopkMore.N (PostR (fun r => Fnl F_thrumlaw09_TopkMore.res (F_thrumlaw09_TopkMore.en r) (F_thrumlaw09_TopkMore.bx r)) (.exit 2) (E_thrumlaw09_TopkMore_l1 r1 r15 r16) v) [.l (lpA Try.prog 11 1)] .norm (S_thrumlaw09_TopkMore_l1 r1 r15 r16 x0) := by
 refine M_thrumlaw09_TopkMore_l1.partial_correctness r1 r15 r16 (fun x0 v => go Try.prog F_thrumlaw09_TopkMore.N (PostR (fun r => Fnl F_thrumlaw09_TopkMore.res (F_thrumlaw09_TopkMore.en r) (F_thrumlaw09_TopkMore.bx r)) (.exit 2) (E_thrumlaw09_TopkMore_l1 r1 r15 r16) v) [.l (lpA Try.prog 11 1)] .norm (S_thrumlaw09_TopkMore_l1 r1 r15 r16 x0)) ?_ x0
 clear x0
 intro f IH x0
 exact Tr.lpR (F := F_thrumlaw09_TopkMore) (S := fun x => S_thrumlaw09_TopkMore_l1 r1 r15 r16 x) (S' := E_thrumlaw09_TopkMore_l1 r1 r15 r16) (t_thrumlaw09_TopkMore_l1 r1 r15 r16 x0) (fun x => f x) (fun x r h => IH x r h) (by kernel_rfl) (by kernel_rfl)
theorem nl_thrumlaw09_TopkMore : ∀ v, (en_thrumlaw09_TopkMore v).noLst := fun _ => trivial
noncomputable def t_thrumlaw09_TopkMore (a0 : Int) (a1 : List Int) : Tr F_thrumlaw09_TopkMore Empty Bool :=
 .call 6 ok_thrumlaw09_live nl_thrumlaw09_live fun r1 => .iteX 8 25 (r1)
 (.ret 7 false)
 (.call 6 (ok_thrumlaw09_few a1) nl_thrumlaw09_few fun r2 => .join 2 4 (γ := Bool) ⟨fun x => [(33, bB x)], [5, 0, 1], fun _ => [], []⟩
 (.iteX 0 29 (r2)
 (.ret 5 true)
 (.len 1 eI a1 <| .ret 3 (decide ((a1.length : Int) > 4096))))
 fun j3 => .iteB 1 33 (j3)
 (.ret 8 r1)
 (.call 5 (ok_topk_Pick 0 a1) nl_topk_Pick fun r4 => .len 9 eI a1 <| .call 1 (ok_topk_Pick (a1.length : Int) a1) nl_topk_Pick fun r5 => .join 12 3 (γ := Bool) ⟨fun x => [(52, bB x)], [9, 8, 7, 6, 5, 0, 1], fun _ => [], []⟩
 (.iteN 0 49 (r4.2 = 0)
 (.ret 4 true)
 (.ret 4 (r5.2 != 0)))
 fun j6 => .join 1 4 (γ := Bool) ⟨fun x => [(57, bB x)], [9, 8, 7, 5, 0, 1], fun _ => [], []⟩
 (.iteB 0 53 (j6)
 (.ret 5 true)
 (.len 1 eI r4.1 <| .ret 3 ((r4.1.length : Int) != 0)))
 fun j7 => .join 1 6 (γ := Bool) ⟨fun x => [(64, bB x)], [9, 7, 5, 0, 1], fun _ => [], []⟩
 (.iteB 0 58 (j7)
 (.ret 7 true)
 (.len 1 eI r5.1 <| .len 1 eI a1 <| .ret 3 ((r5.1.length : Int) != (a1.length : Int))))
 fun j8 => .join 1 4 (γ := Bool) ⟨fun x => [(69, bB x)], [9, 7, 5, 0, 1], fun _ => [], []⟩
 (.iteB 0 65 (j8)
 (.ret 5 true)
 (.len 1 eI a1 <| .ret 3 ((a1.length : Int) == 0)))
 fun j9 => .iteB 1 69 (j9)
 (.join 5 3 (γ := Bool) ⟨fun x => [(74, bB x)], [9, 1], fun _ => [], []⟩
 (.iteB 0 71 (r1)
 (.ret 4 (r4.2 == 0))
 (.ret 4 false))
 fun j10 => .join 1 3 (γ := Bool) ⟨fun x => [(78, bB x)], [1], fun _ => [], []⟩
 (.iteB 0 75 (j10)
 (.ret 4 (r5.2 == 0))
 (.ret 4 false))
 fun j11 => .join 1 4 (γ := Bool) ⟨fun x => [(83, bB x)], [], fun _ => [], []⟩
 (.iteB 0 79 (j11)
 (.len 1 eI a1 <| .ret 3 ((a1.length : Int) == 0))
 (.ret 5 false))
 fun j12 => .ret 4 j12)
 (.len 6 eI a1 <| .rd 0 ((a1.length : Int) ≠ 0) (nI (Int.tmod a0 (a1.length : Int))) <| .len 1 eI a1 <| .let_ (IntKind.i64.wrap ((Int.tmod a0 (a1.length : Int)) + (a1.length : Int)) : Int) fun y13 => .len 2 eI a1 <| .rd 0 ((a1.length : Int) ≠ 0) (nI (Int.tmod y13 (a1.length : Int))) <| .call 6 (ok_topk_Pick (Int.tmod y13 (a1.length : Int)) a1) nl_topk_Pick fun r15 => .call 11 (ok_topk_Pick (IntKind.i64.wrap ((Int.tmod y13 (a1.length : Int)) + 1)) a1) nl_topk_Pick fun r16 => .len 9 eI a1 <| .mk 0 eI 8 0 (a1.length : Int) (a1.length : Int) <| .let_ (List.replicate (Int.toNat (a1.length : Int)) 0 : List Int) fun y17 => .len 6 eI a1 <| .loop 4 ⟨_, _, _, _, _, ok_thrumlaw09_TopkMore_l0 a1 r1 y13 r15 r16 0 y17⟩ fun j21 => .call 5 (ok_topk_Pick (Int.tmod y13 (a1.length : Int)) j21) nl_topk_Pick fun r22 => .join 12 3 (γ := Bool) ⟨fun x => [(134, bB x)], [18, 17, 12, 10, 5], fun _ => [], []⟩
 (.iteN 0 131 (r15.2 = 0)
 (.ret 4 true)
 (.ret 4 (r16.2 != 0)))
 fun j23 => .join 1 3 (γ := Bool) ⟨fun x => [(138, bB x)], [17, 12, 10, 5], fun _ => [], []⟩
 (.iteB 0 135 (j23)
 (.ret 4 true)
 (.ret 4 (r22.2 != 0)))
 fun j24 => .join 1 5 (γ := Bool) ⟨fun x => [(144, bB x)], [12, 10, 5], fun _ => [], []⟩
 (.iteB 0 139 (j24)
 (.ret 6 true)
 (.call 2 (ok_thrumref06_Equal r15.1 r22.1) nl_thrumref06_Equal fun r25 => .ret 3 (!r25)))
 fun j26 => .iteB 1 144 (j26)
 (.ret 7 false)
 (.len 6 eI r15.1 <| .loopR 4 id ⟨_, _, _, _, _, ok_thrumlaw09_TopkMore_l1 r1 r15 r16 0⟩ fun j28 => .ret 7 r1))))
noncomputable def s_thrumlaw09_TopkMore (a0 : Int) (a1 : List Int) : Sg Try.prog Bool := ⟨11, M_thrumlaw09_TopkMore a0 a1, [.int .i64 a0, .lst (List.map (D.int .i64) a1)], en_thrumlaw09_TopkMore⟩
theorem ok_thrumlaw09_TopkMore (a0 : Int) (a1 : List Int) : (s_thrumlaw09_TopkMore a0 a1).Holds := Tr.fn (F := F_thrumlaw09_TopkMore) (t_thrumlaw09_TopkMore a0 a1) (by kernel_rfl) (by kernel_rfl) (by kernel_rfl) (by kernel_rfl)
/-- thrum/index.measure. -/
def en_index_measure (v : Bool) : PV := bB v
noncomputable abbrev F_index_measure : Fe := .of Try.prog 152 en_index_measure
theorem nl_index_measure : ∀ v, (en_index_measure v).noLst := fun _ => trivial
noncomputable def t_index_measure (a0 : Int) : Tr F_index_measure Empty Bool :=
 .join 9 3 (γ := Bool) ⟨fun x => [(8, bB x)], [], fun _ => [], []⟩
 (.ite 0 5 (a0 > 0)
 (.ret 4 (decide (a0 ≤ 4096)))
 (.ret 4 false))
 fun j1 => .ret 3 j1
noncomputable def s_index_measure (a0 : Int) : Sg Try.prog Bool := ⟨152, M_index_measure a0, [.int .i64 a0], en_index_measure⟩
theorem ok_index_measure (a0 : Int) : (s_index_measure a0).Holds := Tr.fn (F := F_index_measure) (t_index_measure a0) (by kernel_rfl) (by kernel_rfl) (by kernel_rfl) (by kernel_rfl)
/-- thrum/index.rises. -/
def en_index_rises (v : Bool) : PV := bB v
noncomputable abbrev F_index_rises : Fe := .of Try.prog 153 en_index_rises
def S_index_rises_l0 (a0 : List Int) (x0 : Int) : St := ⟨[(3, nI x0), (0, lI a0)], []⟩
def E_index_rises_l0 (a0 : List Int) (x : Unit) : St := ⟨[], []⟩
noncomputable def t_index_rises_l0 (a0 : List Int) (x0 : Int) : Tr F_index_rises Int (Sum Bool Unit) :=
 .len 6 eI a0 <| .ite 2 7 (x0 < (a0.length : Int))
 (.idx 9 eI a0 (IntKind.i64.wrap (x0 - 1)) <| .idx 3 eI a0 x0 <| .ite 3 19 ((at' a0 (IntKind.i64.wrap (x0 - 1))) ≥ (at' a0 x0))
 (.ret 9 (.inl false))
 (.again 8 (IntKind.i64.wrap (x0 + 1))))
 (.ret 4 (.inr ()))
theorem ok_index_rises_l0 (a0 : List Int) (x0 : Int) : Ok (M_index_rises_l0 a0 x0) fun v => go Try.prog F_index_rises.N (PostR (fun r => Fnl F_index_rises.res (F_index_rises.en r) (F_index_rises.bx r)) (.exit 0) (E_index_rises_l0 a0) v) [.l (lpA Try.prog 153 0)] .norm (S_index_rises_l0 a0 x0) := by
 refine M_index_rises_l0.partial_correctness a0 (fun x0 v => go Try.prog F_index_rises.N (PostR (fun r => Fnl F_index_rises.res (F_index_rises.en r) (F_index_rises.bx r)) (.exit 0) (E_index_rises_l0 a0) v) [.l (lpA Try.prog 153 0)] .norm (S_index_rises_l0 a0 x0)) ?_ x0
 clear x0
 intro f IH x0
 exact Tr.lpR (F := F_index_rises) (S := fun x => S_index_rises_l0 a0 x) (S' := E_index_rises_l0 a0) (t_index_rises_l0 a0 x0) (fun x => f x) (fun x r h => IH x r h) (by kernel_rfl) (by kernel_rfl)
theorem nl_index_rises : ∀ v, (en_index_rises v).noLst := fun _ => trivial
noncomputable def t_index_rises (a0 : List Int) : Tr F_index_rises Empty Bool :=
 .loopR 11 id ⟨_, _, _, _, _, ok_index_rises_l0 a0 1⟩ fun j1 => .ret 6 true
noncomputable def s_index_rises (a0 : List Int) : Sg Try.prog Bool := ⟨153, M_index_rises a0, [.lst (List.map (D.int .i64) a0)], en_index_rises⟩
theorem ok_index_rises (a0 : List Int) : (s_index_rises a0).Holds := Tr.fn (F := F_index_rises) (t_index_rises a0) (by kernel_rfl) (by kernel_rfl) (by kernel_rfl) (by kernel_rfl)
/-- thrum/index.Check. -/
def en_index_Check (v : Int) : PV := nI v
noncomputable abbrev F_index_Check : Fe := .of Try.prog 106 en_index_Check
theorem nl_index_Check : ∀ v, (en_index_Check v).noLst := fun _ => trivial
noncomputable def t_index_Check (a0 : Int) (a1 : List Int) : Tr F_index_Check Empty Int :=
 .len 7 eI a1 <| .call 6 (ok_index_measure a0) nl_index_measure fun r1 => .join 2 4 (γ := Bool) ⟨fun x => [(15, bB x)], [5, 0, 1], fun _ => [], []⟩
 (.iteX 0 11 (r1)
 (.ret 5 true)
 (.call 1 (ok_index_rises a1) nl_index_rises fun r2 => .ret 3 (!r2)))
 fun j3 => .iteB 1 16 (j3)
 (.ret 26 1)
 (.ite 3 19 ((a1.length : Int) > 0)
 (.idx 1 eI a1 0 <| .ite 3 24 ((at' a1 0) < 0)
 (.ret 18 1)
 (.idx 3 eI a1 (IntKind.i64.wrap ((a1.length : Int) - 1)) <| .ite 7 34 ((at' a1 (IntKind.i64.wrap ((a1.length : Int) - 1))) ≥ a0)
 (.ret 7 1)
 (.ret 7 0)))
 (.ret 23 0))
noncomputable def s_index_Check (a0 : Int) (a1 : List Int) : Sg Try.prog Int := ⟨106, M_index_Check a0 a1, [.int .i64 a0, .lst (List.map (D.int .i64) a1)], en_index_Check⟩
theorem ok_index_Check (a0 : Int) (a1 : List Int) : (s_index_Check a0 a1).Holds := Tr.fn (F := F_index_Check) (t_index_Check a0 a1) (by kernel_rfl) (by kernel_rfl) (by kernel_rfl) (by kernel_rfl)
/-- thrum/index.Left. -/
def en_index_Left (v : (List Int) × Int) : PV := .tup [sI (.s 0) v.1, nI v.2]
noncomputable abbrev F_index_Left : Fe := .of Try.prog 55 en_index_Left
def S_index_Left_l0 (a0 : Int) (x0 : Int) (x1 : List Int) (x2 : List Int) : St := ⟨[(16, nI x0), (15, nI a0), (7, sI (.h 0) x1), (1, lI x2)], []⟩
def E_index_Left_l0 (a0 : Int) (x : (List Int)) : St := ⟨[(7, sI (.h 1) x)], []⟩
noncomputable def t_index_Left_l0 (a0 : Int) (x0 : Int) (x1 : List Int) (x2 : List Int) : Tr F_index_Left (Int × (List Int) × (List Int)) (List Int) :=
 .ite 6 17 (x0 < a0)
 (.len 13 eI x2 <| .join 2 6 (γ := Bool) ⟨fun x => [(28, bB x)], [8, 16, 15, 7, 1], fun _ => [], []⟩
 (.ite 0 22 ((x2.length : Int) > 0)
 (.idx 1 eI x2 0 <| .ret 5 ((at' x2 0) == x0))
 (.ret 7 false))
 fun j2 => .iteB 1 28 (j2)
 (.cut 4 eI x2 (some 1) none <| .again 9 (IntKind.i64.wrap (x0 + 1), x1, cut' x2 (some 1) none))
 (.app 6 eI 8 x1 [x0] <| .again 7 (IntKind.i64.wrap (x0 + 1), x1 ++ [x0], x2)))
 (.ret 4 x1)
theorem ok_index_Left_l0 (a0 : Int) (x0 : Int) (x1 : List Int) (x2 : List Int) : Ok (M_index_Left_l0 a0 x0 x1 x2) fun v => go Try.prog F_index_Left.N (PostN (.exit 0) (E_index_Left_l0 a0) v) [.l (lpA Try.prog 55 0)] .norm (S_index_Left_l0 a0 x0 x1 x2) := by
 refine M_index_Left_l0.partial_correctness a0 (fun x0 x1 x2 v => go Try.prog F_index_Left.N (PostN (.exit 0) (E_index_Left_l0 a0) v) [.l (lpA Try.prog 55 0)] .norm (S_index_Left_l0 a0 x0 x1 x2)) ?_ x0 x1 x2
 clear x0 x1 x2
 intro f IH x0 x1 x2
 exact Tr.lpN (F := F_index_Left) (S := fun x => S_index_Left_l0 a0 x.1 x.2.1 x.2.2) (S' := E_index_Left_l0 a0) (t_index_Left_l0 a0 x0 x1 x2) (fun x => f x.1 x.2.1 x.2.2) (fun x r h => IH x.1 x.2.1 x.2.2 r h) (by kernel_rfl) (by kernel_rfl)
theorem nl_index_Left : ∀ v, (en_index_Left v).noLst := fun _ => ⟨(flat_map_of fun _ => trivial), trivial, trivial⟩
noncomputable def t_index_Left (a0 : Int) (a1 : List Int) : Tr F_index_Left Empty ((List Int) × Int) :=
 .call 10 (ok_index_Check a0 a1) nl_index_Check fun r1 => .iteN 7 13 (r1 = 0)
 (.ret 9 ([], r1))
 (.loop 14 ⟨_, _, _, _, _, ok_index_Left_l0 a0 0 [] a1⟩ fun j3 => .ret 8 (j3, 0))
noncomputable def s_index_Left (a0 : Int) (a1 : List Int) : Sg Try.prog ((List Int) × Int) := ⟨55, M_index_Left a0 a1, [.int .i64 a0, .lst (List.map (D.int .i64) a1)], en_index_Left⟩
theorem ok_index_Left (a0 : Int) (a1 : List Int) : (s_index_Left a0 a1).Holds := Tr.fn (F := F_index_Left) (t_index_Left a0 a1) (by kernel_rfl) (by kernel_rfl) (by kernel_rfl) (by kernel_rfl)
/-- thrum/thrumref09.Size. -/
def en_thrumref09_Size (v : Int) : PV := nU v
noncomputable abbrev F_thrumref09_Size : Fe := .of Try.prog 58 en_thrumref09_Size
theorem nl_thrumref09_Size : ∀ v, (en_thrumref09_Size v).noLst := fun _ => trivial
noncomputable def t_thrumref09_Size (a0 : Int) : Tr F_thrumref09_Size Empty Int :=
 .ite 10 4 (a0 < 0)
 (.ret 12 (IntKind.u64.wrap ((IntKind.u64.wrap (IntKind.i64.wrap (0 - (IntKind.i64.wrap (a0 + 1))))) + 1)))
 (.ret 9 (IntKind.u64.wrap a0))
noncomputable def s_thrumref09_Size (a0 : Int) : Sg Try.prog Int := ⟨58, M_thrumref09_Size a0, [.int .i64 a0], en_thrumref09_Size⟩
theorem ok_thrumref09_Size (a0 : Int) : (s_thrumref09_Size a0).Holds := Tr.fn (F := F_thrumref09_Size) (t_thrumref09_Size a0) (by kernel_rfl) (by kernel_rfl) (by kernel_rfl) (by kernel_rfl)
/-- thrum/thrumref09.Ahead. -/
def en_thrumref09_Ahead (v : Bool) : PV := bB v
noncomputable abbrev F_thrumref09_Ahead : Fe := .of Try.prog 56 en_thrumref09_Ahead
theorem nl_thrumref09_Ahead : ∀ v, (en_thrumref09_Ahead v).noLst := fun _ => trivial
noncomputable def t_thrumref09_Ahead (a0 : List Int) (a1 : Int) (a2 : Int) : Tr F_thrumref09_Ahead Empty Bool :=
 .idx 8 eI a0 a1 <| .call 1 (ok_thrumref09_Size (at' a0 a1)) nl_thrumref09_Size fun r1 => .idx 6 eI a0 a2 <| .call 1 (ok_thrumref09_Size (at' a0 a2)) nl_thrumref09_Size fun r2 => .ite 8 22 (r1 > r2)
 (.ret 12 true)
 (.ite 4 26 (r1 = r2)
 (.ret 8 (decide (a1 < a2)))
 (.ret 8 false))
noncomputable def s_thrumref09_Ahead (a0 : List Int) (a1 : Int) (a2 : Int) : Sg Try.prog Bool := ⟨56, M_thrumref09_Ahead a0 a1 a2, [.lst (List.map (D.int .i64) a0), .int .i64 a1, .int .i64 a2], en_thrumref09_Ahead⟩
theorem ok_thrumref09_Ahead (a0 : List Int) (a1 : Int) (a2 : Int) : (s_thrumref09_Ahead a0 a1 a2).Holds := Tr.fn (F := F_thrumref09_Ahead) (t_thrumref09_Ahead a0 a1 a2) (by kernel_rfl) (by kernel_rfl) (by kernel_rfl) (by kernel_rfl)
/-- thrum/thrumlaw09.TopkGreatest. -/
def en_thrumlaw09_TopkGreatest (v : Bool) : PV := bB v
noncomputable abbrev F_thrumlaw09_TopkGreatest : Fe := .of Try.prog 12 en_thrumlaw09_TopkGreatest
def S_thrumlaw09_TopkGreatest_l0 (a0 : Int) (a1 : List Int) (r1 : Bool) (r3 : (List Int) × Int) (x0 : Int) : St := ⟨[(57, nI x0), (56, nI (r3.1.length : Int)), (55, sI (.s 9632) r3.1), (6, sI (.s 9632) r3.1), (5, bB r1), (0, nI a0), (1, lI a1)], []⟩
def E_thrumlaw09_TopkGreatest_l0 (a0 : Int) (a1 : List Int) (r1 : Bool) (r3 : (List Int) × Int) (x : Unit) : St := ⟨[(6, sI (.s 9632) r3.1), (5, bB r1), (0, nI a0), (1, lI a1)], []⟩
noncomputable def t_thrumlaw09_TopkGreatest_l0 (a0 : Int) (a1 : List Int) (r1 : Bool) (r3 : (List Int) × Int) (x0 : Int) : Tr F_thrumlaw09_TopkGreatest Int (Sum Bool Unit) :=
 .ite 6 58 (x0 < (r3.1.length : Int))
 (.idx 6 eI r3.1 x0 <| .join 8 5 (γ := Bool) ⟨fun x => [(68, bB x)], [57, 56, 55, 6, 5, 0, 1], fun _ => [], []⟩
 (.ite 0 63 ((at' r3.1 x0) < 0)
 (.ret 6 true)
 (.len 2 eI a1 <| .ret 3 (decide ((at' r3.1 x0) ≥ (a1.length : Int)))))
 fun j4 => .iteB 1 68 (j4)
 (.ret 9 (.inl false))
 (.again 7 (IntKind.i64.wrap (x0 + 1))))
 (.ret 4 (.inr ()))
theorem ok_thrumlaw09_TopkGreatest_l0 (a0 : Int) (a1 : List Int) (r1 : Bool) (r3 : (List Int) × Int) (x0 : Int) : Ok (M_thrumlaw09_TopkGreatest_l0 a0 a1 r1 r3 x0) fun v => go Try.prog F_thrumlaw09_TopkGreatest.N (PostR (fun r => Fnl F_thrumlaw09_TopkGreatest.res (F_thrumlaw09_TopkGreatest.en r) (F_thrumlaw09_TopkGreatest.bx r)) (.exit 0) (E_thrumlaw09_TopkGreatest_l0 a0 a1 r1 r3) v) [.l (lpA Try.prog 12 0)] .norm (S_thrumlaw09_TopkGreatest_l0 a0 a1 r1 r3 x0) := by
 refine M_thrumlaw09_TopkGreatest_l0.partial_correctness a0 a1 r1 r3 (fun x0 v => go Try.prog F_thrumlaw09_TopkGreatest.N (PostR (fun r => Fnl F_thrumlaw09_TopkGreatest.res (F_thrumlaw09_TopkGreatest.en r) (F_thrumlaw09_TopkGreatest.bx r)) (.exit 0) (E_thrumlaw09_TopkGreatest_l0 a0 a1 r1 r3) v) [.l (lpA Try.prog 12 0)] .norm (S_thrumlaw09_TopkGreatest_l0 a0 a1 r1 r3 x0)) ?_ x0
 clear x0
 intro f IH x0
 exact Tr.lpR (F := F_thrumlaw09_TopkGreatest) (S := fun x => S_thrumlaw09_TopkGreatest_l0 a0 a1 r1 r3 x) (S' := E_thrumlaw09_TopkGreatest_l0 a0 a1 r1 r3) (t_thrumlaw09_TopkGreatest_l0 a0 a1 r1 r3 x0) (fun x => f x) (fun x r h => IH x r h) (by kernel_rfl) (by kernel_rfl)
def S_thrumlaw09_TopkGreatest_l2 (a0 : Int) (a1 : List Int) (r1 : Bool) (r3 : (List Int) × Int) (r6 : (List Int) × Int) (x0 : Int) (x0_ : Int) : St := ⟨[(91, nI x0_), (90, nI (r6.1.length : Int)), (89, sI (.s 30448) r6.1), (13, nI (at' r3.1 x0)), (85, nI x0), (84, nI (r3.1.length : Int)), (83, sI (.s 9632) r3.1), (10, sI (.s 30448) r6.1), (6, sI (.s 9632) r3.1), (5, bB r1), (0, nI a0), (1, lI a1)], []⟩
def E_thrumlaw09_TopkGreatest_l2 (a0 : Int) (a1 : List Int) (r1 : Bool) (r3 : (List Int) × Int) (r6 : (List Int) × Int) (x0 : Int) (x : Unit) : St := ⟨[(85, nI x0), (84, nI (r3.1.length : Int)), (83, sI (.s 9632) r3.1), (10, sI (.s 30448) r6.1), (6, sI (.s 9632) r3.1), (5, bB r1), (0, nI a0), (1, lI a1)], []⟩
noncomputable def t_thrumlaw09_TopkGreatest_l2 (a0 : Int) (a1 : List Int) (r1 : Bool) (r3 : (List Int) × Int) (r6 : (List Int) × Int) (x0 : Int) (x0_ : Int) : Tr F_thrumlaw09_TopkGreatest Int (Sum Bool Unit) :=
 .ite 6 92 (x0_ < (r6.1.length : Int))
 (.idx 6 eI r6.1 x0_ <| .join 8 5 (γ := Bool) ⟨fun x => [(102, bB x)], [15, 91, 90, 89, 13, 85, 84, 83, 10, 6, 5, 0, 1], fun _ => [], []⟩
 (.ite 0 97 ((at' r6.1 x0_) < 0)
 (.ret 6 true)
 (.len 2 eI a1 <| .ret 3 (decide ((at' r6.1 x0_) ≥ (a1.length : Int)))))
 fun j7 => .join 1 6 (γ := Bool) ⟨fun x => [(109, bB x)], [91, 90, 89, 13, 85, 84, 83, 10, 6, 5, 0, 1], fun _ => [], []⟩
 (.iteB 0 103 (j7)
 (.ret 7 true)
 (.call 3 (ok_thrumref09_Ahead a1 (at' r3.1 x0) (at' r6.1 x0_)) nl_thrumref09_Ahead fun r8 => .ret 3 (!r8)))
 fun j9 => .iteB 1 109 (j9)
 (.ret 9 (.inl false))
 (.again 7 (IntKind.i64.wrap (x0_ + 1))))
 (.ret 4 (.inr ()))
theorem ok_thrumlaw09_TopkGreatest_l2 (a0 : Int) (a1 : List Int) (r1 : Bool) (r3 : (List Int) × Int) (r6 : (List Int) × Int) (x0 : Int) (x0_ : Int) : Ok (M_thrumlaw09_TopkGreatest_l2 a0 a1 r1 r3 r6 x0 x0_) fun v => go Try.prog F_thrumlaw09_TopkGreatest.N (PostR (fun r => Fnl F_thrumlaw09_TopkGreatest.res (F_thrumlaw09_TopkGreatest.en r) (F_thrumlaw09_TopkGreatest.bx r)) (.exit 4) (E_thrumlaw09_TopkGreatest_l2 a0 a1 r1 r3 r6 x0) v) [.l (lpA Try.prog 12 2)] .norm (S_thrumlaw09_TopkGreatest_l2 a0 a1 r1 r3 r6 x0 x0_) := by
 refine M_thrumlaw09_TopkGreatest_l2.partial_correctness a0 a1 r1 r3 r6 x0 (fun x0_ v => go Try.prog F_thrumlaw09_TopkGreatest.N (PostR (fun r => Fnl F_thrumlaw09_TopkGreatest.res (F_thrumlaw09_TopkGreatest.en r) (F_thrumlaw09_TopkGreatest.bx r)) (.exit 4) (E_thrumlaw09_TopkGreatest_l2 a0 a1 r1 r3 r6 x0) v) [.l (lpA Try.prog 12 2)] .norm (S_thrumlaw09_TopkGreatest_l2 a0 a1 r1 r3 r6 x0 x0_)) ?_ x0_
 clear x0_
 intro f IH x0_
 exact Tr.lpR (F := F_thrumlaw09_TopkGreatest) (S := fun x => S_thrumlaw09_TopkGreatest_l2 a0 a1 r1 r3 r6 x0 x) (S' := E_thrumlaw09_TopkGreatest_l2 a0 a1 r1 r3 r6 x0) (t_thrumlaw09_TopkGreatest_l2 a0 a1 r1 r3 r6 x0 x0_) (fun x => f x) (fun x r h => IH x r h) (by kernel_rfl) (by kernel_rfl)
def S_thrumlaw09_TopkGreatest_l1 (a0 : Int) (a1 : List Int) (r1 : Bool) (r3 : (List Int) × Int) (r6 : (List Int) × Int) (x0 : Int) : St := ⟨[(85, nI x0), (84, nI (r3.1.length : Int)), (83, sI (.s 9632) r3.1), (10, sI (.s 30448) r6.1), (6, sI (.s 9632) r3.1), (5, bB r1), (0, nI a0), (1, lI a1)], []⟩
def E_thrumlaw09_TopkGreatest_l1 (a0 : Int) (a1 : List Int) (r1 : Bool) (r3 : (List Int) × Int) (r6 : (List Int) × Int) (x : Unit) : St := ⟨[(10, sI (.s 30448) r6.1), (6, sI (.s 9632) r3.1), (5, bB r1), (0, nI a0), (1, lI a1)], []⟩
noncomputable def t_thrumlaw09_TopkGreatest_l1 (a0 : Int) (a1 : List Int) (r1 : Bool) (r3 : (List Int) × Int) (r6 : (List Int) × Int) (x0 : Int) : Tr F_thrumlaw09_TopkGreatest Int (Sum Bool Unit) :=
 .ite 6 86 (x0 < (r3.1.length : Int))
 (.idx 6 eI r3.1 x0 <| .len 6 eI r6.1 <| .loopR 4 .inl ⟨_, _, _, _, _, ok_thrumlaw09_TopkGreatest_l2 a0 a1 r1 r3 r6 x0 0⟩ fun j10 => .again 6 (IntKind.i64.wrap (x0 + 1)))
 (.ret 4 (.inr ()))
theorem ok_thrumlaw09_TopkGreatest_l1 (a0 : Int) (a1 : List Int) (r1 : Bool) (r3 : (List Int) × Int) (r6 : (List Int) × Int) (x0 : Int) : Ok (M_thrumlaw09_TopkGreatest_l1 a0 a1 r1 r3 r6 x0) fun v => go Try.prog F_thrumlaw09_TopkGreatest.N (PostR (fun r => Fnl F_thrumlaw09_TopkGreatest.res (F_thrumlaw09_TopkGreatest.en r) (F_thrumlaw09_TopkGreatest.bx r)) (.exit 2) (E_thrumlaw09_TopkGreatest_l1 a0 a1 r1 r3 r6) v) [.l (lpA Try.prog 12 1)] .norm (S_thrumlaw09_TopkGreatest_l1 a0 a1 r1 r3 r6 x0) := by
 refine M_thrumlaw09_TopkGreatest_l1.partial_correctness a0 a1 r1 r3 r6 (fun x0 v => go Try.prog F_thrumlaw09_TopkGreatest.N (PostR (fun r => Fnl F_thrumlaw09_TopkGreatest.res (F_thrumlaw09_TopkGreatest.en r) (F_thrumlaw09_TopkGreatest.bx r)) (.exit 2) (E_thrumlaw09_TopkGreatest_l1 a0 a1 r1 r3 r6) v) [.l (lpA Try.prog 12 1)] .norm (S_thrumlaw09_TopkGreatest_l1 a0 a1 r1 r3 r6 x0)) ?_ x0
 clear x0
 intro f IH x0
 exact Tr.lpR (F := F_thrumlaw09_TopkGreatest) (S := fun x => S_thrumlaw09_TopkGreatest_l1 a0 a1 r1 r3 r6 x) (S' := E_thrumlaw09_TopkGreatest_l1 a0 a1 r1 r3 r6) (t_thrumlaw09_TopkGreatest_l1 a0 a1 r1 r3 r6 x0) (fun x => f x) (fun x r h => IH x r h) (by kernel_rfl) (by kernel_rfl)
def S_thrumlaw09_TopkGreatest_l3 (a0 : Int) (a1 : List Int) (r1 : Bool) (r6 : (List Int) × Int) (r12 : Int × Bool) (x0 : Int) : St := ⟨[(120, nI x0), (119, nI (r6.1.length : Int)), (118, sI (.s 30448) r6.1), (17, bB r12.2), (16, nU r12.1), (5, bB r1), (0, nI a0), (1, lI a1)], []⟩
def E_thrumlaw09_TopkGreatest_l3 (a0 : Int) (a1 : List Int) (r1 : Bool) (r6 : (List Int) × Int) (r12 : Int × Bool) (x : Unit) : St := ⟨[(17, bB r12.2), (5, bB r1), (0, nI a0)], []⟩
noncomputable def t_thrumlaw09_TopkGreatest_l3 (a0 : Int) (a1 : List Int) (r1 : Bool) (r6 : (List Int) × Int) (r12 : Int × Bool) (x0 : Int) : Tr F_thrumlaw09_TopkGreatest Int (Sum Bool Unit) :=
 .ite 6 121 (x0 < (r6.1.length : Int))
 (.idx 6 eI r6.1 x0 <| .join 7 8 (γ := Bool) ⟨fun x => [(133, bB x)], [120, 119, 118, 17, 16, 5, 0, 1], fun _ => [], []⟩
 (.iteB 0 125 (r12.2)
 (.idx 2 eI a1 (at' r6.1 x0) <| .call 1 (ok_thrumref09_Size (at' a1 (at' r6.1 x0))) nl_thrumref09_Size fun r13 => .ret 4 (decide (r13 > r12.1)))
 (.ret 9 false))
 fun j14 => .iteB 1 133 (j14)
 (.ret 9 (.inl false))
 (.again 7 (IntKind.i64.wrap (x0 + 1))))
 (.ret 4 (.inr ()))
theorem ok_thrumlaw09_TopkGreatest_l3 (a0 : Int) (a1 : List Int) (r1 : Bool) (r6 : (List Int) × Int) (r12 : Int × Bool) (x0 : Int) : Ok (M_thrumlaw09_TopkGreatest_l3 a0 a1 r1 r6 r12 x0) fun v => go Try.prog F_thrumlaw09_TopkGreatest.N (PostR (fun r => Fnl F_thrumlaw09_TopkGreatest.res (F_thrumlaw09_TopkGreatest.en r) (F_thrumlaw09_TopkGreatest.bx r)) (.exit 6) (E_thrumlaw09_TopkGreatest_l3 a0 a1 r1 r6 r12) v) [.l (lpA Try.prog 12 3)] .norm (S_thrumlaw09_TopkGreatest_l3 a0 a1 r1 r6 r12 x0) := by
 refine M_thrumlaw09_TopkGreatest_l3.partial_correctness a0 a1 r1 r6 r12 (fun x0 v => go Try.prog F_thrumlaw09_TopkGreatest.N (PostR (fun r => Fnl F_thrumlaw09_TopkGreatest.res (F_thrumlaw09_TopkGreatest.en r) (F_thrumlaw09_TopkGreatest.bx r)) (.exit 6) (E_thrumlaw09_TopkGreatest_l3 a0 a1 r1 r6 r12) v) [.l (lpA Try.prog 12 3)] .norm (S_thrumlaw09_TopkGreatest_l3 a0 a1 r1 r6 r12 x0)) ?_ x0
 clear x0
 intro f IH x0
 exact Tr.lpR (F := F_thrumlaw09_TopkGreatest) (S := fun x => S_thrumlaw09_TopkGreatest_l3 a0 a1 r1 r6 r12 x) (S' := E_thrumlaw09_TopkGreatest_l3 a0 a1 r1 r6 r12) (t_thrumlaw09_TopkGreatest_l3 a0 a1 r1 r6 r12 x0) (fun x => f x) (fun x r h => IH x r h) (by kernel_rfl) (by kernel_rfl)
theorem nl_thrumlaw09_TopkGreatest : ∀ v, (en_thrumlaw09_TopkGreatest v).noLst := fun _ => trivial
noncomputable def t_thrumlaw09_TopkGreatest (a0 : Int) (a1 : List Int) : Tr F_thrumlaw09_TopkGreatest Empty Bool :=
 .call 6 ok_thrumlaw09_live nl_thrumlaw09_live fun r1 => .iteX 8 22 (r1)
 (.ret 7 false)
 (.call 6 (ok_thrumlaw09_few a1) nl_thrumlaw09_few fun r2 => .iteX 2 25 (r2)
 (.ret 8 r1)
 (.call 6 (ok_topk_Pick a0 a1) nl_topk_Pick fun r3 => .iteN 12 34 (r3.2 = 0)
 (.iteB 5 36 (r1)
 (.len 1 eI a1 <| .ite 2 40 ((a1.length : Int) > 4096)
 (.ret 14 true)
 (.ite 4 44 (a0 < 0)
 (.ret 10 true)
 (.len 2 eI a1 <| .ret 7 (decide (a0 > (a1.length : Int))))))
 (.ret 18 false))
 (.len 6 eI r3.1 <| .iteN 3 54 ((r3.1.length : Int) = a0)
 (.ret 7 false)
 (.len 6 eI r3.1 <| .loopR 4 id ⟨_, _, _, _, _, ok_thrumlaw09_TopkGreatest_l0 a0 a1 r1 r3 0⟩ fun j5 => .len 5 eI a1 <| .ite 2 72 ((a1.length : Int) = 0)
 (.ret 8 r1)
 (.len 5 eI a1 <| .call 1 (ok_index_Left (a1.length : Int) r3.1) nl_index_Left fun r6 => .iteN 12 82 (r6.2 = 0)
 (.ret 7 false)
 (.len 6 eI r3.1 <| .loopR 4 id ⟨_, _, _, _, _, ok_thrumlaw09_TopkGreatest_l1 a0 a1 r1 r3 r6 0⟩ fun j11 => .call 5 (ok_topk_Least r3.1 a1) nl_topk_Least fun r12 => .len 10 eI r6.1 <| .loopR 4 id ⟨_, _, _, _, _, ok_thrumlaw09_TopkGreatest_l3 a0 a1 r1 r6 r12 0⟩ fun j15 => .join 5 5 (γ := Bool) ⟨fun x => [(141, bB x)], [], fun _ => [], []⟩
 (.iteB 0 136 (r1)
 (.ret 6 (r12.2 == (decide (a0 > 0))))
 (.ret 6 false))
 fun j16 => .ret 3 j16))))))
noncomputable def s_thrumlaw09_TopkGreatest (a0 : Int) (a1 : List Int) : Sg Try.prog Bool := ⟨12, M_thrumlaw09_TopkGreatest a0 a1, [.int .i64 a0, .lst (List.map (D.int .i64) a1)], en_thrumlaw09_TopkGreatest⟩
theorem ok_thrumlaw09_TopkGreatest (a0 : Int) (a1 : List Int) : (s_thrumlaw09_TopkGreatest a0 a1).Holds := Tr.fn (F := F_thrumlaw09_TopkGreatest) (t_thrumlaw09_TopkGreatest a0 a1) (by kernel_rfl) (by kernel_rfl) (by kernel_rfl) (by kernel_rfl)
/-- thrum/index.Gather$1. -/
def en_index_Gather_1_c (v : Bool) : PV := bB v
noncomputable abbrev F_index_Gather_1_c : Fe := .of Try.prog 162 en_index_Gather_1_c
theorem nl_index_Gather_1_c : ∀ v, (en_index_Gather_1_c v).noLst := fun _ => trivial
noncomputable def t_index_Gather_1_c (a0 : Int) (a1 : List Int) : Tr F_index_Gather_1_c Empty Bool :=
 .join 9 5 (γ := Bool) ⟨fun x => [(11, bB x)], [], fun _ => [], []⟩
 (.ite 0 6 (a0 < 0)
 (.ret 6 true)
 (.len 2 eI a1 <| .ret 3 (decide (a0 ≥ (a1.length : Int)))))
 fun j1 => .ret 3 j1
noncomputable def s_index_Gather_1_c (a0 : Int) (a1 : List Int) : Sg Try.prog Bool := ⟨162, M_index_Gather_1_c a0 a1, [.int .i64 a0, .cp [.lst (List.map (D.int .i64) a1)] 0], en_index_Gather_1_c⟩
theorem ok_index_Gather_1_c (a0 : Int) (a1 : List Int) : (s_index_Gather_1_c a0 a1).Holds := Tr.fn (F := F_index_Gather_1_c) (t_index_Gather_1_c a0 a1) (by kernel_rfl) (by kernel_rfl) (by kernel_rfl) (by kernel_rfl)
/-- slices.IndexFunc[[]int,int]. -/
def en_slices_IndexFunc_int_int_index_Gather_1 (v : Int) : PV := nI v
noncomputable abbrev F_slices_IndexFunc_int_int_index_Gather_1 : Fe := .of Try.prog 192 en_slices_IndexFunc_int_int_index_Gather_1
def S_slices_IndexFunc_int_int_index_Gather_1_l0 (a0 : List Int) (a1 : List Int) (x0 : Int) : St := ⟨[(8, nI x0), (7, nI (a0.length : Int)), (0, lI a0), (1, .d (.clo (.func 162) [] [.cp [.lst (List.map (D.int .i64) a1)] 0]))], []⟩
def E_slices_IndexFunc_int_int_index_Gather_1_l0 (a0 : List Int) (a1 : List Int) (x : Unit) : St := ⟨[], []⟩
noncomputable def t_slices_IndexFunc_int_int_index_Gather_1_l0 (a0 : List Int) (a1 : List Int) (x0 : Int) : Tr F_slices_IndexFunc_int_int_index_Gather_1 Int (Sum Int Unit) :=
 .ite 6 9 (x0 < (a0.length : Int))
 (.idx 14 eI a0 x0 <| .call 1 (ok_index_Gather_1_c (at' a0 x0) a1) nl_index_Gather_1_c fun r1 => .iteB 1 16 (r1)
 (.ret 10 (.inl x0))
 (.again 7 (IntKind.i64.wrap (x0 + 1))))
 (.ret 4 (.inr ()))
theorem ok_slices_IndexFunc_int_int_index_Gather_1_l0 (a0 : List Int) (a1 : List Int) (x0 : Int) : Ok (M_slices_IndexFunc_int_int_index_Gather_1_l0 a0 a1 x0) fun v => go Try.prog F_slices_IndexFunc_int_int_index_Gather_1.N (PostR (fun r => Fnl F_slices_IndexFunc_int_int_index_Gather_1.res (F_slices_IndexFunc_int_int_index_Gather_1.en r) (F_slices_IndexFunc_int_int_index_Gather_1.bx r)) (.exit 0) (E_slices_IndexFunc_int_int_index_Gather_1_l0 a0 a1) v) [.l (lpA Try.prog 192 0)] .norm (S_slices_IndexFunc_int_int_index_Gather_1_l0 a0 a1 x0) := by
 refine M_slices_IndexFunc_int_int_index_Gather_1_l0.partial_correctness a0 a1 (fun x0 v => go Try.prog F_slices_IndexFunc_int_int_index_Gather_1.N (PostR (fun r => Fnl F_slices_IndexFunc_int_int_index_Gather_1.res (F_slices_IndexFunc_int_int_index_Gather_1.en r) (F_slices_IndexFunc_int_int_index_Gather_1.bx r)) (.exit 0) (E_slices_IndexFunc_int_int_index_Gather_1_l0 a0 a1) v) [.l (lpA Try.prog 192 0)] .norm (S_slices_IndexFunc_int_int_index_Gather_1_l0 a0 a1 x0)) ?_ x0
 clear x0
 intro f IH x0
 exact Tr.lpR (F := F_slices_IndexFunc_int_int_index_Gather_1) (S := fun x => S_slices_IndexFunc_int_int_index_Gather_1_l0 a0 a1 x) (S' := E_slices_IndexFunc_int_int_index_Gather_1_l0 a0 a1) (t_slices_IndexFunc_int_int_index_Gather_1_l0 a0 a1 x0) (fun x => f x) (fun x r h => IH x r h) (by kernel_rfl) (by kernel_rfl)
theorem nl_slices_IndexFunc_int_int_index_Gather_1 : ∀ v, (en_slices_IndexFunc_int_int_index_Gather_1 v).noLst := fun _ => trivial
noncomputable def t_slices_IndexFunc_int_int_index_Gather_1 (a0 : List Int) (a1 : List Int) : Tr F_slices_IndexFunc_int_int_index_Gather_1 Empty Int :=
 .len 8 eI a0 <| .loopR 4 id ⟨_, _, _, _, _, ok_slices_IndexFunc_int_int_index_Gather_1_l0 a0 a1 0⟩ fun j2 => .ret 6 (-1)
noncomputable def s_slices_IndexFunc_int_int_index_Gather_1 (a0 : List Int) (a1 : List Int) : Sg Try.prog Int := ⟨192, M_slices_IndexFunc_int_int_index_Gather_1 a0 a1, [.lst (List.map (D.int .i64) a0), .clo (.func 162) [] [.cp [.lst (List.map (D.int .i64) a1)] 0]], en_slices_IndexFunc_int_int_index_Gather_1⟩
theorem ok_slices_IndexFunc_int_int_index_Gather_1 (a0 : List Int) (a1 : List Int) : (s_slices_IndexFunc_int_int_index_Gather_1 a0 a1).Holds := Tr.fn (F := F_slices_IndexFunc_int_int_index_Gather_1) (t_slices_IndexFunc_int_int_index_Gather_1 a0 a1) (by kernel_rfl) (by kernel_rfl) (by kernel_rfl) (by kernel_rfl)
/-- slices.ContainsFunc[[]int,int]. -/
def en_slices_ContainsFunc_int_int_index_Gather_1 (v : Bool) : PV := bB v
noncomputable abbrev F_slices_ContainsFunc_int_int_index_Gather_1 : Fe := .of Try.prog 161 en_slices_ContainsFunc_int_int_index_Gather_1
theorem nl_slices_ContainsFunc_int_int_index_Gather_1 : ∀ v, (en_slices_ContainsFunc_int_int_index_Gather_1 v).noLst := fun _ => trivial
noncomputable def t_slices_ContainsFunc_int_int_index_Gather_1 (a0 : List Int) (a1 : List Int) : Tr F_slices_ContainsFunc_int_int_index_Gather_1 Empty Bool :=
 .call 8 (ok_slices_IndexFunc_int_int_index_Gather_1 a0 a1) nl_slices_IndexFunc_int_int_index_Gather_1 fun r1 => .ret 4 (decide (r1 ≥ 0))
noncomputable def s_slices_ContainsFunc_int_int_index_Gather_1 (a0 : List Int) (a1 : List Int) : Sg Try.prog Bool := ⟨161, M_slices_ContainsFunc_int_int_index_Gather_1 a0 a1, [.lst (List.map (D.int .i64) a0), .clo (.func 162) [] [.cp [.lst (List.map (D.int .i64) a1)] 0]], en_slices_ContainsFunc_int_int_index_Gather_1⟩
theorem ok_slices_ContainsFunc_int_int_index_Gather_1 (a0 : List Int) (a1 : List Int) : (s_slices_ContainsFunc_int_int_index_Gather_1 a0 a1).Holds := Tr.fn (F := F_slices_ContainsFunc_int_int_index_Gather_1) (t_slices_ContainsFunc_int_int_index_Gather_1 a0 a1) (by kernel_rfl) (by kernel_rfl) (by kernel_rfl) (by kernel_rfl)
/-- thrum/index.Gather. -/
def en_index_Gather (v : (List Int) × Int) : PV := .tup [sI (.s 0) v.1, nI v.2]
noncomputable abbrev F_index_Gather : Fe := .of Try.prog 114 en_index_Gather
def S_index_Gather_l0 (a0 : List Int) (a1 : List Int) (x0 : Int) (x1 : List Int) : St := ⟨[(22, nI x0), (21, nI (a0.length : Int)), (20, lI a0), (6, sI (.h 0) x1), (3, .ptr (.s 15) 0)], [(.s 15, [lI a1])]⟩
def E_index_Gather_l0 (a0 : List Int) (a1 : List Int) (x : (List Int)) : St := ⟨[(6, sI (.h 1) x)], []⟩
noncomputable def t_index_Gather_l0 (a0 : List Int) (a1 : List Int) (x0 : Int) (x1 : List Int) : Tr F_index_Gather (Int × (List Int)) (List Int) :=
 .ite 6 23 (x0 < (a0.length : Int))
 (.idx 6 eI a0 x0 <| .idx 7 eI a1 (at' a0 x0) <| .app 2 eI 8 x1 [at' a1 (at' a0 x0)] <| .let_ (x1 ++ [at' a1 (at' a0 x0)] : List Int) fun y6 => .again 7 (IntKind.i64.wrap (x0 + 1), y6))
 (.ret 4 x1)
theorem ok_index_Gather_l0 (a0 : List Int) (a1 : List Int) (x0 : Int) (x1 : List Int) : Ok (M_index_Gather_l0 a0 a1 x0 x1) fun v => go Try.prog F_index_Gather.N (PostN (.exit 0) (E_index_Gather_l0 a0 a1) v) [.l (lpA Try.prog 114 0)] .norm (S_index_Gather_l0 a0 a1 x0 x1) := by
 refine M_index_Gather_l0.partial_correctness a0 a1 (fun x0 x1 v => go Try.prog F_index_Gather.N (PostN (.exit 0) (E_index_Gather_l0 a0 a1) v) [.l (lpA Try.prog 114 0)] .norm (S_index_Gather_l0 a0 a1 x0 x1)) ?_ x0 x1
 clear x0 x1
 intro f IH x0 x1
 exact Tr.lpN (F := F_index_Gather) (S := fun x => S_index_Gather_l0 a0 a1 x.1 x.2) (S' := E_index_Gather_l0 a0 a1) (t_index_Gather_l0 a0 a1 x0 x1) (fun x => f x.1 x.2) (fun x r h => IH x.1 x.2 r h) (by kernel_rfl) (by kernel_rfl)
theorem nl_index_Gather : ∀ v, (en_index_Gather v).noLst := fun _ => ⟨(flat_map_of fun _ => trivial), trivial, trivial⟩
noncomputable def t_index_Gather (a0 : List Int) (a1 : List Int) : Tr F_index_Gather Empty ((List Int) × Int) :=
 .call 10 (ok_index_rises a0) nl_index_rises fun r1 => .join 2 4 (γ := Bool) ⟨fun x => [(16, bB x)], [3, 0], fun _ => [], [.s 15]⟩
 (.iteX 0 12 (r1)
 (.ret 5 true)
 (.call 2 (ok_slices_ContainsFunc_int_int_index_Gather_1 a0 a1) nl_slices_ContainsFunc_int_int_index_Gather_1 fun r2 => .ret 2 r2))
 fun j3 => .iteB 1 16 (j3)
 (.ret 8 ([], 1))
 (.len 5 eI a0 <| .mk 0 eI 8 0 0 (a0.length : Int) <| .let_ (List.replicate (Int.toNat 0) 0 : List Int) fun y4 => .len 6 eI a0 <| .loop 4 ⟨_, _, _, _, _, ok_index_Gather_l0 a0 a1 0 y4⟩ fun j8 => .ret 8 (j8, 0))
noncomputable def s_index_Gather (a0 : List Int) (a1 : List Int) : Sg Try.prog ((List Int) × Int) := ⟨114, M_index_Gather a0 a1, [.lst (List.map (D.int .i64) a0), .lst (List.map (D.int .i64) a1)], en_index_Gather⟩
theorem ok_index_Gather (a0 : List Int) (a1 : List Int) : (s_index_Gather a0 a1).Holds := Tr.fn (F := F_index_Gather) (t_index_Gather a0 a1) (by kernel_rfl) (by kernel_rfl) (by kernel_rfl) (by kernel_rfl)
/-- thrum/topk.Press. -/
def en_topk_Press (v : Int × Int × (List Int) × (List Int) × Int × Int × Int) : PV := .tup [.d (.agg [.int .i64 v.1, .int .i64 v.2.1, .lst (List.map (D.int .i64) v.2.2.1), .lst (List.map (D.int .i64) v.2.2.2.1), .int .i64 v.2.2.2.2.1, .int .i64 v.2.2.2.2.2.1, .lst [], .lst []]), nI v.2.2.2.2.2.2]
noncomputable abbrev F_topk_Press : Fe := .of Try.prog 63 en_topk_Press
noncomputable def t_topk_Press (a0 : Int) (a1 : List Int) : Tr F_topk_Press Empty (Int × Int × (List Int) × (List Int) × Int × Int × Int) :=
 .len 9 eI a1 <| .ite 2 11 ((a1.length : Int) = 0)
 (.ret 9 (0, 0, [], [], 0, 0, 1))
 (.call 6 (ok_topk_Pick a0 a1) nl_topk_Pick fun r1 => .iteN 12 20 (r1.2 = 0)
 (.ret 10 (0, 0, [], [], 0, 0, r1.2))
 (.call 6 (ok_index_Gather r1.1 a1) nl_index_Gather fun r2 => .iteN 12 30 (r2.2 = 0)
 (.ret 10 (0, 0, [], [], 0, 0, r2.2))
 (.len 5 eI a1 <| .ret 7 (1, (a1.length : Int), r1.1, r2.1, 0, 0, 0))))
noncomputable def s_topk_Press (a0 : Int) (a1 : List Int) : Sg Try.prog (Int × Int × (List Int) × (List Int) × Int × Int × Int) := ⟨63, M_topk_Press a0 a1, [.int .i64 a0, .lst (List.map (D.int .i64) a1)], en_topk_Press⟩
theorem ok_topk_Press (a0 : Int) (a1 : List Int) : (s_topk_Press a0 a1).Holds := Tr.fn (F := F_topk_Press) (t_topk_Press a0 a1) (by kernel_rfl) (by kernel_rfl) (by kernel_rfl) (by kernel_rfl)
/-- thrum/index.Spread. -/
def en_index_Spread (v : (List Int) × Int) : PV := .tup [sI (.s 0) v.1, nI v.2]
noncomputable abbrev F_index_Spread : Fe := .of Try.prog 64 en_index_Spread
def S_index_Spread_l0 (a1 : List Int) (a2 : List Int) (x0 : Int) (x1 : List Int) : St := ⟨[(29, nI x0), (28, nI (a1.length : Int)), (27, lI a1), (9, sI (.h 0) x1), (2, lI a2)], []⟩
def E_index_Spread_l0 (a1 : List Int) (a2 : List Int) (x : (List Int)) : St := ⟨[(9, sI (.h 1) x)], []⟩
noncomputable def t_index_Spread_l0 (a1 : List Int) (a2 : List Int) (x0 : Int) (x1 : List Int) : Tr F_index_Spread (Int × (List Int)) (List Int) :=
 .ite 6 30 (x0 < (a1.length : Int))
 (.idx 7 eI a1 x0 <| .idx 9 eI a2 x0 <| .idx 1 eI x1 (at' a1 x0) <| .sto 0 [9] eI x1 (at' a1 x0) (at' a2 x0) <| .let_ (x1.set (Int.toNat (at' a1 x0)) (at' a2 x0) : List Int) fun y4 => .again 6 (IntKind.i64.wrap (x0 + 1), y4))
 (.ret 4 x1)
theorem ok_index_Spread_l0 (a1 : List Int) (a2 : List Int) (x0 : Int) (x1 : List Int) : Ok (M_index_Spread_l0 a1 a2 x0 x1) fun v => go Try.prog F_index_Spread.N (PostN (.exit 1) (E_index_Spread_l0 a1 a2) v) [.l (lpA Try.prog 64 0)] .norm (S_index_Spread_l0 a1 a2 x0 x1) := by
 refine M_index_Spread_l0.partial_correctness a1 a2 (fun x0 x1 v => go Try.prog F_index_Spread.N (PostN (.exit 1) (E_index_Spread_l0 a1 a2) v) [.l (lpA Try.prog 64 0)] .norm (S_index_Spread_l0 a1 a2 x0 x1)) ?_ x0 x1
 clear x0 x1
 intro f IH x0 x1
 exact Tr.lpN (F := F_index_Spread) (S := fun x => S_index_Spread_l0 a1 a2 x.1 x.2) (S' := E_index_Spread_l0 a1 a2) (t_index_Spread_l0 a1 a2 x0 x1) (fun x => f x.1 x.2) (fun x r h => IH x.1 x.2 r h) (by kernel_rfl) (by kernel_rfl)
theorem nl_index_Spread : ∀ v, (en_index_Spread v).noLst := fun _ => ⟨(flat_map_of fun _ => trivial), trivial, trivial⟩
noncomputable def t_index_Spread (a0 : Int) (a1 : List Int) (a2 : List Int) : Tr F_index_Spread Empty ((List Int) × Int) :=
 .call 10 (ok_index_Check a0 a1) nl_index_Check fun r1 => .iteN 9 15 (r1 = 0)
 (.ret 10 ([], r1))
 (.len 4 eI a1 <| .len 1 eI a2 <| .iteN 3 19 ((a1.length : Int) = (a2.length : Int))
 (.ret 9 ([], 4))
 (.mk 6 eI 8 0 a0 a0 <| .let_ (List.replicate (Int.toNat a0) 0 : List Int) fun y2 => .len 6 eI a1 <| .loop 4 ⟨_, _, _, _, _, ok_index_Spread_l0 a1 a2 0 y2⟩ fun j6 => .ret 8 (j6, 0)))
noncomputable def s_index_Spread (a0 : Int) (a1 : List Int) (a2 : List Int) : Sg Try.prog ((List Int) × Int) := ⟨64, M_index_Spread a0 a1 a2, [.int .i64 a0, .lst (List.map (D.int .i64) a1), .lst (List.map (D.int .i64) a2)], en_index_Spread⟩
theorem ok_index_Spread (a0 : Int) (a1 : List Int) (a2 : List Int) : (s_index_Spread a0 a1 a2).Holds := Tr.fn (F := F_index_Spread) (t_index_Spread a0 a1 a2) (by kernel_rfl) (by kernel_rfl) (by kernel_rfl) (by kernel_rfl)
/-- thrum/thrumlaw09.TopkScaled. -/
def en_thrumlaw09_TopkScaled (v : Bool) : PV := bB v
noncomputable abbrev F_thrumlaw09_TopkScaled : Fe := .of Try.prog 16 en_thrumlaw09_TopkScaled
def S_thrumlaw09_TopkScaled_l0 (a1 : List Int) (r1 : Bool) (y5 : Int) (y7 : Int) (x0 : Int) (x1 : List Int) : St := ⟨[(61, nI x0), (60, nI (a1.length : Int)), (59, lI a1), (8, sI (.h 0) x1), (0, nI (Int.tmod y7 (IntKind.i64.wrap ((a1.length : Int) + 1)))), (2, nI y5), (7, bB r1), (1, lI a1)], []⟩
def E_thrumlaw09_TopkScaled_l0 (a1 : List Int) (r1 : Bool) (y5 : Int) (y7 : Int) (x : (List Int)) : St := ⟨[(8, sI (.h 1) x), (0, nI (Int.tmod y7 (IntKind.i64.wrap ((a1.length : Int) + 1)))), (2, nI y5), (7, bB r1), (1, lI a1)], []⟩
noncomputable def t_thrumlaw09_TopkScaled_l0 (a1 : List Int) (r1 : Bool) (y5 : Int) (y7 : Int) (x0 : Int) (x1 : List Int) : Tr F_thrumlaw09_TopkScaled (Int × (List Int)) (Sum Bool (List Int)) :=
 .ite 6 62 (x0 < (a1.length : Int))
 (.idx 6 eI a1 x0 <| .join 9 3 (γ := Bool) ⟨fun x => [(70, bB x)], [10, 61, 60, 59, 8, 0, 2, 7, 1], fun _ => [], []⟩
 (.ite 0 67 ((at' a1 x0) > 1125899906842624)
 (.ret 4 true)
 (.ret 4 (decide ((at' a1 x0) < (-1125899906842624)))))
 fun j9 => .iteB 1 70 (j9)
 (.ret 11 (.inl r1))
 (.app 8 eI 8 x1 [IntKind.i64.wrap (y5 * (at' a1 x0))] <| .let_ (x1 ++ [IntKind.i64.wrap (y5 * (at' a1 x0))] : List Int) fun y10 => .again 7 (IntKind.i64.wrap (x0 + 1), y10)))
 (.ret 4 (.inr x1))
theorem ok_thrumlaw09_TopkScaled_l0 (a1 : List Int) (r1 : Bool) (y5 : Int) (y7 : Int) (x0 : Int) (x1 : List Int) : Ok (M_thrumlaw09_TopkScaled_l0 a1 r1 y5 y7 x0 x1) fun v => go Try.prog F_thrumlaw09_TopkScaled.N (PostR (fun r => Fnl F_thrumlaw09_TopkScaled.res (F_thrumlaw09_TopkScaled.en r) (F_thrumlaw09_TopkScaled.bx r)) (.exit 0) (E_thrumlaw09_TopkScaled_l0 a1 r1 y5 y7) v) [.l (lpA Try.prog 16 0)] .norm (S_thrumlaw09_TopkScaled_l0 a1 r1 y5 y7 x0 x1) := by
 refine M_thrumlaw09_TopkScaled_l0.partial_correctness a1 r1 y5 y7 (fun x0 x1 v => go Try.prog F_thrumlaw09_TopkScaled.N (PostR (fun r => Fnl F_thrumlaw09_TopkScaled.res (F_thrumlaw09_TopkScaled.en r) (F_thrumlaw09_TopkScaled.bx r)) (.exit 0) (E_thrumlaw09_TopkScaled_l0 a1 r1 y5 y7) v) [.l (lpA Try.prog 16 0)] .norm (S_thrumlaw09_TopkScaled_l0 a1 r1 y5 y7 x0 x1)) ?_ x0 x1
 clear x0 x1
 intro f IH x0 x1
 exact Tr.lpR (F := F_thrumlaw09_TopkScaled) (S := fun x => S_thrumlaw09_TopkScaled_l0 a1 r1 y5 y7 x.1 x.2) (S' := E_thrumlaw09_TopkScaled_l0 a1 r1 y5 y7) (t_thrumlaw09_TopkScaled_l0 a1 r1 y5 y7 x0 x1) (fun x => f x.1 x.2) (fun x r h => IH x.1 x.2 r h) (by kernel_rfl) (by kernel_rfl)
def S_thrumlaw09_TopkScaled_l1 (a1 : List Int) (r1 : Bool) (y5 : Int) (y7 : Int) (r13 : Int × Int × (List Int) × (List Int) × Int × Int × Int) (r14 : Int × Int × (List Int) × (List Int) × Int × Int × Int) (x0 : Int) : St := ⟨[(117, nI x0), (116, nI (r13.2.2.2.1.length : Int)), (115, lI r13.2.2.2.1), (13, .ptr (.s 27311) 0), (11, .ptr (.s 25711) 0), (0, nI (Int.tmod y7 (IntKind.i64.wrap ((a1.length : Int) + 1)))), (2, nI y5), (7, bB r1), (1, lI a1)], [(.s 27311, [nI r14.1, nI r14.2.1, lI r14.2.2.1, lI r14.2.2.2.1, nI r14.2.2.2.2.1, nI r14.2.2.2.2.2.1, .d (.lst []), .d (.lst [])]), (.s 25711, [nI r13.1, nI r13.2.1, lI r13.2.2.1, lI r13.2.2.2.1, nI r13.2.2.2.2.1, nI r13.2.2.2.2.2.1, .d (.lst []), .d (.lst [])])]⟩
def E_thrumlaw09_TopkScaled_l1 (a1 : List Int) (r1 : Bool) (y5 : Int) (y7 : Int) (r13 : Int × Int × (List Int) × (List Int) × Int × Int × Int) (r14 : Int × Int × (List Int) × (List Int) × Int × Int × Int) (x : Unit) : St := ⟨[(11, .ptr (.s 25711) 0), (0, nI (Int.tmod y7 (IntKind.i64.wrap ((a1.length : Int) + 1)))), (7, bB r1), (1, lI a1)], [(.s 25711, [nI r13.1, nI r13.2.1, lI r13.2.2.1, lI r13.2.2.2.1, nI r13.2.2.2.2.1, nI r13.2.2.2.2.2.1, .d (.lst []), .d (.lst [])])]⟩
noncomputable def t_thrumlaw09_TopkScaled_l1 (a1 : List Int) (r1 : Bool) (y5 : Int) (y7 : Int) (r13 : Int × Int × (List Int) × (List Int) × Int × Int × Int) (r14 : Int × Int × (List Int) × (List Int) × Int × Int × Int) (x0 : Int) : Tr F_thrumlaw09_TopkScaled Int (Sum Bool Unit) :=
 .ite 6 118 (x0 < (r13.2.2.2.1.length : Int))
 (.idx 7 eI r13.2.2.2.1 x0 <| .idx 9 eI r14.2.2.2.1 x0 <| .iteN 6 130 ((at' r14.2.2.2.1 x0) = (IntKind.i64.wrap (y5 * (at' r13.2.2.2.1 x0))))
 (.ret 9 (.inl false))
 (.again 7 (IntKind.i64.wrap (x0 + 1))))
 (.ret 4 (.inr ()))
theorem ok_thrumlaw09_TopkScaled_l1 (a1 : List Int) (r1 : Bool) (y5 : Int) (y7 : Int) (r13 : Int × Int × (List Int) × (List Int) × Int × Int × Int) (r14 : Int × Int × (List Int) × (List Int) × Int × Int × Int) (x0 : Int) : Ok (M_thrumlaw09_TopkScaled_l1 a1 r1 y5 y7 r13 r14 x0) fun v => go Try.prog F_thrumlaw09_TopkScaled.N (PostR (fun r => Fnl F_thrumlaw09_TopkScaled.res (F_thrumlaw09_TopkScaled.en r) (F_thrumlaw09_TopkScaled.bx r)) (.exit 2) (E_thrumlaw09_TopkScaled_l1 a1 r1 y5 y7 r13 r14) v) [.l (lpA Try.prog 16 1)] .norm (S_thrumlaw09_TopkScaled_l1 a1 r1 y5 y7 r13 r14 x0) := by
 refine M_thrumlaw09_TopkScaled_l1.partial_correctness a1 r1 y5 y7 r13 r14 (fun x0 v => go Try.prog F_thrumlaw09_TopkScaled.N (PostR (fun r => Fnl F_thrumlaw09_TopkScaled.res (F_thrumlaw09_TopkScaled.en r) (F_thrumlaw09_TopkScaled.bx r)) (.exit 2) (E_thrumlaw09_TopkScaled_l1 a1 r1 y5 y7 r13 r14) v) [.l (lpA Try.prog 16 1)] .norm (S_thrumlaw09_TopkScaled_l1 a1 r1 y5 y7 r13 r14 x0)) ?_ x0
 clear x0
 intro f IH x0
 exact Tr.lpR (F := F_thrumlaw09_TopkScaled) (S := fun x => S_thrumlaw09_TopkScaled_l1 a1 r1 y5 y7 r13 r14 x) (S' := E_thrumlaw09_TopkScaled_l1 a1 r1 y5 y7 r13 r14) (t_thrumlaw09_TopkScaled_l1 a1 r1 y5 y7 r13 r14 x0) (fun x => f x) (fun x r h => IH x r h) (by kernel_rfl) (by kernel_rfl)
def S_thrumlaw09_TopkScaled_l2 (r1 : Bool) (r20 : (List Int) × Int) (r22 : (List Int) × Int) (x0 : Int) : St := ⟨[(177, nI x0), (176, nI (r20.1.length : Int)), (21, sI (.s 44896) r22.1), (17, lI r20.1), (7, bB r1)], []⟩
def E_thrumlaw09_TopkScaled_l2 (r1 : Bool) (r20 : (List Int) × Int) (r22 : (List Int) × Int) (x : Unit) : St := ⟨[(7, bB r1)], []⟩
noncomputable def t_thrumlaw09_TopkScaled_l2 (r1 : Bool) (r20 : (List Int) × Int) (r22 : (List Int) × Int) (x0 : Int) : Tr F_thrumlaw09_TopkScaled Int (Sum Bool Unit) :=
 .ite 6 178 (x0 < (r20.1.length : Int))
 (.idx 13 eI r20.1 x0 <| .idx 3 eI r22.1 x0 <| .iteN 3 188 ((at' r20.1 x0) = (at' r22.1 x0))
 (.ret 9 (.inl false))
 (.again 7 (IntKind.i64.wrap (x0 + 1))))
 (.ret 4 (.inr ()))
theorem ok_thrumlaw09_TopkScaled_l2 (r1 : Bool) (r20 : (List Int) × Int) (r22 : (List Int) × Int) (x0 : Int) : Ok (M_thrumlaw09_TopkScaled_l2 r1 r20 r22 x0) fun v => go Try.prog F_thrumlaw09_TopkScaled.N (PostR (fun r => Fnl F_thrumlaw09_TopkScaled.res (F_thrumlaw09_TopkScaled.en r) (F_thrumlaw09_TopkScaled.bx r)) (.exit 4) (E_thrumlaw09_TopkScaled_l2 r1 r20 r22) v) [.l (lpA Try.prog 16 2)] .norm (S_thrumlaw09_TopkScaled_l2 r1 r20 r22 x0) := by
 refine M_thrumlaw09_TopkScaled_l2.partial_correctness r1 r20 r22 (fun x0 v => go Try.prog F_thrumlaw09_TopkScaled.N (PostR (fun r => Fnl F_thrumlaw09_TopkScaled.res (F_thrumlaw09_TopkScaled.en r) (F_thrumlaw09_TopkScaled.bx r)) (.exit 4) (E_thrumlaw09_TopkScaled_l2 r1 r20 r22) v) [.l (lpA Try.prog 16 2)] .norm (S_thrumlaw09_TopkScaled_l2 r1 r20 r22 x0)) ?_ x0
 clear x0
 intro f IH x0
 exact Tr.lpR (F := F_thrumlaw09_TopkScaled) (S := fun x => S_thrumlaw09_TopkScaled_l2 r1 r20 r22 x) (S' := E_thrumlaw09_TopkScaled_l2 r1 r20 r22) (t_thrumlaw09_TopkScaled_l2 r1 r20 r22 x0) (fun x => f x) (fun x r h => IH x r h) (by kernel_rfl) (by kernel_rfl)
theorem nl_thrumlaw09_TopkScaled : ∀ v, (en_thrumlaw09_TopkScaled v).noLst := fun _ => trivial
noncomputable def t_thrumlaw09_TopkScaled (a0 : Int) (a1 : List Int) (a2 : Int) : Tr F_thrumlaw09_TopkScaled Empty Bool :=
 .call 6 ok_thrumlaw09_live nl_thrumlaw09_live fun r1 => .iteX 8 26 (r1)
 (.ret 7 false)
 (.call 6 (ok_thrumlaw09_few a1) nl_thrumlaw09_few fun r2 => .join 2 4 (γ := Bool) ⟨fun x => [(34, bB x)], [7, 0, 1, 2], fun _ => [], []⟩
 (.iteX 0 30 (r2)
 (.ret 5 true)
 (.len 1 eI a1 <| .ret 3 ((a1.length : Int) == 0)))
 fun j3 => .join 1 4 (γ := Bool) ⟨fun x => [(39, bB x)], [7, 0, 1, 2], fun _ => [], []⟩
 (.iteB 0 35 (j3)
 (.ret 5 true)
 (.len 1 eI a1 <| .ret 3 (decide ((a1.length : Int) > 4096))))
 fun j4 => .iteB 1 39 (j4)
 (.ret 8 r1)
 (.let_ (IntKind.i64.wrap (1 + (Int.tmod (IntKind.i64.wrap ((Int.tmod a2 1000) + 1000)) 1000)) : Int) fun y5 => .len 15 eI a1 <| .rd 1 (IntKind.i64.wrap ((a1.length : Int) + 1) ≠ 0) (nI (Int.tmod a0 (IntKind.i64.wrap ((a1.length : Int) + 1)))) <| .len 1 eI a1 <| .let_ (IntKind.i64.wrap ((IntKind.i64.wrap ((Int.tmod a0 (IntKind.i64.wrap ((a1.length : Int) + 1))) + (a1.length : Int))) + 1) : Int) fun y7 => .len 3 eI a1 <| .rd 1 (IntKind.i64.wrap ((a1.length : Int) + 1) ≠ 0) (nI (Int.tmod y7 (IntKind.i64.wrap ((a1.length : Int) + 1)))) <| .len 10 eI a1 <| .loopR 4 id ⟨_, _, _, _, _, ok_thrumlaw09_TopkScaled_l0 a1 r1 y5 y7 0 []⟩ fun j12 => .callZ 5 (ok_topk_Press (Int.tmod y7 (IntKind.i64.wrap ((a1.length : Int) + 1))) a1) fun r13 => .callZ 11 (ok_topk_Press (Int.tmod y7 (IntKind.i64.wrap ((a1.length : Int) + 1))) j12) fun r14 => .join 13 3 (γ := Bool) ⟨fun x => [(96, bB x)], [13, 11, 0, 2, 7, 1], fun _ => [], [.s 27311, .s 25711]⟩
 (.iteN 0 93 (r13.2.2.2.2.2.2 = 0)
 (.ret 4 true)
 (.ret 4 (r14.2.2.2.2.2.2 != 0)))
 fun j15 => .join 1 7 (γ := Bool) ⟨fun x => [(104, bB x)], [13, 11, 0, 2, 7, 1], fun _ => [], [.s 27311, .s 25711]⟩
 (.iteB 0 97 (j15)
 (.ret 8 true)
 (.call 4 (ok_thrumref06_Equal r13.2.2.1 r14.2.2.1) nl_thrumref06_Equal fun r16 => .ret 3 (!r16)))
 fun j17 => .join 1 8 (γ := Bool) ⟨fun x => [(113, bB x)], [13, 11, 0, 2, 7, 1], fun _ => [], [.s 27311, .s 25711]⟩
 (.iteB 0 105 (j17)
 (.ret 9 true)
 (.len 2 eI r13.2.2.2.1 <| .len 2 eI r14.2.2.2.1 <| .ret 3 ((r13.2.2.2.1.length : Int) != (r14.2.2.2.1.length : Int))))
 fun j18 => .iteB 1 113 (j18)
 (.ret 7 false)
 (.len 7 eI r13.2.2.2.1 <| .loopR 4 id ⟨_, _, _, _, _, ok_thrumlaw09_TopkScaled_l1 a1 r1 y5 y7 r13 r14 0⟩ fun j19 => .len 4 eI a1 <| .call 4 (ok_index_Spread (a1.length : Int) r13.2.2.1 r13.2.2.2.1) nl_index_Spread fun r20 => .callZ 10 (ok_topk_Press (Int.tmod y7 (IntKind.i64.wrap ((a1.length : Int) + 1))) r20.1) fun r21 => .len 10 eI a1 <| .call 4 (ok_index_Spread (a1.length : Int) r21.2.2.1 r21.2.2.2.1) nl_index_Spread fun r22 => .join 12 3 (γ := Bool) ⟨fun x => [(163, bB x)], [22, 21, 17, 7], fun _ => [], []⟩
 (.iteN 0 160 (r20.2 = 0)
 (.ret 4 true)
 (.ret 4 (r21.2.2.2.2.2.2 != 0)))
 fun j23 => .join 1 3 (γ := Bool) ⟨fun x => [(167, bB x)], [21, 17, 7], fun _ => [], []⟩
 (.iteB 0 164 (j23)
 (.ret 4 true)
 (.ret 4 (r22.2 != 0)))
 fun j24 => .join 1 6 (γ := Bool) ⟨fun x => [(174, bB x)], [21, 17, 7], fun _ => [], []⟩
 (.iteB 0 168 (j24)
 (.ret 7 true)
 (.len 1 eI r20.1 <| .len 1 eI r22.1 <| .ret 3 ((r20.1.length : Int) != (r22.1.length : Int))))
 fun j25 => .iteB 1 174 (j25)
 (.ret 7 false)
 (.len 6 eI r20.1 <| .loopR 4 id ⟨_, _, _, _, _, ok_thrumlaw09_TopkScaled_l2 r1 r20 r22 0⟩ fun j26 => .ret 7 r1))))
noncomputable def s_thrumlaw09_TopkScaled (a0 : Int) (a1 : List Int) (a2 : Int) : Sg Try.prog Bool := ⟨16, M_thrumlaw09_TopkScaled a0 a1 a2, [.int .i64 a0, .lst (List.map (D.int .i64) a1), .int .i64 a2], en_thrumlaw09_TopkScaled⟩
theorem ok_thrumlaw09_TopkScaled (a0 : Int) (a1 : List Int) (a2 : Int) : (s_thrumlaw09_TopkScaled a0 a1 a2).Holds := Tr.fn (F := F_thrumlaw09_TopkScaled) (t_thrumlaw09_TopkScaled a0 a1 a2) (by kernel_rfl) (by kernel_rfl) (by kernel_rfl) (by kernel_rfl)
end Go.Proofs.Ythhcgcaefjmekaa.Abs
