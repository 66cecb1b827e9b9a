/- Walks of functions, printed by a program. Conditions: none. -/
import Derived.Test.YtelobmiooldoaaaProg
import Derived.Test.YtelobmiooldoaaaAbsG8
import Derived.Test.YtelobmiooldoaaaSM
namespace Go.Proofs.Ytelobmiooldoaaa.Abs
open Go Go.RowKit
set_option linter.unusedVariables false
set_option maxRecDepth 100000
open Z
def T_api_Store.e : Enc T_api_Store := ⟨T_api_Store.en, 1, fun _ => rfl⟩
def T_api_Put.e : Enc T_api_Put := ⟨T_api_Put.en, 2, fun _ => rfl⟩
/-- thrum/store.New. -/
def en_store_New (v : (List (List Int)) × Int) : PV := .tup [.d (.agg [.lst (List.map (enL (D.int .u8)) v.1)]), nI v.2]
noncomputable abbrev F_store_New : Fe := .of Try.prog 33 en_store_New
noncomputable def t_store_New (a0 : Int) : Tr F_store_New Empty ((List (List Int)) × Int) :=
 .join 11 3 (γ := Bool) ⟨fun x => [(9, bB x)], [2, 0], fun _ => [], [.s 15]⟩
 (.ite 0 6 (a0 < 1)
 (.ret 4 true)
 (.ret 4 (decide (a0 > 64))))
 fun j1 => .iteB 1 9 (j1)
 (.ret 9 ([], 1))
 (.mk 7 (eL eY) 24 [] (IntKind.i64.wrap (2 + (IntKind.i64.wrap (2 * a0)))) (IntKind.i64.wrap (2 + (IntKind.i64.wrap (2 * a0)))) <| .ret 5 (List.replicate (Int.toNat (IntKind.i64.wrap (2 + (IntKind.i64.wrap (2 * a0))))) [], 0))
noncomputable def s_store_New (a0 : Int) : Sg Try.prog ((List (List Int)) × Int) := ⟨33, M_store_New a0, [.int .i64 a0], en_store_New⟩
theorem ok_store_New (a0 : Int) : (s_store_New a0).Holds := Tr.fn (F := F_store_New) (t_store_New a0) (by kernel_rfl) (by kernel_rfl) (by kernel_rfl) (by kernel_rfl)
/-- thrum/store.Check$1. -/
def en_store_Check_1 (v : Bool) : PV := bB v
noncomputable abbrev F_store_Check_1 : Fe := .of Try.prog 73 en_store_Check_1
theorem nl_store_Check_1 : ∀ v, (en_store_Check_1 v).noLst := fun _ => trivial
noncomputable def t_store_Check_1 (a0 : List Int) : Tr F_store_Check_1 Empty Bool :=
 .len 7 eY a0 <| .ret 4 (decide ((a0.length : Int) > 256))
noncomputable def s_store_Check_1 (a0 : List Int) : Sg Try.prog Bool := ⟨73, M_store_Check_1 a0, [.lst (List.map (D.int .u8) a0)], en_store_Check_1⟩
theorem ok_store_Check_1 (a0 : List Int) : (s_store_Check_1 a0).Holds := Tr.fn (F := F_store_Check_1) (t_store_Check_1 a0) (by kernel_rfl) (by kernel_rfl) (by kernel_rfl) (by kernel_rfl)
/-- slices.IndexFunc[[][]byte,[]byte]. -/
def en_slices_IndexFunc_byte_byte_store_Check_1 (v : Int) : PV := nI v
noncomputable abbrev F_slices_IndexFunc_byte_byte_store_Check_1 : Fe := .of Try.prog 103 en_slices_IndexFunc_byte_byte_store_Check_1
def S_slices_IndexFunc_byte_byte_store_Check_1_l0 (a0 : List (List Int)) (x0 : Int) : St := ⟨[(8, nI x0), (7, nI (a0.length : Int)), (0, .d (.lst (List.map (enL (D.int .u8)) a0))), (1, .d (.clo (.func 73) [] []))], []⟩
def E_slices_IndexFunc_byte_byte_store_Check_1_l0 (a0 : List (List Int)) (x : Unit) : St := ⟨[], []⟩
noncomputable def t_slices_IndexFunc_byte_byte_store_Check_1_l0 (a0 : List (List Int)) (x0 : Int) : Tr F_slices_IndexFunc_byte_byte_store_Check_1 Int (Sum Int Unit) :=
 .ite 6 9 (x0 < (a0.length : Int))
 (.idx 14 (eL eY) a0 x0 <| .call 1 (ok_store_Check_1 (at' a0 x0)) nl_store_Check_1 fun r1 => .iteB 1 16 (r1)
 (.ret 10 (.inl x0))
 (.again 7 (IntKind.i64.wrap (x0 + 1))))
 (.ret 4 (.inr ()))
theorem ok_slices_IndexFunc_byte_byte_store_Check_1_l0 (a0 : List (List Int)) (x0 : Int) : Ok (M_slices_IndexFunc_byte_byte_store_Check_1_l0 a0 x0) fun v => go Try.prog F_slices_IndexFunc_byte_byte_store_Check_1.N (PostR (fun r => Fnl F_slices_IndexFunc_byte_byte_store_Check_1.res (F_slices_IndexFunc_byte_byte_store_Check_1.en r) (F_slices_IndexFunc_byte_byte_store_Check_1.bx r)) (.exit 0) (E_slices_IndexFunc_byte_byte_store_Check_1_l0 a0) v) [.l (lpA Try.prog 103 0)] .norm (S_slices_IndexFunc_byte_byte_store_Check_1_l0 a0 x0) := by
 refine M_slices_IndexFunc_byte_byte_store_Check_1_l0.partial_correctness a0 (fun x0 v => go Try.prog F_slices_IndexFunc_byte_byte_store_Check_1.N (PostR (fun r => Fnl F_slices_IndexFunc_byte_byte_store_Check_1.res (F_slices_IndexFunc_byte_byte_store_Check_1.en r) (F_slices_IndexFunc_byte_byte_store_Check_1.bx r)) (.exit 0) (E_slices_IndexFunc_byte_byte_store_Check_1_l0 a0) v) [.l (lpA Try.prog 103 0)] .norm (S_slices_IndexFunc_byte_byte_store_Check_1_l0 a0 x0)) ?_ x0
 clear x0
 intro f IH x0
 exact Tr.lpR (F := F_slices_IndexFunc_byte_byte_store_Check_1) (S := fun x => S_slices_IndexFunc_byte_byte_store_Check_1_l0 a0 x) (S' := E_slices_IndexFunc_byte_byte_store_Check_1_l0 a0) (t_slices_IndexFunc_byte_byte_store_Check_1_l0 a0 x0) (fun x => f x) (fun x r h => IH x r h) (by kernel_rfl) (by kernel_rfl)
theorem nl_slices_IndexFunc_byte_byte_store_Check_1 : ∀ v, (en_slices_IndexFunc_byte_byte_store_Check_1 v).noLst := fun _ => trivial
noncomputable def t_slices_IndexFunc_byte_byte_store_Check_1 (a0 : List (List Int)) : Tr F_slices_IndexFunc_byte_byte_store_Check_1 Empty Int :=
 .len 8 (eL eY) a0 <| .loopR 4 id ⟨_, _, _, _, _, ok_slices_IndexFunc_byte_byte_store_Check_1_l0 a0 0⟩ fun j2 => .ret 6 (-1)
noncomputable def s_slices_IndexFunc_byte_byte_store_Check_1 (a0 : List (List Int)) : Sg Try.prog Int := ⟨103, M_slices_IndexFunc_byte_byte_store_Check_1 a0, [.lst (List.map (enL (D.int .u8)) a0), .clo (.func 73) [] []], en_slices_IndexFunc_byte_byte_store_Check_1⟩
theorem ok_slices_IndexFunc_byte_byte_store_Check_1 (a0 : List (List Int)) : (s_slices_IndexFunc_byte_byte_store_Check_1 a0).Holds := Tr.fn (F := F_slices_IndexFunc_byte_byte_store_Check_1) (t_slices_IndexFunc_byte_byte_store_Check_1 a0) (by kernel_rfl) (by kernel_rfl) (by kernel_rfl) (by kernel_rfl)
/-- slices.ContainsFunc[[][]byte,[]byte]. -/
def en_slices_ContainsFunc_byte_byte_store_Check_1 (v : Bool) : PV := bB v
noncomputable abbrev F_slices_ContainsFunc_byte_byte_store_Check_1 : Fe := .of Try.prog 72 en_slices_ContainsFunc_byte_byte_store_Check_1
theorem nl_slices_ContainsFunc_byte_byte_store_Check_1 : ∀ v, (en_slices_ContainsFunc_byte_byte_store_Check_1 v).noLst := fun _ => trivial
noncomputable def t_slices_ContainsFunc_byte_byte_store_Check_1 (a0 : List (List Int)) : Tr F_slices_ContainsFunc_byte_byte_store_Check_1 Empty Bool :=
 .call 8 (ok_slices_IndexFunc_byte_byte_store_Check_1 a0) nl_slices_IndexFunc_byte_byte_store_Check_1 fun r1 => .ret 4 (decide (r1 ≥ 0))
noncomputable def s_slices_ContainsFunc_byte_byte_store_Check_1 (a0 : List (List Int)) : Sg Try.prog Bool := ⟨72, M_slices_ContainsFunc_byte_byte_store_Check_1 a0, [.lst (List.map (enL (D.int .u8)) a0), .clo (.func 73) [] []], en_slices_ContainsFunc_byte_byte_store_Check_1⟩
theorem ok_slices_ContainsFunc_byte_byte_store_Check_1 (a0 : List (List Int)) : (s_slices_ContainsFunc_byte_byte_store_Check_1 a0).Holds := Tr.fn (F := F_slices_ContainsFunc_byte_byte_store_Check_1) (t_slices_ContainsFunc_byte_byte_store_Check_1 a0) (by kernel_rfl) (by kernel_rfl) (by kernel_rfl) (by kernel_rfl)
/-- thrum/store.Check. -/
def en_store_Check (v : Int) : PV := nI v
noncomputable abbrev F_store_Check : Fe := .of Try.prog 38 en_store_Check
theorem nl_store_Check : ∀ v, (en_store_Check v).noLst := fun _ => trivial
noncomputable def t_store_Check (a0 : T_api_Store) : Tr F_store_Check Empty Int :=
 .len 9 (eL eY) a0.F_Cells <| .join 9 3 (γ := Bool) ⟨fun x => [(13, bB x)], [3, 1], fun _ => [], [.s 15]⟩
 (.ite 0 10 ((IntKind.i64.wrap ((a0.F_Cells.length : Int) - 2)) < 2)
 (.ret 4 true)
 (.ret 4 (decide ((IntKind.i64.wrap ((a0.F_Cells.length : Int) - 2)) > 128))))
 fun j1 => .join 1 4 (γ := Bool) ⟨fun x => [(18, bB x)], [1], fun _ => [], [.s 15]⟩
 (.iteB 0 14 (j1)
 (.ret 5 true)
 (.ret 5 ((Int.tmod (IntKind.i64.wrap ((a0.F_Cells.length : Int) - 2)) 2) == 1)))
 fun j2 => .join 1 4 (γ := Bool) ⟨fun x => [(23, bB x)], [], fun _ => [], []⟩
 (.iteB 0 19 (j2)
 (.ret 5 true)
 (.call 2 (ok_slices_ContainsFunc_byte_byte_store_Check_1 a0.F_Cells) nl_slices_ContainsFunc_byte_byte_store_Check_1 fun r3 => .ret 2 r3))
 fun j4 => .iteB 1 23 (j4)
 (.ret 7 1)
 (.ret 7 0)
noncomputable def s_store_Check (a0 : T_api_Store) : Sg Try.prog Int := ⟨38, M_store_Check a0, [.agg [.lst (List.map (enL (D.int .u8)) a0.F_Cells)]], en_store_Check⟩
theorem ok_store_Check (a0 : T_api_Store) : (s_store_Check a0).Holds := Tr.fn (F := F_store_Check) (t_store_Check a0) (by kernel_rfl) (by kernel_rfl) (by kernel_rfl) (by kernel_rfl)
/-- slices.Clone[[]byte,byte]. -/
def en_slices_Clone_byte_byte (v : (List Int)) : PV := sY (.s 0) v
noncomputable abbrev F_slices_Clone_byte_byte : Fe := .of Try.prog 66 en_slices_Clone_byte_byte
theorem nl_slices_Clone_byte_byte : ∀ v, (en_slices_Clone_byte_byte v).noLst := fun _ => (flat_map_of fun _ => trivial)
noncomputable def t_slices_Clone_byte_byte (a0 : List Int) : Tr F_slices_Clone_byte_byte Empty (List Int) :=
 .nilq 8 eY.f a0
 (    if room 1 ([] ++ a0).length then
      some ([] ++ a0)
    else none)
 (    some [])
 (fun h => by (try obtain rfl := List.eq_nil_of_length_eq_zero h); first | rfl | (simp [h]; done))
 (.app 7 eY 1 [] a0 <| .ret 3 ([] ++ a0))
 (.ret 8 [])
noncomputable def s_slices_Clone_byte_byte (a0 : List Int) : Sg Try.prog (List Int) := ⟨66, M_slices_Clone_byte_byte a0, [.lst (List.map (D.int .u8) a0)], en_slices_Clone_byte_byte⟩
theorem ok_slices_Clone_byte_byte (a0 : List Int) : (s_slices_Clone_byte_byte a0).Holds := Tr.fn (F := F_slices_Clone_byte_byte) (t_slices_Clone_byte_byte a0) (by kernel_rfl) (by kernel_rfl) (by kernel_rfl) (by kernel_rfl)
noncomputable def s_crc_More (a0 : Int) (a1 : List Int) : Sg Try.prog Int := ⟨131, M_crc_More a0 a1, [.int .u32 a0, .lst (List.map (D.int .u8) a1)], en_crc_More⟩
theorem sk_crc_More (a0 : Int) (a1 : List Int) : (s_crc_More a0 a1).Holds := ok_crc_More a0 a1
theorem nl_crc_More : ∀ v, (en_crc_More v).noLst := fun _ => trivial
/-- thrum/crc.Sum. -/
def en_crc_Sum (v : Int) : PV := nW v
noncomputable abbrev F_crc_Sum : Fe := .of Try.prog 95 en_crc_Sum
theorem nl_crc_Sum : ∀ v, (en_crc_Sum v).noLst := fun _ => trivial
noncomputable def t_crc_Sum (a0 : List Int) : Tr F_crc_Sum Empty Int :=
 .call 7 (sk_crc_More 0 a0) nl_crc_More fun r1 => .ret 3 r1
noncomputable def s_crc_Sum (a0 : List Int) : Sg Try.prog Int := ⟨95, M_crc_Sum a0, [.lst (List.map (D.int .u8) a0)], en_crc_Sum⟩
theorem ok_crc_Sum (a0 : List Int) : (s_crc_Sum a0).Holds := Tr.fn (F := F_crc_Sum) (t_crc_Sum a0) (by kernel_rfl) (by kernel_rfl) (by kernel_rfl) (by kernel_rfl)
/-- thrum/crc.Seal. -/
def en_crc_Seal (v : (List Int) × Int) : PV := .tup [sY (.s 0) v.1, nI v.2]
noncomputable abbrev F_crc_Seal : Fe := .of Try.prog 67 en_crc_Seal
def S_crc_Seal_l0 (x0 : Int) (x1 : Int) (x2 : List Int) : St := ⟨[(6, nI x0), (5, nW x1), (4, sY (.h 0) x2)], []⟩
def E_crc_Seal_l0 (x : (List Int)) : St := ⟨[(4, sY (.h 1) x)], []⟩
noncomputable def t_crc_Seal_l0 (x0 : Int) (x1 : Int) (x2 : List Int) : Tr F_crc_Seal (Int × Int × (List Int)) (List Int) :=
 .ite 7 15 (x0 < 4)
 (.app 9 eY 1 x2 [IntKind.u8.wrap x1] <| .let_ (x2 ++ [IntKind.u8.wrap x1] : List Int) fun y3 => .again 11 (IntKind.i64.wrap (x0 + 1), sShr .u32 x1 8, y3))
 (.ret 4 x2)
theorem ok_crc_Seal_l0 (x0 : Int) (x1 : Int) (x2 : List Int) : Ok (M_crc_Seal_l0 x0 x1 x2) fun v => go Try.prog F_crc_Seal.N (PostN (.exit 0) (E_crc_Seal_l0) v) [.l (lpA Try.prog 67 0)] .norm (S_crc_Seal_l0 x0 x1 x2) := by
 refine M_crc_Seal_l0.partial_correctness (fun x0 x1 x2 v => go Try.prog F_crc_Seal.N (PostN (.exit 0) (E_crc_Seal_l0) v) [.l (lpA Try.prog 67 0)] .norm (S_crc_Seal_l0 x0 x1 x2)) ?_ x0 x1 x2
 clear x0 x1 x2
 intro f IH x0 x1 x2
 exact Tr.lpN (F := F_crc_Seal) (S := fun x => S_crc_Seal_l0 x.1 x.2.1 x.2.2) (S' := E_crc_Seal_l0) (t_crc_Seal_l0 x0 x1 x2) (fun x => f x.1 x.2.1 x.2.2) (fun x r h => IH x.1 x.2.1 x.2.2 r h) (by kernel_rfl) (by kernel_rfl)
theorem nl_crc_Seal : ∀ v, (en_crc_Seal v).noLst := fun _ => ⟨(flat_map_of fun _ => trivial), trivial, trivial⟩
noncomputable def t_crc_Seal (a0 : List Int) : Tr F_crc_Seal Empty ((List Int) × Int) :=
 .len 9 eY a0 <| .ite 2 9 ((a0.length : Int) > 65532)
 (.ret 8 ([], 3))
 (.call 5 (ok_slices_Clone_byte_byte a0) nl_slices_Clone_byte_byte fun r1 => .call 6 (ok_crc_Sum a0) nl_crc_Sum fun r2 => .loop 5 ⟨_, _, _, _, _, ok_crc_Seal_l0 0 r2 r1⟩ fun j5 => .ret 8 (j5, 0))
noncomputable def s_crc_Seal (a0 : List Int) : Sg Try.prog ((List Int) × Int) := ⟨67, M_crc_Seal a0, [.lst (List.map (D.int .u8) a0)], en_crc_Seal⟩
theorem ok_crc_Seal (a0 : List Int) : (s_crc_Seal a0).Holds := Tr.fn (F := F_crc_Seal) (t_crc_Seal a0) (by kernel_rfl) (by kernel_rfl) (by kernel_rfl) (by kernel_rfl)
/-- slices.Equal[[]byte,byte]. -/
def en_slices_Equal_byte_byte (v : Bool) : PV := bB v
noncomputable abbrev F_slices_Equal_byte_byte : Fe := .of Try.prog 132 en_slices_Equal_byte_byte
def S_slices_Equal_byte_byte_l0 (a0 : List Int) (a1 : List Int) (x0 : Int) : St := ⟨[(13, nI x0), (12, nI (a0.length : Int)), (0, lY a0), (1, lY a1)], []⟩
def E_slices_Equal_byte_byte_l0 (a0 : List Int) (a1 : List Int) (x : Unit) : St := ⟨[], []⟩
noncomputable def t_slices_Equal_byte_byte_l0 (a0 : List Int) (a1 : List Int) (x0 : Int) : Tr F_slices_Equal_byte_byte Int (Sum Bool Unit) :=
 .ite 6 14 (x0 < (a0.length : Int))
 (.idx 13 eY a0 x0 <| .idx 3 eY a1 x0 <| .iteN 3 24 ((at' a0 x0) = (at' a1 x0))
 (.ret 9 (.inl false))
 (.again 7 (IntKind.i64.wrap (x0 + 1))))
 (.ret 4 (.inr ()))
theorem ok_slices_Equal_byte_byte_l0 (a0 : List Int) (a1 : List Int) (x0 : Int) : Ok (M_slices_Equal_byte_byte_l0 a0 a1 x0) fun v => go Try.prog F_slices_Equal_byte_byte.N (PostR (fun r => Fnl F_slices_Equal_byte_byte.res (F_slices_Equal_byte_byte.en r) (F_slices_Equal_byte_byte.bx r)) (.exit 0) (E_slices_Equal_byte_byte_l0 a0 a1) v) [.l (lpA Try.prog 132 0)] .norm (S_slices_Equal_byte_byte_l0 a0 a1 x0) := by
 refine M_slices_Equal_byte_byte_l0.partial_correctness a0 a1 (fun x0 v => go Try.prog F_slices_Equal_byte_byte.N (PostR (fun r => Fnl F_slices_Equal_byte_byte.res (F_slices_Equal_byte_byte.en r) (F_slices_Equal_byte_byte.bx r)) (.exit 0) (E_slices_Equal_byte_byte_l0 a0 a1) v) [.l (lpA Try.prog 132 0)] .norm (S_slices_Equal_byte_byte_l0 a0 a1 x0)) ?_ x0
 clear x0
 intro f IH x0
 exact Tr.lpR (F := F_slices_Equal_byte_byte) (S := fun x => S_slices_Equal_byte_byte_l0 a0 a1 x) (S' := E_slices_Equal_byte_byte_l0 a0 a1) (t_slices_Equal_byte_byte_l0 a0 a1 x0) (fun x => f x) (fun x r h => IH x r h) (by kernel_rfl) (by kernel_rfl)
theorem nl_slices_Equal_byte_byte : ∀ v, (en_slices_Equal_byte_byte v).noLst := fun _ => trivial
noncomputable def t_slices_Equal_byte_byte (a0 : List Int) (a1 : List Int) : Tr F_slices_Equal_byte_byte Empty Bool :=
 .len 8 eY a0 <| .len 1 eY a1 <| .iteN 2 10 ((a0.length : Int) = (a1.length : Int))
 (.ret 7 false)
 (.len 6 eY a0 <| .loopR 4 id ⟨_, _, _, _, _, ok_slices_Equal_byte_byte_l0 a0 a1 0⟩ fun j1 => .ret 6 true)
noncomputable def s_slices_Equal_byte_byte (a0 : List Int) (a1 : List Int) : Sg Try.prog Bool := ⟨132, M_slices_Equal_byte_byte a0 a1, [.lst (List.map (D.int .u8) a0), .lst (List.map (D.int .u8) a1)], en_slices_Equal_byte_byte⟩
theorem ok_slices_Equal_byte_byte (a0 : List Int) (a1 : List Int) : (s_slices_Equal_byte_byte a0 a1).Holds := Tr.fn (F := F_slices_Equal_byte_byte) (t_slices_Equal_byte_byte a0 a1) (by kernel_rfl) (by kernel_rfl) (by kernel_rfl) (by kernel_rfl)
/-- thrum/crc.Open. -/
def en_crc_Open (v : (List Int) × Int) : PV := .tup [sY (.s 0) v.1, nI v.2]
noncomputable abbrev F_crc_Open : Fe := .of Try.prog 97 en_crc_Open
theorem nl_crc_Open : ∀ v, (en_crc_Open v).noLst := fun _ => ⟨(flat_map_of fun _ => trivial), trivial, trivial⟩
noncomputable def t_crc_Open (a0 : List Int) : Tr F_crc_Open Empty ((List Int) × Int) :=
 .len 8 eY a0 <| .len 8 eY a0 <| .ite 3 10 ((a0.length : Int) > 65536)
 (.ret 9 ([], 3))
 (.ite 7 14 ((IntKind.i64.wrap ((a0.length : Int) - 4)) < 0)
 (.ret 9 ([], 5))
 (.cut 8 eY a0 none (some (IntKind.i64.wrap ((a0.length : Int) - 4))) <| .let_ (cut' a0 none (some (IntKind.i64.wrap ((a0.length : Int) - 4))) : List Int) fun y1 => .call 0 (ok_crc_Seal y1) nl_crc_Seal fun r3 => .join 11 5 (γ := Bool) ⟨fun x => [(31, bB x)], [4, 0], fun _ => [], []⟩
 (.iteN 0 26 (r3.2 = 0)
 (.ret 6 true)
 (.call 2 (ok_slices_Equal_byte_byte r3.1 a0) nl_slices_Equal_byte_byte fun r4 => .ret 3 (!r4)))
 fun j5 => .iteB 1 31 (j5)
 (.ret 8 ([], 7))
 (.cut 6 eY a0 none (some (IntKind.i64.wrap ((a0.length : Int) - 4))) <| .let_ (cut' a0 none (some (IntKind.i64.wrap ((a0.length : Int) - 4))) : List Int) fun y6 => .call 0 (ok_slices_Clone_byte_byte y6) nl_slices_Clone_byte_byte fun r8 => .ret 4 (r8, 0))))
noncomputable def s_crc_Open (a0 : List Int) : Sg Try.prog ((List Int) × Int) := ⟨97, M_crc_Open a0, [.lst (List.map (D.int .u8) a0)], en_crc_Open⟩
theorem ok_crc_Open (a0 : List Int) : (s_crc_Open a0).Holds := Tr.fn (F := F_crc_Open) (t_crc_Open a0) (by kernel_rfl) (by kernel_rfl) (by kernel_rfl) (by kernel_rfl)
/-- thrum/leb.Get. -/
def en_leb_Get (v : Int × Int × Int) : PV := .tup [nU v.1, nI v.2.1, nI v.2.2]
noncomputable abbrev F_leb_Get : Fe := .of Try.prog 106 en_leb_Get
def S_leb_Get_l0 (a1 : Int) (y1 : List Int) (x0 : Int) (x1 : Int) : St := ⟨[(19, nI x0), (18, nI (y1.length : Int)), (17, lY y1), (4, nU x1), (1, nI a1)], []⟩
def E_leb_Get_l0 (a1 : Int) (y1 : List Int) (x : Unit) : St := ⟨[], []⟩
noncomputable def t_leb_Get_l0 (a1 : Int) (y1 : List Int) (x0 : Int) (x1 : Int) : Tr F_leb_Get (Int × Int) (Sum (Int × Int × Int) Unit) :=
 .ite 6 20 (x0 < (y1.length : Int))
 (.idx 7 eY y1 x0 <| .join 18 3 (γ := Bool) ⟨fun x => [(32, bB x)], [9, 8, 7, 19, 18, 17, 4, 1], fun _ => [], []⟩
 (.ite 0 29 (x0 = 9)
 (.ret 4 (decide ((at' y1 x0) > 1)))
 (.ret 4 false))
 fun j3 => .join 2 0 (γ := Bool) ⟨fun x => [(26, bB x)], [9, 8, 7, 19, 18, 17, 4, 1], fun _ => [], []⟩
 (.iteB 0 26 (j3)
 (.ret 2 true)
 (.join 4 3 (γ := Bool) ⟨fun x => [(37, bB x)], [9, 8, 7, 19, 18, 17, 4, 1], fun _ => [], []⟩
 (.ite 0 34 ((at' y1 x0) < 128)
 (.ret 4 ((at' y1 x0) == 0))
 (.ret 4 false))
 fun j4 => .join 1 3 (γ := Bool) ⟨fun x => [(41, bB x)], [9, 8, 7, 19, 18, 17, 4, 1], fun _ => [], []⟩
 (.iteB 0 38 (j4)
 (.ret 4 (decide (x0 > 0)))
 (.ret 4 false))
 fun j5 => .ret 2 j5))
 fun j6 => .iteB 0 26 (j6)
 (.ret 13 (.inl (0, 0, 6)))
 (.rd 11 (0 ≤ IntKind.i64.wrap (7 * x0)) (nU (sShl .u64 (IntKind.u64.wrap (bAnd .u8 (at' y1 x0) 127)) (IntKind.i64.wrap (7 * x0)))) <| .let_ (bOr .u64 x1 (sShl .u64 (IntKind.u64.wrap (bAnd .u8 (at' y1 x0) 127)) (IntKind.i64.wrap (7 * x0))) : Int) fun y7 => .ite 7 50 ((at' y1 x0) < 128)
 (.ret 16 (.inl (y7, IntKind.i64.wrap ((IntKind.i64.wrap (a1 + x0)) + 1), 0)))
 (.again 7 (IntKind.i64.wrap (x0 + 1), y7))))
 (.ret 4 (.inr ()))
theorem ok_leb_Get_l0 (a1 : Int) (y1 : List Int) (x0 : Int) (x1 : Int) : Ok (M_leb_Get_l0 a1 y1 x0 x1) fun v => go Try.prog F_leb_Get.N (PostR (fun r => Fnl F_leb_Get.res (F_leb_Get.en r) (F_leb_Get.bx r)) (.exit 0) (E_leb_Get_l0 a1 y1) v) [.l (lpA Try.prog 106 0)] .norm (S_leb_Get_l0 a1 y1 x0 x1) := by
 refine M_leb_Get_l0.partial_correctness a1 y1 (fun x0 x1 v => go Try.prog F_leb_Get.N (PostR (fun r => Fnl F_leb_Get.res (F_leb_Get.en r) (F_leb_Get.bx r)) (.exit 0) (E_leb_Get_l0 a1 y1) v) [.l (lpA Try.prog 106 0)] .norm (S_leb_Get_l0 a1 y1 x0 x1)) ?_ x0 x1
 clear x0 x1
 intro f IH x0 x1
 exact Tr.lpR (F := F_leb_Get) (S := fun x => S_leb_Get_l0 a1 y1 x.1 x.2) (S' := E_leb_Get_l0 a1 y1) (t_leb_Get_l0 a1 y1 x0 x1) (fun x => f x.1 x.2) (fun x r h => IH x.1 x.2 r h) (by kernel_rfl) (by kernel_rfl)
theorem nl_leb_Get : ∀ v, (en_leb_Get v).noLst := fun _ => ⟨trivial, trivial, trivial, trivial⟩
noncomputable def t_leb_Get (a0 : List Int) (a1 : Int) : Tr F_leb_Get Empty (Int × Int × Int) :=
 .ite 12 11 (a1 < 0)
 (.ret 9 (0, 0, 1))
 (.len 8 eY a0 <| .cut 1 eY a0 (some (if (a0.length : Int) < a1 then (a0.length : Int) else a1)) none <| .let_ (cut' a0 (some (if (a0.length : Int) < a1 then (a0.length : Int) else a1)) none : List Int) fun y1 => .len 0 eY y1 <| .loopR 4 id ⟨_, _, _, _, _, ok_leb_Get_l0 a1 y1 0 0⟩ fun j9 => .ret 8 (0, 0, 5))
noncomputable def s_leb_Get (a0 : List Int) (a1 : Int) : Sg Try.prog (Int × Int × Int) := ⟨106, M_leb_Get a0 a1, [.lst (List.map (D.int .u8) a0), .int .i64 a1], en_leb_Get⟩
theorem ok_leb_Get (a0 : List Int) (a1 : Int) : (s_leb_Get a0 a1).Holds := Tr.fn (F := F_leb_Get) (t_leb_Get a0 a1) (by kernel_rfl) (by kernel_rfl) (by kernel_rfl) (by kernel_rfl)
/-- thrum/leb.Many. -/
def en_leb_Many (v : (List Int) × Int × Int) : PV := .tup [sU (.s 0) v.1, nI v.2.1, nI v.2.2]
noncomputable abbrev F_leb_Many : Fe := .of Try.prog 98 en_leb_Many
def S_leb_Many_l0 (a0 : List Int) (a2 : Int) (x0 : List Int) (x1 : Int) : St := ⟨[(9, sU (.h 0) x0), (0, lY a0), (1, nI x1), (2, nI a2)], []⟩
def E_leb_Many_l0 (a0 : List Int) (a2 : Int) (x : (List Int) × Int) : St := ⟨[(9, sU (.h 1) x.1), (1, nI x.2)], []⟩
noncomputable def t_leb_Many_l0 (a0 : List Int) (a2 : Int) (x0 : List Int) (x1 : Int) : Tr F_leb_Many ((List Int) × Int) (Sum ((List Int) × Int × Int) ((List Int) × Int)) :=
 .len 5 eU x0 <| .ite 3 18 ((x0.length : Int) < a2)
 (.call 7 (ok_leb_Get a0 x1) nl_leb_Get fun r1 => .iteN 14 27 (r1.2.2 = 0)
 (.ret 12 (.inl ([], 0, r1.2.2)))
 (.app 6 eU 8 x0 [r1.1] <| .again 5 (x0 ++ [r1.1], r1.2.1)))
 (.ret 4 (.inr (x0, x1)))
theorem ok_leb_Many_l0 (a0 : List Int) (a2 : Int) (x0 : List Int) (x1 : Int) : Ok (M_leb_Many_l0 a0 a2 x0 x1) fun v => go Try.prog F_leb_Many.N (PostR (fun r => Fnl F_leb_Many.res (F_leb_Many.en r) (F_leb_Many.bx r)) (.exit 0) (E_leb_Many_l0 a0 a2) v) [.l (lpA Try.prog 98 0)] .norm (S_leb_Many_l0 a0 a2 x0 x1) := by
 refine M_leb_Many_l0.partial_correctness a0 a2 (fun x0 x1 v => go Try.prog F_leb_Many.N (PostR (fun r => Fnl F_leb_Many.res (F_leb_Many.en r) (F_leb_Many.bx r)) (.exit 0) (E_leb_Many_l0 a0 a2) v) [.l (lpA Try.prog 98 0)] .norm (S_leb_Many_l0 a0 a2 x0 x1)) ?_ x0 x1
 clear x0 x1
 intro f IH x0 x1
 exact Tr.lpR (F := F_leb_Many) (S := fun x => S_leb_Many_l0 a0 a2 x.1 x.2) (S' := E_leb_Many_l0 a0 a2) (t_leb_Many_l0 a0 a2 x0 x1) (fun x => f x.1 x.2) (fun x r h => IH x.1 x.2 r h) (by kernel_rfl) (by kernel_rfl)
theorem nl_leb_Many : ∀ v, (en_leb_Many v).noLst := fun _ => ⟨(flat_map_of fun _ => trivial), trivial, trivial, trivial⟩
noncomputable def t_leb_Many (a0 : List Int) (a1 : Int) (a2 : Int) : Tr F_leb_Many Empty ((List Int) × Int × Int) :=
 .ite 12 14 (a2 < 0)
 (.ret 9 ([], 0, 1))
 (.loopR 9 id ⟨_, _, _, _, _, ok_leb_Many_l0 a0 a2 [] a1⟩ fun j2 => .ret 10 (j2.1, j2.2, 0))
noncomputable def s_leb_Many (a0 : List Int) (a1 : Int) (a2 : Int) : Sg Try.prog ((List Int) × Int × Int) := ⟨98, M_leb_Many a0 a1 a2, [.lst (List.map (D.int .u8) a0), .int .i64 a1, .int .i64 a2], en_leb_Many⟩
theorem ok_leb_Many (a0 : List Int) (a1 : Int) (a2 : Int) : (s_leb_Many a0 a1 a2).Holds := Tr.fn (F := F_leb_Many) (t_leb_Many a0 a1 a2) (by kernel_rfl) (by kernel_rfl) (by kernel_rfl) (by kernel_rfl)
/-- thrum/store.half. -/
def en_store_half (v : (List (List Int))) : PV := .d (.lst (List.map (enL (D.int .u8)) v))
noncomputable abbrev F_store_half : Fe := .of Try.prog 64 en_store_half
noncomputable def t_store_half (a0 : T_api_Store) (a1 : Int) : Tr F_store_half Empty (List (List Int)) :=
 .len 9 (eL eY) a0.F_Cells <| .let_ (IntKind.i64.wrap (2 + (IntKind.i64.wrap (a1 * (IntKind.i64.wrap (Int.tdiv (IntKind.i64.wrap ((a0.F_Cells.length : Int) - 2)) 2))))) : Int) fun y1 => .let_ (IntKind.i64.wrap (y1 + (IntKind.i64.wrap (Int.tdiv (IntKind.i64.wrap ((a0.F_Cells.length : Int) - 2)) 2))) : Int) fun y3 => .cut 18 (eL eY) a0.F_Cells (some y1) (some y3) <| .ret 3 (cut' a0.F_Cells (some y1) (some y3))
noncomputable def s_store_half (a0 : T_api_Store) (a1 : Int) : Sg Try.prog (List (List Int)) := ⟨64, M_store_half a0 a1, [.agg [.lst (List.map (enL (D.int .u8)) a0.F_Cells)], .int .i64 a1], en_store_half⟩
theorem ok_store_half (a0 : T_api_Store) (a1 : Int) : (s_store_half a0 a1).Holds := Tr.fn (F := F_store_half) (t_store_half a0 a1) (by kernel_rfl) (by kernel_rfl) (by kernel_rfl) (by kernel_rfl)
/-- thrum/store.kept. -/
def en_store_kept (v : (List Int) × Int) : PV := .tup [sY (.s 0) v.1, nI v.2]
noncomputable abbrev F_store_kept : Fe := .of Try.prog 69 en_store_kept
def S_store_kept_l0 (r2 : (List Int) × Int × Int) (x0 : Int) (x1 : List Int) (x2 : List (List Int)) : St := ⟨[(12, nI x0), (11, sY (.h 0) x1), (10, .d (.lst (List.map (enL (D.int .u8)) x2))), (8, sU (.s 6416) r2.1)], []⟩
def E_store_kept_l0 (r2 : (List Int) × Int × Int) (x : (List Int)) : St := ⟨[(11, sY (.h 1) x), (8, sU (.s 6416) r2.1)], []⟩
noncomputable def t_store_kept_l0 (r2 : (List Int) × Int × Int) (x0 : Int) (x1 : List Int) (x2 : List (List Int)) : Tr F_store_kept (Int × (List Int) × (List (List Int))) (Sum ((List Int) × Int) (List Int)) :=
 .ite 7 71 (x0 > 0)
 (.idx 8 (eL eY) x2 0 <| .len 1 eY (at' x2 0) <| .iteN 4 80 (((at' x2 0).length : Int) = (if (256 : Int) < x0 then 256 else x0))
 (.ret 11 (.inl ([], 0)))
 (.idx 6 (eL eY) x2 0 <| .app 1 eY 1 x1 (at' x2 0) <| .idx 5 (eL eY) x2 0 <| .len 1 eY (at' x2 0) <| .cut 6 (eL eY) x2 (some 1) none <| .again 2 (IntKind.i64.wrap (x0 - ((at' x2 0).length : Int)), x1 ++ (at' x2 0), cut' x2 (some 1) none)))
 (.ret 4 (.inr x1))
theorem ok_store_kept_l0 (r2 : (List Int) × Int × Int) (x0 : Int) (x1 : List Int) (x2 : List (List Int)) : Ok (M_store_kept_l0 r2 x0 x1 x2) fun v => go Try.prog F_store_kept.N (PostR (fun r => Fnl F_store_kept.res (F_store_kept.en r) (F_store_kept.bx r)) (.exit 0) (E_store_kept_l0 r2) v) [.l (lpA Try.prog 69 0)] .norm (S_store_kept_l0 r2 x0 x1 x2) := by
 refine M_store_kept_l0.partial_correctness r2 (fun x0 x1 x2 v => go Try.prog F_store_kept.N (PostR (fun r => Fnl F_store_kept.res (F_store_kept.en r) (F_store_kept.bx r)) (.exit 0) (E_store_kept_l0 r2) v) [.l (lpA Try.prog 69 0)] .norm (S_store_kept_l0 r2 x0 x1 x2)) ?_ x0 x1 x2
 clear x0 x1 x2
 intro f IH x0 x1 x2
 exact Tr.lpR (F := F_store_kept) (S := fun x => S_store_kept_l0 r2 x.1 x.2.1 x.2.2) (S' := E_store_kept_l0 r2) (t_store_kept_l0 r2 x0 x1 x2) (fun x => f x.1 x.2.1 x.2.2) (fun x r h => IH x.1 x.2.1 x.2.2 r h) (by kernel_rfl) (by kernel_rfl)
theorem nl_store_kept : ∀ v, (en_store_kept v).noLst := fun _ => ⟨(flat_map_of fun _ => trivial), trivial, trivial⟩
noncomputable def t_store_kept (a0 : T_api_Store) (a1 : Int) : Tr F_store_kept Empty ((List Int) × Int) :=
 .idx 11 (eL eY) a0.F_Cells a1 <| .call 1 (ok_crc_Open (at' a0.F_Cells a1)) nl_crc_Open fun r1 => .iteN 12 23 (r1.2 = 0)
 (.ret 8 ([], 0))
 (.call 5 (ok_leb_Many r1.1 0 2) nl_leb_Many fun r2 => .callZ 12 (ok_store_half a0 a1) fun r3 => .join 8 5 (γ := Bool) ⟨fun x => [(40, bB x)], [10, 8, 1], fun _ => [], []⟩
 (.iteN 0 35 (r2.2.2 = 0)
 (.ret 6 true)
 (.len 2 eY r1.1 <| .ret 3 (decide (r2.2.1 < (r1.1.length : Int)))))
 fun j4 => .join 1 5 (γ := Bool) ⟨fun x => [(46, bB x)], [10, 8, 1], fun _ => [], []⟩
 (.iteB 0 41 (j4)
 (.ret 6 true)
 (.idx 1 eU r2.1 0 <| .ret 4 (decide ((at' r2.1 0) > 1073741824))))
 fun j5 => .join 1 8 (γ := Bool) ⟨fun x => [(55, bB x)], [10, 8], fun _ => [], []⟩
 (.iteB 0 47 (j5)
 (.ret 9 true)
 (.idx 1 eU r2.1 0 <| .ret 7 ((bAnd .u64 (at' r2.1 0) 1) != (IntKind.u64.wrap a1))))
 fun j6 => .join 1 9 (γ := Bool) ⟨fun x => [(65, bB x)], [10, 8], fun _ => [], []⟩
 (.iteB 0 56 (j6)
 (.ret 10 true)
 (.idx 1 eU r2.1 1 <| .len 2 (eL eY) r3 <| .ret 5 (decide ((at' r2.1 1) > (IntKind.u64.wrap (IntKind.i64.wrap ((r3.length : Int) * 256)))))))
 fun j7 => .iteB 1 65 (j7)
 (.ret 8 ([], 0))
 (.idx 10 eU r2.1 1 <| .loopR 6 id ⟨_, _, _, _, _, ok_store_kept_l0 r2 (IntKind.i64.wrap (at' r2.1 1)) [] r3⟩ fun j8 => .idx 5 eU r2.1 0 <| .ret 6 (j8, IntKind.i64.wrap (at' r2.1 0))))
noncomputable def s_store_kept (a0 : T_api_Store) (a1 : Int) : Sg Try.prog ((List Int) × Int) := ⟨69, M_store_kept a0 a1, [.agg [.lst (List.map (enL (D.int .u8)) a0.F_Cells)], .int .i64 a1], en_store_kept⟩
theorem ok_store_kept (a0 : T_api_Store) (a1 : Int) : (s_store_kept a0 a1).Holds := Tr.fn (F := F_store_kept) (t_store_kept a0 a1) (by kernel_rfl) (by kernel_rfl) (by kernel_rfl) (by kernel_rfl)
/-- thrum/store.Load. -/
def en_store_Load (v : (List Int) × Int × Int) : PV := .tup [sY (.s 0) v.1, nI v.2.1, nI v.2.2]
noncomputable abbrev F_store_Load : Fe := .of Try.prog 25 en_store_Load
theorem nl_store_Load : ∀ v, (en_store_Load v).noLst := fun _ => ⟨(flat_map_of fun _ => trivial), trivial, trivial, trivial⟩
noncomputable def t_store_Load (a0 : T_api_Store) : Tr F_store_Load Empty ((List Int) × Int × Int) :=
 .call 11 (ok_store_Check a0) nl_store_Check fun r1 => .iteN 7 13 (r1 = 0)
 (.ret 10 ([], 0, r1))
 (.call 5 (ok_store_kept a0 0) nl_store_kept fun r2 => .call 10 (ok_store_kept a0 1) nl_store_kept fun r3 => .ite 12 27 (r3.2 > r2.2)
 (.ite 13 31 (r3.2 = 0)
 (.ret 9 ([], 0, 8))
 (.ret 11 (r3.1, r3.2, 0)))
 (.ite 8 31 (r2.2 = 0)
 (.ret 9 ([], 0, 8))
 (.ret 11 (r2.1, r2.2, 0))))
noncomputable def s_store_Load (a0 : T_api_Store) : Sg Try.prog ((List Int) × Int × Int) := ⟨25, M_store_Load a0, [.agg [.lst (List.map (enL (D.int .u8)) a0.F_Cells)]], en_store_Load⟩
theorem ok_store_Load (a0 : T_api_Store) : (s_store_Load a0).Holds := Tr.fn (F := F_store_Load) (t_store_Load a0) (by kernel_rfl) (by kernel_rfl) (by kernel_rfl) (by kernel_rfl)
/-- slices.Chunk[[]byte,byte]. -/
def en_slices_Chunk_byte_byte (v : (List Int) × Int) : PV := .d (.clo (.func 94) [] [.cp [.lst (List.map (D.int .u8) v.1)] 0, .cp [.int .i64 v.2] 0])
noncomputable abbrev F_slices_Chunk_byte_byte : Fe := .of Try.prog 65 en_slices_Chunk_byte_byte
noncomputable def t_slices_Chunk_byte_byte (a0 : List Int) (a1 : Int) : Tr F_slices_Chunk_byte_byte Empty ((List Int) × Int) :=
 .ite 12 6 (a1 < 1)
 (.halt)
 (.box 8 (.s 15) [.lst (List.map (D.int .u8) a0)] <| .box 0 (.s 31) [.int .i64 a1] <| .ret 0 (a0, a1))
noncomputable def s_slices_Chunk_byte_byte (a0 : List Int) (a1 : Int) : Sg Try.prog ((List Int) × Int) := ⟨65, M_slices_Chunk_byte_byte a0 a1, [.lst (List.map (D.int .u8) a0), .int .i64 a1], en_slices_Chunk_byte_byte⟩
theorem ok_slices_Chunk_byte_byte (a0 : List Int) (a1 : Int) : (s_slices_Chunk_byte_byte a0 a1).Holds := Tr.fn (F := F_slices_Chunk_byte_byte) (t_slices_Chunk_byte_byte a0 a1) (by kernel_rfl) (by kernel_rfl) (by kernel_rfl) (by kernel_rfl)
/-- thrum/leb.put. -/
def en_leb_put (v : (List Int)) : PV := sY (.s 0) v
def bx_leb_put (v : (List Int)) : List (Tg × List PV) := []
noncomputable abbrev F_leb_put : Fe := .of Try.prog 96 en_leb_put bx_leb_put
def S_leb_put_l0 (x0 : List Int) (x1 : Int) : St := ⟨[(0, sY (.h 1) x0), (1, nU x1)], []⟩
def E_leb_put_l0 (x : (List Int) × Int) : St := ⟨[(0, sY (.h 2) x.1), (1, nU x.2)], []⟩
noncomputable def t_leb_put_l0 (x0 : List Int) (x1 : Int) : Tr F_leb_put ((List Int) × Int) ((List Int) × Int) :=
 .ite 7 6 (x1 > 127)
 (.app 10 eY 1 x0 [bOr .u8 (IntKind.u8.wrap x1) 128] <| .let_ (x0 ++ [bOr .u8 (IntKind.u8.wrap x1) 128] : List Int) fun y1 => .again 8 (y1, sShr .u64 x1 7))
 (.ret 4 (x0, x1))
theorem ok_leb_put_l0 (x0 : List Int) (x1 : Int) : Ok (M_leb_put_l0 x0 x1) fun v => go Try.prog F_leb_put.N (PostN (.exit 0) (E_leb_put_l0) v) [.l (lpA Try.prog 96 0)] .norm (S_leb_put_l0 x0 x1) := by
 refine M_leb_put_l0.partial_correctness (fun x0 x1 v => go Try.prog F_leb_put.N (PostN (.exit 0) (E_leb_put_l0) v) [.l (lpA Try.prog 96 0)] .norm (S_leb_put_l0 x0 x1)) ?_ x0 x1
 clear x0 x1
 intro f IH x0 x1
 exact Tr.lpN (F := F_leb_put) (S := fun x => S_leb_put_l0 x.1 x.2) (S' := E_leb_put_l0) (t_leb_put_l0 x0 x1) (fun x => f x.1 x.2) (fun x r h => IH x.1 x.2 r h) (by kernel_rfl) (by kernel_rfl)
theorem nl_leb_put : ∀ v, (en_leb_put v).noLst := fun _ => (flat_map_of fun _ => trivial)
theorem nlB_leb_put : ∀ v, noLstB (bx_leb_put v) := fun _ => trivial
noncomputable def t_leb_put (a0 : List Int) (a1 : Int) : Tr F_leb_put Empty (List Int) :=
 .loop 7 ⟨_, _, _, _, _, ok_leb_put_l0 a0 a1⟩ fun j3 => .app 7 eY 1 j3.1 [IntKind.u8.wrap j3.2] <| .ret 3 (j3.1 ++ [IntKind.u8.wrap j3.2])
noncomputable def s_leb_put (a0 : List Int) (a1 : Int) : SgG Try.prog (List Int) := ⟨96, M_leb_put a0 a1, [sY (.h 0) a0, nU a1], [], en_leb_put, bx_leb_put⟩
theorem ok_leb_put (a0 : List Int) (a1 : Int) : (s_leb_put a0 a1).Holds := Tr.fnG (F := F_leb_put) (t_leb_put a0 a1) (by kernel_rfl) (by kernel_rfl) (by kernel_rfl) (by kernel_rfl)
/-- thrum/leb.Put. -/
def en_leb_Put (v : (List Int)) : PV := sY (.s 0) v
noncomputable abbrev F_leb_Put : Fe := .of Try.prog 68 en_leb_Put
def S_leb_Put_l0 (a1 : List Int) (x0 : Int) (x1 : List Int) : St := ⟨[(11, nI x0), (10, nI (a1.length : Int)), (9, lU a1), (0, sY (.h 0) x1)], []⟩
def E_leb_Put_l0 (a1 : List Int) (x : (List Int)) : St := ⟨[(0, sY (.h 1) x)], []⟩
noncomputable def t_leb_Put_l0 (a1 : List Int) (x0 : Int) (x1 : List Int) : Tr F_leb_Put (Int × (List Int)) (List Int) :=
 .ite 6 12 (x0 < (a1.length : Int))
 (.idx 6 eU a1 x0 <| .callB 6 [(.h 0, .h 0)] (ok_leb_put x1 (at' a1 x0)) nl_leb_put nlB_leb_put fun r2 => .again 7 (IntKind.i64.wrap (x0 + 1), r2))
 (.ret 4 x1)
theorem ok_leb_Put_l0 (a1 : List Int) (x0 : Int) (x1 : List Int) : Ok (M_leb_Put_l0 a1 x0 x1) fun v => go Try.prog F_leb_Put.N (PostN (.exit 0) (E_leb_Put_l0 a1) v) [.l (lpA Try.prog 68 0)] .norm (S_leb_Put_l0 a1 x0 x1) := by
 refine M_leb_Put_l0.partial_correctness a1 (fun x0 x1 v => go Try.prog F_leb_Put.N (PostN (.exit 0) (E_leb_Put_l0 a1) v) [.l (lpA Try.prog 68 0)] .norm (S_leb_Put_l0 a1 x0 x1)) ?_ x0 x1
 clear x0 x1
 intro f IH x0 x1
 exact Tr.lpN (F := F_leb_Put) (S := fun x => S_leb_Put_l0 a1 x.1 x.2) (S' := E_leb_Put_l0 a1) (t_leb_Put_l0 a1 x0 x1) (fun x => f x.1 x.2) (fun x r h => IH x.1 x.2 r h) (by kernel_rfl) (by kernel_rfl)
theorem nl_leb_Put : ∀ v, (en_leb_Put v).noLst := fun _ => (flat_map_of fun _ => trivial)
noncomputable def t_leb_Put (a0 : List Int) (a1 : List Int) : Tr F_leb_Put Empty (List Int) :=
 .call 7 (ok_slices_Clone_byte_byte a0) nl_slices_Clone_byte_byte fun r1 => .len 6 eU a1 <| .loop 4 ⟨_, _, _, _, _, ok_leb_Put_l0 a1 0 r1⟩ fun j3 => .ret 7 j3
noncomputable def s_leb_Put (a0 : List Int) (a1 : List Int) : Sg Try.prog (List Int) := ⟨68, M_leb_Put a0 a1, [.lst (List.map (D.int .u8) a0), .lst (List.map (D.int .u64) a1)], en_leb_Put⟩
theorem ok_leb_Put (a0 : List Int) (a1 : List Int) : (s_leb_Put a0 a1).Holds := Tr.fn (F := F_leb_Put) (t_leb_Put a0 a1) (by kernel_rfl) (by kernel_rfl) (by kernel_rfl) (by kernel_rfl)
/-- thrum/store.Plan. -/
def en_store_Plan (v : (List T_api_Put) × Int) : PV := .tup [.sl (.s 0) 2 0 (List.map T_api_Put.en v.1), nI v.2]
noncomputable abbrev F_store_Plan : Fe := .of Try.prog 24 en_store_Plan
noncomputable def t_store_Plan (a0 : T_api_Store) (a1 : List Int) : Tr F_store_Plan Empty ((List T_api_Put) × Int) :=
 .call 9 (ok_store_Load a0) nl_store_Load fun r1 => .join 14 3 (γ := Bool) ⟨fun x => [(25, bB x)], [8, 7, 2, 1], fun _ => [], [.s 15]⟩
 (.iteN 0 22 (r1.2.2 = 0)
 (.ret 4 (r1.2.2 != 8))
 (.ret 4 false))
 fun j2 => .iteB 1 25 (j2)
 (.ret 9 ([], r1.2.2))
 (.callZ 19 (ok_store_half a0 (bAnd .i64 (IntKind.i64.wrap (r1.2.1 + 1)) 1)) fun r3 => .len 0 (eL eY) r3 <| .len 8 eY a1 <| .ite 5 35 ((a1.length : Int) > (IntKind.i64.wrap ((r3.length : Int) * 256)))
 (.ret 9 ([], 3))
 (.ite 7 41 ((IntKind.i64.wrap (r1.2.1 + 1)) > 1073741824)
 (.ret 9 ([], 1))
 (.callZ 11 (ok_slices_Chunk_byte_byte a1 256) fun r4 => .rng 2 eY r4.1 r4.2 chunkOK_94 ⟨fun _ => [], [11, 10, 9, 7, 1], fun x_5 => [(.s 17615, [.sl (.h 0) 2 0 (List.map T_api_Put.en x_5)])], [.s 9679, .s 8047]⟩ []
 (fun (x_5 : (List T_api_Put)) c_6 => .len 6 T_api_Put.e x_5 <| .call 2 (ok_slices_Clone_byte_byte c_6) nl_slices_Clone_byte_byte fun r7 => .hold 1 [.c, .c, .c, .c, .c, .c, .len T_api_Put.e.f x_5, .c] <| .hold 3 [] <| .app 0 T_api_Put.e 32 x_5 [(⟨IntKind.i64.wrap ((IntKind.i64.wrap (2 + (IntKind.i64.wrap ((bAnd .i64 (IntKind.i64.wrap (r1.2.1 + 1)) 1) * (r3.length : Int))))) + (x_5.length : Int)), r7⟩ : T_api_Put)] <| .ret 3 (x_5 ++ [(⟨IntKind.i64.wrap ((IntKind.i64.wrap (2 + (IntKind.i64.wrap ((bAnd .i64 (IntKind.i64.wrap (r1.2.1 + 1)) 1) * (r3.length : Int))))) + (x_5.length : Int)), r7⟩ : T_api_Put)]))
 fun j8 => .len 6 eY a1 <| .call 2 (ok_leb_Put [] [IntKind.u64.wrap (IntKind.i64.wrap (r1.2.1 + 1)), IntKind.u64.wrap (a1.length : Int)]) nl_leb_Put fun r9 => .call 0 (ok_crc_Seal r9) nl_crc_Seal fun r10 => .iteN 12 72 (r10.2 = 0)
 (.ret 9 ([], r10.2))
 (.app 9 T_api_Put.e 32 j8 [(⟨bAnd .i64 (IntKind.i64.wrap (r1.2.1 + 1)) 1, r10.1⟩ : T_api_Put)] <| .ret 4 (j8 ++ [(⟨bAnd .i64 (IntKind.i64.wrap (r1.2.1 + 1)) 1, r10.1⟩ : T_api_Put)], 0)))))
noncomputable def s_store_Plan (a0 : T_api_Store) (a1 : List Int) : Sg Try.prog ((List T_api_Put) × Int) := ⟨24, M_store_Plan a0 a1, [.agg [.lst (List.map (enL (D.int .u8)) a0.F_Cells)], .lst (List.map (D.int .u8) a1)], en_store_Plan⟩
theorem ok_store_Plan (a0 : T_api_Store) (a1 : List Int) : (s_store_Plan a0 a1).Holds := Tr.fn (F := F_store_Plan) (t_store_Plan a0 a1) (by kernel_rfl) (by kernel_rfl) (by kernel_rfl) (by kernel_rfl)
/-- thrum/store.Do. -/
def en_store_Do (v : (List (List Int)) × Int) : PV := .tup [.d (.agg [.lst (List.map (enL (D.int .u8)) v.1)]), nI v.2]
noncomputable abbrev F_store_Do : Fe := .of Try.prog 27 en_store_Do
def S_store_Do_l0 (y9 : List (List Int)) (x0 : Int) (x1 : List (List Int)) : St := ⟨[(52, nI x0), (51, nI (y9.length : Int)), (50, .sl (.h 0) 1 0 (List.map (enL (D.int .u8)) x1)), (6, .ptr (.s 4895) 0), (4, .ptr (.s 47) 0)], [(.s 4895, [.sl (.h 0) 1 0 (List.map (enL (D.int .u8)) x1)]), (.s 47, [.nils])]⟩
def E_store_Do_l0 (y9 : List (List Int)) (x : (List (List Int))) : St := ⟨[(6, .ptr (.s 4895) 0), (4, .ptr (.s 47) 0)], [(.s 4895, [.sl (.h 1) 1 0 (List.map (enL (D.int .u8)) x)]), (.s 47, [.nils])]⟩
noncomputable def t_store_Do_l0 (y9 : List (List Int)) (x0 : Int) (x1 : List (List Int)) : Tr F_store_Do (Int × (List (List Int))) (List (List Int)) :=
 .ite 6 53 (x0 < (y9.length : Int))
 (.idx 7 (eL eY) x1 x0 <| .call 9 (ok_slices_Clone_byte_byte (at' x1 x0)) nl_slices_Clone_byte_byte fun r11 => .hold 1 [] <| .idx 0 (eL eY) x1 x0 <| .sto 0 [58, 50] (eL eY) x1 x0 r11 <| .let_ (x1.set (Int.toNat x0) r11 : List (List Int)) fun y12 => .again 7 (IntKind.i64.wrap (x0 + 1), y12))
 (.ret 4 x1)
theorem ok_store_Do_l0 (y9 : List (List Int)) (x0 : Int) (x1 : List (List Int)) : Ok (M_store_Do_l0 y9 x0 x1) fun v => go Try.prog F_store_Do.N (PostN (.exit 0) (E_store_Do_l0 y9) v) [.l (lpA Try.prog 27 0)] .norm (S_store_Do_l0 y9 x0 x1) := by
 refine M_store_Do_l0.partial_correctness y9 (fun x0 x1 v => go Try.prog F_store_Do.N (PostN (.exit 0) (E_store_Do_l0 y9) v) [.l (lpA Try.prog 27 0)] .norm (S_store_Do_l0 y9 x0 x1)) ?_ x0 x1
 clear x0 x1
 intro f IH x0 x1
 exact Tr.lpN (F := F_store_Do) (S := fun x => S_store_Do_l0 y9 x.1 x.2) (S' := E_store_Do_l0 y9) (t_store_Do_l0 y9 x0 x1) (fun x => f x.1 x.2) (fun x r h => IH x.1 x.2 r h) (by kernel_rfl) (by kernel_rfl)
noncomputable def t_store_Do (a0 : T_api_Store) (a1 : T_api_Put) : Tr F_store_Do Empty ((List (List Int)) × Int) :=
 .call 11 (ok_store_Check a0) nl_store_Check fun r1 => .join 2 4 (γ := Bool) ⟨fun x => [(16, bB x)], [4, 3, 2], fun _ => [], [.s 47, .s 31, .s 15]⟩
 (.iteN 0 12 (r1 = 0)
 (.ret 5 true)
 (.ret 5 (decide (a1.F_At < 0))))
 fun j2 => .join 1 7 (γ := Bool) ⟨fun x => [(24, bB x)], [4, 3, 2], fun _ => [], [.s 47, .s 31, .s 15]⟩
 (.iteB 0 17 (j2)
 (.ret 8 true)
 (.len 4 (eL eY) a0.F_Cells <| .ret 3 (decide (a1.F_At ≥ (a0.F_Cells.length : Int)))))
 fun j3 => .join 1 5 (γ := Bool) ⟨fun x => [(30, bB x)], [4, 3, 2], fun _ => [], [.s 47, .s 31, .s 15]⟩
 (.iteB 0 25 (j3)
 (.ret 6 true)
 (.len 2 eY a1.F_B <| .ret 3 (decide ((a1.F_B.length : Int) > 256))))
 fun j4 => .iteB 1 30 (j4)
 (.ret 9 ([], 1))
 (.len 6 (eL eY) a0.F_Cells <| .mk 0 (eL eY) 24 [] (a0.F_Cells.length : Int) (a0.F_Cells.length : Int) <| .let_ (List.replicate (Int.toNat (a0.F_Cells.length : Int)) [] : List (List Int)) fun y5 => .cpy 10 [38] (eL eY) y5 a0.F_Cells <| .idx 9 (eL eY) (cpyL y5 a0.F_Cells) a1.F_At <| .let_ (at' (cpyL y5 a0.F_Cells) a1.F_At : List Int) fun y7 => .sto 0 [] (eL eY) (cpyL y5 a0.F_Cells) a1.F_At a1.F_B <| .let_ ((cpyL y5 a0.F_Cells).set (Int.toNat a1.F_At) a1.F_B : List (List Int)) fun y9 => .len 6 (eL eY) y9 <| .loop 4 ⟨_, _, _, _, _, ok_store_Do_l0 y9 0 y9⟩ fun j14 => .ret 8 (j14, 0))
noncomputable def s_store_Do (a0 : T_api_Store) (a1 : T_api_Put) : Sg Try.prog ((List (List Int)) × Int) := ⟨27, M_store_Do a0 a1, [.agg [.lst (List.map (enL (D.int .u8)) a0.F_Cells)], .agg [.int .i64 a1.F_At, .lst (List.map (D.int .u8) a1.F_B)]], en_store_Do⟩
theorem ok_store_Do (a0 : T_api_Store) (a1 : T_api_Put) : (s_store_Do a0 a1).Holds := Tr.fn (F := F_store_Do) (t_store_Do a0 a1) (by kernel_rfl) (by kernel_rfl) (by kernel_rfl) (by kernel_rfl)
/-- thrum/store.Save. -/
def en_store_Save (v : (List (List Int)) × Int) : PV := .tup [.d (.agg [.lst (List.map (enL (D.int .u8)) v.1)]), nI v.2]
noncomputable abbrev F_store_Save : Fe := .of Try.prog 30 en_store_Save
def S_store_Save_l0 (r1 : (List T_api_Put) × Int) (x0 : Int) (x1 : Int) (x2 : List (List Int)) : St := ⟨[(18, nI x0), (17, nI (r1.1.length : Int)), (16, .sl (.s 1632) 2 0 (List.map T_api_Put.en r1.1)), (7, nI x1), (4, .ptr (.s 31) 0), (2, .ptr (.s 15) 0)], [(.s 31, [.nils]), (.s 15, [.d (.lst (List.map (enL (D.int .u8)) x2))])]⟩
def E_store_Save_l0 (r1 : (List T_api_Put) × Int) (x : Int × (List (List Int))) : St := ⟨[(7, nI x.1), (4, .ptr (.s 31) 0), (2, .ptr (.s 15) 0)], [(.s 31, [.nils]), (.s 15, [.d (.lst (List.map (enL (D.int .u8)) x.2))])]⟩
noncomputable def t_store_Save_l0 (r1 : (List T_api_Put) × Int) (x0 : Int) (x1 : Int) (x2 : List (List Int)) : Tr F_store_Save (Int × Int × (List (List Int))) (Int × (List (List Int))) :=
 .ite 6 19 (x0 < (r1.1.length : Int))
 (.idx 6 T_api_Put.e r1.1 x0 <| .ite 9 23 (x1 = 0)
 (.callZ 4 (ok_store_Do (⟨x2⟩ : T_api_Store) (at' r1.1 x0)) fun r2 => .again 11 (IntKind.i64.wrap (x0 + 1), r2.2, r2.1))
 (.again 7 (IntKind.i64.wrap (x0 + 1), x1, x2)))
 (.ret 4 (x1, x2))
theorem ok_store_Save_l0 (r1 : (List T_api_Put) × Int) (x0 : Int) (x1 : Int) (x2 : List (List Int)) : Ok (M_store_Save_l0 r1 x0 x1 x2) fun v => go Try.prog F_store_Save.N (PostN (.exit 0) (E_store_Save_l0 r1) v) [.l (lpA Try.prog 30 0)] .norm (S_store_Save_l0 r1 x0 x1 x2) := by
 refine M_store_Save_l0.partial_correctness r1 (fun x0 x1 x2 v => go Try.prog F_store_Save.N (PostN (.exit 0) (E_store_Save_l0 r1) v) [.l (lpA Try.prog 30 0)] .norm (S_store_Save_l0 r1 x0 x1 x2)) ?_ x0 x1 x2
 clear x0 x1 x2
 intro f IH x0 x1 x2
 exact Tr.lpN (F := F_store_Save) (S := fun x => S_store_Save_l0 r1 x.1 x.2.1 x.2.2) (S' := E_store_Save_l0 r1) (t_store_Save_l0 r1 x0 x1 x2) (fun x => f x.1 x.2.1 x.2.2) (fun x r h => IH x.1 x.2.1 x.2.2 r h) (by kernel_rfl) (by kernel_rfl)
noncomputable def t_store_Save (a0 : T_api_Store) (a1 : List Int) : Tr F_store_Save Empty ((List (List Int)) × Int) :=
 .callZ 10 (ok_store_Plan a0 a1) fun r1 => .len 10 T_api_Put.e r1.1 <| .loop 4 ⟨_, _, _, _, _, ok_store_Save_l0 r1 0 r1.2 a0.F_Cells⟩ fun j3 => .iteN 7 32 (j3.1 = 0)
 (.ret 10 ([], j3.1))
 (.ret 9 (j3.2, 0))
noncomputable def s_store_Save (a0 : T_api_Store) (a1 : List Int) : Sg Try.prog ((List (List Int)) × Int) := ⟨30, M_store_Save a0 a1, [.agg [.lst (List.map (enL (D.int .u8)) a0.F_Cells)], .lst (List.map (D.int .u8) a1)], en_store_Save⟩
theorem ok_store_Save (a0 : T_api_Store) (a1 : List Int) : (s_store_Save a0 a1).Holds := Tr.fn (F := F_store_Save) (t_store_Save a0 a1) (by kernel_rfl) (by kernel_rfl) (by kernel_rfl) (by kernel_rfl)
/-- thrum/thrumref03.Same. -/
def en_thrumref03_Same (v : Bool) : PV := bB v
noncomputable abbrev F_thrumref03_Same : Fe := .of Try.prog 37 en_thrumref03_Same
theorem nl_thrumref03_Same : ∀ v, (en_thrumref03_Same v).noLst := fun _ => trivial
noncomputable def t_thrumref03_Same (a0 : List Int) (a1 : List Int) : Tr F_thrumref03_Same Empty Bool :=
 .convS 7 a0 <| .convS 1 a1 <| .ret 4 ((strB a0).toList == (strB a1).toList)
noncomputable def s_thrumref03_Same (a0 : List Int) (a1 : List Int) : Sg Try.prog Bool := ⟨37, M_thrumref03_Same a0 a1, [.lst (List.map (D.int .u8) a0), .lst (List.map (D.int .u8) a1)], en_thrumref03_Same⟩
theorem ok_thrumref03_Same (a0 : List Int) (a1 : List Int) : (s_thrumref03_Same a0 a1).Holds := Tr.fn (F := F_thrumref03_Same) (t_thrumref03_Same a0 a1) (by kernel_rfl) (by kernel_rfl) (by kernel_rfl) (by kernel_rfl)
/-- thrum/thrumlaw20.live. -/
def en_thrumlaw20_live (v : Bool) : PV := bB v
noncomputable abbrev F_thrumlaw20_live : Fe := .of Try.prog 22 en_thrumlaw20_live
theorem nl_thrumlaw20_live : ∀ v, (en_thrumlaw20_live v).noLst := fun _ => trivial
noncomputable def t_thrumlaw20_live : Tr F_thrumlaw20_live Empty Bool :=
 .callZ 6 (ok_store_New 1) fun r1 => .callZ 12 (ok_store_Plan (⟨r1.1⟩ : T_api_Store) [97]) fun r2 => .callZ 11 (ok_store_Save (⟨r1.1⟩ : T_api_Store) [97]) fun r3 => .call 10 (ok_store_Load (⟨r3.1⟩ : T_api_Store)) nl_store_Load fun r4 => .join 13 3 (γ := Bool) ⟨fun x => [(39, bB x)], [9, 8, 7, 6, 3], fun _ => [], []⟩
 (.ite 0 36 (r1.2 = 0)
 (.ret 4 (r2.2 == 0))
 (.ret 4 false))
 fun j5 => .join 1 4 (γ := Bool) ⟨fun x => [(44, bB x)], [9, 8, 7, 6, 3], fun _ => [], []⟩
 (.iteB 0 40 (j5)
 (.len 1 T_api_Put.e r2.1 <| .ret 3 ((r2.1.length : Int) == 2))
 (.ret 5 false))
 fun j6 => .join 1 6 (γ := Bool) ⟨fun x => [(51, bB x)], [9, 8, 7, 6, 3], fun _ => [], []⟩
 (.iteB 0 45 (j6)
 (.idx 1 T_api_Put.e r2.1 0 <| .ret 5 (((at' r2.1 0).F_At) == 3))
 (.ret 7 false))
 fun j7 => .join 1 6 (γ := Bool) ⟨fun x => [(58, bB x)], [9, 8, 7, 6], fun _ => [], []⟩
 (.iteB 0 52 (j7)
 (.idx 1 T_api_Put.e r2.1 1 <| .ret 5 (((at' r2.1 1).F_At) == 1))
 (.ret 7 false))
 fun j8 => .join 1 3 (γ := Bool) ⟨fun x => [(62, bB x)], [9, 8, 7], fun _ => [], []⟩
 (.iteB 0 59 (j8)
 (.ret 4 (r3.2 == 0))
 (.ret 4 false))
 fun j9 => .join 1 3 (γ := Bool) ⟨fun x => [(66, bB x)], [8, 7], fun _ => [], []⟩
 (.iteB 0 63 (j9)
 (.ret 4 (r4.2.2 == 0))
 (.ret 4 false))
 fun j10 => .join 1 3 (γ := Bool) ⟨fun x => [(70, bB x)], [7], fun _ => [], []⟩
 (.iteB 0 67 (j10)
 (.ret 4 (r4.2.1 == 1))
 (.ret 4 false))
 fun j11 => .join 1 5 (γ := Bool) ⟨fun x => [(76, bB x)], [], fun _ => [], []⟩
 (.iteB 0 71 (j11)
 (.call 3 (ok_thrumref03_Same r4.1 [97]) nl_thrumref03_Same fun r12 => .ret 2 r12)
 (.ret 6 false))
 fun j13 => .ret 3 j13
noncomputable def s_thrumlaw20_live : Sg Try.prog Bool := ⟨22, M_thrumlaw20_live, [], en_thrumlaw20_live⟩
theorem ok_thrumlaw20_live : s_thrumlaw20_live.Holds := Tr.fn (F := F_thrumlaw20_live) t_thrumlaw20_live (by kernel_rfl) (by kernel_rfl) (by kernel_rfl) (by kernel_rfl)
/-- thrum/thrumref20.Few. -/
def en_thrumref20_Few (v : Bool) : PV := bB v
noncomputable abbrev F_thrumref20_Few : Fe := .of Try.prog 23 en_thrumref20_Few
def S_thrumref20_Few_l0 (a0 : T_api_Store) (x0 : Int) : St := ⟨[(8, nI x0), (7, nI (a0.F_Cells.length : Int)), (6, .d (.lst (List.map (enL (D.int .u8)) a0.F_Cells))), (1, .ptr (.s 15) 0)], [(.s 15, [.d (.lst (List.map (enL (D.int .u8)) a0.F_Cells))])]⟩
def E_thrumref20_Few_l0 (a0 : T_api_Store) (x : Unit) : St := ⟨[(1, .ptr (.s 15) 0)], [(.s 15, [.d (.lst (List.map (enL (D.int .u8)) a0.F_Cells))])]⟩
noncomputable def t_thrumref20_Few_l0 (a0 : T_api_Store) (x0 : Int) : Tr F_thrumref20_Few Int (Sum Bool Unit) :=
 .ite 6 9 (x0 < (a0.F_Cells.length : Int))
 (.idx 6 (eL eY) a0.F_Cells x0 <| .len 6 eY (at' a0.F_Cells x0) <| .ite 2 14 (((at' a0.F_Cells x0).length : Int) > 600)
 (.ret 9 (.inl false))
 (.again 7 (IntKind.i64.wrap (x0 + 1))))
 (.ret 4 (.inr ()))
theorem ok_thrumref20_Few_l0 (a0 : T_api_Store) (x0 : Int) : Ok (M_thrumref20_Few_l0 a0 x0) fun v => go Try.prog F_thrumref20_Few.N (PostR (fun r => Fnl F_thrumref20_Few.res (F_thrumref20_Few.en r) (F_thrumref20_Few.bx r)) (.exit 0) (E_thrumref20_Few_l0 a0) v) [.l (lpA Try.prog 23 0)] .norm (S_thrumref20_Few_l0 a0 x0) := by
 refine M_thrumref20_Few_l0.partial_correctness a0 (fun x0 v => go Try.prog F_thrumref20_Few.N (PostR (fun r => Fnl F_thrumref20_Few.res (F_thrumref20_Few.en r) (F_thrumref20_Few.bx r)) (.exit 0) (E_thrumref20_Few_l0 a0) v) [.l (lpA Try.prog 23 0)] .norm (S_thrumref20_Few_l0 a0 x0)) ?_ x0
 clear x0
 intro f IH x0
 exact Tr.lpR (F := F_thrumref20_Few) (S := fun x => S_thrumref20_Few_l0 a0 x) (S' := E_thrumref20_Few_l0 a0) (t_thrumref20_Few_l0 a0 x0) (fun x => f x) (fun x r h => IH x r h) (by kernel_rfl) (by kernel_rfl)
theorem nl_thrumref20_Few : ∀ v, (en_thrumref20_Few v).noLst := fun _ => trivial
noncomputable def t_thrumref20_Few (a0 : T_api_Store) : Tr F_thrumref20_Few Empty Bool :=
 .len 10 (eL eY) a0.F_Cells <| .loopR 4 id ⟨_, _, _, _, _, ok_thrumref20_Few_l0 a0 0⟩ fun j1 => .len 5 (eL eY) a0.F_Cells <| .ret 4 (decide ((a0.F_Cells.length : Int) ≤ 140))
noncomputable def s_thrumref20_Few (a0 : T_api_Store) : Sg Try.prog Bool := ⟨23, M_thrumref20_Few a0, [.agg [.lst (List.map (enL (D.int .u8)) a0.F_Cells)]], en_thrumref20_Few⟩
theorem ok_thrumref20_Few (a0 : T_api_Store) : (s_thrumref20_Few a0).Holds := Tr.fn (F := F_thrumref20_Few) (t_thrumref20_Few a0) (by kernel_rfl) (by kernel_rfl) (by kernel_rfl) (by kernel_rfl)
/-- thrum/thrumlaw20.StoreKeeps. -/
def en_thrumlaw20_StoreKeeps (v : Bool) : PV := bB v
noncomputable abbrev F_thrumlaw20_StoreKeeps : Fe := .of Try.prog 4 en_thrumlaw20_StoreKeeps
def S_thrumlaw20_StoreKeeps_l0 (a0 : T_api_Store) (r1 : Bool) (r4 : (List T_api_Put) × Int) (r6 : (List Int) × Int × Int) (y7 : Int) (x0 : Int) (x1 : List (Int × Bool)) : St := ⟨[(56, nI x0), (55, nI (r4.1.length : Int)), (54, .sl (.s 9632) 2 0 (List.map T_api_Put.en r4.1)), (12, .ptr (.s 17614) 0), (11, nI y7), (10, nI r6.2.2), (9, nI r6.2.1), (6, .sl (.s 9632) 2 0 (List.map T_api_Put.en r4.1)), (5, bB r1), (2, .ptr (.s 15) 0)], [(.s 17614, [.d (.mp x1)]), (.s 15, [.d (.lst (List.map (enL (D.int .u8)) a0.F_Cells))])]⟩
def E_thrumlaw20_StoreKeeps_l0 (a0 : T_api_Store) (r1 : Bool) (r4 : (List T_api_Put) × Int) (r6 : (List Int) × Int × Int) (y7 : Int) (x : Unit) : St := ⟨[(6, .sl (.s 9632) 2 0 (List.map T_api_Put.en r4.1)), (5, bB r1)], []⟩
noncomputable def t_thrumlaw20_StoreKeeps_l0 (a0 : T_api_Store) (r1 : Bool) (r4 : (List T_api_Put) × Int) (r6 : (List Int) × Int × Int) (y7 : Int) (x0 : Int) (x1 : List (Int × Bool)) : Tr F_thrumlaw20_StoreKeeps (Int × (List (Int × Bool))) (Sum Bool Unit) :=
 .ite 6 57 (x0 < (r4.1.length : Int))
 (.idx 7 T_api_Put.e r4.1 x0 <| .join 13 4 (γ := Bool) ⟨fun x => [(69, bB x)], [13, 14, 56, 55, 54, 12, 11, 10, 9, 6, 5, 2], fun _ => [], [.s 22463, .s 17614, .s 15]⟩
 (.iteB 0 65 (getM x1 ((at' r4.1 x0).F_At))
 (.ret 5 true)
 (.ret 5 (decide (((at' r4.1 x0).F_At) < 0))))
 fun j9 => .join 1 7 (γ := Bool) ⟨fun x => [(77, bB x)], [13, 14, 56, 55, 54, 12, 11, 10, 9, 6, 5, 2], fun _ => [], [.s 22463, .s 17614, .s 15]⟩
 (.iteB 0 70 (j9)
 (.ret 8 true)
 (.len 4 (eL eY) a0.F_Cells <| .ret 3 (decide (((at' r4.1 x0).F_At) ≥ (a0.F_Cells.length : Int)))))
 fun j10 => .join 1 10 (γ := Bool) ⟨fun x => [(88, bB x)], [14, 56, 55, 54, 12, 11, 10, 9, 6, 5, 2], fun _ => [], [.s 22463, .s 17614, .s 15]⟩
 (.iteB 0 78 (j10)
 (.ret 11 true)
 (.len 2 T_api_Put.e r4.1 <| .ret 8 (!((x0 == (IntKind.i64.wrap ((r4.1.length : Int) - 1))) == (decide (((at' r4.1 x0).F_At) < 2))))))
 fun j11 => .iteB 1 88 (j11)
 (.ret 10 (.inl false))
 (.join 22 3 (γ := Bool) ⟨fun x => [(100, bB x)], [15, 14, 56, 55, 54, 12, 11, 10, 9, 6, 5, 2], fun _ => [], [.s 17614, .s 22463, .s 15]⟩
 (.ite 0 97 (((at' r4.1 x0).F_At) ≥ 2)
 (.ret 4 (decide (y7 > 0)))
 (.ret 4 false))
 fun j12 => .iteB 1 100 (j12)
 (.rd 6 (y7 ≠ 0) (nI (IntKind.i64.wrap (Int.tdiv (IntKind.i64.wrap (((at' r4.1 x0).F_At) - 2)) y7))) <| .let_ (IntKind.i64.wrap (Int.tdiv (IntKind.i64.wrap (((at' r4.1 x0).F_At) - 2)) y7) : Int) fun y13 => .join 7 5 (γ := Bool) ⟨fun x => [(113, bB x)], [56, 55, 54, 12, 11, 10, 9, 6, 5, 2], fun _ => [], [.s 17614, .s 15]⟩
 (.ite 0 108 (r6.2.2 = 0)
 (.ret 6 (y13 == (Int.tmod r6.2.1 2)))
 (.ret 6 false))
 fun j15 => .iteB 1 113 (j15)
 (.ret 9 (.inl false))
 (.again 7 (IntKind.i64.wrap (x0 + 1), insM x1 ((at' r4.1 x0).F_At) true)))
 (.join 7 5 (γ := Bool) ⟨fun x => [(113, bB x)], [56, 55, 54, 12, 11, 10, 9, 6, 5, 2], fun _ => [], [.s 17614, .s 15]⟩
 (.ite 0 108 (r6.2.2 = 0)
 (.ret 6 (((at' r4.1 x0).F_At) == (Int.tmod r6.2.1 2)))
 (.ret 6 false))
 fun j16 => .iteB 1 113 (j16)
 (.ret 9 (.inl false))
 (.again 7 (IntKind.i64.wrap (x0 + 1), insM x1 ((at' r4.1 x0).F_At) true)))))
 (.ret 4 (.inr ()))
theorem ok_thrumlaw20_StoreKeeps_l0 (a0 : T_api_Store) (r1 : Bool) (r4 : (List T_api_Put) × Int) (r6 : (List Int) × Int × Int) (y7 : Int) (x0 : Int) (x1 : List (Int × Bool)) : Ok (M_thrumlaw20_StoreKeeps_l0 a0 r1 r4 r6 y7 x0 x1) fun v => go Try.prog F_thrumlaw20_StoreKeeps.N (PostR (fun r => Fnl F_thrumlaw20_StoreKeeps.res (F_thrumlaw20_StoreKeeps.en r) (F_thrumlaw20_StoreKeeps.bx r)) (.exit 0) (E_thrumlaw20_StoreKeeps_l0 a0 r1 r4 r6 y7) v) [.l (lpA Try.prog 4 0)] .norm (S_thrumlaw20_StoreKeeps_l0 a0 r1 r4 r6 y7 x0 x1) := by
 refine M_thrumlaw20_StoreKeeps_l0.partial_correctness a0 r1 r4 r6 y7 (fun x0 x1 v => go Try.prog F_thrumlaw20_StoreKeeps.N (PostR (fun r => Fnl F_thrumlaw20_StoreKeeps.res (F_thrumlaw20_StoreKeeps.en r) (F_thrumlaw20_StoreKeeps.bx r)) (.exit 0) (E_thrumlaw20_StoreKeeps_l0 a0 r1 r4 r6 y7) v) [.l (lpA Try.prog 4 0)] .norm (S_thrumlaw20_StoreKeeps_l0 a0 r1 r4 r6 y7 x0 x1)) ?_ x0 x1
 clear x0 x1
 intro f IH x0 x1
 exact Tr.lpR (F := F_thrumlaw20_StoreKeeps) (S := fun x => S_thrumlaw20_StoreKeeps_l0 a0 r1 r4 r6 y7 x.1 x.2) (S' := E_thrumlaw20_StoreKeeps_l0 a0 r1 r4 r6 y7) (t_thrumlaw20_StoreKeeps_l0 a0 r1 r4 r6 y7 x0 x1) (fun x => f x.1 x.2) (fun x r h => IH x.1 x.2 r h) (by kernel_rfl) (by kernel_rfl)
theorem nl_thrumlaw20_StoreKeeps : ∀ v, (en_thrumlaw20_StoreKeeps v).noLst := fun _ => trivial
noncomputable def t_thrumlaw20_StoreKeeps (a0 : T_api_Store) (a1 : List Int) : Tr F_thrumlaw20_StoreKeeps Empty Bool :=
 .call 7 ok_thrumlaw20_live nl_thrumlaw20_live fun r1 => .iteX 8 18 (r1)
 (.ret 7 false)
 (.call 6 (ok_thrumref20_Few a0) nl_thrumref20_Few fun r2 => .join 2 4 (γ := Bool) ⟨fun x => [(26, bB x)], [5, 2, 1], fun _ => [], [.s 15]⟩
 (.iteX 0 22 (r2)
 (.ret 5 true)
 (.len 1 eY a1 <| .ret 3 (decide ((a1.length : Int) > 20000))))
 fun j3 => .iteB 1 26 (j3)
 (.ret 8 r1)
 (.callZ 6 (ok_store_Plan a0 a1) fun r4 => .iteN 12 35 (r4.2 = 0)
 (.join 5 4 (γ := Bool) ⟨fun x => [(41, bB x)], [], fun _ => [], []⟩
 (.iteB 0 37 (r1)
 (.len 1 T_api_Put.e r4.1 <| .ret 3 ((r4.1.length : Int) == 0))
 (.ret 5 false))
 fun j5 => .ret 4 j5)
 (.call 5 (ok_store_Load a0) nl_store_Load fun r6 => .len 12 (eL eY) a0.F_Cells <| .let_ (IntKind.i64.wrap (Int.tdiv (IntKind.i64.wrap ((a0.F_Cells.length : Int) - 2)) 2) : Int) fun y7 => .len 13 T_api_Put.e r4.1 <| .loopR 4 id ⟨_, _, _, _, _, ok_thrumlaw20_StoreKeeps_l0 a0 r1 r4 r6 y7 0 []⟩ fun j17 => .join 5 4 (γ := Bool) ⟨fun x => [(120, bB x)], [], fun _ => [], []⟩
 (.iteB 0 116 (r1)
 (.len 1 T_api_Put.e r4.1 <| .ret 3 (decide ((r4.1.length : Int) > 0)))
 (.ret 5 false))
 fun j18 => .ret 3 j18)))
noncomputable def s_thrumlaw20_StoreKeeps (a0 : T_api_Store) (a1 : List Int) : Sg Try.prog Bool := ⟨4, M_thrumlaw20_StoreKeeps a0 a1, [.agg [.lst (List.map (enL (D.int .u8)) a0.F_Cells)], .lst (List.map (D.int .u8) a1)], en_thrumlaw20_StoreKeeps⟩
theorem ok_thrumlaw20_StoreKeeps (a0 : T_api_Store) (a1 : List Int) : (s_thrumlaw20_StoreKeeps a0 a1).Holds := Tr.fn (F := F_thrumlaw20_StoreKeeps) (t_thrumlaw20_StoreKeeps a0 a1) (by kernel_rfl) (by kernel_rfl) (by kernel_rfl) (by kernel_rfl)
end Go.Proofs.Ytelobmiooldoaaa.Abs
