/- Walks of functions, printed by a program. Conditions: none. -/
import Derived.Test.YtelobmiooldoaaaProg
import Derived.Test.YtelobmiooldoaaaAbsG8
import Derived.Test.YtelobmiooldoaaaIM
namespace Go.Proofs.Ytelobmiooldoaaa.Abs
open Go Go.RowKit
set_option linter.unusedVariables false
set_option maxRecDepth 100000
open Z
/-- thrum/index.measure. -/
def en_index_measure (v : Bool) : PV := bB v
noncomputable abbrev F_index_measure : Fe := .of Try.prog 105 en_index_measure
theorem nl_index_measure : ∀ v, (en_index_measure v).noLst := fun _ => trivial
noncomputable def t_index_measure (a0 : Int) : Tr F_index_measure Empty Bool :=
 .join 9 3 (γ := Bool) ⟨fun x => [(8, bB x)], [], fun _ => [], []⟩
 (.ite 0 5 (a0 > 0)
 (.ret 4 (decide (a0 ≤ 4096)))
 (.ret 4 false))
 fun j1 => .ret 3 j1
noncomputable def s_index_measure (a0 : Int) : Sg Try.prog Bool := ⟨105, M_index_measure a0, [.int .i64 a0], en_index_measure⟩
theorem ok_index_measure (a0 : Int) : (s_index_measure a0).Holds := Tr.fn (F := F_index_measure) (t_index_measure a0) (by kernel_rfl) (by kernel_rfl) (by kernel_rfl) (by kernel_rfl)
/-- thrum/index.rises. -/
def en_index_rises (v : Bool) : PV := bB v
noncomputable abbrev F_index_rises : Fe := .of Try.prog 91 en_index_rises
def S_index_rises_l0 (a0 : List Int) (x0 : Int) : St := ⟨[(3, nI x0), (0, lI a0)], []⟩
def E_index_rises_l0 (a0 : List Int) (x : Unit) : St := ⟨[], []⟩
noncomputable def t_index_rises_l0 (a0 : List Int) (x0 : Int) : Tr F_index_rises Int (Sum Bool Unit) :=
 .len 6 eI a0 <| .ite 2 7 (x0 < (a0.length : Int))
 (.idx 9 eI a0 (IntKind.i64.wrap (x0 - 1)) <| .idx 3 eI a0 x0 <| .ite 3 19 ((at' a0 (IntKind.i64.wrap (x0 - 1))) ≥ (at' a0 x0))
 (.ret 9 (.inl false))
 (.again 8 (IntKind.i64.wrap (x0 + 1))))
 (.ret 4 (.inr ()))
theorem ok_index_rises_l0 (a0 : List Int) (x0 : Int) : Ok (M_index_rises_l0 a0 x0) fun v => go Try.prog F_index_rises.N (PostR (fun r => Fnl F_index_rises.res (F_index_rises.en r) (F_index_rises.bx r)) (.exit 0) (E_index_rises_l0 a0) v) [.l (lpA Try.prog 91 0)] .norm (S_index_rises_l0 a0 x0) := by
 refine M_index_rises_l0.partial_correctness a0 (fun x0 v => go Try.prog F_index_rises.N (PostR (fun r => Fnl F_index_rises.res (F_index_rises.en r) (F_index_rises.bx r)) (.exit 0) (E_index_rises_l0 a0) v) [.l (lpA Try.prog 91 0)] .norm (S_index_rises_l0 a0 x0)) ?_ x0
 clear x0
 intro f IH x0
 exact Tr.lpR (F := F_index_rises) (S := fun x => S_index_rises_l0 a0 x) (S' := E_index_rises_l0 a0) (t_index_rises_l0 a0 x0) (fun x => f x) (fun x r h => IH x r h) (by kernel_rfl) (by kernel_rfl)
theorem nl_index_rises : ∀ v, (en_index_rises v).noLst := fun _ => trivial
noncomputable def t_index_rises (a0 : List Int) : Tr F_index_rises Empty Bool :=
 .loopR 11 id ⟨_, _, _, _, _, ok_index_rises_l0 a0 1⟩ fun j1 => .ret 6 true
noncomputable def s_index_rises (a0 : List Int) : Sg Try.prog Bool := ⟨91, M_index_rises a0, [.lst (List.map (D.int .i64) a0)], en_index_rises⟩
theorem ok_index_rises (a0 : List Int) : (s_index_rises a0).Holds := Tr.fn (F := F_index_rises) (t_index_rises a0) (by kernel_rfl) (by kernel_rfl) (by kernel_rfl) (by kernel_rfl)
/-- thrum/index.Check. -/
def en_index_Check (v : Int) : PV := nI v
noncomputable abbrev F_index_Check : Fe := .of Try.prog 104 en_index_Check
theorem nl_index_Check : ∀ v, (en_index_Check v).noLst := fun _ => trivial
noncomputable def t_index_Check (a0 : Int) (a1 : List Int) : Tr F_index_Check Empty Int :=
 .len 7 eI a1 <| .call 6 (ok_index_measure a0) nl_index_measure fun r1 => .join 2 4 (γ := Bool) ⟨fun x => [(15, bB x)], [5, 0, 1], fun _ => [], []⟩
 (.iteX 0 11 (r1)
 (.ret 5 true)
 (.call 1 (ok_index_rises a1) nl_index_rises fun r2 => .ret 3 (!r2)))
 fun j3 => .iteB 1 16 (j3)
 (.ret 26 1)
 (.ite 3 19 ((a1.length : Int) > 0)
 (.idx 1 eI a1 0 <| .ite 3 24 ((at' a1 0) < 0)
 (.ret 18 1)
 (.idx 3 eI a1 (IntKind.i64.wrap ((a1.length : Int) - 1)) <| .ite 7 34 ((at' a1 (IntKind.i64.wrap ((a1.length : Int) - 1))) ≥ a0)
 (.ret 7 1)
 (.ret 7 0)))
 (.ret 23 0))
noncomputable def s_index_Check (a0 : Int) (a1 : List Int) : Sg Try.prog Int := ⟨104, M_index_Check a0 a1, [.int .i64 a0, .lst (List.map (D.int .i64) a1)], en_index_Check⟩
theorem ok_index_Check (a0 : Int) (a1 : List Int) : (s_index_Check a0 a1).Holds := Tr.fn (F := F_index_Check) (t_index_Check a0 a1) (by kernel_rfl) (by kernel_rfl) (by kernel_rfl) (by kernel_rfl)
/-- slices.Clone[[]byte,byte]. -/
def en_slices_Clone_byte_byte (v : (List Int)) : PV := sY (.s 0) v
noncomputable abbrev F_slices_Clone_byte_byte : Fe := .of Try.prog 66 en_slices_Clone_byte_byte
theorem nl_slices_Clone_byte_byte : ∀ v, (en_slices_Clone_byte_byte v).noLst := fun _ => (flat_map_of fun _ => trivial)
noncomputable def t_slices_Clone_byte_byte (a0 : List Int) : Tr F_slices_Clone_byte_byte Empty (List Int) :=
 .nilq 8 eY.f a0
 (    if room 1 ([] ++ a0).length then
      some ([] ++ a0)
    else none)
 (    some [])
 (fun h => by (try obtain rfl := List.eq_nil_of_length_eq_zero h); first | rfl | (simp [h]; done))
 (.app 7 eY 1 [] a0 <| .ret 3 ([] ++ a0))
 (.ret 8 [])
noncomputable def s_slices_Clone_byte_byte (a0 : List Int) : Sg Try.prog (List Int) := ⟨66, M_slices_Clone_byte_byte a0, [.lst (List.map (D.int .u8) a0)], en_slices_Clone_byte_byte⟩
theorem ok_slices_Clone_byte_byte (a0 : List Int) : (s_slices_Clone_byte_byte a0).Holds := Tr.fn (F := F_slices_Clone_byte_byte) (t_slices_Clone_byte_byte a0) (by kernel_rfl) (by kernel_rfl) (by kernel_rfl) (by kernel_rfl)
/-- thrum/leb.put. -/
def en_leb_put (v : (List Int)) : PV := sY (.s 0) v
def bx_leb_put (v : (List Int)) : List (Tg × List PV) := []
noncomputable abbrev F_leb_put : Fe := .of Try.prog 96 en_leb_put bx_leb_put
def S_leb_put_l0 (x0 : List Int) (x1 : Int) : St := ⟨[(0, sY (.h 1) x0), (1, nU x1)], []⟩
def E_leb_put_l0 (x : (List Int) × Int) : St := ⟨[(0, sY (.h 2) x.1), (1, nU x.2)], []⟩
noncomputable def t_leb_put_l0 (x0 : List Int) (x1 : Int) : Tr F_leb_put ((List Int) × Int) ((List Int) × Int) :=
 .ite 7 6 (x1 > 127)
 (.app 10 eY 1 x0 [bOr .u8 (IntKind.u8.wrap x1) 128] <| .let_ (x0 ++ [bOr .u8 (IntKind.u8.wrap x1) 128] : List Int) fun y1 => .again 8 (y1, sShr .u64 x1 7))
 (.ret 4 (x0, x1))
theorem ok_leb_put_l0 (x0 : List Int) (x1 : Int) : Ok (M_leb_put_l0 x0 x1) fun v => go Try.prog F_leb_put.N (PostN (.exit 0) (E_leb_put_l0) v) [.l (lpA Try.prog 96 0)] .norm (S_leb_put_l0 x0 x1) := by
 refine M_leb_put_l0.partial_correctness (fun x0 x1 v => go Try.prog F_leb_put.N (PostN (.exit 0) (E_leb_put_l0) v) [.l (lpA Try.prog 96 0)] .norm (S_leb_put_l0 x0 x1)) ?_ x0 x1
 clear x0 x1
 intro f IH x0 x1
 exact Tr.lpN (F := F_leb_put) (S := fun x => S_leb_put_l0 x.1 x.2) (S' := E_leb_put_l0) (t_leb_put_l0 x0 x1) (fun x => f x.1 x.2) (fun x r h => IH x.1 x.2 r h) (by kernel_rfl) (by kernel_rfl)
theorem nl_leb_put : ∀ v, (en_leb_put v).noLst := fun _ => (flat_map_of fun _ => trivial)
theorem nlB_leb_put : ∀ v, noLstB (bx_leb_put v) := fun _ => trivial
noncomputable def t_leb_put (a0 : List Int) (a1 : Int) : Tr F_leb_put Empty (List Int) :=
 .loop 7 ⟨_, _, _, _, _, ok_leb_put_l0 a0 a1⟩ fun j3 => .app 7 eY 1 j3.1 [IntKind.u8.wrap j3.2] <| .ret 3 (j3.1 ++ [IntKind.u8.wrap j3.2])
noncomputable def s_leb_put (a0 : List Int) (a1 : Int) : SgG Try.prog (List Int) := ⟨96, M_leb_put a0 a1, [sY (.h 0) a0, nU a1], [], en_leb_put, bx_leb_put⟩
theorem ok_leb_put (a0 : List Int) (a1 : Int) : (s_leb_put a0 a1).Holds := Tr.fnG (F := F_leb_put) (t_leb_put a0 a1) (by kernel_rfl) (by kernel_rfl) (by kernel_rfl) (by kernel_rfl)
/-- thrum/leb.Put. -/
def en_leb_Put (v : (List Int)) : PV := sY (.s 0) v
noncomputable abbrev F_leb_Put : Fe := .of Try.prog 68 en_leb_Put
def S_leb_Put_l0 (a1 : List Int) (x0 : Int) (x1 : List Int) : St := ⟨[(11, nI x0), (10, nI (a1.length : Int)), (9, lU a1), (0, sY (.h 0) x1)], []⟩
def E_leb_Put_l0 (a1 : List Int) (x : (List Int)) : St := ⟨[(0, sY (.h 1) x)], []⟩
noncomputable def t_leb_Put_l0 (a1 : List Int) (x0 : Int) (x1 : List Int) : Tr F_leb_Put (Int × (List Int)) (List Int) :=
 .ite 6 12 (x0 < (a1.length : Int))
 (.idx 6 eU a1 x0 <| .callB 6 [(.h 0, .h 0)] (ok_leb_put x1 (at' a1 x0)) nl_leb_put nlB_leb_put fun r2 => .again 7 (IntKind.i64.wrap (x0 + 1), r2))
 (.ret 4 x1)
theorem ok_leb_Put_l0 (a1 : List Int) (x0 : Int) (x1 : List Int) : Ok (M_leb_Put_l0 a1 x0 x1) fun v => go Try.prog F_leb_Put.N (PostN (.exit 0) (E_leb_Put_l0 a1) v) [.l (lpA Try.prog 68 0)] .norm (S_leb_Put_l0 a1 x0 x1) := by
 refine M_leb_Put_l0.partial_correctness a1 (fun x0 x1 v => go Try.prog F_leb_Put.N (PostN (.exit 0) (E_leb_Put_l0 a1) v) [.l (lpA Try.prog 68 0)] .norm (S_leb_Put_l0 a1 x0 x1)) ?_ x0 x1
 clear x0 x1
 intro f IH x0 x1
 exact Tr.lpN (F := F_leb_Put) (S := fun x => S_leb_Put_l0 a1 x.1 x.2) (S' := E_leb_Put_l0 a1) (t_leb_Put_l0 a1 x0 x1) (fun x => f x.1 x.2) (fun x r h => IH x.1 x.2 r h) (by kernel_rfl) (by kernel_rfl)
theorem nl_leb_Put : ∀ v, (en_leb_Put v).noLst := fun _ => (flat_map_of fun _ => trivial)
noncomputable def t_leb_Put (a0 : List Int) (a1 : List Int) : Tr F_leb_Put Empty (List Int) :=
 .call 7 (ok_slices_Clone_byte_byte a0) nl_slices_Clone_byte_byte fun r1 => .len 6 eU a1 <| .loop 4 ⟨_, _, _, _, _, ok_leb_Put_l0 a1 0 r1⟩ fun j3 => .ret 7 j3
noncomputable def s_leb_Put (a0 : List Int) (a1 : List Int) : Sg Try.prog (List Int) := ⟨68, M_leb_Put a0 a1, [.lst (List.map (D.int .u8) a0), .lst (List.map (D.int .u64) a1)], en_leb_Put⟩
theorem ok_leb_Put (a0 : List Int) (a1 : List Int) : (s_leb_Put a0 a1).Holds := Tr.fn (F := F_leb_Put) (t_leb_Put a0 a1) (by kernel_rfl) (by kernel_rfl) (by kernel_rfl) (by kernel_rfl)
/-- thrum/index.Put. -/
def en_index_Put (v : (List Int) × Int) : PV := .tup [sY (.s 0) v.1, nI v.2]
noncomputable abbrev F_index_Put : Fe := .of Try.prog 76 en_index_Put
def S_index_Put_l0 (a1 : List Int) (x0 : Int) (x1 : Int) (x2 : List Int) : St := ⟨[(29, nI x0), (28, nI (a1.length : Int)), (27, lI a1), (8, nI x1), (7, sU (.h 0) x2)], []⟩
def E_index_Put_l0 (a1 : List Int) (x : (List Int)) : St := ⟨[(7, sU (.h 1) x)], []⟩
noncomputable def t_index_Put_l0 (a1 : List Int) (x0 : Int) (x1 : Int) (x2 : List Int) : Tr F_index_Put (Int × Int × (List Int)) (List Int) :=
 .ite 6 30 (x0 < (a1.length : Int))
 (.idx 6 eI a1 x0 <| .app 12 eU 8 x2 [IntKind.u64.wrap (IntKind.i64.wrap ((IntKind.i64.wrap ((at' a1 x0) - x1)) - 1))] <| .let_ (x2 ++ [IntKind.u64.wrap (IntKind.i64.wrap ((IntKind.i64.wrap ((at' a1 x0) - x1)) - 1))] : List Int) fun y6 => .again 11 (IntKind.i64.wrap (x0 + 1), at' a1 x0, y6))
 (.ret 4 x2)
theorem ok_index_Put_l0 (a1 : List Int) (x0 : Int) (x1 : Int) (x2 : List Int) : Ok (M_index_Put_l0 a1 x0 x1 x2) fun v => go Try.prog F_index_Put.N (PostN (.exit 0) (E_index_Put_l0 a1) v) [.l (lpA Try.prog 76 0)] .norm (S_index_Put_l0 a1 x0 x1 x2) := by
 refine M_index_Put_l0.partial_correctness a1 (fun x0 x1 x2 v => go Try.prog F_index_Put.N (PostN (.exit 0) (E_index_Put_l0 a1) v) [.l (lpA Try.prog 76 0)] .norm (S_index_Put_l0 a1 x0 x1 x2)) ?_ x0 x1 x2
 clear x0 x1 x2
 intro f IH x0 x1 x2
 exact Tr.lpN (F := F_index_Put) (S := fun x => S_index_Put_l0 a1 x.1 x.2.1 x.2.2) (S' := E_index_Put_l0 a1) (t_index_Put_l0 a1 x0 x1 x2) (fun x => f x.1 x.2.1 x.2.2) (fun x r h => IH x.1 x.2.1 x.2.2 r h) (by kernel_rfl) (by kernel_rfl)
theorem nl_index_Put : ∀ v, (en_index_Put v).noLst := fun _ => ⟨(flat_map_of fun _ => trivial), trivial, trivial⟩
noncomputable def t_index_Put (a0 : Int) (a1 : List Int) : Tr F_index_Put Empty ((List Int) × Int) :=
 .call 10 (ok_index_Check a0 a1) nl_index_Check fun r1 => .iteN 7 15 (r1 = 0)
 (.ret 9 ([], r1))
 (.len 5 eI a1 <| .mk 1 eU 8 0 0 (IntKind.i64.wrap ((a1.length : Int) + 1)) <| .let_ (List.replicate (Int.toNat 0) 0 : List Int) fun y2 => .len 6 eI a1 <| .app 2 eU 8 y2 [IntKind.u64.wrap (a1.length : Int)] <| .let_ (y2 ++ [IntKind.u64.wrap (a1.length : Int)] : List Int) fun y4 => .len 10 eI a1 <| .loop 4 ⟨_, _, _, _, _, ok_index_Put_l0 a1 0 (-1) y4⟩ fun j8 => .call 4 (ok_leb_Put [] j8) nl_leb_Put fun r9 => .ret 4 (r9, 0))
noncomputable def s_index_Put (a0 : Int) (a1 : List Int) : Sg Try.prog ((List Int) × Int) := ⟨76, M_index_Put a0 a1, [.int .i64 a0, .lst (List.map (D.int .i64) a1)], en_index_Put⟩
theorem ok_index_Put (a0 : Int) (a1 : List Int) : (s_index_Put a0 a1).Holds := Tr.fn (F := F_index_Put) (t_index_Put a0 a1) (by kernel_rfl) (by kernel_rfl) (by kernel_rfl) (by kernel_rfl)
/-- thrum/leb.Get. -/
def en_leb_Get (v : Int × Int × Int) : PV := .tup [nU v.1, nI v.2.1, nI v.2.2]
noncomputable abbrev F_leb_Get : Fe := .of Try.prog 106 en_leb_Get
def S_leb_Get_l0 (a1 : Int) (y1 : List Int) (x0 : Int) (x1 : Int) : St := ⟨[(19, nI x0), (18, nI (y1.length : Int)), (17, lY y1), (4, nU x1), (1, nI a1)], []⟩
def E_leb_Get_l0 (a1 : Int) (y1 : List Int) (x : Unit) : St := ⟨[], []⟩
noncomputable def t_leb_Get_l0 (a1 : Int) (y1 : List Int) (x0 : Int) (x1 : Int) : Tr F_leb_Get (Int × Int) (Sum (Int × Int × Int) Unit) :=
 .ite 6 20 (x0 < (y1.length : Int))
 (.idx 7 eY y1 x0 <| .join 18 3 (γ := Bool) ⟨fun x => [(32, bB x)], [9, 8, 7, 19, 18, 17, 4, 1], fun _ => [], []⟩
 (.ite 0 29 (x0 = 9)
 (.ret 4 (decide ((at' y1 x0) > 1)))
 (.ret 4 false))
 fun j3 => .join 2 0 (γ := Bool) ⟨fun x => [(26, bB x)], [9, 8, 7, 19, 18, 17, 4, 1], fun _ => [], []⟩
 (.iteB 0 26 (j3)
 (.ret 2 true)
 (.join 4 3 (γ := Bool) ⟨fun x => [(37, bB x)], [9, 8, 7, 19, 18, 17, 4, 1], fun _ => [], []⟩
 (.ite 0 34 ((at' y1 x0) < 128)
 (.ret 4 ((at' y1 x0) == 0))
 (.ret 4 false))
 fun j4 => .join 1 3 (γ := Bool) ⟨fun x => [(41, bB x)], [9, 8, 7, 19, 18, 17, 4, 1], fun _ => [], []⟩
 (.iteB 0 38 (j4)
 (.ret 4 (decide (x0 > 0)))
 (.ret 4 false))
 fun j5 => .ret 2 j5))
 fun j6 => .iteB 0 26 (j6)
 (.ret 13 (.inl (0, 0, 6)))
 (.rd 11 (0 ≤ IntKind.i64.wrap (7 * x0)) (nU (sShl .u64 (IntKind.u64.wrap (bAnd .u8 (at' y1 x0) 127)) (IntKind.i64.wrap (7 * x0)))) <| .let_ (bOr .u64 x1 (sShl .u64 (IntKind.u64.wrap (bAnd .u8 (at' y1 x0) 127)) (IntKind.i64.wrap (7 * x0))) : Int) fun y7 => .ite 7 50 ((at' y1 x0) < 128)
 (.ret 16 (.inl (y7, IntKind.i64.wrap ((IntKind.i64.wrap (a1 + x0)) + 1), 0)))
 (.again 7 (IntKind.i64.wrap (x0 + 1), y7))))
 (.ret 4 (.inr ()))
theorem ok_leb_Get_l0 (a1 : Int) (y1 : List Int) (x0 : Int) (x1 : Int) : Ok (M_leb_Get_l0 a1 y1 x0 x1) fun v => go Try.prog F_leb_Get.N (PostR (fun r => Fnl F_leb_Get.res (F_leb_Get.en r) (F_leb_Get.bx r)) (.exit 0) (E_leb_Get_l0 a1 y1) v) [.l (lpA Try.prog 106 0)] .norm (S_leb_Get_l0 a1 y1 x0 x1) := by
 refine M_leb_Get_l0.partial_correctness a1 y1 (fun x0 x1 v => go Try.prog F_leb_Get.N (PostR (fun r => Fnl F_leb_Get.res (F_leb_Get.en r) (F_leb_Get.bx r)) (.exit 0) (E_leb_Get_l0 a1 y1) v) [.l (lpA Try.prog 106 0)] .norm (S_leb_Get_l0 a1 y1 x0 x1)) ?_ x0 x1
 clear x0 x1
 intro f IH x0 x1
 exact Tr.lpR (F := F_leb_Get) (S := fun x => S_leb_Get_l0 a1 y1 x.1 x.2) (S' := E_leb_Get_l0 a1 y1) (t_leb_Get_l0 a1 y1 x0 x1) (fun x => f x.1 x.2) (fun x r h => IH x.1 x.2 r h) (by kernel_rfl) (by kernel_rfl)
theorem nl_leb_Get : ∀ v, (en_leb_Get v).noLst := fun _ => ⟨trivial, trivial, trivial, trivial⟩
noncomputable def t_leb_Get (a0 : List Int) (a1 : Int) : Tr F_leb_Get Empty (Int × Int × Int) :=
 .ite 12 11 (a1 < 0)
 (.ret 9 (0, 0, 1))
 (.len 8 eY a0 <| .cut 1 eY a0 (some (if (a0.length : Int) < a1 then (a0.length : Int) else a1)) none <| .let_ (cut' a0 (some (if (a0.length : Int) < a1 then (a0.length : Int) else a1)) none : List Int) fun y1 => .len 0 eY y1 <| .loopR 4 id ⟨_, _, _, _, _, ok_leb_Get_l0 a1 y1 0 0⟩ fun j9 => .ret 8 (0, 0, 5))
noncomputable def s_leb_Get (a0 : List Int) (a1 : Int) : Sg Try.prog (Int × Int × Int) := ⟨106, M_leb_Get a0 a1, [.lst (List.map (D.int .u8) a0), .int .i64 a1], en_leb_Get⟩
theorem ok_leb_Get (a0 : List Int) (a1 : Int) : (s_leb_Get a0 a1).Holds := Tr.fn (F := F_leb_Get) (t_leb_Get a0 a1) (by kernel_rfl) (by kernel_rfl) (by kernel_rfl) (by kernel_rfl)
/-- thrum/index.Get. -/
def en_index_Get (v : (List Int) × Int × Int) : PV := .tup [sI (.s 0) v.1, nI v.2.1, nI v.2.2]
noncomputable abbrev F_index_Get : Fe := .of Try.prog 77 en_index_Get
def S_index_Get_l0 (a0 : Int) (a1 : List Int) (r2 : Int × Int × Int) (x0 : Int) (x1 : Int) (x2 : List Int) (x3 : Int) (x4 : Int) : St := ⟨[(13, nU x0), (12, nI x1), (11, sI (.h 0) x2), (10, nI x3), (2, nI x4), (9, nU r2.1), (0, nI a0), (1, lY a1)], []⟩
def E_index_Get_l0 (a0 : Int) (a1 : List Int) (r2 : Int × Int × Int) (x : Int × Int × (List Int)) : St := ⟨[(10, nI x.1), (2, nI x.2.1), (11, sI (.h 1) x.2.2)], []⟩
noncomputable def t_index_Get_l0 (a0 : Int) (a1 : List Int) (r2 : Int × Int × Int) (x0 : Int) (x1 : Int) (x2 : List Int) (x3 : Int) (x4 : Int) : Tr F_index_Get (Int × Int × (List Int) × Int × Int) (Int × Int × (List Int)) :=
 .join 7 4 (γ := Bool) ⟨fun x => [(39, bB x)], [13, 12, 11, 10, 2, 9, 0, 1], fun _ => [], []⟩
 (.ite 0 35 (x3 = 0)
 (.ret 5 (decide (x0 < r2.1)))
 (.ret 5 false))
 fun j5 => .iteB 1 39 (j5)
 (.call 13 (ok_leb_Get a1 x4) nl_leb_Get fun r6 => .iteN 13 50 (r6.2.2 = 0)
 (.ret 6 (r6.2.2, r6.2.1, x2))
 (.ite 13 57 (r6.1 ≥ (IntKind.u64.wrap (IntKind.i64.wrap ((IntKind.i64.wrap (a0 - 1)) - x1))))
 (.ret 10 (6, r6.2.1, x2))
 (.let_ (IntKind.i64.wrap (x1 + (IntKind.i64.wrap (1 + (IntKind.i64.wrap r6.1)))) : Int) fun y7 => .app 15 eI 8 x2 [IntKind.i64.wrap (x1 + (IntKind.i64.wrap (1 + (IntKind.i64.wrap r6.1))))] <| .let_ (x2 ++ [IntKind.i64.wrap (x1 + (IntKind.i64.wrap (1 + (IntKind.i64.wrap r6.1))))] : List Int) fun y9 => .again 8 (IntKind.u64.wrap (x0 + 1), y7, y9, r6.2.2, r6.2.1))))
 (.ret 4 (x3, x4, x2))
theorem ok_index_Get_l0 (a0 : Int) (a1 : List Int) (r2 : Int × Int × Int) (x0 : Int) (x1 : Int) (x2 : List Int) (x3 : Int) (x4 : Int) : Ok (M_index_Get_l0 a0 a1 r2 x0 x1 x2 x3 x4) fun v => go Try.prog F_index_Get.N (PostN (.exit 0) (E_index_Get_l0 a0 a1 r2) v) [.l (lpA Try.prog 77 0)] .norm (S_index_Get_l0 a0 a1 r2 x0 x1 x2 x3 x4) := by
 refine M_index_Get_l0.partial_correctness a0 a1 r2 (fun x0 x1 x2 x3 x4 v => go Try.prog F_index_Get.N (PostN (.exit 0) (E_index_Get_l0 a0 a1 r2) v) [.l (lpA Try.prog 77 0)] .norm (S_index_Get_l0 a0 a1 r2 x0 x1 x2 x3 x4)) ?_ x0 x1 x2 x3 x4
 clear x0 x1 x2 x3 x4
 intro f IH x0 x1 x2 x3 x4
 exact Tr.lpN (F := F_index_Get) (S := fun x => S_index_Get_l0 a0 a1 r2 x.1 x.2.1 x.2.2.1 x.2.2.2.1 x.2.2.2.2) (S' := E_index_Get_l0 a0 a1 r2) (t_index_Get_l0 a0 a1 r2 x0 x1 x2 x3 x4) (fun x => f x.1 x.2.1 x.2.2.1 x.2.2.2.1 x.2.2.2.2) (fun x r h => IH x.1 x.2.1 x.2.2.1 x.2.2.2.1 x.2.2.2.2 r h) (by kernel_rfl) (by kernel_rfl)
theorem nl_index_Get : ∀ v, (en_index_Get v).noLst := fun _ => ⟨(flat_map_of fun _ => trivial), trivial, trivial, trivial⟩
noncomputable def t_index_Get (a0 : Int) (a1 : List Int) (a2 : Int) : Tr F_index_Get Empty ((List Int) × Int × Int) :=
 .call 10 (ok_index_measure a0) nl_index_measure fun r1 => .iteX 2 17 (r1)
 (.ret 9 ([], 0, 1))
 (.call 6 (ok_leb_Get a1 a2) nl_leb_Get fun r2 => .join 14 5 (γ := Bool) ⟨fun x => [(32, bB x)], [10, 2, 9, 0, 1], fun _ => [], []⟩
 (.ite 0 27 (r2.2.2 = 0)
 (.ret 6 (decide (r2.1 > (IntKind.u64.wrap a0))))
 (.ret 6 false))
 fun j3 => .join 1 0 (γ := Int) ⟨fun x => [(10, nI x)], [2, 9, 0, 1], fun _ => [], []⟩
 (.iteB 0 32 (j3)
 (.ret 4 6)
 (.ret 2 r2.2.2))
 fun j4 => .loop 15 ⟨_, _, _, _, _, ok_index_Get_l0 a0 a1 r2 0 (-1) [] j4 r2.2.1⟩ fun j11 => .iteN 7 68 (j11.1 = 0)
 (.ret 10 ([], 0, j11.1))
 (.ret 11 (j11.2.2, j11.2.1, 0)))
noncomputable def s_index_Get (a0 : Int) (a1 : List Int) (a2 : Int) : Sg Try.prog ((List Int) × Int × Int) := ⟨77, M_index_Get a0 a1 a2, [.int .i64 a0, .lst (List.map (D.int .u8) a1), .int .i64 a2], en_index_Get⟩
theorem ok_index_Get (a0 : Int) (a1 : List Int) (a2 : Int) : (s_index_Get a0 a1 a2).Holds := Tr.fn (F := F_index_Get) (t_index_Get a0 a1 a2) (by kernel_rfl) (by kernel_rfl) (by kernel_rfl) (by kernel_rfl)
/-- thrum/thrumref03.Same. -/
def en_thrumref03_Same (v : Bool) : PV := bB v
noncomputable abbrev F_thrumref03_Same : Fe := .of Try.prog 37 en_thrumref03_Same
theorem nl_thrumref03_Same : ∀ v, (en_thrumref03_Same v).noLst := fun _ => trivial
noncomputable def t_thrumref03_Same (a0 : List Int) (a1 : List Int) : Tr F_thrumref03_Same Empty Bool :=
 .convS 7 a0 <| .convS 1 a1 <| .ret 4 ((strB a0).toList == (strB a1).toList)
noncomputable def s_thrumref03_Same (a0 : List Int) (a1 : List Int) : Sg Try.prog Bool := ⟨37, M_thrumref03_Same a0 a1, [.lst (List.map (D.int .u8) a0), .lst (List.map (D.int .u8) a1)], en_thrumref03_Same⟩
theorem ok_thrumref03_Same (a0 : List Int) (a1 : List Int) : (s_thrumref03_Same a0 a1).Holds := Tr.fn (F := F_thrumref03_Same) (t_thrumref03_Same a0 a1) (by kernel_rfl) (by kernel_rfl) (by kernel_rfl) (by kernel_rfl)
/-- thrum/thrumref06.Equal. -/
def en_thrumref06_Equal (v : Bool) : PV := bB v
noncomputable abbrev F_thrumref06_Equal : Fe := .of Try.prog 18 en_thrumref06_Equal
def S_thrumref06_Equal_l0 (a0 : List Int) (a1 : List Int) (x0 : Int) : St := ⟨[(13, nI x0), (12, nI (a0.length : Int)), (0, lI a0), (1, lI a1)], []⟩
def E_thrumref06_Equal_l0 (a0 : List Int) (a1 : List Int) (x : Unit) : St := ⟨[], []⟩
noncomputable def t_thrumref06_Equal_l0 (a0 : List Int) (a1 : List Int) (x0 : Int) : Tr F_thrumref06_Equal Int (Sum Bool Unit) :=
 .ite 6 14 (x0 < (a0.length : Int))
 (.idx 13 eI a0 x0 <| .idx 3 eI a1 x0 <| .iteN 3 24 ((at' a0 x0) = (at' a1 x0))
 (.ret 9 (.inl false))
 (.again 7 (IntKind.i64.wrap (x0 + 1))))
 (.ret 4 (.inr ()))
theorem ok_thrumref06_Equal_l0 (a0 : List Int) (a1 : List Int) (x0 : Int) : Ok (M_thrumref06_Equal_l0 a0 a1 x0) fun v => go Try.prog F_thrumref06_Equal.N (PostR (fun r => Fnl F_thrumref06_Equal.res (F_thrumref06_Equal.en r) (F_thrumref06_Equal.bx r)) (.exit 0) (E_thrumref06_Equal_l0 a0 a1) v) [.l (lpA Try.prog 18 0)] .norm (S_thrumref06_Equal_l0 a0 a1 x0) := by
 refine M_thrumref06_Equal_l0.partial_correctness a0 a1 (fun x0 v => go Try.prog F_thrumref06_Equal.N (PostR (fun r => Fnl F_thrumref06_Equal.res (F_thrumref06_Equal.en r) (F_thrumref06_Equal.bx r)) (.exit 0) (E_thrumref06_Equal_l0 a0 a1) v) [.l (lpA Try.prog 18 0)] .norm (S_thrumref06_Equal_l0 a0 a1 x0)) ?_ x0
 clear x0
 intro f IH x0
 exact Tr.lpR (F := F_thrumref06_Equal) (S := fun x => S_thrumref06_Equal_l0 a0 a1 x) (S' := E_thrumref06_Equal_l0 a0 a1) (t_thrumref06_Equal_l0 a0 a1 x0) (fun x => f x) (fun x r h => IH x r h) (by kernel_rfl) (by kernel_rfl)
theorem nl_thrumref06_Equal : ∀ v, (en_thrumref06_Equal v).noLst := fun _ => trivial
noncomputable def t_thrumref06_Equal (a0 : List Int) (a1 : List Int) : Tr F_thrumref06_Equal Empty Bool :=
 .len 8 eI a0 <| .len 1 eI a1 <| .iteN 2 10 ((a0.length : Int) = (a1.length : Int))
 (.ret 7 false)
 (.len 6 eI a0 <| .loopR 4 id ⟨_, _, _, _, _, ok_thrumref06_Equal_l0 a0 a1 0⟩ fun j1 => .ret 6 true)
noncomputable def s_thrumref06_Equal (a0 : List Int) (a1 : List Int) : Sg Try.prog Bool := ⟨18, M_thrumref06_Equal a0 a1, [.lst (List.map (D.int .i64) a0), .lst (List.map (D.int .i64) a1)], en_thrumref06_Equal⟩
theorem ok_thrumref06_Equal (a0 : List Int) (a1 : List Int) : (s_thrumref06_Equal a0 a1).Holds := Tr.fn (F := F_thrumref06_Equal) (t_thrumref06_Equal a0 a1) (by kernel_rfl) (by kernel_rfl) (by kernel_rfl) (by kernel_rfl)
/-- thrum/thrumlaw06.live. -/
def en_thrumlaw06_live (v : Bool) : PV := bB v
noncomputable abbrev F_thrumlaw06_live : Fe := .of Try.prog 41 en_thrumlaw06_live
theorem nl_thrumlaw06_live : ∀ v, (en_thrumlaw06_live v).noLst := fun _ => trivial
noncomputable def t_thrumlaw06_live : Tr F_thrumlaw06_live Empty Bool :=
 .call 7 (ok_index_Put 9 [1, 2, 5]) nl_index_Put fun r1 => .call 9 (ok_index_Get 9 r1.1 0) nl_index_Get fun r2 => .call 12 (ok_thrumref03_Same r1.1 [3, 1, 0, 2]) nl_thrumref03_Same fun r3 => .join 1 3 (γ := Bool) ⟨fun x => [(23, bB x)], [5, 4, 3], fun _ => [], []⟩
 (.iteB 0 20 (r3)
 (.ret 4 (r1.2 == 0))
 (.ret 4 false))
 fun j4 => .join 1 4 (γ := Bool) ⟨fun x => [(28, bB x)], [5, 4], fun _ => [], []⟩
 (.iteB 0 24 (j4)
 (.call 2 (ok_thrumref06_Equal r2.1 [1, 2, 5]) nl_thrumref06_Equal fun r5 => .ret 2 r5)
 (.ret 5 false))
 fun j6 => .join 1 3 (γ := Bool) ⟨fun x => [(32, bB x)], [5], fun _ => [], []⟩
 (.iteB 0 29 (j6)
 (.ret 4 (r2.2.1 == 4))
 (.ret 4 false))
 fun j7 => .join 1 3 (γ := Bool) ⟨fun x => [(36, bB x)], [], fun _ => [], []⟩
 (.iteB 0 33 (j7)
 (.ret 4 (r2.2.2 == 0))
 (.ret 4 false))
 fun j8 => .ret 3 j8
noncomputable def s_thrumlaw06_live : Sg Try.prog Bool := ⟨41, M_thrumlaw06_live, [], en_thrumlaw06_live⟩
theorem ok_thrumlaw06_live : s_thrumlaw06_live.Holds := Tr.fn (F := F_thrumlaw06_live) t_thrumlaw06_live (by kernel_rfl) (by kernel_rfl) (by kernel_rfl) (by kernel_rfl)
/-- thrum/thrumlaw06.few. -/
def en_thrumlaw06_few (v : Bool) : PV := bB v
noncomputable abbrev F_thrumlaw06_few : Fe := .of Try.prog 42 en_thrumlaw06_few
def S_thrumlaw06_few_l0 (a0 : List (List Int)) (x0 : Int) (x1 : Int) : St := ⟨[(8, nI x0), (7, nI (a0.length : Int)), (6, .d (.lst (List.map (enL (D.int .i64)) a0))), (3, nI x1), (0, .d (.lst (List.map (enL (D.int .i64)) a0)))], []⟩
def E_thrumlaw06_few_l0 (a0 : List (List Int)) (x : Int) : St := ⟨[(3, nI x), (0, .d (.lst (List.map (enL (D.int .i64)) a0)))], []⟩
noncomputable def t_thrumlaw06_few_l0 (a0 : List (List Int)) (x0 : Int) (x1 : Int) : Tr F_thrumlaw06_few (Int × Int) Int :=
 .ite 6 9 (x0 < (a0.length : Int))
 (.idx 6 (eL eI) a0 x0 <| .len 6 eI (at' a0 x0) <| .again 8 (IntKind.i64.wrap (x0 + 1), IntKind.i64.wrap (x1 + ((at' a0 x0).length : Int))))
 (.ret 4 x1)
theorem ok_thrumlaw06_few_l0 (a0 : List (List Int)) (x0 : Int) (x1 : Int) : Ok (M_thrumlaw06_few_l0 a0 x0 x1) fun v => go Try.prog F_thrumlaw06_few.N (PostN (.exit 0) (E_thrumlaw06_few_l0 a0) v) [.l (lpA Try.prog 42 0)] .norm (S_thrumlaw06_few_l0 a0 x0 x1) := by
 refine M_thrumlaw06_few_l0.partial_correctness a0 (fun x0 x1 v => go Try.prog F_thrumlaw06_few.N (PostN (.exit 0) (E_thrumlaw06_few_l0 a0) v) [.l (lpA Try.prog 42 0)] .norm (S_thrumlaw06_few_l0 a0 x0 x1)) ?_ x0 x1
 clear x0 x1
 intro f IH x0 x1
 exact Tr.lpN (F := F_thrumlaw06_few) (S := fun x => S_thrumlaw06_few_l0 a0 x.1 x.2) (S' := E_thrumlaw06_few_l0 a0) (t_thrumlaw06_few_l0 a0 x0 x1) (fun x => f x.1 x.2) (fun x r h => IH x.1 x.2 r h) (by kernel_rfl) (by kernel_rfl)
theorem nl_thrumlaw06_few : ∀ v, (en_thrumlaw06_few v).noLst := fun _ => trivial
noncomputable def t_thrumlaw06_few (a0 : List (List Int)) : Tr F_thrumlaw06_few Empty Bool :=
 .len 12 (eL eI) a0 <| .loop 4 ⟨_, _, _, _, _, ok_thrumlaw06_few_l0 a0 0 0⟩ fun j1 => .join 6 4 (γ := Bool) ⟨fun x => [(23, bB x)], [], fun _ => [], []⟩
 (.ite 0 19 (j1 ≤ 600)
 (.len 1 (eL eI) a0 <| .ret 3 (decide ((a0.length : Int) ≤ 100)))
 (.ret 5 false))
 fun j2 => .ret 3 j2
noncomputable def s_thrumlaw06_few (a0 : List (List Int)) : Sg Try.prog Bool := ⟨42, M_thrumlaw06_few a0, [.lst (List.map (enL (D.int .i64)) a0)], en_thrumlaw06_few⟩
theorem ok_thrumlaw06_few (a0 : List (List Int)) : (s_thrumlaw06_few a0).Holds := Tr.fn (F := F_thrumlaw06_few) (t_thrumlaw06_few a0) (by kernel_rfl) (by kernel_rfl) (by kernel_rfl) (by kernel_rfl)
/-- slices.Grow[[]int,int]. -/
def en_slices_Grow_int_int_c (v : (List Int)) : PV := sI (.s 0) v
def bx_slices_Grow_int_int_c (v : (List Int)) : List (Tg × List PV) := []
noncomputable abbrev F_slices_Grow_int_int_c : Fe := .of Try.prog 107 en_slices_Grow_int_int_c bx_slices_Grow_int_int_c
theorem nl_slices_Grow_int_int_c : ∀ v, (en_slices_Grow_int_int_c v).noLst := fun _ => (flat_map_of fun _ => trivial)
theorem nlB_slices_Grow_int_int_c : ∀ v, noLstB (bx_slices_Grow_int_int_c v) := fun _ => trivial
noncomputable def t_slices_Grow_int_int_c (a0 : Int) : Tr F_slices_Grow_int_int_c Empty (List Int) :=
 .join 10 0 (γ := Unit) ⟨fun _ => [], [0, 1], fun _ => [], []⟩
 (.ite 0 6 (a0 < 0)
 (.halt)
 (.ret 2 ()))
 fun j1 => .ite 17 16 ((IntKind.i64.wrap (a0 - (IntKind.i64.wrap (0 - 0)))) > 0)
 (.rd 5 (((0 : Int) ≤ 0 ∧ (0 : Int) ≤ 0) ∧ (0 : Nat) ≤ 0) (.nils) <| .appZ 1 eI 8 0 (IntKind.i64.wrap (a0 - (IntKind.i64.wrap (0 - 0)))) <| .let_ (List.replicate (Int.toNat (IntKind.i64.wrap (a0 - (IntKind.i64.wrap (0 - 0))))) 0 : List Int) fun y2 => .cut 2 eI y2 none (some 0) <| .ret 8 (cut' y2 none (some 0)))
 (.ret 8 [])
noncomputable def s_slices_Grow_int_int_c (a0 : Int) : SgG Try.prog (List Int) := ⟨107, M_slices_Grow_int_int_c a0, [.nils, nI a0], [], en_slices_Grow_int_int_c, bx_slices_Grow_int_int_c⟩
theorem ok_slices_Grow_int_int_c (a0 : Int) : (s_slices_Grow_int_int_c a0).Holds := Tr.fnG (F := F_slices_Grow_int_int_c) (t_slices_Grow_int_int_c a0) (by kernel_rfl) (by kernel_rfl) (by kernel_rfl) (by kernel_rfl)
/-- slices.Concat[[]int,int]. -/
def en_slices_Concat_int_int (v : (List Int)) : PV := sI (.s 0) v
noncomputable abbrev F_slices_Concat_int_int : Fe := .of Try.prog 78 en_slices_Concat_int_int
def S_slices_Concat_int_int_l0 (a0 : List (List Int)) (x0 : Int) (x1 : Int) : St := ⟨[(11, nI x0), (10, nI (a0.length : Int)), (9, .d (.lst (List.map (enL (D.int .i64)) a0))), (3, nI x1), (0, .d (.lst (List.map (enL (D.int .i64)) a0)))], []⟩
def E_slices_Concat_int_int_l0 (a0 : List (List Int)) (x : Int) : St := ⟨[(3, nI x), (0, .d (.lst (List.map (enL (D.int .i64)) a0)))], []⟩
noncomputable def t_slices_Concat_int_int_l0 (a0 : List (List Int)) (x0 : Int) (x1 : Int) : Tr F_slices_Concat_int_int (Int × Int) Int :=
 .ite 6 12 (x0 < (a0.length : Int))
 (.idx 6 (eL eI) a0 x0 <| .len 7 eI (at' a0 x0) <| .ite 8 20 ((IntKind.i64.wrap (x1 + ((at' a0 x0).length : Int))) < 0)
 (.halt)
 (.again 7 (IntKind.i64.wrap (x0 + 1), IntKind.i64.wrap (x1 + ((at' a0 x0).length : Int)))))
 (.ret 4 x1)
theorem ok_slices_Concat_int_int_l0 (a0 : List (List Int)) (x0 : Int) (x1 : Int) : Ok (M_slices_Concat_int_int_l0 a0 x0 x1) fun v => go Try.prog F_slices_Concat_int_int.N (PostN (.exit 0) (E_slices_Concat_int_int_l0 a0) v) [.l (lpA Try.prog 78 0)] .norm (S_slices_Concat_int_int_l0 a0 x0 x1) := by
 refine M_slices_Concat_int_int_l0.partial_correctness a0 (fun x0 x1 v => go Try.prog F_slices_Concat_int_int.N (PostN (.exit 0) (E_slices_Concat_int_int_l0 a0) v) [.l (lpA Try.prog 78 0)] .norm (S_slices_Concat_int_int_l0 a0 x0 x1)) ?_ x0 x1
 clear x0 x1
 intro f IH x0 x1
 exact Tr.lpN (F := F_slices_Concat_int_int) (S := fun x => S_slices_Concat_int_int_l0 a0 x.1 x.2) (S' := E_slices_Concat_int_int_l0 a0) (t_slices_Concat_int_int_l0 a0 x0 x1) (fun x => f x.1 x.2) (fun x r h => IH x.1 x.2 r h) (by kernel_rfl) (by kernel_rfl)
def S_slices_Concat_int_int_l1 (a0 : List (List Int)) (x0 : Int) (x1 : List Int) : St := ⟨[(27, nI x0), (26, nI (a0.length : Int)), (25, .d (.lst (List.map (enL (D.int .i64)) a0))), (6, sI (.h 0) x1)], []⟩
def E_slices_Concat_int_int_l1 (a0 : List (List Int)) (x : (List Int)) : St := ⟨[(6, sI (.h 1) x)], []⟩
noncomputable def t_slices_Concat_int_int_l1 (a0 : List (List Int)) (x0 : Int) (x1 : List Int) : Tr F_slices_Concat_int_int (Int × (List Int)) (List Int) :=
 .ite 6 28 (x0 < (a0.length : Int))
 (.idx 6 (eL eI) a0 x0 <| .app 6 eI 8 x1 (at' a0 x0) <| .again 7 (IntKind.i64.wrap (x0 + 1), x1 ++ (at' a0 x0)))
 (.ret 4 x1)
theorem ok_slices_Concat_int_int_l1 (a0 : List (List Int)) (x0 : Int) (x1 : List Int) : Ok (M_slices_Concat_int_int_l1 a0 x0 x1) fun v => go Try.prog F_slices_Concat_int_int.N (PostN (.exit 2) (E_slices_Concat_int_int_l1 a0) v) [.l (lpA Try.prog 78 1)] .norm (S_slices_Concat_int_int_l1 a0 x0 x1) := by
 refine M_slices_Concat_int_int_l1.partial_correctness a0 (fun x0 x1 v => go Try.prog F_slices_Concat_int_int.N (PostN (.exit 2) (E_slices_Concat_int_int_l1 a0) v) [.l (lpA Try.prog 78 1)] .norm (S_slices_Concat_int_int_l1 a0 x0 x1)) ?_ x0 x1
 clear x0 x1
 intro f IH x0 x1
 exact Tr.lpN (F := F_slices_Concat_int_int) (S := fun x => S_slices_Concat_int_int_l1 a0 x.1 x.2) (S' := E_slices_Concat_int_int_l1 a0) (t_slices_Concat_int_int_l1 a0 x0 x1) (fun x => f x.1 x.2) (fun x r h => IH x.1 x.2 r h) (by kernel_rfl) (by kernel_rfl)
theorem nl_slices_Concat_int_int : ∀ v, (en_slices_Concat_int_int v).noLst := fun _ => (flat_map_of fun _ => trivial)
noncomputable def t_slices_Concat_int_int (a0 : List (List Int)) : Tr F_slices_Concat_int_int Empty (List Int) :=
 .len 12 (eL eI) a0 <| .loop 4 ⟨_, _, _, _, _, ok_slices_Concat_int_int_l0 a0 0 0⟩ fun j1 => .callB 4 [] (ok_slices_Grow_int_int_c j1) nl_slices_Grow_int_int_c nlB_slices_Grow_int_int_c fun r2 => .len 6 (eL eI) a0 <| .loop 4 ⟨_, _, _, _, _, ok_slices_Concat_int_int_l1 a0 0 r2⟩ fun j3 => .ret 7 j3
noncomputable def s_slices_Concat_int_int (a0 : List (List Int)) : Sg Try.prog (List Int) := ⟨78, M_slices_Concat_int_int a0, [.lst (List.map (enL (D.int .i64)) a0)], en_slices_Concat_int_int⟩
theorem ok_slices_Concat_int_int (a0 : List (List Int)) : (s_slices_Concat_int_int a0).Holds := Tr.fn (F := F_slices_Concat_int_int) (t_slices_Concat_int_int a0) (by kernel_rfl) (by kernel_rfl) (by kernel_rfl) (by kernel_rfl)
/-- thrum/index.Merge. -/
def en_index_Merge (v : (List Int)) : PV := sI (.s 0) v
noncomputable abbrev F_index_Merge : Fe := .of Try.prog 43 en_index_Merge
theorem nl_index_Merge : ∀ v, (en_index_Merge v).noLst := fun _ => (flat_map_of fun _ => trivial)
noncomputable def t_index_Merge (a0 : List (List Int)) : Tr F_index_Merge Empty (List Int) :=
 .call 7 (ok_slices_Concat_int_int a0) nl_slices_Concat_int_int fun r1 => .srt 5 [6, 3] (sk_slices_Sort_int r1) fun r2 => .srt 4 [8] (sk_slices_Compact_int r2) fun r3 => .ret 3 (List.take r3.length (r3 ++ List.replicate (r2.length - r3.length) 0))
noncomputable def s_index_Merge (a0 : List (List Int)) : Sg Try.prog (List Int) := ⟨43, M_index_Merge a0, [.lst (List.map (enL (D.int .i64)) a0)], en_index_Merge⟩
theorem ok_index_Merge (a0 : List (List Int)) : (s_index_Merge a0).Holds := Tr.fn (F := F_index_Merge) (t_index_Merge a0) (by kernel_rfl) (by kernel_rfl) (by kernel_rfl) (by kernel_rfl)
/-- cmp.isNaN[int]. -/
def en_cmp_isNaN_int (v : Bool) : PV := bB v
noncomputable abbrev F_cmp_isNaN_int : Fe := .of Try.prog 129 en_cmp_isNaN_int
theorem nl_cmp_isNaN_int : ∀ v, (en_cmp_isNaN_int v).noLst := fun _ => trivial
noncomputable def t_cmp_isNaN_int (a0 : Int) : Tr F_cmp_isNaN_int Empty Bool :=
 .ret 12 (a0 != a0)
noncomputable def s_cmp_isNaN_int (a0 : Int) : Sg Try.prog Bool := ⟨129, M_cmp_isNaN_int a0, [.int .i64 a0], en_cmp_isNaN_int⟩
theorem ok_cmp_isNaN_int (a0 : Int) : (s_cmp_isNaN_int a0).Holds := Tr.fn (F := F_cmp_isNaN_int) (t_cmp_isNaN_int a0) (by kernel_rfl) (by kernel_rfl) (by kernel_rfl) (by kernel_rfl)
/-- cmp.Less[int]. -/
def en_cmp_Less_int (v : Bool) : PV := bB v
noncomputable abbrev F_cmp_Less_int : Fe := .of Try.prog 108 en_cmp_Less_int
theorem nl_cmp_Less_int : ∀ v, (en_cmp_Less_int v).noLst := fun _ => trivial
noncomputable def t_cmp_Less_int (a0 : Int) (a1 : Int) : Tr F_cmp_Less_int Empty Bool :=
 .call 7 (ok_cmp_isNaN_int a0) nl_cmp_isNaN_int fun r1 => .join 1 4 (γ := Bool) ⟨fun x => [(11, bB x)], [0, 1], fun _ => [], []⟩
 (.iteB 0 7 (r1)
 (.call 1 (ok_cmp_isNaN_int a1) nl_cmp_isNaN_int fun r2 => .ret 3 (!r2))
 (.ret 5 false))
 fun j3 => .join 1 4 (γ := Bool) ⟨fun x => [(16, bB x)], [], fun _ => [], []⟩
 (.iteB 0 12 (j3)
 (.ret 5 true)
 (.ret 5 (decide (a0 < a1))))
 fun j4 => .ret 3 j4
noncomputable def s_cmp_Less_int (a0 : Int) (a1 : Int) : Sg Try.prog Bool := ⟨108, M_cmp_Less_int a0 a1, [.int .i64 a0, .int .i64 a1], en_cmp_Less_int⟩
theorem ok_cmp_Less_int (a0 : Int) (a1 : Int) : (s_cmp_Less_int a0 a1).Holds := Tr.fn (F := F_cmp_Less_int) (t_cmp_Less_int a0 a1) (by kernel_rfl) (by kernel_rfl) (by kernel_rfl) (by kernel_rfl)
/-- slices.isNaN[int]. -/
def en_slices_isNaN_int (v : Bool) : PV := bB v
noncomputable abbrev F_slices_isNaN_int : Fe := .of Try.prog 109 en_slices_isNaN_int
theorem nl_slices_isNaN_int : ∀ v, (en_slices_isNaN_int v).noLst := fun _ => trivial
noncomputable def t_slices_isNaN_int (a0 : Int) : Tr F_slices_isNaN_int Empty Bool :=
 .ret 12 (a0 != a0)
noncomputable def s_slices_isNaN_int (a0 : Int) : Sg Try.prog Bool := ⟨109, M_slices_isNaN_int a0, [.int .i64 a0], en_slices_isNaN_int⟩
theorem ok_slices_isNaN_int (a0 : Int) : (s_slices_isNaN_int a0).Holds := Tr.fn (F := F_slices_isNaN_int) (t_slices_isNaN_int a0) (by kernel_rfl) (by kernel_rfl) (by kernel_rfl) (by kernel_rfl)
/-- slices.BinarySearch[[]int,int]. -/
def en_slices_BinarySearch_int_int (v : Int × Bool) : PV := .tup [nI v.1, bB v.2]
noncomputable abbrev F_slices_BinarySearch_int_int : Fe := .of Try.prog 80 en_slices_BinarySearch_int_int
def S_slices_BinarySearch_int_int_l0 (a0 : List Int) (a1 : Int) (x0 : Int) (x1 : Int) : St := ⟨[(8, nI x0), (7, nI x1), (6, nI (a0.length : Int)), (0, lI a0), (1, nI a1)], []⟩
def E_slices_BinarySearch_int_int_l0 (a0 : List Int) (a1 : Int) (x : Int) : St := ⟨[(7, nI x), (6, nI (a0.length : Int)), (0, lI a0), (1, nI a1)], []⟩
noncomputable def t_slices_BinarySearch_int_int_l0 (a0 : List Int) (a1 : Int) (x0 : Int) (x1 : Int) : Tr F_slices_BinarySearch_int_int (Int × Int) Int :=
 .ite 8 15 (x1 < x0)
 (.let_ (IntKind.i64.wrap (sShr .u64 (IntKind.u64.wrap (IntKind.i64.wrap (x1 + x0))) 1) : Int) fun y1 => .idx 17 eI a0 y1 <| .call 2 (ok_cmp_Less_int (at' a0 y1) a1) nl_cmp_Less_int fun r3 => .iteB 1 27 (r3)
 (.again 7 (x0, IntKind.i64.wrap (y1 + 1)))
 (.again 6 (y1, x1)))
 (.ret 4 x1)
theorem ok_slices_BinarySearch_int_int_l0 (a0 : List Int) (a1 : Int) (x0 : Int) (x1 : Int) : Ok (M_slices_BinarySearch_int_int_l0 a0 a1 x0 x1) fun v => go Try.prog F_slices_BinarySearch_int_int.N (PostN (.exit 0) (E_slices_BinarySearch_int_int_l0 a0 a1) v) [.l (lpA Try.prog 80 0)] .norm (S_slices_BinarySearch_int_int_l0 a0 a1 x0 x1) := by
 refine M_slices_BinarySearch_int_int_l0.partial_correctness a0 a1 (fun x0 x1 v => go Try.prog F_slices_BinarySearch_int_int.N (PostN (.exit 0) (E_slices_BinarySearch_int_int_l0 a0 a1) v) [.l (lpA Try.prog 80 0)] .norm (S_slices_BinarySearch_int_int_l0 a0 a1 x0 x1)) ?_ x0 x1
 clear x0 x1
 intro f IH x0 x1
 exact Tr.lpN (F := F_slices_BinarySearch_int_int) (S := fun x => S_slices_BinarySearch_int_int_l0 a0 a1 x.1 x.2) (S' := E_slices_BinarySearch_int_int_l0 a0 a1) (t_slices_BinarySearch_int_int_l0 a0 a1 x0 x1) (fun x => f x.1 x.2) (fun x r h => IH x.1 x.2 r h) (by kernel_rfl) (by kernel_rfl)
theorem nl_slices_BinarySearch_int_int : ∀ v, (en_slices_BinarySearch_int_int v).noLst := fun _ => ⟨trivial, trivial, trivial⟩
noncomputable def t_slices_BinarySearch_int_int (a0 : List Int) (a1 : Int) : Tr F_slices_BinarySearch_int_int Empty (Int × Bool) :=
 .len 8 eI a0 <| .loop 11 ⟨_, _, _, _, _, ok_slices_BinarySearch_int_int_l0 a0 a1 (a0.length : Int) 0⟩ fun j4 => .ite 8 35 (j4 < (a0.length : Int))
 (.idx 2 eI a0 j4 <| .ite 4 42 ((at' a0 j4) = a1)
 (.ret 15 (j4, true))
 (.idx 2 eI a0 j4 <| .call 1 (ok_slices_isNaN_int (at' a0 j4)) nl_slices_isNaN_int fun r5 => .iteB 1 48 (r5)
 (.call 1 (ok_slices_isNaN_int a1) nl_slices_isNaN_int fun r6 => .ret 7 (j4, r6))
 (.ret 9 (j4, false))))
 (.ret 22 (j4, false))
noncomputable def s_slices_BinarySearch_int_int (a0 : List Int) (a1 : Int) : Sg Try.prog (Int × Bool) := ⟨80, M_slices_BinarySearch_int_int a0 a1, [.lst (List.map (D.int .i64) a0), .int .i64 a1], en_slices_BinarySearch_int_int⟩
theorem ok_slices_BinarySearch_int_int (a0 : List Int) (a1 : Int) : (s_slices_BinarySearch_int_int a0 a1).Holds := Tr.fn (F := F_slices_BinarySearch_int_int) (t_slices_BinarySearch_int_int a0 a1) (by kernel_rfl) (by kernel_rfl) (by kernel_rfl) (by kernel_rfl)
/-- thrum/index.Has. -/
def en_index_Has (v : Int × Bool) : PV := .tup [nI v.1, bB v.2]
noncomputable abbrev F_index_Has : Fe := .of Try.prog 44 en_index_Has
theorem nl_index_Has : ∀ v, (en_index_Has v).noLst := fun _ => ⟨trivial, trivial, trivial⟩
noncomputable def t_index_Has (a0 : List Int) (a1 : Int) : Tr F_index_Has Empty (Int × Bool) :=
 .call 9 (ok_slices_BinarySearch_int_int a0 a1) nl_slices_BinarySearch_int_int fun r1 => .ret 6 (r1.1, r1.2)
noncomputable def s_index_Has (a0 : List Int) (a1 : Int) : Sg Try.prog (Int × Bool) := ⟨44, M_index_Has a0 a1, [.lst (List.map (D.int .i64) a0), .int .i64 a1], en_index_Has⟩
theorem ok_index_Has (a0 : List Int) (a1 : Int) : (s_index_Has a0 a1).Holds := Tr.fn (F := F_index_Has) (t_index_Has a0 a1) (by kernel_rfl) (by kernel_rfl) (by kernel_rfl) (by kernel_rfl)
/-- thrum/thrumref06.rises. -/
def en_thrumref06_rises (v : Bool) : PV := bB v
noncomputable abbrev F_thrumref06_rises : Fe := .of Try.prog 81 en_thrumref06_rises
def S_thrumref06_rises_l0 (a0 : List Int) (x0 : Int) : St := ⟨[(3, nI x0), (0, lI a0)], []⟩
def E_thrumref06_rises_l0 (a0 : List Int) (x : Unit) : St := ⟨[], []⟩
noncomputable def t_thrumref06_rises_l0 (a0 : List Int) (x0 : Int) : Tr F_thrumref06_rises Int (Sum Bool Unit) :=
 .len 6 eI a0 <| .ite 2 7 (x0 < (a0.length : Int))
 (.idx 8 eI a0 x0 <| .idx 4 eI a0 (IntKind.i64.wrap (x0 - 1)) <| .ite 3 19 ((at' a0 x0) ≤ (at' a0 (IntKind.i64.wrap (x0 - 1))))
 (.ret 9 (.inl false))
 (.again 8 (IntKind.i64.wrap (x0 + 1))))
 (.ret 4 (.inr ()))
theorem ok_thrumref06_rises_l0 (a0 : List Int) (x0 : Int) : Ok (M_thrumref06_rises_l0 a0 x0) fun v => go Try.prog F_thrumref06_rises.N (PostR (fun r => Fnl F_thrumref06_rises.res (F_thrumref06_rises.en r) (F_thrumref06_rises.bx r)) (.exit 0) (E_thrumref06_rises_l0 a0) v) [.l (lpA Try.prog 81 0)] .norm (S_thrumref06_rises_l0 a0 x0) := by
 refine M_thrumref06_rises_l0.partial_correctness a0 (fun x0 v => go Try.prog F_thrumref06_rises.N (PostR (fun r => Fnl F_thrumref06_rises.res (F_thrumref06_rises.en r) (F_thrumref06_rises.bx r)) (.exit 0) (E_thrumref06_rises_l0 a0) v) [.l (lpA Try.prog 81 0)] .norm (S_thrumref06_rises_l0 a0 x0)) ?_ x0
 clear x0
 intro f IH x0
 exact Tr.lpR (F := F_thrumref06_rises) (S := fun x => S_thrumref06_rises_l0 a0 x) (S' := E_thrumref06_rises_l0 a0) (t_thrumref06_rises_l0 a0 x0) (fun x => f x) (fun x r h => IH x r h) (by kernel_rfl) (by kernel_rfl)
theorem nl_thrumref06_rises : ∀ v, (en_thrumref06_rises v).noLst := fun _ => trivial
noncomputable def t_thrumref06_rises (a0 : List Int) : Tr F_thrumref06_rises Empty Bool :=
 .loopR 11 id ⟨_, _, _, _, _, ok_thrumref06_rises_l0 a0 1⟩ fun j1 => .ret 6 true
noncomputable def s_thrumref06_rises (a0 : List Int) : Sg Try.prog Bool := ⟨81, M_thrumref06_rises a0, [.lst (List.map (D.int .i64) a0)], en_thrumref06_rises⟩
theorem ok_thrumref06_rises (a0 : List Int) : (s_thrumref06_rises a0).Holds := Tr.fn (F := F_thrumref06_rises) (t_thrumref06_rises a0) (by kernel_rfl) (by kernel_rfl) (by kernel_rfl) (by kernel_rfl)
/-- thrum/thrumref06.Rises. -/
def en_thrumref06_Rises (v : Bool) : PV := bB v
noncomputable abbrev F_thrumref06_Rises : Fe := .of Try.prog 45 en_thrumref06_Rises
theorem nl_thrumref06_Rises : ∀ v, (en_thrumref06_Rises v).noLst := fun _ => trivial
noncomputable def t_thrumref06_Rises (a0 : List Int) : Tr F_thrumref06_Rises Empty Bool :=
 .call 7 (ok_thrumref06_rises a0) nl_thrumref06_rises fun r1 => .ret 3 r1
noncomputable def s_thrumref06_Rises (a0 : List Int) : Sg Try.prog Bool := ⟨45, M_thrumref06_Rises a0, [.lst (List.map (D.int .i64) a0)], en_thrumref06_Rises⟩
theorem ok_thrumref06_Rises (a0 : List Int) : (s_thrumref06_Rises a0).Holds := Tr.fn (F := F_thrumref06_Rises) (t_thrumref06_Rises a0) (by kernel_rfl) (by kernel_rfl) (by kernel_rfl) (by kernel_rfl)
/-- thrum/thrumlaw06.IndexMerges. -/
def en_thrumlaw06_IndexMerges (v : Bool) : PV := bB v
noncomputable abbrev F_thrumlaw06_IndexMerges : Fe := .of Try.prog 6 en_thrumlaw06_IndexMerges
def S_thrumlaw06_IndexMerges_l1 (a0 : List (List Int)) (r1 : Bool) (r3 : (List Int)) (x0 : Int) (x1 : List (List Int)) (y4 : Int) (x0_ : Int) (x1_ : List (Int × Bool)) : St := ⟨[(43, nI x0_), (42, nI ((at' a0 x0).length : Int)), (41, lI (at' a0 x0)), (6, .sl (.s 19375) 1 0 (List.map (enL (D.int .i64)) (x1 ++ [at' a0 y4]))), (25, nI x0), (24, nI (a0.length : Int)), (23, .d (.lst (List.map (enL (D.int .i64)) a0))), (5, .ptr (.s 11214) 0), (4, sI (.s 9616) r3), (3, bB r1), (0, .d (.lst (List.map (enL (D.int .i64)) a0)))], [(.s 11214, [.d (.mp x1_)])]⟩
def E_thrumlaw06_IndexMerges_l1 (a0 : List (List Int)) (r1 : Bool) (r3 : (List Int)) (x0 : Int) (x1 : List (List Int)) (y4 : Int) (x : (List (Int × Bool))) : St := ⟨[(6, .sl (.s 19375) 1 0 (List.map (enL (D.int .i64)) (x1 ++ [at' a0 y4]))), (25, nI x0), (24, nI (a0.length : Int)), (23, .d (.lst (List.map (enL (D.int .i64)) a0))), (5, .ptr (.s 11214) 0), (4, sI (.s 9616) r3), (3, bB r1), (0, .d (.lst (List.map (enL (D.int .i64)) a0)))], [(.s 11214, [.d (.mp x)])]⟩
noncomputable def t_thrumlaw06_IndexMerges_l1 (a0 : List (List Int)) (r1 : Bool) (r3 : (List Int)) (x0 : Int) (x1 : List (List Int)) (y4 : Int) (x0_ : Int) (x1_ : List (Int × Bool)) : Tr F_thrumlaw06_IndexMerges (Int × (List (Int × Bool))) (Sum Bool (List (Int × Bool))) :=
 .ite 6 44 (x0_ < ((at' a0 x0).length : Int))
 (.idx 6 eI (at' a0 x0) x0_ <| .call 13 (ok_index_Has r3 (at' (at' a0 x0) x0_)) nl_index_Has fun r6 => .iteX 11 56 (r6.2)
 (.ret 9 (.inl false))
 (.again 7 (IntKind.i64.wrap (x0_ + 1), insM x1_ (at' (at' a0 x0) x0_) true)))
 (.ret 4 (.inr x1_))
theorem ok_thrumlaw06_IndexMerges_l1 (a0 : List (List Int)) (r1 : Bool) (r3 : (List Int)) (x0 : Int) (x1 : List (List Int)) (y4 : Int) (x0_ : Int) (x1_ : List (Int × Bool)) : Ok (M_thrumlaw06_IndexMerges_l1 a0 r1 r3 x0 x1 y4 x0_ x1_) fun v => go Try.prog F_thrumlaw06_IndexMerges.N (PostR (fun r => Fnl F_thrumlaw06_IndexMerges.res (F_thrumlaw06_IndexMerges.en r) (F_thrumlaw06_IndexMerges.bx r)) (.exit 2) (E_thrumlaw06_IndexMerges_l1 a0 r1 r3 x0 x1 y4) v) [.l (lpA Try.prog 6 1)] .norm (S_thrumlaw06_IndexMerges_l1 a0 r1 r3 x0 x1 y4 x0_ x1_) := by
 refine M_thrumlaw06_IndexMerges_l1.partial_correctness a0 r1 r3 x0 x1 y4 (fun x0_ x1_ v => go Try.prog F_thrumlaw06_IndexMerges.N (PostR (fun r => Fnl F_thrumlaw06_IndexMerges.res (F_thrumlaw06_IndexMerges.en r) (F_thrumlaw06_IndexMerges.bx r)) (.exit 2) (E_thrumlaw06_IndexMerges_l1 a0 r1 r3 x0 x1 y4) v) [.l (lpA Try.prog 6 1)] .norm (S_thrumlaw06_IndexMerges_l1 a0 r1 r3 x0 x1 y4 x0_ x1_)) ?_ x0_ x1_
 clear x0_ x1_
 intro f IH x0_ x1_
 exact Tr.lpR (F := F_thrumlaw06_IndexMerges) (S := fun x => S_thrumlaw06_IndexMerges_l1 a0 r1 r3 x0 x1 y4 x.1 x.2) (S' := E_thrumlaw06_IndexMerges_l1 a0 r1 r3 x0 x1 y4) (t_thrumlaw06_IndexMerges_l1 a0 r1 r3 x0 x1 y4 x0_ x1_) (fun x => f x.1 x.2) (fun x r h => IH x.1 x.2 r h) (by kernel_rfl) (by kernel_rfl)
def S_thrumlaw06_IndexMerges_l0 (a0 : List (List Int)) (r1 : Bool) (r3 : (List Int)) (x0 : Int) (x1 : List (List Int)) (x2 : List (Int × Bool)) : St := ⟨[(25, nI x0), (24, nI (a0.length : Int)), (23, .d (.lst (List.map (enL (D.int .i64)) a0))), (6, .sl (.h 0) 1 0 (List.map (enL (D.int .i64)) x1)), (5, .ptr (.s 11214) 0), (4, sI (.s 9616) r3), (3, bB r1), (0, .d (.lst (List.map (enL (D.int .i64)) a0)))], [(.s 11214, [.d (.mp x2)])]⟩
def E_thrumlaw06_IndexMerges_l0 (a0 : List (List Int)) (r1 : Bool) (r3 : (List Int)) (x : (List (List Int)) × (List (Int × Bool))) : St := ⟨[(6, .sl (.h 1) 1 0 (List.map (enL (D.int .i64)) x.1)), (5, .ptr (.s 11214) 0), (4, sI (.s 9616) r3), (3, bB r1), (0, .d (.lst (List.map (enL (D.int .i64)) a0)))], [(.s 11214, [.d (.mp x.2)])]⟩
noncomputable def t_thrumlaw06_IndexMerges_l0 (a0 : List (List Int)) (r1 : Bool) (r3 : (List Int)) (x0 : Int) (x1 : List (List Int)) (x2 : List (Int × Bool)) : Tr F_thrumlaw06_IndexMerges (Int × (List (List Int)) × (List (Int × Bool))) (Sum Bool ((List (List Int)) × (List (Int × Bool)))) :=
 .ite 6 26 (x0 < (a0.length : Int))
 (.idx 7 (eL eI) a0 x0 <| .len 9 (eL eI) a0 <| .let_ (IntKind.i64.wrap ((IntKind.i64.wrap ((a0.length : Int) - 1)) - x0) : Int) fun y4 => .idx 3 (eL eI) a0 y4 <| .app 2 (eL eI) 24 x1 [at' a0 y4] <| .len 5 eI (at' a0 x0) <| .loopR 4 .inl ⟨_, _, _, _, _, ok_thrumlaw06_IndexMerges_l1 a0 r1 r3 x0 x1 y4 0 x2⟩ fun j7 => .again 6 (IntKind.i64.wrap (x0 + 1), x1 ++ [at' a0 y4], j7))
 (.ret 4 (.inr (x1, x2)))
theorem ok_thrumlaw06_IndexMerges_l0 (a0 : List (List Int)) (r1 : Bool) (r3 : (List Int)) (x0 : Int) (x1 : List (List Int)) (x2 : List (Int × Bool)) : Ok (M_thrumlaw06_IndexMerges_l0 a0 r1 r3 x0 x1 x2) fun v => go Try.prog F_thrumlaw06_IndexMerges.N (PostR (fun r => Fnl F_thrumlaw06_IndexMerges.res (F_thrumlaw06_IndexMerges.en r) (F_thrumlaw06_IndexMerges.bx r)) (.exit 0) (E_thrumlaw06_IndexMerges_l0 a0 r1 r3) v) [.l (lpA Try.prog 6 0)] .norm (S_thrumlaw06_IndexMerges_l0 a0 r1 r3 x0 x1 x2) := by
 refine M_thrumlaw06_IndexMerges_l0.partial_correctness a0 r1 r3 (fun x0 x1 x2 v => go Try.prog F_thrumlaw06_IndexMerges.N (PostR (fun r => Fnl F_thrumlaw06_IndexMerges.res (F_thrumlaw06_IndexMerges.en r) (F_thrumlaw06_IndexMerges.bx r)) (.exit 0) (E_thrumlaw06_IndexMerges_l0 a0 r1 r3) v) [.l (lpA Try.prog 6 0)] .norm (S_thrumlaw06_IndexMerges_l0 a0 r1 r3 x0 x1 x2)) ?_ x0 x1 x2
 clear x0 x1 x2
 intro f IH x0 x1 x2
 exact Tr.lpR (F := F_thrumlaw06_IndexMerges) (S := fun x => S_thrumlaw06_IndexMerges_l0 a0 r1 r3 x.1 x.2.1 x.2.2) (S' := E_thrumlaw06_IndexMerges_l0 a0 r1 r3) (t_thrumlaw06_IndexMerges_l0 a0 r1 r3 x0 x1 x2) (fun x => f x.1 x.2.1 x.2.2) (fun x r h => IH x.1 x.2.1 x.2.2 r h) (by kernel_rfl) (by kernel_rfl)
theorem nl_thrumlaw06_IndexMerges : ∀ v, (en_thrumlaw06_IndexMerges v).noLst := fun _ => trivial
noncomputable def t_thrumlaw06_IndexMerges (a0 : List (List Int)) : Tr F_thrumlaw06_IndexMerges Empty Bool :=
 .call 6 ok_thrumlaw06_live nl_thrumlaw06_live fun r1 => .iteX 8 15 (r1)
 (.ret 7 false)
 (.call 6 (ok_thrumlaw06_few a0) nl_thrumlaw06_few fun r2 => .iteX 2 18 (r2)
 (.ret 8 r1)
 (.call 5 (ok_index_Merge a0) nl_index_Merge fun r3 => .len 15 (eL eI) a0 <| .loopR 4 id ⟨_, _, _, _, _, ok_thrumlaw06_IndexMerges_l0 a0 r1 r3 0 [] []⟩ fun j8 => .len 5 (eL eI) a0 <| .join 2 0 (γ := (List (List Int))) ⟨fun x => [(6, .sl (.h 2) 1 0 (List.map (enL (D.int .i64)) x))], [5, 4, 3], fun _ => [], [.s 11214]⟩
 (.ite 0 61 ((a0.length : Int) > 0)
 (.idx 4 (eL eI) a0 0 <| .app 2 (eL eI) 24 j8.1 [at' a0 0] <| .ret 2 (j8.1 ++ [at' a0 0]))
 (.ret 2 j8.1))
 fun j9 => .join 4 6 (γ := Bool) ⟨fun x => [(75, bB x)], [6, 4], fun _ => [], []⟩
 (.iteB 0 69 (r1)
 (.len 1 eI r3 <| .ret 5 ((r3.length : Int) == (j8.2.length : Int)))
 (.ret 7 false))
 fun j10 => .join 1 3 (γ := Bool) ⟨fun x => [(79, bB x)], [6, 4], fun _ => [], []⟩
 (.iteB 0 76 (j10)
 (.call 1 (ok_thrumref06_Rises r3) nl_thrumref06_Rises fun r11 => .ret 2 r11)
 (.ret 4 false))
 fun j12 => .join 1 5 (γ := Bool) ⟨fun x => [(85, bB x)], [], fun _ => [], []⟩
 (.iteB 0 80 (j12)
 (.call 1 (ok_index_Merge j9) nl_index_Merge fun r13 => .call 1 (ok_thrumref06_Equal r13 r3) nl_thrumref06_Equal fun r14 => .ret 2 r14)
 (.ret 6 false))
 fun j15 => .ret 3 j15))
noncomputable def s_thrumlaw06_IndexMerges (a0 : List (List Int)) : Sg Try.prog Bool := ⟨6, M_thrumlaw06_IndexMerges a0, [.lst (List.map (enL (D.int .i64)) a0)], en_thrumlaw06_IndexMerges⟩
theorem ok_thrumlaw06_IndexMerges (a0 : List (List Int)) : (s_thrumlaw06_IndexMerges a0).Holds := Tr.fn (F := F_thrumlaw06_IndexMerges) (t_thrumlaw06_IndexMerges a0) (by kernel_rfl) (by kernel_rfl) (by kernel_rfl) (by kernel_rfl)
end Go.Proofs.Ytelobmiooldoaaa.Abs
