/- Walks of functions, printed by a program. Conditions: none. -/
import Derived.Test.YthkofkhggdgcpaaProg
import Derived.Test.YthkofkhggdgcpaaAbsG8
import Derived.Test.YthkofkhggdgcpaaIM
namespace Go.Proofs.Ythkofkhggdgcpaa.Abs
open Go Go.RowKit
set_option linter.unusedVariables false
set_option maxRecDepth 100000
open Z
/-- thrum/index.measure. -/
def en_index_measure (v : Bool) : PV := bB v
noncomputable abbrev F_index_measure : Fe := .of Try.prog 36 en_index_measure
theorem nl_index_measure : ∀ v, (en_index_measure v).noLst := fun _ => trivial
noncomputable def t_index_measure (a0 : Int) : Tr F_index_measure Empty Bool :=
 .join 9 3 (γ := Bool) ⟨fun x => [(8, bB x)], [], fun _ => [], []⟩
 (.ite 0 5 (a0 > 0)
 (.ret 4 (decide (a0 ≤ 4096)))
 (.ret 4 false))
 fun j1 => .ret 3 j1
noncomputable def s_index_measure (a0 : Int) : Sg Try.prog Bool := ⟨36, M_index_measure a0, [.int .i64 a0], en_index_measure⟩
theorem ok_index_measure (a0 : Int) : (s_index_measure a0).Holds := Tr.fn (F := F_index_measure) (t_index_measure a0) (by kernel_rfl) (by kernel_rfl) (by kernel_rfl) (by kernel_rfl)
/-- thrum/index.rises. -/
def en_index_rises (v : Bool) : PV := bB v
noncomputable abbrev F_index_rises : Fe := .of Try.prog 31 en_index_rises
def S_index_rises_l0 (a0 : List Int) (x0 : Int) : St := ⟨[(3, nI x0), (0, lI a0)], []⟩
def E_index_rises_l0 (a0 : List Int) (x : Unit) : St := ⟨[], []⟩
noncomputable def t_index_rises_l0 (a0 : List Int) (x0 : Int) : Tr F_index_rises Int (Sum Bool Unit) :=
 .len 6 eI a0 <| .ite 2 7 (x0 < (a0.length : Int))
 (.idx 9 eI a0 (IntKind.i64.wrap (x0 - 1)) <| .idx 3 eI a0 x0 <| .ite 3 19 ((at' a0 (IntKind.i64.wrap (x0 - 1))) ≥ (at' a0 x0))
 (.ret 9 (.inl false))
 (.again 8 (IntKind.i64.wrap (x0 + 1))))
 (.ret 4 (.inr ()))
theorem ok_index_rises_l0 (a0 : List Int) (x0 : Int) : Ok (M_index_rises_l0 a0 x0) fun v => go Try.prog F_index_rises.N (PostR (fun r => Fnl F_index_rises.res (F_index_rises.en r) (F_index_rises.bx r)) (.exit 0) (E_index_rises_l0 a0) v) [.l (lpA Try.prog 31 0)] .norm (S_index_rises_l0 a0 x0) := by
 refine M_index_rises_l0.partial_correctness a0 (fun x0 v => go Try.prog F_index_rises.N (PostR (fun r => Fnl F_index_rises.res (F_index_rises.en r) (F_index_rises.bx r)) (.exit 0) (E_index_rises_l0 a0) v) [.l (lpA Try.prog 31 0)] .norm (S_index_rises_l0 a0 x0)) ?_ x0
 clear x0
 intro f IH x0
 exact Tr.lpR (F := F_index_rises) (S := fun x => S_index_rises_l0 a0 x) (S' := E_index_rises_l0 a0) (t_index_rises_l0 a0 x0) (fun x => f x) (fun x r h => IH x r h) (by kernel_rfl) (by kernel_rfl)
theorem nl_index_rises : ∀ v, (en_index_rises v).noLst := fun _ => trivial
noncomputable def t_index_rises (a0 : List Int) : Tr F_index_rises Empty Bool :=
 .loopR 11 id ⟨_, _, _, _, _, ok_index_rises_l0 a0 1⟩ fun j1 => .ret 6 true
noncomputable def s_index_rises (a0 : List Int) : Sg Try.prog Bool := ⟨31, M_index_rises a0, [.lst (List.map (D.int .i64) a0)], en_index_rises⟩
theorem ok_index_rises (a0 : List Int) : (s_index_rises a0).Holds := Tr.fn (F := F_index_rises) (t_index_rises a0) (by kernel_rfl) (by kernel_rfl) (by kernel_rfl) (by kernel_rfl)
/-- thrum/index.Check. -/
def en_index_Check (v : Int) : PV := nI v
noncomputable abbrev F_index_Check : Fe := .of Try.prog 24 en_index_Check
theorem nl_index_Check : ∀ v, (en_index_Check v).noLst := fun _ => trivial
noncomputable def t_index_Check (a0 : Int) (a1 : List Int) : Tr F_index_Check Empty Int :=
 .len 7 eI a1 <| .call 6 (ok_index_measure a0) nl_index_measure fun r1 => .join 2 4 (γ := Bool) ⟨fun x => [(15, bB x)], [5, 0, 1], fun _ => [], []⟩
 (.iteX 0 11 (r1)
 (.ret 5 true)
 (.call 1 (ok_index_rises a1) nl_index_rises fun r2 => .ret 3 (!r2)))
 fun j3 => .iteB 1 16 (j3)
 (.ret 26 1)
 (.ite 3 19 ((a1.length : Int) > 0)
 (.idx 1 eI a1 0 <| .ite 3 24 ((at' a1 0) < 0)
 (.ret 18 1)
 (.idx 3 eI a1 (IntKind.i64.wrap ((a1.length : Int) - 1)) <| .ite 7 34 ((at' a1 (IntKind.i64.wrap ((a1.length : Int) - 1))) ≥ a0)
 (.ret 7 1)
 (.ret 7 0)))
 (.ret 23 0))
noncomputable def s_index_Check (a0 : Int) (a1 : List Int) : Sg Try.prog Int := ⟨24, M_index_Check a0 a1, [.int .i64 a0, .lst (List.map (D.int .i64) a1)], en_index_Check⟩
theorem ok_index_Check (a0 : Int) (a1 : List Int) : (s_index_Check a0 a1).Holds := Tr.fn (F := F_index_Check) (t_index_Check a0 a1) (by kernel_rfl) (by kernel_rfl) (by kernel_rfl) (by kernel_rfl)
/-- slices.Clone[[]byte,byte]. -/
def en_slices_Clone_byte_byte (v : (List Int)) : PV := sY (.s 0) v
noncomputable abbrev F_slices_Clone_byte_byte : Fe := .of Try.prog 44 en_slices_Clone_byte_byte
theorem nl_slices_Clone_byte_byte : ∀ v, (en_slices_Clone_byte_byte v).noLst := fun _ => (flat_map_of fun _ => trivial)
noncomputable def t_slices_Clone_byte_byte (a0 : List Int) : Tr F_slices_Clone_byte_byte Empty (List Int) :=
 .nilq 8 eY.f a0
 (    if room 1 ([] ++ a0).length then
      some ([] ++ a0)
    else none)
 (    some [])
 (fun h => by (try obtain rfl := List.eq_nil_of_length_eq_zero h); first | rfl | (simp [h]; done))
 (.app 7 eY 1 [] a0 <| .ret 3 ([] ++ a0))
 (.ret 8 [])
noncomputable def s_slices_Clone_byte_byte (a0 : List Int) : Sg Try.prog (List Int) := ⟨44, M_slices_Clone_byte_byte a0, [.lst (List.map (D.int .u8) a0)], en_slices_Clone_byte_byte⟩
theorem ok_slices_Clone_byte_byte (a0 : List Int) : (s_slices_Clone_byte_byte a0).Holds := Tr.fn (F := F_slices_Clone_byte_byte) (t_slices_Clone_byte_byte a0) (by kernel_rfl) (by kernel_rfl) (by kernel_rfl) (by kernel_rfl)
/-- thrum/leb.put. -/
def en_leb_put (v : (List Int)) : PV := sY (.s 0) v
def bx_leb_put (v : (List Int)) : List (Tg × List PV) := []
noncomputable abbrev F_leb_put : Fe := .of Try.prog 45 en_leb_put bx_leb_put
def S_leb_put_l0 (x0 : List Int) (x1 : Int) : St := ⟨[(0, sY (.h 1) x0), (1, nU x1)], []⟩
def E_leb_put_l0 (x : (List Int) × Int) : St := ⟨[(0, sY (.h 2) x.1), (1, nU x.2)], []⟩
noncomputable def t_leb_put_l0 (x0 : List Int) (x1 : Int) : Tr F_leb_put ((List Int) × Int) ((List Int) × Int) :=
 .ite 7 6 (x1 > 127)
 (.app 10 eY 1 x0 [bOr .u8 (IntKind.u8.wrap x1) 128] <| .let_ (x0 ++ [bOr .u8 (IntKind.u8.wrap x1) 128] : List Int) fun y1 => .again 8 (y1, sShr .u64 x1 7))
 (.ret 4 (x0, x1))
theorem ok_leb_put_l0 (x0 : List Int) (x1 : Int) : Ok (M_leb_put_l0 x0 x1) fun v => go Try.prog F_leb_put.N (PostN (.exit 0) (E_leb_put_l0) v) [.l (lpA Try.prog 45 0)] .norm (S_leb_put_l0 x0 x1) := by
 refine M_leb_put_l0.partial_correctness (fun x0 x1 v => go Try.prog F_leb_put.N (PostN (.exit 0) (E_leb_put_l0) v) [.l (lpA Try.prog 45 0)] .norm (S_leb_put_l0 x0 x1)) ?_ x0 x1
 clear x0 x1
 intro f IH x0 x1
 exact Tr.lpN (F := F_leb_put) (S := fun x => S_leb_put_l0 x.1 x.2) (S' := E_leb_put_l0) (t_leb_put_l0 x0 x1) (fun x => f x.1 x.2) (fun x r h => IH x.1 x.2 r h) (by kernel_rfl) (by kernel_rfl)
theorem nl_leb_put : ∀ v, (en_leb_put v).noLst := fun _ => (flat_map_of fun _ => trivial)
theorem nlB_leb_put : ∀ v, noLstB (bx_leb_put v) := fun _ => trivial
noncomputable def t_leb_put (a0 : List Int) (a1 : Int) : Tr F_leb_put Empty (List Int) :=
 .loop 7 ⟨_, _, _, _, _, ok_leb_put_l0 a0 a1⟩ fun j3 => .app 7 eY 1 j3.1 [IntKind.u8.wrap j3.2] <| .ret 3 (j3.1 ++ [IntKind.u8.wrap j3.2])
noncomputable def s_leb_put (a0 : List Int) (a1 : Int) : SgG Try.prog (List Int) := ⟨45, M_leb_put a0 a1, [sY (.h 0) a0, nU a1], [], en_leb_put, bx_leb_put⟩
theorem ok_leb_put (a0 : List Int) (a1 : Int) : (s_leb_put a0 a1).Holds := Tr.fnG (F := F_leb_put) (t_leb_put a0 a1) (by kernel_rfl) (by kernel_rfl) (by kernel_rfl) (by kernel_rfl)
/-- thrum/leb.Put. -/
def en_leb_Put (v : (List Int)) : PV := sY (.s 0) v
noncomputable abbrev F_leb_Put : Fe := .of Try.prog 35 en_leb_Put
def S_leb_Put_l0 (a1 : List Int) (x0 : Int) (x1 : List Int) : St := ⟨[(11, nI x0), (10, nI (a1.length : Int)), (9, lU a1), (0, sY (.h 0) x1)], []⟩
def E_leb_Put_l0 (a1 : List Int) (x : (List Int)) : St := ⟨[(0, sY (.h 1) x)], []⟩
noncomputable def t_leb_Put_l0 (a1 : List Int) (x0 : Int) (x1 : List Int) : Tr F_leb_Put (Int × (List Int)) (List Int) :=
 .ite 6 12 (x0 < (a1.length : Int))
 (.idx 6 eU a1 x0 <| .callB 6 [(.h 0, .h 0)] (ok_leb_put x1 (at' a1 x0)) nl_leb_put nlB_leb_put fun r2 => .again 7 (IntKind.i64.wrap (x0 + 1), r2))
 (.ret 4 x1)
theorem ok_leb_Put_l0 (a1 : List Int) (x0 : Int) (x1 : List Int) : Ok (M_leb_Put_l0 a1 x0 x1) fun v => go Try.prog F_leb_Put.N (PostN (.exit 0) (E_leb_Put_l0 a1) v) [.l (lpA Try.prog 35 0)] .norm (S_leb_Put_l0 a1 x0 x1) := by
 refine M_leb_Put_l0.partial_correctness a1 (fun x0 x1 v => go Try.prog F_leb_Put.N (PostN (.exit 0) (E_leb_Put_l0 a1) v) [.l (lpA Try.prog 35 0)] .norm (S_leb_Put_l0 a1 x0 x1)) ?_ x0 x1
 clear x0 x1
 intro f IH x0 x1
 exact Tr.lpN (F := F_leb_Put) (S := fun x => S_leb_Put_l0 a1 x.1 x.2) (S' := E_leb_Put_l0 a1) (t_leb_Put_l0 a1 x0 x1) (fun x => f x.1 x.2) (fun x r h => IH x.1 x.2 r h) (by kernel_rfl) (by kernel_rfl)
theorem nl_leb_Put : ∀ v, (en_leb_Put v).noLst := fun _ => (flat_map_of fun _ => trivial)
noncomputable def t_leb_Put (a0 : List Int) (a1 : List Int) : Tr F_leb_Put Empty (List Int) :=
 .call 7 (ok_slices_Clone_byte_byte a0) nl_slices_Clone_byte_byte fun r1 => .len 6 eU a1 <| .loop 4 ⟨_, _, _, _, _, ok_leb_Put_l0 a1 0 r1⟩ fun j3 => .ret 7 j3
noncomputable def s_leb_Put (a0 : List Int) (a1 : List Int) : Sg Try.prog (List Int) := ⟨35, M_leb_Put a0 a1, [.lst (List.map (D.int .u8) a0), .lst (List.map (D.int .u64) a1)], en_leb_Put⟩
theorem ok_leb_Put (a0 : List Int) (a1 : List Int) : (s_leb_Put a0 a1).Holds := Tr.fn (F := F_leb_Put) (t_leb_Put a0 a1) (by kernel_rfl) (by kernel_rfl) (by kernel_rfl) (by kernel_rfl)
/-- thrum/index.Put. -/
def en_index_Put (v : (List Int) × Int) : PV := .tup [sY (.s 0) v.1, nI v.2]
noncomputable abbrev F_index_Put : Fe := .of Try.prog 21 en_index_Put
def S_index_Put_l0 (a1 : List Int) (x0 : Int) (x1 : Int) (x2 : List Int) : St := ⟨[(29, nI x0), (28, nI (a1.length : Int)), (27, lI a1), (8, nI x1), (7, sU (.h 0) x2)], []⟩
def E_index_Put_l0 (a1 : List Int) (x : (List Int)) : St := ⟨[(7, sU (.h 1) x)], []⟩
noncomputable def t_index_Put_l0 (a1 : List Int) (x0 : Int) (x1 : Int) (x2 : List Int) : Tr F_index_Put (Int × Int × (List Int)) (List Int) :=
 .ite 6 30 (x0 < (a1.length : Int))
 (.idx 6 eI a1 x0 <| .app 12 eU 8 x2 [IntKind.u64.wrap (IntKind.i64.wrap ((IntKind.i64.wrap ((at' a1 x0) - x1)) - 1))] <| .let_ (x2 ++ [IntKind.u64.wrap (IntKind.i64.wrap ((IntKind.i64.wrap ((at' a1 x0) - x1)) - 1))] : List Int) fun y6 => .again 11 (IntKind.i64.wrap (x0 + 1), at' a1 x0, y6))
 (.ret 4 x2)
theorem ok_index_Put_l0 (a1 : List Int) (x0 : Int) (x1 : Int) (x2 : List Int) : Ok (M_index_Put_l0 a1 x0 x1 x2) fun v => go Try.prog F_index_Put.N (PostN (.exit 0) (E_index_Put_l0 a1) v) [.l (lpA Try.prog 21 0)] .norm (S_index_Put_l0 a1 x0 x1 x2) := by
 refine M_index_Put_l0.partial_correctness a1 (fun x0 x1 x2 v => go Try.prog F_index_Put.N (PostN (.exit 0) (E_index_Put_l0 a1) v) [.l (lpA Try.prog 21 0)] .norm (S_index_Put_l0 a1 x0 x1 x2)) ?_ x0 x1 x2
 clear x0 x1 x2
 intro f IH x0 x1 x2
 exact Tr.lpN (F := F_index_Put) (S := fun x => S_index_Put_l0 a1 x.1 x.2.1 x.2.2) (S' := E_index_Put_l0 a1) (t_index_Put_l0 a1 x0 x1 x2) (fun x => f x.1 x.2.1 x.2.2) (fun x r h => IH x.1 x.2.1 x.2.2 r h) (by kernel_rfl) (by kernel_rfl)
theorem nl_index_Put : ∀ v, (en_index_Put v).noLst := fun _ => ⟨(flat_map_of fun _ => trivial), trivial, trivial⟩
noncomputable def t_index_Put (a0 : Int) (a1 : List Int) : Tr F_index_Put Empty ((List Int) × Int) :=
 .call 10 (ok_index_Check a0 a1) nl_index_Check fun r1 => .iteN 7 15 (r1 = 0)
 (.ret 9 ([], r1))
 (.len 5 eI a1 <| .mk 1 eU 8 0 0 (IntKind.i64.wrap ((a1.length : Int) + 1)) <| .let_ (List.replicate (Int.toNat 0) 0 : List Int) fun y2 => .len 6 eI a1 <| .app 2 eU 8 y2 [IntKind.u64.wrap (a1.length : Int)] <| .let_ (y2 ++ [IntKind.u64.wrap (a1.length : Int)] : List Int) fun y4 => .len 10 eI a1 <| .loop 4 ⟨_, _, _, _, _, ok_index_Put_l0 a1 0 (-1) y4⟩ fun j8 => .call 4 (ok_leb_Put [] j8) nl_leb_Put fun r9 => .ret 4 (r9, 0))
noncomputable def s_index_Put (a0 : Int) (a1 : List Int) : Sg Try.prog ((List Int) × Int) := ⟨21, M_index_Put a0 a1, [.int .i64 a0, .lst (List.map (D.int .i64) a1)], en_index_Put⟩
theorem ok_index_Put (a0 : Int) (a1 : List Int) : (s_index_Put a0 a1).Holds := Tr.fn (F := F_index_Put) (t_index_Put a0 a1) (by kernel_rfl) (by kernel_rfl) (by kernel_rfl) (by kernel_rfl)
/-- thrum/leb.Get. -/
def en_leb_Get (v : Int × Int × Int) : PV := .tup [nU v.1, nI v.2.1, nI v.2.2]
noncomputable abbrev F_leb_Get : Fe := .of Try.prog 37 en_leb_Get
def S_leb_Get_l0 (a1 : Int) (y1 : List Int) (x0 : Int) (x1 : Int) : St := ⟨[(19, nI x0), (18, nI (y1.length : Int)), (17, lY y1), (4, nU x1), (1, nI a1)], []⟩
def E_leb_Get_l0 (a1 : Int) (y1 : List Int) (x : Unit) : St := ⟨[], []⟩
noncomputable def t_leb_Get_l0 (a1 : Int) (y1 : List Int) (x0 : Int) (x1 : Int) : Tr F_leb_Get (Int × Int) (Sum (Int × Int × Int) Unit) :=
 .ite 6 20 (x0 < (y1.length : Int))
 (.idx 7 eY y1 x0 <| .join 18 3 (γ := Bool) ⟨fun x => [(32, bB x)], [9, 8, 7, 19, 18, 17, 4, 1], fun _ => [], []⟩
 (.ite 0 29 (x0 = 9)
 (.ret 4 (decide ((at' y1 x0) > 1)))
 (.ret 4 false))
 fun j3 => .join 2 0 (γ := Bool) ⟨fun x => [(26, bB x)], [9, 8, 7, 19, 18, 17, 4, 1], fun _ => [], []⟩
 (.iteB 0 26 (j3)
 (.ret 2 true)
 (.join 4 3 (γ := Bool) ⟨fun x => [(37, bB x)], [9, 8, 7, 19, 18, 17, 4, 1], fun _ => [], []⟩
 (.ite 0 34 ((at' y1 x0) < 128)
 (.ret 4 ((at' y1 x0) == 0))
 (.ret 4 false))
 fun j4 => .join 1 3 (γ := Bool) ⟨fun x => [(41, bB x)], [9, 8, 7, 19, 18, 17, 4, 1], fun _ => [], []⟩
 (.iteB 0 38 (j4)
 (.ret 4 (decide (x0 > 0)))
 (.ret 4 false))
 fun j5 => .ret 2 j5))
 fun j6 => .iteB 0 26 (j6)
 (.ret 13 (.inl (0, 0, 6)))
 (.rd 11 (0 ≤ IntKind.i64.wrap (7 * x0)) (nU (sShl .u64 (IntKind.u64.wrap (bAnd .u8 (at' y1 x0) 127)) (IntKind.i64.wrap (7 * x0)))) <| .let_ (bOr .u64 x1 (sShl .u64 (IntKind.u64.wrap (bAnd .u8 (at' y1 x0) 127)) (IntKind.i64.wrap (7 * x0))) : Int) fun y7 => .ite 7 50 ((at' y1 x0) < 128)
 (.ret 16 (.inl (y7, IntKind.i64.wrap ((IntKind.i64.wrap (a1 + x0)) + 1), 0)))
 (.again 7 (IntKind.i64.wrap (x0 + 1), y7))))
 (.ret 4 (.inr ()))
theorem ok_leb_Get_l0 (a1 : Int) (y1 : List Int) (x0 : Int) (x1 : Int) : Ok (M_leb_Get_l0 a1 y1 x0 x1) fun v => go Try.prog F_leb_Get.N (PostR (fun r => Fnl F_leb_Get.res (F_leb_Get.en r) (F_leb_Get.bx r)) (.exit 0) (E_leb_Get_l0 a1 y1) v) [.l (lpA Try.prog 37 0)] .norm (S_leb_Get_l0 a1 y1 x0 x1) := by
 refine M_leb_Get_l0.partial_correctness a1 y1 (fun x0 x1 v => go Try.prog F_leb_Get.N (PostR (fun r => Fnl F_leb_Get.res (F_leb_Get.en r) (F_leb_Get.bx r)) (.exit 0) (E_leb_Get_l0 a1 y1) v) [.l (lpA Try.prog 37 0)] .norm (S_leb_Get_l0 a1 y1 x0 x1)) ?_ x0 x1
 clear x0 x1
 intro f IH x0 x1
 exact Tr.lpR (F := F_leb_Get) (S := fun x => S_leb_Get_l0 a1 y1 x.1 x.2) (S' := E_leb_Get_l0 a1 y1) (t_leb_Get_l0 a1 y1 x0 x1) (fun x => f x.1 x.2) (fun x r h => IH x.1 x.2 r h) (by kernel_rfl) (by kernel_rfl)
theorem nl_leb_Get : ∀ v, (en_leb_Get v).noLst := fun _ => ⟨trivial, trivial, trivial, trivial⟩
noncomputable def t_leb_Get (a0 : List Int) (a1 : Int) : Tr F_leb_Get Empty (Int × Int × Int) :=
 .ite 12 11 (a1 < 0)
 (.ret 9 (0, 0, 1))
 (.len 8 eY a0 <| .cut 1 eY a0 (some (if (a0.length : Int) < a1 then (a0.length : Int) else a1)) none <| .let_ (cut' a0 (some (if (a0.length : Int) < a1 then (a0.length : Int) else a1)) none : List Int) fun y1 => .len 0 eY y1 <| .loopR 4 id ⟨_, _, _, _, _, ok_leb_Get_l0 a1 y1 0 0⟩ fun j9 => .ret 8 (0, 0, 5))
noncomputable def s_leb_Get (a0 : List Int) (a1 : Int) : Sg Try.prog (Int × Int × Int) := ⟨37, M_leb_Get a0 a1, [.lst (List.map (D.int .u8) a0), .int .i64 a1], en_leb_Get⟩
theorem ok_leb_Get (a0 : List Int) (a1 : Int) : (s_leb_Get a0 a1).Holds := Tr.fn (F := F_leb_Get) (t_leb_Get a0 a1) (by kernel_rfl) (by kernel_rfl) (by kernel_rfl) (by kernel_rfl)
/-- thrum/index.Get. -/
def en_index_Get (v : (List Int) × Int × Int) : PV := .tup [sI (.s 0) v.1, nI v.2.1, nI v.2.2]
noncomputable abbrev F_index_Get : Fe := .of Try.prog 22 en_index_Get
def S_index_Get_l0 (a0 : Int) (a1 : List Int) (r2 : Int × Int × Int) (x0 : Int) (x1 : Int) (x2 : List Int) (x3 : Int) (x4 : Int) : St := ⟨[(13, nU x0), (12, nI x1), (11, sI (.h 0) x2), (10, nI x3), (2, nI x4), (9, nU r2.1), (0, nI a0), (1, lY a1)], []⟩
def E_index_Get_l0 (a0 : Int) (a1 : List Int) (r2 : Int × Int × Int) (x : Int × Int × (List Int)) : St := ⟨[(10, nI x.1), (2, nI x.2.1), (11, sI (.h 1) x.2.2)], []⟩
noncomputable def t_index_Get_l0 (a0 : Int) (a1 : List Int) (r2 : Int × Int × Int) (x0 : Int) (x1 : Int) (x2 : List Int) (x3 : Int) (x4 : Int) : Tr F_index_Get (Int × Int × (List Int) × Int × Int) (Int × Int × (List Int)) :=
 .join 7 4 (γ := Bool) ⟨fun x => [(39, bB x)], [13, 12, 11, 10, 2, 9, 0, 1], fun _ => [], []⟩
 (.ite 0 35 (x3 = 0)
 (.ret 5 (decide (x0 < r2.1)))
 (.ret 5 false))
 fun j5 => .iteB 1 39 (j5)
 (.call 13 (ok_leb_Get a1 x4) nl_leb_Get fun r6 => .iteN 13 50 (r6.2.2 = 0)
 (.ret 6 (r6.2.2, r6.2.1, x2))
 (.ite 13 57 (r6.1 ≥ (IntKind.u64.wrap (IntKind.i64.wrap ((IntKind.i64.wrap (a0 - 1)) - x1))))
 (.ret 10 (6, r6.2.1, x2))
 (.let_ (IntKind.i64.wrap (x1 + (IntKind.i64.wrap (1 + (IntKind.i64.wrap r6.1)))) : Int) fun y7 => .app 15 eI 8 x2 [IntKind.i64.wrap (x1 + (IntKind.i64.wrap (1 + (IntKind.i64.wrap r6.1))))] <| .let_ (x2 ++ [IntKind.i64.wrap (x1 + (IntKind.i64.wrap (1 + (IntKind.i64.wrap r6.1))))] : List Int) fun y9 => .again 8 (IntKind.u64.wrap (x0 + 1), y7, y9, r6.2.2, r6.2.1))))
 (.ret 4 (x3, x4, x2))
theorem ok_index_Get_l0 (a0 : Int) (a1 : List Int) (r2 : Int × Int × Int) (x0 : Int) (x1 : Int) (x2 : List Int) (x3 : Int) (x4 : Int) : Ok (M_index_Get_l0 a0 a1 r2 x0 x1 x2 x3 x4) fun v => go Try.prog F_index_Get.N (PostN (.exit 0) (E_index_Get_l0 a0 a1 r2) v) [.l (lpA Try.prog 22 0)] .norm (S_index_Get_l0 a0 a1 r2 x0 x1 x2 x3 x4) := by
 refine M_index_Get_l0.partial_correctness a0 a1 r2 (fun x0 x1 x2 x3 x4 v => go Try.prog F_index_Get.N (PostN (.exit 0) (E_index_Get_l0 a0 a1 r2) v) [.l (lpA Try.prog 22 0)] .norm (S_index_Get_l0 a0 a1 r2 x0 x1 x2 x3 x4)) ?_ x0 x1 x2 x3 x4
 clear x0 x1 x2 x3 x4
 intro f IH x0 x1 x2 x3 x4
 exact Tr.lpN (F := F_index_Get) (S := fun x => S_index_Get_l0 a0 a1 r2 x.1 x.2.1 x.2.2.1 x.2.2.2.1 x.2.2.2.2) (S' := E_index_Get_l0 a0 a1 r2) (t_index_Get_l0 a0 a1 r2 x0 x1 x2 x3 x4) (fun x => f x.1 x.2.1 x.2.2.1 x.2.2.2.1 x.2.2.2.2) (fun x r h => IH x.1 x.2.1 x.2.2.1 x.2.2.2.1 x.2.2.2.2 r h) (by kernel_rfl) (by kernel_rfl)
theorem nl_index_Get : ∀ v, (en_index_Get v).noLst := fun _ => ⟨(flat_map_of fun _ => trivial), trivial, trivial, trivial⟩
noncomputable def t_index_Get (a0 : Int) (a1 : List Int) (a2 : Int) : Tr F_index_Get Empty ((List Int) × Int × Int) :=
 .call 10 (ok_index_measure a0) nl_index_measure fun r1 => .iteX 2 17 (r1)
 (.ret 9 ([], 0, 1))
 (.call 6 (ok_leb_Get a1 a2) nl_leb_Get fun r2 => .join 14 5 (γ := Bool) ⟨fun x => [(32, bB x)], [10, 2, 9, 0, 1], fun _ => [], []⟩
 (.ite 0 27 (r2.2.2 = 0)
 (.ret 6 (decide (r2.1 > (IntKind.u64.wrap a0))))
 (.ret 6 false))
 fun j3 => .join 1 0 (γ := Int) ⟨fun x => [(10, nI x)], [2, 9, 0, 1], fun _ => [], []⟩
 (.iteB 0 32 (j3)
 (.ret 4 6)
 (.ret 2 r2.2.2))
 fun j4 => .loop 15 ⟨_, _, _, _, _, ok_index_Get_l0 a0 a1 r2 0 (-1) [] j4 r2.2.1⟩ fun j11 => .iteN 7 68 (j11.1 = 0)
 (.ret 10 ([], 0, j11.1))
 (.ret 11 (j11.2.2, j11.2.1, 0)))
noncomputable def s_index_Get (a0 : Int) (a1 : List Int) (a2 : Int) : Sg Try.prog ((List Int) × Int × Int) := ⟨22, M_index_Get a0 a1 a2, [.int .i64 a0, .lst (List.map (D.int .u8) a1), .int .i64 a2], en_index_Get⟩
theorem ok_index_Get (a0 : Int) (a1 : List Int) (a2 : Int) : (s_index_Get a0 a1 a2).Holds := Tr.fn (F := F_index_Get) (t_index_Get a0 a1 a2) (by kernel_rfl) (by kernel_rfl) (by kernel_rfl) (by kernel_rfl)
/-- thrum/thrumref03.Same. -/
def en_thrumref03_Same (v : Bool) : PV := bB v
noncomputable abbrev F_thrumref03_Same : Fe := .of Try.prog 23 en_thrumref03_Same
theorem nl_thrumref03_Same : ∀ v, (en_thrumref03_Same v).noLst := fun _ => trivial
noncomputable def t_thrumref03_Same (a0 : List Int) (a1 : List Int) : Tr F_thrumref03_Same Empty Bool :=
 .convS 7 a0 <| .convS 1 a1 <| .ret 4 ((strB a0).toList == (strB a1).toList)
noncomputable def s_thrumref03_Same (a0 : List Int) (a1 : List Int) : Sg Try.prog Bool := ⟨23, M_thrumref03_Same a0 a1, [.lst (List.map (D.int .u8) a0), .lst (List.map (D.int .u8) a1)], en_thrumref03_Same⟩
theorem ok_thrumref03_Same (a0 : List Int) (a1 : List Int) : (s_thrumref03_Same a0 a1).Holds := Tr.fn (F := F_thrumref03_Same) (t_thrumref03_Same a0 a1) (by kernel_rfl) (by kernel_rfl) (by kernel_rfl) (by kernel_rfl)
/-- thrum/thrumref06.Equal. -/
def en_thrumref06_Equal (v : Bool) : PV := bB v
noncomputable abbrev F_thrumref06_Equal : Fe := .of Try.prog 10 en_thrumref06_Equal
def S_thrumref06_Equal_l0 (a0 : List Int) (a1 : List Int) (x0 : Int) : St := ⟨[(13, nI x0), (12, nI (a0.length : Int)), (0, lI a0), (1, lI a1)], []⟩
def E_thrumref06_Equal_l0 (a0 : List Int) (a1 : List Int) (x : Unit) : St := ⟨[], []⟩
noncomputable def t_thrumref06_Equal_l0 (a0 : List Int) (a1 : List Int) (x0 : Int) : Tr F_thrumref06_Equal Int (Sum Bool Unit) :=
 .ite 6 14 (x0 < (a0.length : Int))
 (.idx 13 eI a0 x0 <| .idx 3 eI a1 x0 <| .iteN 3 24 ((at' a0 x0) = (at' a1 x0))
 (.ret 9 (.inl false))
 (.again 7 (IntKind.i64.wrap (x0 + 1))))
 (.ret 4 (.inr ()))
theorem ok_thrumref06_Equal_l0 (a0 : List Int) (a1 : List Int) (x0 : Int) : Ok (M_thrumref06_Equal_l0 a0 a1 x0) fun v => go Try.prog F_thrumref06_Equal.N (PostR (fun r => Fnl F_thrumref06_Equal.res (F_thrumref06_Equal.en r) (F_thrumref06_Equal.bx r)) (.exit 0) (E_thrumref06_Equal_l0 a0 a1) v) [.l (lpA Try.prog 10 0)] .norm (S_thrumref06_Equal_l0 a0 a1 x0) := by
 refine M_thrumref06_Equal_l0.partial_correctness a0 a1 (fun x0 v => go Try.prog F_thrumref06_Equal.N (PostR (fun r => Fnl F_thrumref06_Equal.res (F_thrumref06_Equal.en r) (F_thrumref06_Equal.bx r)) (.exit 0) (E_thrumref06_Equal_l0 a0 a1) v) [.l (lpA Try.prog 10 0)] .norm (S_thrumref06_Equal_l0 a0 a1 x0)) ?_ x0
 clear x0
 intro f IH x0
 exact Tr.lpR (F := F_thrumref06_Equal) (S := fun x => S_thrumref06_Equal_l0 a0 a1 x) (S' := E_thrumref06_Equal_l0 a0 a1) (t_thrumref06_Equal_l0 a0 a1 x0) (fun x => f x) (fun x r h => IH x r h) (by kernel_rfl) (by kernel_rfl)
theorem nl_thrumref06_Equal : ∀ v, (en_thrumref06_Equal v).noLst := fun _ => trivial
noncomputable def t_thrumref06_Equal (a0 : List Int) (a1 : List Int) : Tr F_thrumref06_Equal Empty Bool :=
 .len 8 eI a0 <| .len 1 eI a1 <| .iteN 2 10 ((a0.length : Int) = (a1.length : Int))
 (.ret 7 false)
 (.len 6 eI a0 <| .loopR 4 id ⟨_, _, _, _, _, ok_thrumref06_Equal_l0 a0 a1 0⟩ fun j1 => .ret 6 true)
noncomputable def s_thrumref06_Equal (a0 : List Int) (a1 : List Int) : Sg Try.prog Bool := ⟨10, M_thrumref06_Equal a0 a1, [.lst (List.map (D.int .i64) a0), .lst (List.map (D.int .i64) a1)], en_thrumref06_Equal⟩
theorem ok_thrumref06_Equal (a0 : List Int) (a1 : List Int) : (s_thrumref06_Equal a0 a1).Holds := Tr.fn (F := F_thrumref06_Equal) (t_thrumref06_Equal a0 a1) (by kernel_rfl) (by kernel_rfl) (by kernel_rfl) (by kernel_rfl)
/-- thrum/thrumlaw06.live. -/
def en_thrumlaw06_live (v : Bool) : PV := bB v
noncomputable abbrev F_thrumlaw06_live : Fe := .of Try.prog 6 en_thrumlaw06_live
theorem nl_thrumlaw06_live : ∀ v, (en_thrumlaw06_live v).noLst := fun _ => trivial
noncomputable def t_thrumlaw06_live : Tr F_thrumlaw06_live Empty Bool :=
 .call 7 (ok_index_Put 9 [1, 2, 5]) nl_index_Put fun r1 => .call 9 (ok_index_Get 9 r1.1 0) nl_index_Get fun r2 => .call 12 (ok_thrumref03_Same r1.1 [3, 1, 0, 2]) nl_thrumref03_Same fun r3 => .join 1 3 (γ := Bool) ⟨fun x => [(23, bB x)], [5, 4, 3], fun _ => [], []⟩
 (.iteB 0 20 (r3)
 (.ret 4 (r1.2 == 0))
 (.ret 4 false))
 fun j4 => .join 1 4 (γ := Bool) ⟨fun x => [(28, bB x)], [5, 4], fun _ => [], []⟩
 (.iteB 0 24 (j4)
 (.call 2 (ok_thrumref06_Equal r2.1 [1, 2, 5]) nl_thrumref06_Equal fun r5 => .ret 2 r5)
 (.ret 5 false))
 fun j6 => .join 1 3 (γ := Bool) ⟨fun x => [(32, bB x)], [5], fun _ => [], []⟩
 (.iteB 0 29 (j6)
 (.ret 4 (r2.2.1 == 4))
 (.ret 4 false))
 fun j7 => .join 1 3 (γ := Bool) ⟨fun x => [(36, bB x)], [], fun _ => [], []⟩
 (.iteB 0 33 (j7)
 (.ret 4 (r2.2.2 == 0))
 (.ret 4 false))
 fun j8 => .ret 3 j8
noncomputable def s_thrumlaw06_live : Sg Try.prog Bool := ⟨6, M_thrumlaw06_live, [], en_thrumlaw06_live⟩
theorem ok_thrumlaw06_live : s_thrumlaw06_live.Holds := Tr.fn (F := F_thrumlaw06_live) t_thrumlaw06_live (by kernel_rfl) (by kernel_rfl) (by kernel_rfl) (by kernel_rfl)
/-- thrum/thrumlaw06.few. -/
def en_thrumlaw06_few (v : Bool) : PV := bB v
noncomputable abbrev F_thrumlaw06_few : Fe := .of Try.prog 7 en_thrumlaw06_few
def S_thrumlaw06_few_l0 (a0 : List (List Int)) (x0 : Int) (x1 : Int) : St := ⟨[(8, nI x0), (7, nI (a0.length : Int)), (6, .d (.lst (List.map (enL (D.int .i64)) a0))), (3, nI x1), (0, .d (.lst (List.map (enL (D.int .i64)) a0)))], []⟩
def E_thrumlaw06_few_l0 (a0 : List (List Int)) (x : Int) : St := ⟨[(3, nI x), (0, .d (.lst (List.map (enL (D.int .i64)) a0)))], []⟩
noncomputable def t_thrumlaw06_few_l0 (a0 : List (List Int)) (x0 : Int) (x1 : Int) : Tr F_thrumlaw06_few (Int × Int) Int :=
 .ite 6 9 (x0 < (a0.length : Int))
 (.idx 6 (eL eI) a0 x0 <| .len 6 eI (at' a0 x0) <| .again 8 (IntKind.i64.wrap (x0 + 1), IntKind.i64.wrap (x1 + ((at' a0 x0).length : Int))))
 (.ret 4 x1)
theorem ok_thrumlaw06_few_l0 (a0 : List (List Int)) (x0 : Int) (x1 : Int) : Ok (M_thrumlaw06_few_l0 a0 x0 x1) fun v => go Try.prog F_thrumlaw06_few.N (PostN (.exit 0) (E_thrumlaw06_few_l0 a0) v) [.l (lpA Try.prog 7 0)] .norm (S_thrumlaw06_few_l0 a0 x0 x1) := by
 refine M_thrumlaw06_few_l0.partial_correctness a0 (fun x0 x1 v => go Try.prog F_thrumlaw06_few.N (PostN (.exit 0) (E_thrumlaw06_few_l0 a0) v) [.l (lpA Try.prog 7 0)] .norm (S_thrumlaw06_few_l0 a0 x0 x1)) ?_ x0 x1
 clear x0 x1
 intro f IH x0 x1
 exact Tr.lpN (F := F_thrumlaw06_few) (S := fun x => S_thrumlaw06_few_l0 a0 x.1 x.2) (S' := E_thrumlaw06_few_l0 a0) (t_thrumlaw06_few_l0 a0 x0 x1) (fun x => f x.1 x.2) (fun x r h => IH x.1 x.2 r h) (by kernel_rfl) (by kernel_rfl)
theorem nl_thrumlaw06_few : ∀ v, (en_thrumlaw06_few v).noLst := fun _ => trivial
noncomputable def t_thrumlaw06_few (a0 : List (List Int)) : Tr F_thrumlaw06_few Empty Bool :=
 .len 12 (eL eI) a0 <| .loop 4 ⟨_, _, _, _, _, ok_thrumlaw06_few_l0 a0 0 0⟩ fun j1 => .join 6 4 (γ := Bool) ⟨fun x => [(23, bB x)], [], fun _ => [], []⟩
 (.ite 0 19 (j1 ≤ 600)
 (.len 1 (eL eI) a0 <| .ret 3 (decide ((a0.length : Int) ≤ 100)))
 (.ret 5 false))
 fun j2 => .ret 3 j2
noncomputable def s_thrumlaw06_few (a0 : List (List Int)) : Sg Try.prog Bool := ⟨7, M_thrumlaw06_few a0, [.lst (List.map (enL (D.int .i64)) a0)], en_thrumlaw06_few⟩
theorem ok_thrumlaw06_few (a0 : List (List Int)) : (s_thrumlaw06_few a0).Holds := Tr.fn (F := F_thrumlaw06_few) (t_thrumlaw06_few a0) (by kernel_rfl) (by kernel_rfl) (by kernel_rfl) (by kernel_rfl)
/-- thrum/index.Left. -/
def en_index_Left (v : (List Int) × Int) : PV := .tup [sI (.s 0) v.1, nI v.2]
noncomputable abbrev F_index_Left : Fe := .of Try.prog 8 en_index_Left
def S_index_Left_l0 (a0 : Int) (x0 : Int) (x1 : List Int) (x2 : List Int) : St := ⟨[(16, nI x0), (15, nI a0), (7, sI (.h 0) x1), (1, lI x2)], []⟩
def E_index_Left_l0 (a0 : Int) (x : (List Int)) : St := ⟨[(7, sI (.h 1) x)], []⟩
noncomputable def t_index_Left_l0 (a0 : Int) (x0 : Int) (x1 : List Int) (x2 : List Int) : Tr F_index_Left (Int × (List Int) × (List Int)) (List Int) :=
 .ite 6 17 (x0 < a0)
 (.len 13 eI x2 <| .join 2 6 (γ := Bool) ⟨fun x => [(28, bB x)], [8, 16, 15, 7, 1], fun _ => [], []⟩
 (.ite 0 22 ((x2.length : Int) > 0)
 (.idx 1 eI x2 0 <| .ret 5 ((at' x2 0) == x0))
 (.ret 7 false))
 fun j2 => .iteB 1 28 (j2)
 (.cut 4 eI x2 (some 1) none <| .again 9 (IntKind.i64.wrap (x0 + 1), x1, cut' x2 (some 1) none))
 (.app 6 eI 8 x1 [x0] <| .again 7 (IntKind.i64.wrap (x0 + 1), x1 ++ [x0], x2)))
 (.ret 4 x1)
theorem ok_index_Left_l0 (a0 : Int) (x0 : Int) (x1 : List Int) (x2 : List Int) : Ok (M_index_Left_l0 a0 x0 x1 x2) fun v => go Try.prog F_index_Left.N (PostN (.exit 0) (E_index_Left_l0 a0) v) [.l (lpA Try.prog 8 0)] .norm (S_index_Left_l0 a0 x0 x1 x2) := by
 refine M_index_Left_l0.partial_correctness a0 (fun x0 x1 x2 v => go Try.prog F_index_Left.N (PostN (.exit 0) (E_index_Left_l0 a0) v) [.l (lpA Try.prog 8 0)] .norm (S_index_Left_l0 a0 x0 x1 x2)) ?_ x0 x1 x2
 clear x0 x1 x2
 intro f IH x0 x1 x2
 exact Tr.lpN (F := F_index_Left) (S := fun x => S_index_Left_l0 a0 x.1 x.2.1 x.2.2) (S' := E_index_Left_l0 a0) (t_index_Left_l0 a0 x0 x1 x2) (fun x => f x.1 x.2.1 x.2.2) (fun x r h => IH x.1 x.2.1 x.2.2 r h) (by kernel_rfl) (by kernel_rfl)
theorem nl_index_Left : ∀ v, (en_index_Left v).noLst := fun _ => ⟨(flat_map_of fun _ => trivial), trivial, trivial⟩
noncomputable def t_index_Left (a0 : Int) (a1 : List Int) : Tr F_index_Left Empty ((List Int) × Int) :=
 .call 10 (ok_index_Check a0 a1) nl_index_Check fun r1 => .iteN 7 13 (r1 = 0)
 (.ret 9 ([], r1))
 (.loop 14 ⟨_, _, _, _, _, ok_index_Left_l0 a0 0 [] a1⟩ fun j3 => .ret 8 (j3, 0))
noncomputable def s_index_Left (a0 : Int) (a1 : List Int) : Sg Try.prog ((List Int) × Int) := ⟨8, M_index_Left a0 a1, [.int .i64 a0, .lst (List.map (D.int .i64) a1)], en_index_Left⟩
theorem ok_index_Left (a0 : Int) (a1 : List Int) : (s_index_Left a0 a1).Holds := Tr.fn (F := F_index_Left) (t_index_Left a0 a1) (by kernel_rfl) (by kernel_rfl) (by kernel_rfl) (by kernel_rfl)
/-- slices.Grow[[]int,int]. -/
def en_slices_Grow_int_int_c (v : (List Int)) : PV := sI (.s 0) v
def bx_slices_Grow_int_int_c (v : (List Int)) : List (Tg × List PV) := []
noncomputable abbrev F_slices_Grow_int_int_c : Fe := .of Try.prog 38 en_slices_Grow_int_int_c bx_slices_Grow_int_int_c
theorem nl_slices_Grow_int_int_c : ∀ v, (en_slices_Grow_int_int_c v).noLst := fun _ => (flat_map_of fun _ => trivial)
theorem nlB_slices_Grow_int_int_c : ∀ v, noLstB (bx_slices_Grow_int_int_c v) := fun _ => trivial
noncomputable def t_slices_Grow_int_int_c (a0 : Int) : Tr F_slices_Grow_int_int_c Empty (List Int) :=
 .join 10 0 (γ := Unit) ⟨fun _ => [], [0, 1], fun _ => [], []⟩
 (.ite 0 6 (a0 < 0)
 (.halt)
 (.ret 2 ()))
 fun j1 => .ite 17 16 ((IntKind.i64.wrap (a0 - (IntKind.i64.wrap (0 - 0)))) > 0)
 (.rd 5 (((0 : Int) ≤ 0 ∧ (0 : Int) ≤ 0) ∧ (0 : Nat) ≤ 0) (.nils) <| .appZ 1 eI 8 0 (IntKind.i64.wrap (a0 - (IntKind.i64.wrap (0 - 0)))) <| .let_ (List.replicate (Int.toNat (IntKind.i64.wrap (a0 - (IntKind.i64.wrap (0 - 0))))) 0 : List Int) fun y2 => .cut 2 eI y2 none (some 0) <| .ret 8 (cut' y2 none (some 0)))
 (.ret 8 [])
noncomputable def s_slices_Grow_int_int_c (a0 : Int) : SgG Try.prog (List Int) := ⟨38, M_slices_Grow_int_int_c a0, [.nils, nI a0], [], en_slices_Grow_int_int_c, bx_slices_Grow_int_int_c⟩
theorem ok_slices_Grow_int_int_c (a0 : Int) : (s_slices_Grow_int_int_c a0).Holds := Tr.fnG (F := F_slices_Grow_int_int_c) (t_slices_Grow_int_int_c a0) (by kernel_rfl) (by kernel_rfl) (by kernel_rfl) (by kernel_rfl)
/-- slices.Concat[[]int,int]. -/
def en_slices_Concat_int_int (v : (List Int)) : PV := sI (.s 0) v
noncomputable abbrev F_slices_Concat_int_int : Fe := .of Try.prog 25 en_slices_Concat_int_int
def S_slices_Concat_int_int_l0 (a0 : List (List Int)) (x0 : Int) (x1 : Int) : St := ⟨[(11, nI x0), (10, nI (a0.length : Int)), (9, .d (.lst (List.map (enL (D.int .i64)) a0))), (3, nI x1), (0, .d (.lst (List.map (enL (D.int .i64)) a0)))], []⟩
def E_slices_Concat_int_int_l0 (a0 : List (List Int)) (x : Int) : St := ⟨[(3, nI x), (0, .d (.lst (List.map (enL (D.int .i64)) a0)))], []⟩
noncomputable def t_slices_Concat_int_int_l0 (a0 : List (List Int)) (x0 : Int) (x1 : Int) : Tr F_slices_Concat_int_int (Int × Int) Int :=
 .ite 6 12 (x0 < (a0.length : Int))
 (.idx 6 (eL eI) a0 x0 <| .len 7 eI (at' a0 x0) <| .ite 8 20 ((IntKind.i64.wrap (x1 + ((at' a0 x0).length : Int))) < 0)
 (.halt)
 (.again 7 (IntKind.i64.wrap (x0 + 1), IntKind.i64.wrap (x1 + ((at' a0 x0).length : Int)))))
 (.ret 4 x1)
theorem ok_slices_Concat_int_int_l0 (a0 : List (List Int)) (x0 : Int) (x1 : Int) : Ok (M_slices_Concat_int_int_l0 a0 x0 x1) fun v => go Try.prog F_slices_Concat_int_int.N (PostN (.exit 0) (E_slices_Concat_int_int_l0 a0) v) [.l (lpA Try.prog 25 0)] .norm (S_slices_Concat_int_int_l0 a0 x0 x1) := by
 refine M_slices_Concat_int_int_l0.partial_correctness a0 (fun x0 x1 v => go Try.prog F_slices_Concat_int_int.N (PostN (.exit 0) (E_slices_Concat_int_int_l0 a0) v) [.l (lpA Try.prog 25 0)] .norm (S_slices_Concat_int_int_l0 a0 x0 x1)) ?_ x0 x1
 clear x0 x1
 intro f IH x0 x1
 exact Tr.lpN (F := F_slices_Concat_int_int) (S := fun x => S_slices_Concat_int_int_l0 a0 x.1 x.2) (S' := E_slices_Concat_int_int_l0 a0) (t_slices_Concat_int_int_l0 a0 x0 x1) (fun x => f x.1 x.2) (fun x r h => IH x.1 x.2 r h) (by kernel_rfl) (by kernel_rfl)
def S_slices_Concat_int_int_l1 (a0 : List (List Int)) (x0 : Int) (x1 : List Int) : St := ⟨[(27, nI x0), (26, nI (a0.length : Int)), (25, .d (.lst (List.map (enL (D.int .i64)) a0))), (6, sI (.h 0) x1)], []⟩
def E_slices_Concat_int_int_l1 (a0 : List (List Int)) (x : (List Int)) : St := ⟨[(6, sI (.h 1) x)], []⟩
noncomputable def t_slices_Concat_int_int_l1 (a0 : List (List Int)) (x0 : Int) (x1 : List Int) : Tr F_slices_Concat_int_int (Int × (List Int)) (List Int) :=
 .ite 6 28 (x0 < (a0.length : Int))
 (.idx 6 (eL eI) a0 x0 <| .app 6 eI 8 x1 (at' a0 x0) <| .again 7 (IntKind.i64.wrap (x0 + 1), x1 ++ (at' a0 x0)))
 (.ret 4 x1)
theorem ok_slices_Concat_int_int_l1 (a0 : List (List Int)) (x0 : Int) (x1 : List Int) : Ok (M_slices_Concat_int_int_l1 a0 x0 x1) fun v => go Try.prog F_slices_Concat_int_int.N (PostN (.exit 2) (E_slices_Concat_int_int_l1 a0) v) [.l (lpA Try.prog 25 1)] .norm (S_slices_Concat_int_int_l1 a0 x0 x1) := by
 refine M_slices_Concat_int_int_l1.partial_correctness a0 (fun x0 x1 v => go Try.prog F_slices_Concat_int_int.N (PostN (.exit 2) (E_slices_Concat_int_int_l1 a0) v) [.l (lpA Try.prog 25 1)] .norm (S_slices_Concat_int_int_l1 a0 x0 x1)) ?_ x0 x1
 clear x0 x1
 intro f IH x0 x1
 exact Tr.lpN (F := F_slices_Concat_int_int) (S := fun x => S_slices_Concat_int_int_l1 a0 x.1 x.2) (S' := E_slices_Concat_int_int_l1 a0) (t_slices_Concat_int_int_l1 a0 x0 x1) (fun x => f x.1 x.2) (fun x r h => IH x.1 x.2 r h) (by kernel_rfl) (by kernel_rfl)
theorem nl_slices_Concat_int_int : ∀ v, (en_slices_Concat_int_int v).noLst := fun _ => (flat_map_of fun _ => trivial)
noncomputable def t_slices_Concat_int_int (a0 : List (List Int)) : Tr F_slices_Concat_int_int Empty (List Int) :=
 .len 12 (eL eI) a0 <| .loop 4 ⟨_, _, _, _, _, ok_slices_Concat_int_int_l0 a0 0 0⟩ fun j1 => .callB 4 [] (ok_slices_Grow_int_int_c j1) nl_slices_Grow_int_int_c nlB_slices_Grow_int_int_c fun r2 => .len 6 (eL eI) a0 <| .loop 4 ⟨_, _, _, _, _, ok_slices_Concat_int_int_l1 a0 0 r2⟩ fun j3 => .ret 7 j3
noncomputable def s_slices_Concat_int_int (a0 : List (List Int)) : Sg Try.prog (List Int) := ⟨25, M_slices_Concat_int_int a0, [.lst (List.map (enL (D.int .i64)) a0)], en_slices_Concat_int_int⟩
theorem ok_slices_Concat_int_int (a0 : List (List Int)) : (s_slices_Concat_int_int a0).Holds := Tr.fn (F := F_slices_Concat_int_int) (t_slices_Concat_int_int a0) (by kernel_rfl) (by kernel_rfl) (by kernel_rfl) (by kernel_rfl)
/-- thrum/index.Merge. -/
def en_index_Merge (v : (List Int)) : PV := sI (.s 0) v
noncomputable abbrev F_index_Merge : Fe := .of Try.prog 9 en_index_Merge
theorem nl_index_Merge : ∀ v, (en_index_Merge v).noLst := fun _ => (flat_map_of fun _ => trivial)
noncomputable def t_index_Merge (a0 : List (List Int)) : Tr F_index_Merge Empty (List Int) :=
 .call 7 (ok_slices_Concat_int_int a0) nl_slices_Concat_int_int fun r1 => .srt 5 [6, 3] (sk_slices_Sort_int r1) fun r2 => .srt 4 [8] (sk_slices_Compact_int r2) fun r3 => .ret 3 (List.take r3.length (r3 ++ List.replicate (r2.length - r3.length) 0))
noncomputable def s_index_Merge (a0 : List (List Int)) : Sg Try.prog (List Int) := ⟨9, M_index_Merge a0, [.lst (List.map (enL (D.int .i64)) a0)], en_index_Merge⟩
theorem ok_index_Merge (a0 : List (List Int)) : (s_index_Merge a0).Holds := Tr.fn (F := F_index_Merge) (t_index_Merge a0) (by kernel_rfl) (by kernel_rfl) (by kernel_rfl) (by kernel_rfl)
/-- thrum/thrumlaw06.IndexLeft. -/
def en_thrumlaw06_IndexLeft (v : Bool) : PV := bB v
noncomputable abbrev F_thrumlaw06_IndexLeft : Fe := .of Try.prog 3 en_thrumlaw06_IndexLeft
def S_thrumlaw06_IndexLeft_l0 (r1 : Bool) (r6 : (List Int)) (x0 : Int) : St := ⟨[(78, nI x0), (77, nI (r6.length : Int)), (76, sI (.s 16048) r6), (5, bB r1)], []⟩
def E_thrumlaw06_IndexLeft_l0 (r1 : Bool) (r6 : (List Int)) (x : Unit) : St := ⟨[(5, bB r1)], []⟩
noncomputable def t_thrumlaw06_IndexLeft_l0 (r1 : Bool) (r6 : (List Int)) (x0 : Int) : Tr F_thrumlaw06_IndexLeft Int (Sum Bool Unit) :=
 .ite 6 79 (x0 < (r6.length : Int))
 (.idx 7 eI r6 x0 <| .iteN 10 85 ((at' r6 x0) = x0)
 (.ret 9 (.inl false))
 (.again 7 (IntKind.i64.wrap (x0 + 1))))
 (.ret 4 (.inr ()))
theorem ok_thrumlaw06_IndexLeft_l0 (r1 : Bool) (r6 : (List Int)) (x0 : Int) : Ok (M_thrumlaw06_IndexLeft_l0 r1 r6 x0) fun v => go Try.prog F_thrumlaw06_IndexLeft.N (PostR (fun r => Fnl F_thrumlaw06_IndexLeft.res (F_thrumlaw06_IndexLeft.en r) (F_thrumlaw06_IndexLeft.bx r)) (.exit 0) (E_thrumlaw06_IndexLeft_l0 r1 r6) v) [.l (lpA Try.prog 3 0)] .norm (S_thrumlaw06_IndexLeft_l0 r1 r6 x0) := by
 refine M_thrumlaw06_IndexLeft_l0.partial_correctness r1 r6 (fun x0 v => go Try.prog F_thrumlaw06_IndexLeft.N (PostR (fun r => Fnl F_thrumlaw06_IndexLeft.res (F_thrumlaw06_IndexLeft.en r) (F_thrumlaw06_IndexLeft.bx r)) (.exit 0) (E_thrumlaw06_IndexLeft_l0 r1 r6) v) [.l (lpA Try.prog 3 0)] .norm (S_thrumlaw06_IndexLeft_l0 r1 r6 x0)) ?_ x0
 clear x0
 intro f IH x0
 exact Tr.lpR (F := F_thrumlaw06_IndexLeft) (S := fun x => S_thrumlaw06_IndexLeft_l0 r1 r6 x) (S' := E_thrumlaw06_IndexLeft_l0 r1 r6) (t_thrumlaw06_IndexLeft_l0 r1 r6 x0) (fun x => f x) (fun x r h => IH x r h) (by kernel_rfl) (by kernel_rfl)
def S_thrumlaw06_IndexLeft_l1 (r1 : Bool) (r15 : (List Int)) (x0 : Int) : St := ⟨[(78, nI x0), (77, nI (r15.length : Int)), (76, sI (.s 16048) r15), (5, bB r1)], []⟩
def E_thrumlaw06_IndexLeft_l1 (r1 : Bool) (r15 : (List Int)) (x : Unit) : St := ⟨[(5, bB r1)], []⟩
noncomputable def t_thrumlaw06_IndexLeft_l1 (r1 : Bool) (r15 : (List Int)) (x0 : Int) : Tr F_thrumlaw06_IndexLeft Int (Sum Bool Unit) :=
 .ite 6 79 (x0 < (r15.length : Int))
 (.idx 7 eI r15 x0 <| .iteN 10 85 ((at' r15 x0) = x0)
 (.ret 9 (.inl false))
 (.again 7 (IntKind.i64.wrap (x0 + 1))))
 (.ret 4 (.inr ()))
theorem ok_thrumlaw06_IndexLeft_l1 (r1 : Bool) (r15 : (List Int)) (x0 : Int) : Ok (M_thrumlaw06_IndexLeft_l1 r1 r15 x0) fun v => go Try.prog F_thrumlaw06_IndexLeft.N (PostR (fun r => Fnl F_thrumlaw06_IndexLeft.res (F_thrumlaw06_IndexLeft.en r) (F_thrumlaw06_IndexLeft.bx r)) (.exit 0) (E_thrumlaw06_IndexLeft_l1 r1 r15) v) [.l (lpA Try.prog 3 0)] .norm (S_thrumlaw06_IndexLeft_l1 r1 r15 x0) := by
 refine M_thrumlaw06_IndexLeft_l1.partial_correctness r1 r15 (fun x0 v => go Try.prog F_thrumlaw06_IndexLeft.N (PostR (fun r => Fnl F_thrumlaw06_IndexLeft.res (F_thrumlaw06_IndexLeft.en r) (F_thrumlaw06_IndexLeft.bx r)) (.exit 0) (E_thrumlaw06_IndexLeft_l1 r1 r15) v) [.l (lpA Try.prog 3 0)] .norm (S_thrumlaw06_IndexLeft_l1 r1 r15 x0)) ?_ x0
 clear x0
 intro f IH x0
 exact Tr.lpR (F := F_thrumlaw06_IndexLeft) (S := fun x => S_thrumlaw06_IndexLeft_l1 r1 r15 x) (S' := E_thrumlaw06_IndexLeft_l1 r1 r15) (t_thrumlaw06_IndexLeft_l1 r1 r15 x0) (fun x => f x) (fun x r h => IH x r h) (by kernel_rfl) (by kernel_rfl)
theorem nl_thrumlaw06_IndexLeft : ∀ v, (en_thrumlaw06_IndexLeft v).noLst := fun _ => trivial
noncomputable def t_thrumlaw06_IndexLeft (a0 : Int) (a1 : List Int) : Tr F_thrumlaw06_IndexLeft Empty Bool :=
 .call 6 ok_thrumlaw06_live nl_thrumlaw06_live fun r1 => .iteX 8 15 (r1)
 (.ret 7 false)
 (.call 7 (ok_thrumlaw06_few [a1]) nl_thrumlaw06_few fun r2 => .iteX 2 20 (r2)
 (.ret 16 r1)
 (.ite 3 23 (a0 > 300)
 (.ite 5 27 (a0 ≤ 4096)
 (.ret 8 r1)
 (.call 6 (ok_index_Left a0 a1) nl_index_Left fun r3 => .iteN 12 36 (r3.2 = 0)
 (.join 5 4 (γ := Bool) ⟨fun x => [(42, bB x)], [], fun _ => [], []⟩
 (.iteB 0 38 (r1)
 (.len 1 eI r3.1 <| .ret 3 ((r3.1.length : Int) == 0))
 (.ret 5 false))
 fun j4 => .ret 4 j4)
 (.call 6 (ok_index_Left a0 r3.1) nl_index_Left fun r5 => .call 11 (ok_index_Merge [r3.1, a1]) nl_index_Merge fun r6 => .join 8 5 (γ := Bool) ⟨fun x => [(60, bB x)], [10, 6, 5, 0, 1], fun _ => [], []⟩
 (.iteN 0 55 (r5.2 = 0)
 (.ret 6 true)
 (.call 2 (ok_thrumref06_Equal r5.1 a1) nl_thrumref06_Equal fun r7 => .ret 3 (!r7)))
 fun j8 => .join 1 5 (γ := Bool) ⟨fun x => [(66, bB x)], [10, 6, 5, 0, 1], fun _ => [], []⟩
 (.iteB 0 61 (j8)
 (.ret 6 true)
 (.len 1 eI r6 <| .ret 4 ((r6.length : Int) != a0)))
 fun j9 => .join 1 8 (γ := Bool) ⟨fun x => [(75, bB x)], [10, 5], fun _ => [], []⟩
 (.iteB 0 67 (j9)
 (.ret 9 true)
 (.len 1 eI r3.1 <| .len 1 eI a1 <| .ret 5 ((IntKind.i64.wrap ((r3.1.length : Int) + (a1.length : Int))) != a0)))
 fun j10 => .iteB 1 75 (j10)
 (.ret 7 false)
 (.len 6 eI r6 <| .loopR 4 id ⟨_, _, _, _, _, ok_thrumlaw06_IndexLeft_l0 r1 r6 0⟩ fun j11 => .ret 7 r1))))
 (.call 11 (ok_index_Left a0 a1) nl_index_Left fun r12 => .iteN 12 36 (r12.2 = 0)
 (.join 5 4 (γ := Bool) ⟨fun x => [(42, bB x)], [], fun _ => [], []⟩
 (.iteB 0 38 (r1)
 (.len 1 eI r12.1 <| .ret 3 ((r12.1.length : Int) == 0))
 (.ret 5 false))
 fun j13 => .ret 4 j13)
 (.call 6 (ok_index_Left a0 r12.1) nl_index_Left fun r14 => .call 11 (ok_index_Merge [r12.1, a1]) nl_index_Merge fun r15 => .join 8 5 (γ := Bool) ⟨fun x => [(60, bB x)], [10, 6, 5, 0, 1], fun _ => [], []⟩
 (.iteN 0 55 (r14.2 = 0)
 (.ret 6 true)
 (.call 2 (ok_thrumref06_Equal r14.1 a1) nl_thrumref06_Equal fun r16 => .ret 3 (!r16)))
 fun j17 => .join 1 5 (γ := Bool) ⟨fun x => [(66, bB x)], [10, 6, 5, 0, 1], fun _ => [], []⟩
 (.iteB 0 61 (j17)
 (.ret 6 true)
 (.len 1 eI r15 <| .ret 4 ((r15.length : Int) != a0)))
 fun j18 => .join 1 8 (γ := Bool) ⟨fun x => [(75, bB x)], [10, 5], fun _ => [], []⟩
 (.iteB 0 67 (j18)
 (.ret 9 true)
 (.len 1 eI r12.1 <| .len 1 eI a1 <| .ret 5 ((IntKind.i64.wrap ((r12.1.length : Int) + (a1.length : Int))) != a0)))
 fun j19 => .iteB 1 75 (j19)
 (.ret 7 false)
 (.len 6 eI r15 <| .loopR 4 id ⟨_, _, _, _, _, ok_thrumlaw06_IndexLeft_l1 r1 r15 0⟩ fun j20 => .ret 7 r1)))))
noncomputable def s_thrumlaw06_IndexLeft (a0 : Int) (a1 : List Int) : Sg Try.prog Bool := ⟨3, M_thrumlaw06_IndexLeft a0 a1, [.int .i64 a0, .lst (List.map (D.int .i64) a1)], en_thrumlaw06_IndexLeft⟩
theorem ok_thrumlaw06_IndexLeft (a0 : Int) (a1 : List Int) : (s_thrumlaw06_IndexLeft a0 a1).Holds := Tr.fn (F := F_thrumlaw06_IndexLeft) (t_thrumlaw06_IndexLeft a0 a1) (by kernel_rfl) (by kernel_rfl) (by kernel_rfl) (by kernel_rfl)
/-- thrum/index.Spread. -/
def en_index_Spread (v : (List Int) × Int) : PV := .tup [sI (.s 0) v.1, nI v.2]
noncomputable abbrev F_index_Spread : Fe := .of Try.prog 13 en_index_Spread
def S_index_Spread_l0 (a1 : List Int) (a2 : List Int) (x0 : Int) (x1 : List Int) : St := ⟨[(29, nI x0), (28, nI (a1.length : Int)), (27, lI a1), (9, sI (.h 0) x1), (2, lI a2)], []⟩
def E_index_Spread_l0 (a1 : List Int) (a2 : List Int) (x : (List Int)) : St := ⟨[(9, sI (.h 1) x)], []⟩
noncomputable def t_index_Spread_l0 (a1 : List Int) (a2 : List Int) (x0 : Int) (x1 : List Int) : Tr F_index_Spread (Int × (List Int)) (List Int) :=
 .ite 6 30 (x0 < (a1.length : Int))
 (.idx 7 eI a1 x0 <| .idx 9 eI a2 x0 <| .idx 1 eI x1 (at' a1 x0) <| .sto 0 [9] eI x1 (at' a1 x0) (at' a2 x0) <| .let_ (x1.set (Int.toNat (at' a1 x0)) (at' a2 x0) : List Int) fun y4 => .again 6 (IntKind.i64.wrap (x0 + 1), y4))
 (.ret 4 x1)
theorem ok_index_Spread_l0 (a1 : List Int) (a2 : List Int) (x0 : Int) (x1 : List Int) : Ok (M_index_Spread_l0 a1 a2 x0 x1) fun v => go Try.prog F_index_Spread.N (PostN (.exit 1) (E_index_Spread_l0 a1 a2) v) [.l (lpA Try.prog 13 0)] .norm (S_index_Spread_l0 a1 a2 x0 x1) := by
 refine M_index_Spread_l0.partial_correctness a1 a2 (fun x0 x1 v => go Try.prog F_index_Spread.N (PostN (.exit 1) (E_index_Spread_l0 a1 a2) v) [.l (lpA Try.prog 13 0)] .norm (S_index_Spread_l0 a1 a2 x0 x1)) ?_ x0 x1
 clear x0 x1
 intro f IH x0 x1
 exact Tr.lpN (F := F_index_Spread) (S := fun x => S_index_Spread_l0 a1 a2 x.1 x.2) (S' := E_index_Spread_l0 a1 a2) (t_index_Spread_l0 a1 a2 x0 x1) (fun x => f x.1 x.2) (fun x r h => IH x.1 x.2 r h) (by kernel_rfl) (by kernel_rfl)
theorem nl_index_Spread : ∀ v, (en_index_Spread v).noLst := fun _ => ⟨(flat_map_of fun _ => trivial), trivial, trivial⟩
noncomputable def t_index_Spread (a0 : Int) (a1 : List Int) (a2 : List Int) : Tr F_index_Spread Empty ((List Int) × Int) :=
 .call 10 (ok_index_Check a0 a1) nl_index_Check fun r1 => .iteN 9 15 (r1 = 0)
 (.ret 10 ([], r1))
 (.len 4 eI a1 <| .len 1 eI a2 <| .iteN 3 19 ((a1.length : Int) = (a2.length : Int))
 (.ret 9 ([], 4))
 (.mk 6 eI 8 0 a0 a0 <| .let_ (List.replicate (Int.toNat a0) 0 : List Int) fun y2 => .len 6 eI a1 <| .loop 4 ⟨_, _, _, _, _, ok_index_Spread_l0 a1 a2 0 y2⟩ fun j6 => .ret 8 (j6, 0)))
noncomputable def s_index_Spread (a0 : Int) (a1 : List Int) (a2 : List Int) : Sg Try.prog ((List Int) × Int) := ⟨13, M_index_Spread a0 a1 a2, [.int .i64 a0, .lst (List.map (D.int .i64) a1), .lst (List.map (D.int .i64) a2)], en_index_Spread⟩
theorem ok_index_Spread (a0 : Int) (a1 : List Int) (a2 : List Int) : (s_index_Spread a0 a1 a2).Holds := Tr.fn (F := F_index_Spread) (t_index_Spread a0 a1 a2) (by kernel_rfl) (by kernel_rfl) (by kernel_rfl) (by kernel_rfl)
/-- thrum/thrumref06.rises. -/
def en_thrumref06_rises (v : Bool) : PV := bB v
noncomputable abbrev F_thrumref06_rises : Fe := .of Try.prog 29 en_thrumref06_rises
def S_thrumref06_rises_l0 (a0 : List Int) (x0 : Int) : St := ⟨[(3, nI x0), (0, lI a0)], []⟩
def E_thrumref06_rises_l0 (a0 : List Int) (x : Unit) : St := ⟨[], []⟩
noncomputable def t_thrumref06_rises_l0 (a0 : List Int) (x0 : Int) : Tr F_thrumref06_rises Int (Sum Bool Unit) :=
 .len 6 eI a0 <| .ite 2 7 (x0 < (a0.length : Int))
 (.idx 8 eI a0 x0 <| .idx 4 eI a0 (IntKind.i64.wrap (x0 - 1)) <| .ite 3 19 ((at' a0 x0) ≤ (at' a0 (IntKind.i64.wrap (x0 - 1))))
 (.ret 9 (.inl false))
 (.again 8 (IntKind.i64.wrap (x0 + 1))))
 (.ret 4 (.inr ()))
theorem ok_thrumref06_rises_l0 (a0 : List Int) (x0 : Int) : Ok (M_thrumref06_rises_l0 a0 x0) fun v => go Try.prog F_thrumref06_rises.N (PostR (fun r => Fnl F_thrumref06_rises.res (F_thrumref06_rises.en r) (F_thrumref06_rises.bx r)) (.exit 0) (E_thrumref06_rises_l0 a0) v) [.l (lpA Try.prog 29 0)] .norm (S_thrumref06_rises_l0 a0 x0) := by
 refine M_thrumref06_rises_l0.partial_correctness a0 (fun x0 v => go Try.prog F_thrumref06_rises.N (PostR (fun r => Fnl F_thrumref06_rises.res (F_thrumref06_rises.en r) (F_thrumref06_rises.bx r)) (.exit 0) (E_thrumref06_rises_l0 a0) v) [.l (lpA Try.prog 29 0)] .norm (S_thrumref06_rises_l0 a0 x0)) ?_ x0
 clear x0
 intro f IH x0
 exact Tr.lpR (F := F_thrumref06_rises) (S := fun x => S_thrumref06_rises_l0 a0 x) (S' := E_thrumref06_rises_l0 a0) (t_thrumref06_rises_l0 a0 x0) (fun x => f x) (fun x r h => IH x r h) (by kernel_rfl) (by kernel_rfl)
theorem nl_thrumref06_rises : ∀ v, (en_thrumref06_rises v).noLst := fun _ => trivial
noncomputable def t_thrumref06_rises (a0 : List Int) : Tr F_thrumref06_rises Empty Bool :=
 .loopR 11 id ⟨_, _, _, _, _, ok_thrumref06_rises_l0 a0 1⟩ fun j1 => .ret 6 true
noncomputable def s_thrumref06_rises (a0 : List Int) : Sg Try.prog Bool := ⟨29, M_thrumref06_rises a0, [.lst (List.map (D.int .i64) a0)], en_thrumref06_rises⟩
theorem ok_thrumref06_rises (a0 : List Int) : (s_thrumref06_rises a0).Holds := Tr.fn (F := F_thrumref06_rises) (t_thrumref06_rises a0) (by kernel_rfl) (by kernel_rfl) (by kernel_rfl) (by kernel_rfl)
/-- thrum/thrumref06.Check. -/
def en_thrumref06_Check (v : Int) : PV := nI v
noncomputable abbrev F_thrumref06_Check : Fe := .of Try.prog 30 en_thrumref06_Check
def S_thrumref06_Check_l0 (a0 : Int) (a1 : List Int) (x0 : Int) : St := ⟨[(20, nI x0), (19, nI (a1.length : Int)), (18, lI a1), (0, nI a0)], []⟩
def E_thrumref06_Check_l0 (a0 : Int) (a1 : List Int) (x : Unit) : St := ⟨[], []⟩
noncomputable def t_thrumref06_Check_l0 (a0 : Int) (a1 : List Int) (x0 : Int) : Tr F_thrumref06_Check Int (Sum Int Unit) :=
 .ite 6 21 (x0 < (a1.length : Int))
 (.idx 6 eI a1 x0 <| .join 8 4 (γ := Bool) ⟨fun x => [(30, bB x)], [20, 19, 18, 0], fun _ => [], []⟩
 (.ite 0 26 ((at' a1 x0) < 0)
 (.ret 5 true)
 (.ret 5 (decide ((at' a1 x0) ≥ a0))))
 fun j4 => .iteB 1 30 (j4)
 (.ret 9 (.inl 1))
 (.again 7 (IntKind.i64.wrap (x0 + 1))))
 (.ret 4 (.inr ()))
theorem ok_thrumref06_Check_l0 (a0 : Int) (a1 : List Int) (x0 : Int) : Ok (M_thrumref06_Check_l0 a0 a1 x0) fun v => go Try.prog F_thrumref06_Check.N (PostR (fun r => Fnl F_thrumref06_Check.res (F_thrumref06_Check.en r) (F_thrumref06_Check.bx r)) (.exit 0) (E_thrumref06_Check_l0 a0 a1) v) [.l (lpA Try.prog 30 0)] .norm (S_thrumref06_Check_l0 a0 a1 x0) := by
 refine M_thrumref06_Check_l0.partial_correctness a0 a1 (fun x0 v => go Try.prog F_thrumref06_Check.N (PostR (fun r => Fnl F_thrumref06_Check.res (F_thrumref06_Check.en r) (F_thrumref06_Check.bx r)) (.exit 0) (E_thrumref06_Check_l0 a0 a1) v) [.l (lpA Try.prog 30 0)] .norm (S_thrumref06_Check_l0 a0 a1 x0)) ?_ x0
 clear x0
 intro f IH x0
 exact Tr.lpR (F := F_thrumref06_Check) (S := fun x => S_thrumref06_Check_l0 a0 a1 x) (S' := E_thrumref06_Check_l0 a0 a1) (t_thrumref06_Check_l0 a0 a1 x0) (fun x => f x) (fun x r h => IH x r h) (by kernel_rfl) (by kernel_rfl)
theorem nl_thrumref06_Check : ∀ v, (en_thrumref06_Check v).noLst := fun _ => trivial
noncomputable def t_thrumref06_Check (a0 : Int) (a1 : List Int) : Tr F_thrumref06_Check Empty Int :=
 .join 10 3 (γ := Bool) ⟨fun x => [(12, bB x)], [0, 1], fun _ => [], []⟩
 (.ite 0 9 (a0 < 1)
 (.ret 4 true)
 (.ret 4 (decide (a0 > 4096))))
 fun j1 => .join 1 4 (γ := Bool) ⟨fun x => [(17, bB x)], [0, 1], fun _ => [], []⟩
 (.iteB 0 13 (j1)
 (.ret 5 true)
 (.call 1 (ok_thrumref06_rises a1) nl_thrumref06_rises fun r2 => .ret 3 (!r2)))
 fun j3 => .iteB 1 17 (j3)
 (.ret 7 1)
 (.len 6 eI a1 <| .loopR 4 id ⟨_, _, _, _, _, ok_thrumref06_Check_l0 a0 a1 0⟩ fun j5 => .ret 6 0)
noncomputable def s_thrumref06_Check (a0 : Int) (a1 : List Int) : Sg Try.prog Int := ⟨30, M_thrumref06_Check a0 a1, [.int .i64 a0, .lst (List.map (D.int .i64) a1)], en_thrumref06_Check⟩
theorem ok_thrumref06_Check (a0 : Int) (a1 : List Int) : (s_thrumref06_Check a0 a1).Holds := Tr.fn (F := F_thrumref06_Check) (t_thrumref06_Check a0 a1) (by kernel_rfl) (by kernel_rfl) (by kernel_rfl) (by kernel_rfl)
/-- thrum/thrumref06.Spread. -/
def en_thrumref06_Spread (v : (List Int) × Int) : PV := .tup [sI (.s 0) v.1, nI v.2]
noncomputable abbrev F_thrumref06_Spread : Fe := .of Try.prog 14 en_thrumref06_Spread
def S_thrumref06_Spread_l0 (a1 : List Int) (a2 : List Int) (x0 : Int) (x1 : List Int) : St := ⟨[(27, nI x0), (26, nI (a1.length : Int)), (25, lI a1), (9, sI (.h 0) x1), (2, lI a2)], []⟩
def E_thrumref06_Spread_l0 (a1 : List Int) (a2 : List Int) (x : (List Int)) : St := ⟨[(9, sI (.h 1) x)], []⟩
noncomputable def t_thrumref06_Spread_l0 (a1 : List Int) (a2 : List Int) (x0 : Int) (x1 : List Int) : Tr F_thrumref06_Spread (Int × (List Int)) (List Int) :=
 .ite 6 28 (x0 < (a1.length : Int))
 (.idx 7 eI a1 x0 <| .idx 9 eI a2 x0 <| .idx 1 eI x1 (at' a1 x0) <| .sto 0 [9] eI x1 (at' a1 x0) (at' a2 x0) <| .let_ (x1.set (Int.toNat (at' a1 x0)) (at' a2 x0) : List Int) fun y4 => .again 6 (IntKind.i64.wrap (x0 + 1), y4))
 (.ret 4 x1)
theorem ok_thrumref06_Spread_l0 (a1 : List Int) (a2 : List Int) (x0 : Int) (x1 : List Int) : Ok (M_thrumref06_Spread_l0 a1 a2 x0 x1) fun v => go Try.prog F_thrumref06_Spread.N (PostN (.exit 0) (E_thrumref06_Spread_l0 a1 a2) v) [.l (lpA Try.prog 14 0)] .norm (S_thrumref06_Spread_l0 a1 a2 x0 x1) := by
 refine M_thrumref06_Spread_l0.partial_correctness a1 a2 (fun x0 x1 v => go Try.prog F_thrumref06_Spread.N (PostN (.exit 0) (E_thrumref06_Spread_l0 a1 a2) v) [.l (lpA Try.prog 14 0)] .norm (S_thrumref06_Spread_l0 a1 a2 x0 x1)) ?_ x0 x1
 clear x0 x1
 intro f IH x0 x1
 exact Tr.lpN (F := F_thrumref06_Spread) (S := fun x => S_thrumref06_Spread_l0 a1 a2 x.1 x.2) (S' := E_thrumref06_Spread_l0 a1 a2) (t_thrumref06_Spread_l0 a1 a2 x0 x1) (fun x => f x.1 x.2) (fun x r h => IH x.1 x.2 r h) (by kernel_rfl) (by kernel_rfl)
theorem nl_thrumref06_Spread : ∀ v, (en_thrumref06_Spread v).noLst := fun _ => ⟨(flat_map_of fun _ => trivial), trivial, trivial⟩
noncomputable def t_thrumref06_Spread (a0 : Int) (a1 : List Int) (a2 : List Int) : Tr F_thrumref06_Spread Empty ((List Int) × Int) :=
 .call 10 (ok_thrumref06_Check a0 a1) nl_thrumref06_Check fun r1 => .iteN 7 16 (r1 = 0)
 (.ret 9 ([], r1))
 (.len 6 eI a1 <| .len 1 eI a2 <| .iteN 2 22 ((a1.length : Int) = (a2.length : Int))
 (.ret 8 ([], 4))
 (.mk 5 eI 8 0 a0 a0 <| .let_ (List.replicate (Int.toNat a0) 0 : List Int) fun y2 => .len 6 eI a1 <| .loop 4 ⟨_, _, _, _, _, ok_thrumref06_Spread_l0 a1 a2 0 y2⟩ fun j6 => .ret 8 (j6, 0)))
noncomputable def s_thrumref06_Spread (a0 : Int) (a1 : List Int) (a2 : List Int) : Sg Try.prog ((List Int) × Int) := ⟨14, M_thrumref06_Spread a0 a1 a2, [.int .i64 a0, .lst (List.map (D.int .i64) a1), .lst (List.map (D.int .i64) a2)], en_thrumref06_Spread⟩
theorem ok_thrumref06_Spread (a0 : Int) (a1 : List Int) (a2 : List Int) : (s_thrumref06_Spread a0 a1 a2).Holds := Tr.fn (F := F_thrumref06_Spread) (t_thrumref06_Spread a0 a1 a2) (by kernel_rfl) (by kernel_rfl) (by kernel_rfl) (by kernel_rfl)
/-- thrum/index.Gather$1. -/
def en_index_Gather_1_c (v : Bool) : PV := bB v
noncomputable abbrev F_index_Gather_1_c : Fe := .of Try.prog 33 en_index_Gather_1_c
theorem nl_index_Gather_1_c : ∀ v, (en_index_Gather_1_c v).noLst := fun _ => trivial
noncomputable def t_index_Gather_1_c (a0 : Int) (a1 : List Int) : Tr F_index_Gather_1_c Empty Bool :=
 .join 9 5 (γ := Bool) ⟨fun x => [(11, bB x)], [], fun _ => [], []⟩
 (.ite 0 6 (a0 < 0)
 (.ret 6 true)
 (.len 2 eI a1 <| .ret 3 (decide (a0 ≥ (a1.length : Int)))))
 fun j1 => .ret 3 j1
noncomputable def s_index_Gather_1_c (a0 : Int) (a1 : List Int) : Sg Try.prog Bool := ⟨33, M_index_Gather_1_c a0 a1, [.int .i64 a0, .cp [.lst (List.map (D.int .i64) a1)] 0], en_index_Gather_1_c⟩
theorem ok_index_Gather_1_c (a0 : Int) (a1 : List Int) : (s_index_Gather_1_c a0 a1).Holds := Tr.fn (F := F_index_Gather_1_c) (t_index_Gather_1_c a0 a1) (by kernel_rfl) (by kernel_rfl) (by kernel_rfl) (by kernel_rfl)
/-- slices.IndexFunc[[]int,int]. -/
def en_slices_IndexFunc_int_int_index_Gather_1 (v : Int) : PV := nI v
noncomputable abbrev F_slices_IndexFunc_int_int_index_Gather_1 : Fe := .of Try.prog 43 en_slices_IndexFunc_int_int_index_Gather_1
def S_slices_IndexFunc_int_int_index_Gather_1_l0 (a0 : List Int) (a1 : List Int) (x0 : Int) : St := ⟨[(8, nI x0), (7, nI (a0.length : Int)), (0, lI a0), (1, .d (.clo (.func 33) [] [.cp [.lst (List.map (D.int .i64) a1)] 0]))], []⟩
def E_slices_IndexFunc_int_int_index_Gather_1_l0 (a0 : List Int) (a1 : List Int) (x : Unit) : St := ⟨[], []⟩
noncomputable def t_slices_IndexFunc_int_int_index_Gather_1_l0 (a0 : List Int) (a1 : List Int) (x0 : Int) : Tr F_slices_IndexFunc_int_int_index_Gather_1 Int (Sum Int Unit) :=
 .ite 6 9 (x0 < (a0.length : Int))
 (.idx 14 eI a0 x0 <| .call 1 (ok_index_Gather_1_c (at' a0 x0) a1) nl_index_Gather_1_c fun r1 => .iteB 1 16 (r1)
 (.ret 10 (.inl x0))
 (.again 7 (IntKind.i64.wrap (x0 + 1))))
 (.ret 4 (.inr ()))
theorem ok_slices_IndexFunc_int_int_index_Gather_1_l0 (a0 : List Int) (a1 : List Int) (x0 : Int) : Ok (M_slices_IndexFunc_int_int_index_Gather_1_l0 a0 a1 x0) fun v => go Try.prog F_slices_IndexFunc_int_int_index_Gather_1.N (PostR (fun r => Fnl F_slices_IndexFunc_int_int_index_Gather_1.res (F_slices_IndexFunc_int_int_index_Gather_1.en r) (F_slices_IndexFunc_int_int_index_Gather_1.bx r)) (.exit 0) (E_slices_IndexFunc_int_int_index_Gather_1_l0 a0 a1) v) [.l (lpA Try.prog 43 0)] .norm (S_slices_IndexFunc_int_int_index_Gather_1_l0 a0 a1 x0) := by
 refine M_slices_IndexFunc_int_int_index_Gather_1_l0.partial_correctness a0 a1 (fun x0 v => go Try.prog F_slices_IndexFunc_int_int_index_Gather_1.N (PostR (fun r => Fnl F_slices_IndexFunc_int_int_index_Gather_1.res (F_slices_IndexFunc_int_int_index_Gather_1.en r) (F_slices_IndexFunc_int_int_index_Gather_1.bx r)) (.exit 0) (E_slices_IndexFunc_int_int_index_Gather_1_l0 a0 a1) v) [.l (lpA Try.prog 43 0)] .norm (S_slices_IndexFunc_int_int_index_Gather_1_l0 a0 a1 x0)) ?_ x0
 clear x0
 intro f IH x0
 exact Tr.lpR (F := F_slices_IndexFunc_int_int_index_Gather_1) (S := fun x => S_slices_IndexFunc_int_int_index_Gather_1_l0 a0 a1 x) (S' := E_slices_IndexFunc_int_int_index_Gather_1_l0 a0 a1) (t_slices_IndexFunc_int_int_index_Gather_1_l0 a0 a1 x0) (fun x => f x) (fun x r h => IH x r h) (by kernel_rfl) (by kernel_rfl)
theorem nl_slices_IndexFunc_int_int_index_Gather_1 : ∀ v, (en_slices_IndexFunc_int_int_index_Gather_1 v).noLst := fun _ => trivial
noncomputable def t_slices_IndexFunc_int_int_index_Gather_1 (a0 : List Int) (a1 : List Int) : Tr F_slices_IndexFunc_int_int_index_Gather_1 Empty Int :=
 .len 8 eI a0 <| .loopR 4 id ⟨_, _, _, _, _, ok_slices_IndexFunc_int_int_index_Gather_1_l0 a0 a1 0⟩ fun j2 => .ret 6 (-1)
noncomputable def s_slices_IndexFunc_int_int_index_Gather_1 (a0 : List Int) (a1 : List Int) : Sg Try.prog Int := ⟨43, M_slices_IndexFunc_int_int_index_Gather_1 a0 a1, [.lst (List.map (D.int .i64) a0), .clo (.func 33) [] [.cp [.lst (List.map (D.int .i64) a1)] 0]], en_slices_IndexFunc_int_int_index_Gather_1⟩
theorem ok_slices_IndexFunc_int_int_index_Gather_1 (a0 : List Int) (a1 : List Int) : (s_slices_IndexFunc_int_int_index_Gather_1 a0 a1).Holds := Tr.fn (F := F_slices_IndexFunc_int_int_index_Gather_1) (t_slices_IndexFunc_int_int_index_Gather_1 a0 a1) (by kernel_rfl) (by kernel_rfl) (by kernel_rfl) (by kernel_rfl)
/-- slices.ContainsFunc[[]int,int]. -/
def en_slices_ContainsFunc_int_int_index_Gather_1 (v : Bool) : PV := bB v
noncomputable abbrev F_slices_ContainsFunc_int_int_index_Gather_1 : Fe := .of Try.prog 32 en_slices_ContainsFunc_int_int_index_Gather_1
theorem nl_slices_ContainsFunc_int_int_index_Gather_1 : ∀ v, (en_slices_ContainsFunc_int_int_index_Gather_1 v).noLst := fun _ => trivial
noncomputable def t_slices_ContainsFunc_int_int_index_Gather_1 (a0 : List Int) (a1 : List Int) : Tr F_slices_ContainsFunc_int_int_index_Gather_1 Empty Bool :=
 .call 8 (ok_slices_IndexFunc_int_int_index_Gather_1 a0 a1) nl_slices_IndexFunc_int_int_index_Gather_1 fun r1 => .ret 4 (decide (r1 ≥ 0))
noncomputable def s_slices_ContainsFunc_int_int_index_Gather_1 (a0 : List Int) (a1 : List Int) : Sg Try.prog Bool := ⟨32, M_slices_ContainsFunc_int_int_index_Gather_1 a0 a1, [.lst (List.map (D.int .i64) a0), .clo (.func 33) [] [.cp [.lst (List.map (D.int .i64) a1)] 0]], en_slices_ContainsFunc_int_int_index_Gather_1⟩
theorem ok_slices_ContainsFunc_int_int_index_Gather_1 (a0 : List Int) (a1 : List Int) : (s_slices_ContainsFunc_int_int_index_Gather_1 a0 a1).Holds := Tr.fn (F := F_slices_ContainsFunc_int_int_index_Gather_1) (t_slices_ContainsFunc_int_int_index_Gather_1 a0 a1) (by kernel_rfl) (by kernel_rfl) (by kernel_rfl) (by kernel_rfl)
/-- thrum/index.Gather. -/
def en_index_Gather (v : (List Int) × Int) : PV := .tup [sI (.s 0) v.1, nI v.2]
noncomputable abbrev F_index_Gather : Fe := .of Try.prog 15 en_index_Gather
def S_index_Gather_l0 (a0 : List Int) (a1 : List Int) (x0 : Int) (x1 : List Int) : St := ⟨[(22, nI x0), (21, nI (a0.length : Int)), (20, lI a0), (6, sI (.h 0) x1), (3, .ptr (.s 15) 0)], [(.s 15, [lI a1])]⟩
def E_index_Gather_l0 (a0 : List Int) (a1 : List Int) (x : (List Int)) : St := ⟨[(6, sI (.h 1) x)], []⟩
noncomputable def t_index_Gather_l0 (a0 : List Int) (a1 : List Int) (x0 : Int) (x1 : List Int) : Tr F_index_Gather (Int × (List Int)) (List Int) :=
 .ite 6 23 (x0 < (a0.length : Int))
 (.idx 6 eI a0 x0 <| .idx 7 eI a1 (at' a0 x0) <| .app 2 eI 8 x1 [at' a1 (at' a0 x0)] <| .let_ (x1 ++ [at' a1 (at' a0 x0)] : List Int) fun y6 => .again 7 (IntKind.i64.wrap (x0 + 1), y6))
 (.ret 4 x1)
theorem ok_index_Gather_l0 (a0 : List Int) (a1 : List Int) (x0 : Int) (x1 : List Int) : Ok (M_index_Gather_l0 a0 a1 x0 x1) fun v => go Try.prog F_index_Gather.N (PostN (.exit 0) (E_index_Gather_l0 a0 a1) v) [.l (lpA Try.prog 15 0)] .norm (S_index_Gather_l0 a0 a1 x0 x1) := by
 refine M_index_Gather_l0.partial_correctness a0 a1 (fun x0 x1 v => go Try.prog F_index_Gather.N (PostN (.exit 0) (E_index_Gather_l0 a0 a1) v) [.l (lpA Try.prog 15 0)] .norm (S_index_Gather_l0 a0 a1 x0 x1)) ?_ x0 x1
 clear x0 x1
 intro f IH x0 x1
 exact Tr.lpN (F := F_index_Gather) (S := fun x => S_index_Gather_l0 a0 a1 x.1 x.2) (S' := E_index_Gather_l0 a0 a1) (t_index_Gather_l0 a0 a1 x0 x1) (fun x => f x.1 x.2) (fun x r h => IH x.1 x.2 r h) (by kernel_rfl) (by kernel_rfl)
theorem nl_index_Gather : ∀ v, (en_index_Gather v).noLst := fun _ => ⟨(flat_map_of fun _ => trivial), trivial, trivial⟩
noncomputable def t_index_Gather (a0 : List Int) (a1 : List Int) : Tr F_index_Gather Empty ((List Int) × Int) :=
 .call 10 (ok_index_rises a0) nl_index_rises fun r1 => .join 2 4 (γ := Bool) ⟨fun x => [(16, bB x)], [3, 0], fun _ => [], [.s 15]⟩
 (.iteX 0 12 (r1)
 (.ret 5 true)
 (.call 2 (ok_slices_ContainsFunc_int_int_index_Gather_1 a0 a1) nl_slices_ContainsFunc_int_int_index_Gather_1 fun r2 => .ret 2 r2))
 fun j3 => .iteB 1 16 (j3)
 (.ret 8 ([], 1))
 (.len 5 eI a0 <| .mk 0 eI 8 0 0 (a0.length : Int) <| .let_ (List.replicate (Int.toNat 0) 0 : List Int) fun y4 => .len 6 eI a0 <| .loop 4 ⟨_, _, _, _, _, ok_index_Gather_l0 a0 a1 0 y4⟩ fun j8 => .ret 8 (j8, 0))
noncomputable def s_index_Gather (a0 : List Int) (a1 : List Int) : Sg Try.prog ((List Int) × Int) := ⟨15, M_index_Gather a0 a1, [.lst (List.map (D.int .i64) a0), .lst (List.map (D.int .i64) a1)], en_index_Gather⟩
theorem ok_index_Gather (a0 : List Int) (a1 : List Int) : (s_index_Gather a0 a1).Holds := Tr.fn (F := F_index_Gather) (t_index_Gather a0 a1) (by kernel_rfl) (by kernel_rfl) (by kernel_rfl) (by kernel_rfl)
/-- thrum/thrumref06.Gather. -/
def en_thrumref06_Gather (v : (List Int) × Int) : PV := .tup [sI (.s 0) v.1, nI v.2]
noncomputable abbrev F_thrumref06_Gather : Fe := .of Try.prog 16 en_thrumref06_Gather
def S_thrumref06_Gather_l0 (a0 : List Int) (a1 : List Int) (x0 : Int) (x1 : List Int) : St := ⟨[(14, nI x0), (13, nI (a0.length : Int)), (12, lI a0), (6, sI (.h 0) x1), (1, lI a1)], []⟩
def E_thrumref06_Gather_l0 (a0 : List Int) (a1 : List Int) (x : (List Int)) : St := ⟨[(6, sI (.h 1) x)], []⟩
noncomputable def t_thrumref06_Gather_l0 (a0 : List Int) (a1 : List Int) (x0 : Int) (x1 : List Int) : Tr F_thrumref06_Gather (Int × (List Int)) (Sum ((List Int) × Int) (List Int)) :=
 .ite 6 15 (x0 < (a0.length : Int))
 (.idx 6 eI a0 x0 <| .join 9 5 (γ := Bool) ⟨fun x => [(25, bB x)], [8, 14, 13, 12, 6, 1], fun _ => [], []⟩
 (.ite 0 20 ((at' a0 x0) < 0)
 (.ret 6 true)
 (.len 2 eI a1 <| .ret 3 (decide ((at' a0 x0) ≥ (a1.length : Int)))))
 fun j2 => .iteB 1 25 (j2)
 (.ret 11 (.inl ([], 1)))
 (.idx 6 eI a1 (at' a0 x0) <| .app 2 eI 8 x1 [at' a1 (at' a0 x0)] <| .let_ (x1 ++ [at' a1 (at' a0 x0)] : List Int) fun y3 => .again 7 (IntKind.i64.wrap (x0 + 1), y3)))
 (.ret 4 (.inr x1))
theorem ok_thrumref06_Gather_l0 (a0 : List Int) (a1 : List Int) (x0 : Int) (x1 : List Int) : Ok (M_thrumref06_Gather_l0 a0 a1 x0 x1) fun v => go Try.prog F_thrumref06_Gather.N (PostR (fun r => Fnl F_thrumref06_Gather.res (F_thrumref06_Gather.en r) (F_thrumref06_Gather.bx r)) (.exit 0) (E_thrumref06_Gather_l0 a0 a1) v) [.l (lpA Try.prog 16 0)] .norm (S_thrumref06_Gather_l0 a0 a1 x0 x1) := by
 refine M_thrumref06_Gather_l0.partial_correctness a0 a1 (fun x0 x1 v => go Try.prog F_thrumref06_Gather.N (PostR (fun r => Fnl F_thrumref06_Gather.res (F_thrumref06_Gather.en r) (F_thrumref06_Gather.bx r)) (.exit 0) (E_thrumref06_Gather_l0 a0 a1) v) [.l (lpA Try.prog 16 0)] .norm (S_thrumref06_Gather_l0 a0 a1 x0 x1)) ?_ x0 x1
 clear x0 x1
 intro f IH x0 x1
 exact Tr.lpR (F := F_thrumref06_Gather) (S := fun x => S_thrumref06_Gather_l0 a0 a1 x.1 x.2) (S' := E_thrumref06_Gather_l0 a0 a1) (t_thrumref06_Gather_l0 a0 a1 x0 x1) (fun x => f x.1 x.2) (fun x r h => IH x.1 x.2 r h) (by kernel_rfl) (by kernel_rfl)
theorem nl_thrumref06_Gather : ∀ v, (en_thrumref06_Gather v).noLst := fun _ => ⟨(flat_map_of fun _ => trivial), trivial, trivial⟩
noncomputable def t_thrumref06_Gather (a0 : List Int) (a1 : List Int) : Tr F_thrumref06_Gather Empty ((List Int) × Int) :=
 .call 9 (ok_thrumref06_rises a0) nl_thrumref06_rises fun r1 => .iteX 2 11 (r1)
 (.ret 8 ([], 1))
 (.len 10 eI a0 <| .loopR 4 id ⟨_, _, _, _, _, ok_thrumref06_Gather_l0 a0 a1 0 []⟩ fun j5 => .ret 8 (j5, 0))
noncomputable def s_thrumref06_Gather (a0 : List Int) (a1 : List Int) : Sg Try.prog ((List Int) × Int) := ⟨16, M_thrumref06_Gather a0 a1, [.lst (List.map (D.int .i64) a0), .lst (List.map (D.int .i64) a1)], en_thrumref06_Gather⟩
theorem ok_thrumref06_Gather (a0 : List Int) (a1 : List Int) : (s_thrumref06_Gather a0 a1).Holds := Tr.fn (F := F_thrumref06_Gather) (t_thrumref06_Gather a0 a1) (by kernel_rfl) (by kernel_rfl) (by kernel_rfl) (by kernel_rfl)
/-- thrum/thrumref06.in. -/
def en_thrumref06_in (v : Bool) : PV := bB v
noncomputable abbrev F_thrumref06_in : Fe := .of Try.prog 34 en_thrumref06_in
def S_thrumref06_in_l0 (a0 : List Int) (a1 : Int) (x0 : Int) : St := ⟨[(9, nI x0), (8, nI (a0.length : Int)), (7, lI a0), (1, nI a1)], []⟩
def E_thrumref06_in_l0 (a0 : List Int) (a1 : Int) (x : Unit) : St := ⟨[], []⟩
noncomputable def t_thrumref06_in_l0 (a0 : List Int) (a1 : Int) (x0 : Int) : Tr F_thrumref06_in Int (Sum Bool Unit) :=
 .ite 6 10 (x0 < (a0.length : Int))
 (.idx 6 eI a0 x0 <| .ite 9 15 ((at' a0 x0) = a1)
 (.ret 9 (.inl true))
 (.again 7 (IntKind.i64.wrap (x0 + 1))))
 (.ret 4 (.inr ()))
theorem ok_thrumref06_in_l0 (a0 : List Int) (a1 : Int) (x0 : Int) : Ok (M_thrumref06_in_l0 a0 a1 x0) fun v => go Try.prog F_thrumref06_in.N (PostR (fun r => Fnl F_thrumref06_in.res (F_thrumref06_in.en r) (F_thrumref06_in.bx r)) (.exit 0) (E_thrumref06_in_l0 a0 a1) v) [.l (lpA Try.prog 34 0)] .norm (S_thrumref06_in_l0 a0 a1 x0) := by
 refine M_thrumref06_in_l0.partial_correctness a0 a1 (fun x0 v => go Try.prog F_thrumref06_in.N (PostR (fun r => Fnl F_thrumref06_in.res (F_thrumref06_in.en r) (F_thrumref06_in.bx r)) (.exit 0) (E_thrumref06_in_l0 a0 a1) v) [.l (lpA Try.prog 34 0)] .norm (S_thrumref06_in_l0 a0 a1 x0)) ?_ x0
 clear x0
 intro f IH x0
 exact Tr.lpR (F := F_thrumref06_in) (S := fun x => S_thrumref06_in_l0 a0 a1 x) (S' := E_thrumref06_in_l0 a0 a1) (t_thrumref06_in_l0 a0 a1 x0) (fun x => f x) (fun x r h => IH x r h) (by kernel_rfl) (by kernel_rfl)
theorem nl_thrumref06_in : ∀ v, (en_thrumref06_in v).noLst := fun _ => trivial
noncomputable def t_thrumref06_in (a0 : List Int) (a1 : Int) : Tr F_thrumref06_in Empty Bool :=
 .len 8 eI a0 <| .loopR 4 id ⟨_, _, _, _, _, ok_thrumref06_in_l0 a0 a1 0⟩ fun j1 => .ret 6 false
noncomputable def s_thrumref06_in (a0 : List Int) (a1 : Int) : Sg Try.prog Bool := ⟨34, M_thrumref06_in a0 a1, [.lst (List.map (D.int .i64) a0), .int .i64 a1], en_thrumref06_in⟩
theorem ok_thrumref06_in (a0 : List Int) (a1 : Int) : (s_thrumref06_in a0 a1).Holds := Tr.fn (F := F_thrumref06_in) (t_thrumref06_in a0 a1) (by kernel_rfl) (by kernel_rfl) (by kernel_rfl) (by kernel_rfl)
/-- thrum/thrumref06.Left. -/
def en_thrumref06_Left (v : (List Int) × Int) : PV := .tup [sI (.s 0) v.1, nI v.2]
noncomputable abbrev F_thrumref06_Left : Fe := .of Try.prog 17 en_thrumref06_Left
def S_thrumref06_Left_l0 (a0 : Int) (a1 : List Int) (x0 : Int) (x1 : List Int) : St := ⟨[(16, nI x0), (15, nI a0), (7, sI (.h 0) x1), (1, lI a1)], []⟩
def E_thrumref06_Left_l0 (a0 : Int) (a1 : List Int) (x : (List Int)) : St := ⟨[(7, sI (.h 1) x)], []⟩
noncomputable def t_thrumref06_Left_l0 (a0 : Int) (a1 : List Int) (x0 : Int) (x1 : List Int) : Tr F_thrumref06_Left (Int × (List Int)) (List Int) :=
 .ite 6 17 (x0 < a0)
 (.call 13 (ok_thrumref06_in a1 x0) nl_thrumref06_in fun r2 => .iteX 2 22 (r2)
 (.app 5 eI 8 x1 [x0] <| .again 7 (IntKind.i64.wrap (x0 + 1), x1 ++ [x0]))
 (.again 7 (IntKind.i64.wrap (x0 + 1), x1)))
 (.ret 4 x1)
theorem ok_thrumref06_Left_l0 (a0 : Int) (a1 : List Int) (x0 : Int) (x1 : List Int) : Ok (M_thrumref06_Left_l0 a0 a1 x0 x1) fun v => go Try.prog F_thrumref06_Left.N (PostN (.exit 0) (E_thrumref06_Left_l0 a0 a1) v) [.l (lpA Try.prog 17 0)] .norm (S_thrumref06_Left_l0 a0 a1 x0 x1) := by
 refine M_thrumref06_Left_l0.partial_correctness a0 a1 (fun x0 x1 v => go Try.prog F_thrumref06_Left.N (PostN (.exit 0) (E_thrumref06_Left_l0 a0 a1) v) [.l (lpA Try.prog 17 0)] .norm (S_thrumref06_Left_l0 a0 a1 x0 x1)) ?_ x0 x1
 clear x0 x1
 intro f IH x0 x1
 exact Tr.lpN (F := F_thrumref06_Left) (S := fun x => S_thrumref06_Left_l0 a0 a1 x.1 x.2) (S' := E_thrumref06_Left_l0 a0 a1) (t_thrumref06_Left_l0 a0 a1 x0 x1) (fun x => f x.1 x.2) (fun x r h => IH x.1 x.2 r h) (by kernel_rfl) (by kernel_rfl)
theorem nl_thrumref06_Left : ∀ v, (en_thrumref06_Left v).noLst := fun _ => ⟨(flat_map_of fun _ => trivial), trivial, trivial⟩
noncomputable def t_thrumref06_Left (a0 : Int) (a1 : List Int) : Tr F_thrumref06_Left Empty ((List Int) × Int) :=
 .call 10 (ok_thrumref06_Check a0 a1) nl_thrumref06_Check fun r1 => .iteN 7 13 (r1 = 0)
 (.ret 9 ([], r1))
 (.loop 14 ⟨_, _, _, _, _, ok_thrumref06_Left_l0 a0 a1 0 []⟩ fun j3 => .ret 8 (j3, 0))
noncomputable def s_thrumref06_Left (a0 : Int) (a1 : List Int) : Sg Try.prog ((List Int) × Int) := ⟨17, M_thrumref06_Left a0 a1, [.int .i64 a0, .lst (List.map (D.int .i64) a1)], en_thrumref06_Left⟩
theorem ok_thrumref06_Left (a0 : Int) (a1 : List Int) : (s_thrumref06_Left a0 a1).Holds := Tr.fn (F := F_thrumref06_Left) (t_thrumref06_Left a0 a1) (by kernel_rfl) (by kernel_rfl) (by kernel_rfl) (by kernel_rfl)
/-- thrum/thrumref02.Same. -/
def en_thrumref02_Same (v : Bool) : PV := bB v
noncomputable abbrev F_thrumref02_Same : Fe := .of Try.prog 18 en_thrumref02_Same
def S_thrumref02_Same_l0 (a0 : List Int) (a1 : List Int) (x0 : Int) : St := ⟨[(13, nI x0), (12, nI (a0.length : Int)), (0, lI a0), (1, lI a1)], []⟩
def E_thrumref02_Same_l0 (a0 : List Int) (a1 : List Int) (x : Unit) : St := ⟨[], []⟩
noncomputable def t_thrumref02_Same_l0 (a0 : List Int) (a1 : List Int) (x0 : Int) : Tr F_thrumref02_Same Int (Sum Bool Unit) :=
 .ite 6 14 (x0 < (a0.length : Int))
 (.idx 13 eI a0 x0 <| .idx 3 eI a1 x0 <| .iteN 3 24 ((at' a0 x0) = (at' a1 x0))
 (.ret 9 (.inl false))
 (.again 7 (IntKind.i64.wrap (x0 + 1))))
 (.ret 4 (.inr ()))
theorem ok_thrumref02_Same_l0 (a0 : List Int) (a1 : List Int) (x0 : Int) : Ok (M_thrumref02_Same_l0 a0 a1 x0) fun v => go Try.prog F_thrumref02_Same.N (PostR (fun r => Fnl F_thrumref02_Same.res (F_thrumref02_Same.en r) (F_thrumref02_Same.bx r)) (.exit 0) (E_thrumref02_Same_l0 a0 a1) v) [.l (lpA Try.prog 18 0)] .norm (S_thrumref02_Same_l0 a0 a1 x0) := by
 refine M_thrumref02_Same_l0.partial_correctness a0 a1 (fun x0 v => go Try.prog F_thrumref02_Same.N (PostR (fun r => Fnl F_thrumref02_Same.res (F_thrumref02_Same.en r) (F_thrumref02_Same.bx r)) (.exit 0) (E_thrumref02_Same_l0 a0 a1) v) [.l (lpA Try.prog 18 0)] .norm (S_thrumref02_Same_l0 a0 a1 x0)) ?_ x0
 clear x0
 intro f IH x0
 exact Tr.lpR (F := F_thrumref02_Same) (S := fun x => S_thrumref02_Same_l0 a0 a1 x) (S' := E_thrumref02_Same_l0 a0 a1) (t_thrumref02_Same_l0 a0 a1 x0) (fun x => f x) (fun x r h => IH x r h) (by kernel_rfl) (by kernel_rfl)
theorem nl_thrumref02_Same : ∀ v, (en_thrumref02_Same v).noLst := fun _ => trivial
noncomputable def t_thrumref02_Same (a0 : List Int) (a1 : List Int) : Tr F_thrumref02_Same Empty Bool :=
 .len 8 eI a0 <| .len 1 eI a1 <| .iteN 2 10 ((a0.length : Int) = (a1.length : Int))
 (.ret 7 false)
 (.len 6 eI a0 <| .loopR 4 id ⟨_, _, _, _, _, ok_thrumref02_Same_l0 a0 a1 0⟩ fun j1 => .ret 6 true)
noncomputable def s_thrumref02_Same (a0 : List Int) (a1 : List Int) : Sg Try.prog Bool := ⟨18, M_thrumref02_Same a0 a1, [.lst (List.map (D.int .i64) a0), .lst (List.map (D.int .i64) a1)], en_thrumref02_Same⟩
theorem ok_thrumref02_Same (a0 : List Int) (a1 : List Int) : (s_thrumref02_Same a0 a1).Holds := Tr.fn (F := F_thrumref02_Same) (t_thrumref02_Same a0 a1) (by kernel_rfl) (by kernel_rfl) (by kernel_rfl) (by kernel_rfl)
/-- thrum/thrumref06.Merge. -/
def en_thrumref06_Merge (v : (List Int)) : PV := sI (.s 0) v
noncomputable abbrev F_thrumref06_Merge : Fe := .of Try.prog 19 en_thrumref06_Merge
def S_thrumref06_Merge_l2 (a0 : List (List Int)) (x0 : Int) (x0_ : Int) (x1_ : List Int) (x0__ : Int) (x1__ : List Int) : St := ⟨[(30, nI x0__), (29, nI (x1_.length : Int)), (28, sI (.h 1) x1_), (8, sI (.h 2) x1__), (7, nI (at' (at' a0 x0) x0_)), (21, nI x0_), (20, nI ((at' a0 x0).length : Int)), (19, lI (at' a0 x0)), (15, nI x0), (14, nI (a0.length : Int)), (13, .d (.lst (List.map (enL (D.int .i64)) a0))), (3, sI (.h 1) x1_)], []⟩
def E_thrumref06_Merge_l2 (a0 : List (List Int)) (x0 : Int) (x0_ : Int) (x1_ : List Int) (x : (List Int)) : St := ⟨[(8, sI (.h 3) x), (7, nI (at' (at' a0 x0) x0_)), (21, nI x0_), (20, nI ((at' a0 x0).length : Int)), (19, lI (at' a0 x0)), (15, nI x0), (14, nI (a0.length : Int)), (13, .d (.lst (List.map (enL (D.int .i64)) a0))), (3, sI (.h 1) x1_)], []⟩
noncomputable def t_thrumref06_Merge_l2 (a0 : List (List Int)) (x0 : Int) (x0_ : Int) (x1_ : List Int) (x0__ : Int) (x1__ : List Int) : Tr F_thrumref06_Merge (Int × (List Int)) (List Int) :=
 .ite 6 31 (x0__ < (x1_.length : Int))
 (.idx 6 eI x1_ x0__ <| .ite 9 36 ((at' x1_ x0__) < (at' (at' a0 x0) x0_))
 (.app 5 eI 8 x1__ [at' x1_ x0__] <| .again 7 (IntKind.i64.wrap (x0__ + 1), x1__ ++ [at' x1_ x0__]))
 (.again 7 (IntKind.i64.wrap (x0__ + 1), x1__)))
 (.ret 4 x1__)
theorem ok_thrumref06_Merge_l2 (a0 : List (List Int)) (x0 : Int) (x0_ : Int) (x1_ : List Int) (x0__ : Int) (x1__ : List Int) : Ok (M_thrumref06_Merge_l2 a0 x0 x0_ x1_ x0__ x1__) fun v => go Try.prog F_thrumref06_Merge.N (PostN (.exit 4) (E_thrumref06_Merge_l2 a0 x0 x0_ x1_) v) [.l (lpA Try.prog 19 2)] .norm (S_thrumref06_Merge_l2 a0 x0 x0_ x1_ x0__ x1__) := by
 refine M_thrumref06_Merge_l2.partial_correctness a0 x0 x0_ x1_ (fun x0__ x1__ v => go Try.prog F_thrumref06_Merge.N (PostN (.exit 4) (E_thrumref06_Merge_l2 a0 x0 x0_ x1_) v) [.l (lpA Try.prog 19 2)] .norm (S_thrumref06_Merge_l2 a0 x0 x0_ x1_ x0__ x1__)) ?_ x0__ x1__
 clear x0__ x1__
 intro f IH x0__ x1__
 exact Tr.lpN (F := F_thrumref06_Merge) (S := fun x => S_thrumref06_Merge_l2 a0 x0 x0_ x1_ x.1 x.2) (S' := E_thrumref06_Merge_l2 a0 x0 x0_ x1_) (t_thrumref06_Merge_l2 a0 x0 x0_ x1_ x0__ x1__) (fun x => f x.1 x.2) (fun x r h => IH x.1 x.2 r h) (by kernel_rfl) (by kernel_rfl)
def S_thrumref06_Merge_l3 (a0 : List (List Int)) (x0 : Int) (x0_ : Int) (x1_ : List Int) (x0__ : Int) (x1__ : List Int) : St := ⟨[(48, nI x0__), (47, nI (x1_.length : Int)), (46, sI (.h 1) x1_), (8, sI (.h 2) x1__), (7, nI (at' (at' a0 x0) x0_)), (21, nI x0_), (20, nI ((at' a0 x0).length : Int)), (19, lI (at' a0 x0)), (15, nI x0), (14, nI (a0.length : Int)), (13, .d (.lst (List.map (enL (D.int .i64)) a0)))], []⟩
def E_thrumref06_Merge_l3 (a0 : List (List Int)) (x0 : Int) (x0_ : Int) (x1_ : List Int) (x : (List Int)) : St := ⟨[(8, sI (.h 3) x), (21, nI x0_), (20, nI ((at' a0 x0).length : Int)), (19, lI (at' a0 x0)), (15, nI x0), (14, nI (a0.length : Int)), (13, .d (.lst (List.map (enL (D.int .i64)) a0)))], []⟩
noncomputable def t_thrumref06_Merge_l3 (a0 : List (List Int)) (x0 : Int) (x0_ : Int) (x1_ : List Int) (x0__ : Int) (x1__ : List Int) : Tr F_thrumref06_Merge (Int × (List Int)) (List Int) :=
 .ite 6 49 (x0__ < (x1_.length : Int))
 (.idx 6 eI x1_ x0__ <| .ite 9 54 ((at' x1_ x0__) > (at' (at' a0 x0) x0_))
 (.app 5 eI 8 x1__ [at' x1_ x0__] <| .again 7 (IntKind.i64.wrap (x0__ + 1), x1__ ++ [at' x1_ x0__]))
 (.again 7 (IntKind.i64.wrap (x0__ + 1), x1__)))
 (.ret 4 x1__)
theorem ok_thrumref06_Merge_l3 (a0 : List (List Int)) (x0 : Int) (x0_ : Int) (x1_ : List Int) (x0__ : Int) (x1__ : List Int) : Ok (M_thrumref06_Merge_l3 a0 x0 x0_ x1_ x0__ x1__) fun v => go Try.prog F_thrumref06_Merge.N (PostN (.exit 6) (E_thrumref06_Merge_l3 a0 x0 x0_ x1_) v) [.l (lpA Try.prog 19 3)] .norm (S_thrumref06_Merge_l3 a0 x0 x0_ x1_ x0__ x1__) := by
 refine M_thrumref06_Merge_l3.partial_correctness a0 x0 x0_ x1_ (fun x0__ x1__ v => go Try.prog F_thrumref06_Merge.N (PostN (.exit 6) (E_thrumref06_Merge_l3 a0 x0 x0_ x1_) v) [.l (lpA Try.prog 19 3)] .norm (S_thrumref06_Merge_l3 a0 x0 x0_ x1_ x0__ x1__)) ?_ x0__ x1__
 clear x0__ x1__
 intro f IH x0__ x1__
 exact Tr.lpN (F := F_thrumref06_Merge) (S := fun x => S_thrumref06_Merge_l3 a0 x0 x0_ x1_ x.1 x.2) (S' := E_thrumref06_Merge_l3 a0 x0 x0_ x1_) (t_thrumref06_Merge_l3 a0 x0 x0_ x1_ x0__ x1__) (fun x => f x.1 x.2) (fun x r h => IH x.1 x.2 r h) (by kernel_rfl) (by kernel_rfl)
def S_thrumref06_Merge_l1 (a0 : List (List Int)) (x0 : Int) (x0_ : Int) (x1_ : List Int) : St := ⟨[(21, nI x0_), (20, nI ((at' a0 x0).length : Int)), (19, lI (at' a0 x0)), (15, nI x0), (14, nI (a0.length : Int)), (13, .d (.lst (List.map (enL (D.int .i64)) a0))), (3, sI (.h 1) x1_)], []⟩
def E_thrumref06_Merge_l1 (a0 : List (List Int)) (x0 : Int) (x : (List Int)) : St := ⟨[(15, nI x0), (14, nI (a0.length : Int)), (13, .d (.lst (List.map (enL (D.int .i64)) a0))), (3, sI (.h 2) x)], []⟩
noncomputable def t_thrumref06_Merge_l1 (a0 : List (List Int)) (x0 : Int) (x0_ : Int) (x1_ : List Int) : Tr F_thrumref06_Merge (Int × (List Int)) (List Int) :=
 .ite 6 22 (x0_ < ((at' a0 x0).length : Int))
 (.idx 6 eI (at' a0 x0) x0_ <| .call 8 (ok_thrumref06_in x1_ (at' (at' a0 x0) x0_)) nl_thrumref06_in fun r1 => .iteB 1 27 (r1)
 (.again 8 (IntKind.i64.wrap (x0_ + 1), x1_))
 (.len 10 eI x1_ <| .loop 4 ⟨_, _, _, _, _, ok_thrumref06_Merge_l2 a0 x0 x0_ x1_ 0 []⟩ fun j2 => .app 6 eI 8 j2 [at' (at' a0 x0) x0_] <| .let_ (j2 ++ [at' (at' a0 x0) x0_] : List Int) fun y3 => .len 6 eI x1_ <| .loop 4 ⟨_, _, _, _, _, ok_thrumref06_Merge_l3 a0 x0 x0_ x1_ 0 y3⟩ fun j5 => .again 10 (IntKind.i64.wrap (x0_ + 1), j5)))
 (.ret 4 x1_)
theorem ok_thrumref06_Merge_l1 (a0 : List (List Int)) (x0 : Int) (x0_ : Int) (x1_ : List Int) : Ok (M_thrumref06_Merge_l1 a0 x0 x0_ x1_) fun v => go Try.prog F_thrumref06_Merge.N (PostN (.exit 2) (E_thrumref06_Merge_l1 a0 x0) v) [.l (lpA Try.prog 19 1)] .norm (S_thrumref06_Merge_l1 a0 x0 x0_ x1_) := by
 refine M_thrumref06_Merge_l1.partial_correctness a0 x0 (fun x0_ x1_ v => go Try.prog F_thrumref06_Merge.N (PostN (.exit 2) (E_thrumref06_Merge_l1 a0 x0) v) [.l (lpA Try.prog 19 1)] .norm (S_thrumref06_Merge_l1 a0 x0 x0_ x1_)) ?_ x0_ x1_
 clear x0_ x1_
 intro f IH x0_ x1_
 exact Tr.lpN (F := F_thrumref06_Merge) (S := fun x => S_thrumref06_Merge_l1 a0 x0 x.1 x.2) (S' := E_thrumref06_Merge_l1 a0 x0) (t_thrumref06_Merge_l1 a0 x0 x0_ x1_) (fun x => f x.1 x.2) (fun x r h => IH x.1 x.2 r h) (by kernel_rfl) (by kernel_rfl)
def S_thrumref06_Merge_l0 (a0 : List (List Int)) (x0 : Int) (x1 : List Int) : St := ⟨[(15, nI x0), (14, nI (a0.length : Int)), (13, .d (.lst (List.map (enL (D.int .i64)) a0))), (3, sI (.h 0) x1)], []⟩
def E_thrumref06_Merge_l0 (a0 : List (List Int)) (x : (List Int)) : St := ⟨[(3, sI (.h 1) x)], []⟩
noncomputable def t_thrumref06_Merge_l0 (a0 : List (List Int)) (x0 : Int) (x1 : List Int) : Tr F_thrumref06_Merge (Int × (List Int)) (List Int) :=
 .ite 6 16 (x0 < (a0.length : Int))
 (.idx 6 (eL eI) a0 x0 <| .len 6 eI (at' a0 x0) <| .loop 4 ⟨_, _, _, _, _, ok_thrumref06_Merge_l1 a0 x0 0 x1⟩ fun j6 => .again 6 (IntKind.i64.wrap (x0 + 1), j6))
 (.ret 4 x1)
theorem ok_thrumref06_Merge_l0 (a0 : List (List Int)) (x0 : Int) (x1 : List Int) : Ok (M_thrumref06_Merge_l0 a0 x0 x1) fun v => go Try.prog F_thrumref06_Merge.N (PostN (.exit 0) (E_thrumref06_Merge_l0 a0) v) [.l (lpA Try.prog 19 0)] .norm (S_thrumref06_Merge_l0 a0 x0 x1) := by
 refine M_thrumref06_Merge_l0.partial_correctness a0 (fun x0 x1 v => go Try.prog F_thrumref06_Merge.N (PostN (.exit 0) (E_thrumref06_Merge_l0 a0) v) [.l (lpA Try.prog 19 0)] .norm (S_thrumref06_Merge_l0 a0 x0 x1)) ?_ x0 x1
 clear x0 x1
 intro f IH x0 x1
 exact Tr.lpN (F := F_thrumref06_Merge) (S := fun x => S_thrumref06_Merge_l0 a0 x.1 x.2) (S' := E_thrumref06_Merge_l0 a0) (t_thrumref06_Merge_l0 a0 x0 x1) (fun x => f x.1 x.2) (fun x r h => IH x.1 x.2 r h) (by kernel_rfl) (by kernel_rfl)
theorem nl_thrumref06_Merge : ∀ v, (en_thrumref06_Merge v).noLst := fun _ => (flat_map_of fun _ => trivial)
noncomputable def t_thrumref06_Merge (a0 : List (List Int)) : Tr F_thrumref06_Merge Empty (List Int) :=
 .len 12 (eL eI) a0 <| .loop 4 ⟨_, _, _, _, _, ok_thrumref06_Merge_l0 a0 0 []⟩ fun j7 => .ret 7 j7
noncomputable def s_thrumref06_Merge (a0 : List (List Int)) : Sg Try.prog (List Int) := ⟨19, M_thrumref06_Merge a0, [.lst (List.map (enL (D.int .i64)) a0)], en_thrumref06_Merge⟩
theorem ok_thrumref06_Merge (a0 : List (List Int)) : (s_thrumref06_Merge a0).Holds := Tr.fn (F := F_thrumref06_Merge) (t_thrumref06_Merge a0) (by kernel_rfl) (by kernel_rfl) (by kernel_rfl) (by kernel_rfl)
/-- thrum/thrumref06.Rises. -/
def en_thrumref06_Rises (v : Bool) : PV := bB v
noncomputable abbrev F_thrumref06_Rises : Fe := .of Try.prog 12 en_thrumref06_Rises
theorem nl_thrumref06_Rises : ∀ v, (en_thrumref06_Rises v).noLst := fun _ => trivial
noncomputable def t_thrumref06_Rises (a0 : List Int) : Tr F_thrumref06_Rises Empty Bool :=
 .call 7 (ok_thrumref06_rises a0) nl_thrumref06_rises fun r1 => .ret 3 r1
noncomputable def s_thrumref06_Rises (a0 : List Int) : Sg Try.prog Bool := ⟨12, M_thrumref06_Rises a0, [.lst (List.map (D.int .i64) a0)], en_thrumref06_Rises⟩
theorem ok_thrumref06_Rises (a0 : List Int) : (s_thrumref06_Rises a0).Holds := Tr.fn (F := F_thrumref06_Rises) (t_thrumref06_Rises a0) (by kernel_rfl) (by kernel_rfl) (by kernel_rfl) (by kernel_rfl)
/-- cmp.isNaN[int]. -/
def en_cmp_isNaN_int (v : Bool) : PV := bB v
noncomputable abbrev F_cmp_isNaN_int : Fe := .of Try.prog 56 en_cmp_isNaN_int
theorem nl_cmp_isNaN_int : ∀ v, (en_cmp_isNaN_int v).noLst := fun _ => trivial
noncomputable def t_cmp_isNaN_int (a0 : Int) : Tr F_cmp_isNaN_int Empty Bool :=
 .ret 12 (a0 != a0)
noncomputable def s_cmp_isNaN_int (a0 : Int) : Sg Try.prog Bool := ⟨56, M_cmp_isNaN_int a0, [.int .i64 a0], en_cmp_isNaN_int⟩
theorem ok_cmp_isNaN_int (a0 : Int) : (s_cmp_isNaN_int a0).Holds := Tr.fn (F := F_cmp_isNaN_int) (t_cmp_isNaN_int a0) (by kernel_rfl) (by kernel_rfl) (by kernel_rfl) (by kernel_rfl)
/-- cmp.Less[int]. -/
def en_cmp_Less_int (v : Bool) : PV := bB v
noncomputable abbrev F_cmp_Less_int : Fe := .of Try.prog 41 en_cmp_Less_int
theorem nl_cmp_Less_int : ∀ v, (en_cmp_Less_int v).noLst := fun _ => trivial
noncomputable def t_cmp_Less_int (a0 : Int) (a1 : Int) : Tr F_cmp_Less_int Empty Bool :=
 .call 7 (ok_cmp_isNaN_int a0) nl_cmp_isNaN_int fun r1 => .join 1 4 (γ := Bool) ⟨fun x => [(11, bB x)], [0, 1], fun _ => [], []⟩
 (.iteB 0 7 (r1)
 (.call 1 (ok_cmp_isNaN_int a1) nl_cmp_isNaN_int fun r2 => .ret 3 (!r2))
 (.ret 5 false))
 fun j3 => .join 1 4 (γ := Bool) ⟨fun x => [(16, bB x)], [], fun _ => [], []⟩
 (.iteB 0 12 (j3)
 (.ret 5 true)
 (.ret 5 (decide (a0 < a1))))
 fun j4 => .ret 3 j4
noncomputable def s_cmp_Less_int (a0 : Int) (a1 : Int) : Sg Try.prog Bool := ⟨41, M_cmp_Less_int a0 a1, [.int .i64 a0, .int .i64 a1], en_cmp_Less_int⟩
theorem ok_cmp_Less_int (a0 : Int) (a1 : Int) : (s_cmp_Less_int a0 a1).Holds := Tr.fn (F := F_cmp_Less_int) (t_cmp_Less_int a0 a1) (by kernel_rfl) (by kernel_rfl) (by kernel_rfl) (by kernel_rfl)
/-- slices.isNaN[int]. -/
def en_slices_isNaN_int (v : Bool) : PV := bB v
noncomputable abbrev F_slices_isNaN_int : Fe := .of Try.prog 42 en_slices_isNaN_int
theorem nl_slices_isNaN_int : ∀ v, (en_slices_isNaN_int v).noLst := fun _ => trivial
noncomputable def t_slices_isNaN_int (a0 : Int) : Tr F_slices_isNaN_int Empty Bool :=
 .ret 12 (a0 != a0)
noncomputable def s_slices_isNaN_int (a0 : Int) : Sg Try.prog Bool := ⟨42, M_slices_isNaN_int a0, [.int .i64 a0], en_slices_isNaN_int⟩
theorem ok_slices_isNaN_int (a0 : Int) : (s_slices_isNaN_int a0).Holds := Tr.fn (F := F_slices_isNaN_int) (t_slices_isNaN_int a0) (by kernel_rfl) (by kernel_rfl) (by kernel_rfl) (by kernel_rfl)
/-- slices.BinarySearch[[]int,int]. -/
def en_slices_BinarySearch_int_int (v : Int × Bool) : PV := .tup [nI v.1, bB v.2]
noncomputable abbrev F_slices_BinarySearch_int_int : Fe := .of Try.prog 28 en_slices_BinarySearch_int_int
def S_slices_BinarySearch_int_int_l0 (a0 : List Int) (a1 : Int) (x0 : Int) (x1 : Int) : St := ⟨[(8, nI x0), (7, nI x1), (6, nI (a0.length : Int)), (0, lI a0), (1, nI a1)], []⟩
def E_slices_BinarySearch_int_int_l0 (a0 : List Int) (a1 : Int) (x : Int) : St := ⟨[(7, nI x), (6, nI (a0.length : Int)), (0, lI a0), (1, nI a1)], []⟩
noncomputable def t_slices_BinarySearch_int_int_l0 (a0 : List Int) (a1 : Int) (x0 : Int) (x1 : Int) : Tr F_slices_BinarySearch_int_int (Int × Int) Int :=
 .ite 8 15 (x1 < x0)
 (.let_ (IntKind.i64.wrap (sShr .u64 (IntKind.u64.wrap (IntKind.i64.wrap (x1 + x0))) 1) : Int) fun y1 => .idx 17 eI a0 y1 <| .call 2 (ok_cmp_Less_int (at' a0 y1) a1) nl_cmp_Less_int fun r3 => .iteB 1 27 (r3)
 (.again 7 (x0, IntKind.i64.wrap (y1 + 1)))
 (.again 6 (y1, x1)))
 (.ret 4 x1)
theorem ok_slices_BinarySearch_int_int_l0 (a0 : List Int) (a1 : Int) (x0 : Int) (x1 : Int) : Ok (M_slices_BinarySearch_int_int_l0 a0 a1 x0 x1) fun v => go Try.prog F_slices_BinarySearch_int_int.N (PostN (.exit 0) (E_slices_BinarySearch_int_int_l0 a0 a1) v) [.l (lpA Try.prog 28 0)] .norm (S_slices_BinarySearch_int_int_l0 a0 a1 x0 x1) := by
 refine M_slices_BinarySearch_int_int_l0.partial_correctness a0 a1 (fun x0 x1 v => go Try.prog F_slices_BinarySearch_int_int.N (PostN (.exit 0) (E_slices_BinarySearch_int_int_l0 a0 a1) v) [.l (lpA Try.prog 28 0)] .norm (S_slices_BinarySearch_int_int_l0 a0 a1 x0 x1)) ?_ x0 x1
 clear x0 x1
 intro f IH x0 x1
 exact Tr.lpN (F := F_slices_BinarySearch_int_int) (S := fun x => S_slices_BinarySearch_int_int_l0 a0 a1 x.1 x.2) (S' := E_slices_BinarySearch_int_int_l0 a0 a1) (t_slices_BinarySearch_int_int_l0 a0 a1 x0 x1) (fun x => f x.1 x.2) (fun x r h => IH x.1 x.2 r h) (by kernel_rfl) (by kernel_rfl)
theorem nl_slices_BinarySearch_int_int : ∀ v, (en_slices_BinarySearch_int_int v).noLst := fun _ => ⟨trivial, trivial, trivial⟩
noncomputable def t_slices_BinarySearch_int_int (a0 : List Int) (a1 : Int) : Tr F_slices_BinarySearch_int_int Empty (Int × Bool) :=
 .len 8 eI a0 <| .loop 11 ⟨_, _, _, _, _, ok_slices_BinarySearch_int_int_l0 a0 a1 (a0.length : Int) 0⟩ fun j4 => .ite 8 35 (j4 < (a0.length : Int))
 (.idx 2 eI a0 j4 <| .ite 4 42 ((at' a0 j4) = a1)
 (.ret 15 (j4, true))
 (.idx 2 eI a0 j4 <| .call 1 (ok_slices_isNaN_int (at' a0 j4)) nl_slices_isNaN_int fun r5 => .iteB 1 48 (r5)
 (.call 1 (ok_slices_isNaN_int a1) nl_slices_isNaN_int fun r6 => .ret 7 (j4, r6))
 (.ret 9 (j4, false))))
 (.ret 22 (j4, false))
noncomputable def s_slices_BinarySearch_int_int (a0 : List Int) (a1 : Int) : Sg Try.prog (Int × Bool) := ⟨28, M_slices_BinarySearch_int_int a0 a1, [.lst (List.map (D.int .i64) a0), .int .i64 a1], en_slices_BinarySearch_int_int⟩
theorem ok_slices_BinarySearch_int_int (a0 : List Int) (a1 : Int) : (s_slices_BinarySearch_int_int a0 a1).Holds := Tr.fn (F := F_slices_BinarySearch_int_int) (t_slices_BinarySearch_int_int a0 a1) (by kernel_rfl) (by kernel_rfl) (by kernel_rfl) (by kernel_rfl)
/-- thrum/index.Has. -/
def en_index_Has (v : Int × Bool) : PV := .tup [nI v.1, bB v.2]
noncomputable abbrev F_index_Has : Fe := .of Try.prog 11 en_index_Has
theorem nl_index_Has : ∀ v, (en_index_Has v).noLst := fun _ => ⟨trivial, trivial, trivial⟩
noncomputable def t_index_Has (a0 : List Int) (a1 : Int) : Tr F_index_Has Empty (Int × Bool) :=
 .call 9 (ok_slices_BinarySearch_int_int a0 a1) nl_slices_BinarySearch_int_int fun r1 => .ret 6 (r1.1, r1.2)
noncomputable def s_index_Has (a0 : List Int) (a1 : Int) : Sg Try.prog (Int × Bool) := ⟨11, M_index_Has a0 a1, [.lst (List.map (D.int .i64) a0), .int .i64 a1], en_index_Has⟩
theorem ok_index_Has (a0 : List Int) (a1 : Int) : (s_index_Has a0 a1).Holds := Tr.fn (F := F_index_Has) (t_index_Has a0 a1) (by kernel_rfl) (by kernel_rfl) (by kernel_rfl) (by kernel_rfl)
/-- thrum/thrumref06.Has. -/
def en_thrumref06_Has (v : Int × Bool) : PV := .tup [nI v.1, bB v.2]
noncomputable abbrev F_thrumref06_Has : Fe := .of Try.prog 20 en_thrumref06_Has
def S_thrumref06_Has_l0 (a0 : List Int) (a1 : Int) (x0 : Int) : St := ⟨[(10, nI x0), (9, nI (a0.length : Int)), (8, lI a0), (0, lI a0), (1, nI a1)], []⟩
def E_thrumref06_Has_l0 (a0 : List Int) (a1 : Int) (x : Unit) : St := ⟨[(0, lI a0)], []⟩
noncomputable def t_thrumref06_Has_l0 (a0 : List Int) (a1 : Int) (x0 : Int) : Tr F_thrumref06_Has Int (Sum (Int × Bool) Unit) :=
 .ite 6 11 (x0 < (a0.length : Int))
 (.idx 7 eI a0 x0 <| .ite 10 17 ((at' a0 x0) ≥ a1)
 (.ret 14 (.inl (x0, (at' a0 x0) == a1)))
 (.again 7 (IntKind.i64.wrap (x0 + 1))))
 (.ret 4 (.inr ()))
theorem ok_thrumref06_Has_l0 (a0 : List Int) (a1 : Int) (x0 : Int) : Ok (M_thrumref06_Has_l0 a0 a1 x0) fun v => go Try.prog F_thrumref06_Has.N (PostR (fun r => Fnl F_thrumref06_Has.res (F_thrumref06_Has.en r) (F_thrumref06_Has.bx r)) (.exit 0) (E_thrumref06_Has_l0 a0 a1) v) [.l (lpA Try.prog 20 0)] .norm (S_thrumref06_Has_l0 a0 a1 x0) := by
 refine M_thrumref06_Has_l0.partial_correctness a0 a1 (fun x0 v => go Try.prog F_thrumref06_Has.N (PostR (fun r => Fnl F_thrumref06_Has.res (F_thrumref06_Has.en r) (F_thrumref06_Has.bx r)) (.exit 0) (E_thrumref06_Has_l0 a0 a1) v) [.l (lpA Try.prog 20 0)] .norm (S_thrumref06_Has_l0 a0 a1 x0)) ?_ x0
 clear x0
 intro f IH x0
 exact Tr.lpR (F := F_thrumref06_Has) (S := fun x => S_thrumref06_Has_l0 a0 a1 x) (S' := E_thrumref06_Has_l0 a0 a1) (t_thrumref06_Has_l0 a0 a1 x0) (fun x => f x) (fun x r h => IH x r h) (by kernel_rfl) (by kernel_rfl)
theorem nl_thrumref06_Has : ∀ v, (en_thrumref06_Has v).noLst := fun _ => ⟨trivial, trivial, trivial⟩
noncomputable def t_thrumref06_Has (a0 : List Int) (a1 : Int) : Tr F_thrumref06_Has Empty (Int × Bool) :=
 .len 9 eI a0 <| .loopR 4 id ⟨_, _, _, _, _, ok_thrumref06_Has_l0 a0 a1 0⟩ fun j1 => .len 4 eI a0 <| .ret 4 ((a0.length : Int), false)
noncomputable def s_thrumref06_Has (a0 : List Int) (a1 : Int) : Sg Try.prog (Int × Bool) := ⟨20, M_thrumref06_Has a0 a1, [.lst (List.map (D.int .i64) a0), .int .i64 a1], en_thrumref06_Has⟩
theorem ok_thrumref06_Has (a0 : List Int) (a1 : Int) : (s_thrumref06_Has a0 a1).Holds := Tr.fn (F := F_thrumref06_Has) (t_thrumref06_Has a0 a1) (by kernel_rfl) (by kernel_rfl) (by kernel_rfl) (by kernel_rfl)
/-- thrum/thrumlaw06.IndexPlaces. -/
def en_thrumlaw06_IndexPlaces (v : Bool) : PV := bB v
noncomputable abbrev F_thrumlaw06_IndexPlaces : Fe := .of Try.prog 5 en_thrumlaw06_IndexPlaces
theorem nl_thrumlaw06_IndexPlaces : ∀ v, (en_thrumlaw06_IndexPlaces v).noLst := fun _ => trivial
noncomputable def t_thrumlaw06_IndexPlaces (a0 : Int) (a1 : List Int) (a2 : List Int) (a3 : List (List Int)) (a4 : Int) : Tr F_thrumlaw06_IndexPlaces Empty Bool :=
 .call 6 ok_thrumlaw06_live nl_thrumlaw06_live fun r1 => .iteX 8 32 (r1)
 (.ret 7 false)
 (.call 7 (ok_thrumlaw06_few [a1]) nl_thrumlaw06_few fun r2 => .join 2 4 (γ := Bool) ⟨fun x => [(41, bB x)], [11, 0, 1, 2, 3, 4], fun _ => [], []⟩
 (.iteX 0 37 (r2)
 (.ret 5 true)
 (.call 1 (ok_thrumlaw06_few a3) nl_thrumlaw06_few fun r3 => .ret 3 (!r3)))
 fun j4 => .join 1 4 (γ := Bool) ⟨fun x => [(46, bB x)], [11, 0, 1, 2, 3, 4], fun _ => [], []⟩
 (.iteB 0 42 (j4)
 (.ret 5 true)
 (.len 1 eI a2 <| .ret 3 (decide ((a2.length : Int) > 5000))))
 fun j5 => .iteB 1 46 (j5)
 (.ret 8 r1)
 (.appN 5 eI 8 a1 <| .call 7 (ok_index_Spread a0 a1 a2) nl_index_Spread fun r6 => .call 11 (ok_thrumref06_Spread a0 a1 a2) nl_thrumref06_Spread fun r7 => .call 10 (ok_index_Gather a1 a2) nl_index_Gather fun r8 => .call 10 (ok_thrumref06_Gather a1 a2) nl_thrumref06_Gather fun r9 => .call 10 (ok_index_Left a0 a1) nl_index_Left fun r10 => .call 10 (ok_thrumref06_Left a0 a1) nl_thrumref06_Left fun r11 => .call 11 (ok_thrumref02_Same r6.1 r7.1) nl_thrumref02_Same fun r12 => .join 2 4 (γ := Bool) ⟨fun x => [(96, bB x)], [24, 23, 22, 21, 20, 19, 18, 17, 12, 11, 1, 3, 4], fun _ => [], []⟩
 (.iteX 0 92 (r12)
 (.ret 5 true)
 (.ret 5 (r6.2 != r7.2)))
 fun j13 => .join 1 5 (γ := Bool) ⟨fun x => [(102, bB x)], [24, 23, 22, 21, 20, 18, 12, 11, 1, 3, 4], fun _ => [], []⟩
 (.iteB 0 97 (j13)
 (.ret 6 true)
 (.call 2 (ok_thrumref02_Same r8.1 r9.1) nl_thrumref02_Same fun r14 => .ret 3 (!r14)))
 fun j15 => .join 1 4 (γ := Bool) ⟨fun x => [(107, bB x)], [24, 23, 22, 21, 12, 11, 1, 3, 4], fun _ => [], []⟩
 (.iteB 0 103 (j15)
 (.ret 5 true)
 (.ret 5 (r8.2 != r9.2)))
 fun j16 => .join 1 5 (γ := Bool) ⟨fun x => [(113, bB x)], [24, 22, 12, 11, 1, 3, 4], fun _ => [], []⟩
 (.iteB 0 108 (j16)
 (.ret 6 true)
 (.call 2 (ok_thrumref06_Equal r10.1 r11.1) nl_thrumref06_Equal fun r17 => .ret 3 (!r17)))
 fun j18 => .join 1 4 (γ := Bool) ⟨fun x => [(118, bB x)], [12, 11, 1, 3, 4], fun _ => [], []⟩
 (.iteB 0 114 (j18)
 (.ret 5 true)
 (.ret 5 (r10.2 != r11.2)))
 fun j19 => .join 1 5 (γ := Bool) ⟨fun x => [(124, bB x)], [11, 1, 3, 4], fun _ => [], []⟩
 (.iteB 0 119 (j19)
 (.ret 6 true)
 (.call 2 (ok_thrumref06_Equal a1 a1) nl_thrumref06_Equal fun r20 => .ret 3 (!r20)))
 fun j21 => .iteB 1 124 (j21)
 (.ret 7 false)
 (.call 5 (ok_index_Merge a3) nl_index_Merge fun r22 => .call 7 (ok_thrumref06_Merge a3) nl_thrumref06_Merge fun r23 => .call 0 (ok_thrumref06_Equal r22 r23) nl_thrumref06_Equal fun r24 => .iteX 2 131 (r24)
 (.ret 7 false)
 (.call 6 (ok_thrumref06_Rises a1) nl_thrumref06_Rises fun r25 => .iteX 2 134 (r25)
 (.ret 8 r1)
 (.call 6 (ok_index_Has a1 a4) nl_index_Has fun r26 => .call 10 (ok_thrumref06_Has a1 a4) nl_thrumref06_Has fun r27 => .join 10 4 (γ := Bool) ⟨fun x => [(153, bB x)], [29, 27], fun _ => [], []⟩
 (.iteB 0 149 (r1)
 (.ret 5 (r26.1 == r27.1))
 (.ret 5 false))
 fun j28 => .join 1 4 (γ := Bool) ⟨fun x => [(158, bB x)], [], fun _ => [], []⟩
 (.iteB 0 154 (j28)
 (.ret 5 (r26.2 == r27.2))
 (.ret 5 false))
 fun j29 => .ret 3 j29)))))
noncomputable def s_thrumlaw06_IndexPlaces (a0 : Int) (a1 : List Int) (a2 : List Int) (a3 : List (List Int)) (a4 : Int) : Sg Try.prog Bool := ⟨5, M_thrumlaw06_IndexPlaces a0 a1 a2 a3 a4, [.int .i64 a0, .lst (List.map (D.int .i64) a1), .lst (List.map (D.int .i64) a2), .lst (List.map (enL (D.int .i64)) a3), .int .i64 a4], en_thrumlaw06_IndexPlaces⟩
theorem ok_thrumlaw06_IndexPlaces (a0 : Int) (a1 : List Int) (a2 : List Int) (a3 : List (List Int)) (a4 : Int) : (s_thrumlaw06_IndexPlaces a0 a1 a2 a3 a4).Holds := Tr.fn (F := F_thrumlaw06_IndexPlaces) (t_thrumlaw06_IndexPlaces a0 a1 a2 a3 a4) (by kernel_rfl) (by kernel_rfl) (by kernel_rfl) (by kernel_rfl)
end Go.Proofs.Ythkofkhggdgcpaa.Abs
