/- Walks of functions, printed by a program. Conditions: none. -/
import Derived.Test.YtelobmiooldoaaaGreatProg
import Derived.Test.YtelobmiooldoaaaGreatGW
namespace Go.Proofs.YtelobmiooldoaaaGreat.Abs
open Go Go.RowKit
set_option linter.unusedVariables false
set_option maxRecDepth 100000
open Z
/-- thrum/thrumref06.Get. -/
def en_thrumref06_Get (v : (List Int) × Int × Int) : PV := .tup [sI (.s 0) v.1, nI v.2.1, nI v.2.2]
noncomputable abbrev F_thrumref06_Get : Fe := .of Tryz.prog 103 en_thrumref06_Get
def S_thrumref06_Get_l0 (a0 : Int) (a1 : List Int) (r2 : Int × Int × Int) (x0 : Int) (x1 : Int) (x2 : List Int) (x3 : Int) : St := ⟨[(37, nU x0), (36, nU r2.1), (12, nI x1), (11, sI (.h 0) x2), (2, nI x3), (0, nI a0), (1, lY a1)], []⟩
def E_thrumref06_Get_l0 (a0 : Int) (a1 : List Int) (r2 : Int × Int × Int) (x : (List Int) × Int) : St := ⟨[(11, sI (.h 1) x.1), (2, nI x.2)], []⟩
noncomputable def t_thrumref06_Get_l0 (a0 : Int) (a1 : List Int) (r2 : Int × Int × Int) (x0 : Int) (x1 : Int) (x2 : List Int) (x3 : Int) : Tr F_thrumref06_Get (Int × Int × (List Int) × Int) (Sum ((List Int) × Int × Int) ((List Int) × Int)) :=
 .ite 6 38 (x0 < r2.1)
 (.call 8 (ok_thrumref03_Get a1 x3) nl_thrumref03_Get fun r3 => .iteN 14 47 (r3.2.2 = 0)
 (.ret 13 (.inl ([], 0, r3.2.2)))
 (.ite 13 55 (r3.1 ≥ (IntKind.u64.wrap (IntKind.i64.wrap ((IntKind.i64.wrap (a0 - x1)) - 1))))
 (.ret 12 (.inl ([], 0, 6)))
 (.let_ (IntKind.i64.wrap (x1 + (IntKind.i64.wrap ((IntKind.i64.wrap r3.1) + 1))) : Int) fun y4 => .app 16 eI 8 x2 [IntKind.i64.wrap (x1 + (IntKind.i64.wrap ((IntKind.i64.wrap r3.1) + 1)))] <| .let_ (x2 ++ [IntKind.i64.wrap (x1 + (IntKind.i64.wrap ((IntKind.i64.wrap r3.1) + 1)))] : List Int) fun y6 => .again 11 (IntKind.u64.wrap (x0 + 1), y4, y6, r3.2.1))))
 (.ret 4 (.inr (x2, x3)))
theorem ok_thrumref06_Get_l0 (a0 : Int) (a1 : List Int) (r2 : Int × Int × Int) (x0 : Int) (x1 : Int) (x2 : List Int) (x3 : Int) : Ok (M_thrumref06_Get_l0 a0 a1 r2 x0 x1 x2 x3) fun v => go Tryz.prog F_thrumref06_Get.N (PostR (fun r => Fnl F_thrumref06_Get.res (F_thrumref06_Get.en r) (F_thrumref06_Get.bx r)) (.exit 0) (E_thrumref06_Get_l0 a0 a1 r2) v) [.l (lpA Tryz.prog 103 0)] .norm (S_thrumref06_Get_l0 a0 a1 r2 x0 x1 x2 x3) := by
 refine M_thrumref06_Get_l0.partial_correctness a0 a1 r2 (fun x0 x1 x2 x3 v => go Tryz.prog F_thrumref06_Get.N (PostR (fun r => Fnl F_thrumref06_Get.res (F_thrumref06_Get.en r) (F_thrumref06_Get.bx r)) (.exit 0) (E_thrumref06_Get_l0 a0 a1 r2) v) [.l (lpA Tryz.prog 103 0)] .norm (S_thrumref06_Get_l0 a0 a1 r2 x0 x1 x2 x3)) ?_ x0 x1 x2 x3
 clear x0 x1 x2 x3
 intro f IH x0 x1 x2 x3
 exact Tr.lpR (F := F_thrumref06_Get) (S := fun x => S_thrumref06_Get_l0 a0 a1 r2 x.1 x.2.1 x.2.2.1 x.2.2.2) (S' := E_thrumref06_Get_l0 a0 a1 r2) (t_thrumref06_Get_l0 a0 a1 r2 x0 x1 x2 x3) (fun x => f x.1 x.2.1 x.2.2.1 x.2.2.2) (fun x r h => IH x.1 x.2.1 x.2.2.1 x.2.2.2 r h) (by kernel_rfl) (by kernel_rfl)
theorem nl_thrumref06_Get : ∀ v, (en_thrumref06_Get v).noLst := fun _ => ⟨(flat_map_of fun _ => trivial), trivial, trivial, trivial⟩
noncomputable def t_thrumref06_Get (a0 : Int) (a1 : List Int) (a2 : Int) : Tr F_thrumref06_Get Empty ((List Int) × Int × Int) :=
 .join 12 3 (γ := Bool) ⟨fun x => [(21, bB x)], [0, 1, 2], fun _ => [], []⟩
 (.ite 0 18 (a0 < 1)
 (.ret 4 true)
 (.ret 4 (decide (a0 > 4096))))
 fun j1 => .iteB 1 21 (j1)
 (.ret 9 ([], 0, 1))
 (.call 6 (ok_thrumref03_Get a1 a2) nl_thrumref03_Get fun r2 => .iteN 14 30 (r2.2.2 = 0)
 (.ret 10 ([], 0, r2.2.2))
 (.ite 10 35 (r2.1 > (IntKind.u64.wrap a0))
 (.ret 9 ([], 0, 6))
 (.loopR 18 id ⟨_, _, _, _, _, ok_thrumref06_Get_l0 a0 a1 r2 0 (-1) [] r2.2.1⟩ fun j8 => .ret 10 (j8.1, j8.2, 0))))
noncomputable def s_thrumref06_Get (a0 : Int) (a1 : List Int) (a2 : Int) : Sg Tryz.prog ((List Int) × Int × Int) := ⟨103, M_thrumref06_Get a0 a1 a2, [.int .i64 a0, .lst (List.map (D.int .u8) a1), .int .i64 a2], en_thrumref06_Get⟩
theorem ok_thrumref06_Get (a0 : Int) (a1 : List Int) (a2 : Int) : (s_thrumref06_Get a0 a1 a2).Holds := Tr.fn (F := F_thrumref06_Get) (t_thrumref06_Get a0 a1 a2) (by kernel_rfl) (by kernel_rfl) (by kernel_rfl) (by kernel_rfl)
/-- thrum/thrumref03.Zag. -/
def en_thrumref03_Zag (v : Int) : PV := nI v
noncomputable abbrev F_thrumref03_Zag : Fe := .of Tryz.prog 143 en_thrumref03_Zag
theorem nl_thrumref03_Zag : ∀ v, (en_thrumref03_Zag v).noLst := fun _ => trivial
noncomputable def t_thrumref03_Zag (a0 : Int) : Tr F_thrumref03_Zag Empty Int :=
 .ite 11 5 ((Int.tmod a0 2) = 1)
 (.ret 12 (IntKind.i64.wrap ((IntKind.i64.wrap (0 - (IntKind.i64.wrap (IntKind.u64.wrap (Int.tdiv a0 2))))) - 1)))
 (.ret 10 (IntKind.i64.wrap (IntKind.u64.wrap (Int.tdiv a0 2))))
noncomputable def s_thrumref03_Zag (a0 : Int) : Sg Tryz.prog Int := ⟨143, M_thrumref03_Zag a0, [.int .u64 a0], en_thrumref03_Zag⟩
theorem ok_thrumref03_Zag (a0 : Int) : (s_thrumref03_Zag a0).Holds := Tr.fn (F := F_thrumref03_Zag) (t_thrumref03_Zag a0) (by kernel_rfl) (by kernel_rfl) (by kernel_rfl) (by kernel_rfl)
/-- thrum/thrumref03.Take. -/
def en_thrumref03_Take (v : Int × Int × Int) : PV := .tup [nI v.1, nI v.2.1, nI v.2.2]
noncomputable abbrev F_thrumref03_Take : Fe := .of Tryz.prog 126 en_thrumref03_Take
theorem nl_thrumref03_Take : ∀ v, (en_thrumref03_Take v).noLst := fun _ => ⟨trivial, trivial, trivial, trivial⟩
noncomputable def t_thrumref03_Take (a0 : List Int) (a1 : Int) : Tr F_thrumref03_Take Empty (Int × Int × Int) :=
 .call 10 (ok_thrumref03_Get a0 a1) nl_thrumref03_Get fun r1 => .iteN 14 18 (r1.2.2 = 0)
 (.ret 10 (0, 0, r1.2.2))
 (.call 5 (ok_thrumref03_Zag r1.1) nl_thrumref03_Zag fun r2 => .ret 6 (r2, r1.2.1, 0))
noncomputable def s_thrumref03_Take (a0 : List Int) (a1 : Int) : Sg Tryz.prog (Int × Int × Int) := ⟨126, M_thrumref03_Take a0 a1, [.lst (List.map (D.int .u8) a0), .int .i64 a1], en_thrumref03_Take⟩
theorem ok_thrumref03_Take (a0 : List Int) (a1 : Int) : (s_thrumref03_Take a0 a1).Holds := Tr.fn (F := F_thrumref03_Take) (t_thrumref03_Take a0 a1) (by kernel_rfl) (by kernel_rfl) (by kernel_rfl) (by kernel_rfl)
/-- (thrum/thrumref07.text).signed. -/
def en_thrum_thrumref07_text_signed (v : (List Int) × (List Int) × Bool) : PV := .tup [sI (.s 0) v.1, .d (.agg [.lst (List.map (D.int .u8) v.2.1), .bool v.2.2])]
noncomputable abbrev F_thrum_thrumref07_text_signed : Fe := .of Tryz.prog 104 en_thrum_thrumref07_text_signed
def S_thrum_thrumref07_text_signed_l0 (a1 : Int) (x0 : Int) (x1 : List Int) (x2 : List Int) (x3 : Bool) : St := ⟨[(11, nI x0), (10, nI a1), (6, sI (.h 0) x1), (5, .ptr (.s 47) 0), (2, .ptr (.s 15) 0)], [(.s 47, [.nils, bB false]), (.s 15, [lY x2, bB x3])]⟩
def E_thrum_thrumref07_text_signed_l0 (a1 : Int) (x : (List Int) × (List Int) × Bool) : St := ⟨[(6, sI (.h 1) x.1), (5, .ptr (.s 47) 0), (2, .ptr (.s 15) 0)], [(.s 47, [.nils, bB false]), (.s 15, [lY x.2.1, bB x.2.2])]⟩
noncomputable def t_thrum_thrumref07_text_signed_l0 (a1 : Int) (x0 : Int) (x1 : List Int) (x2 : List Int) (x3 : Bool) : Tr F_thrum_thrumref07_text_signed (Int × (List Int) × (List Int) × Bool) (Sum ((List Int) × (List Int) × Bool) ((List Int) × (List Int) × Bool)) :=
 .ite 6 12 (x0 < a1)
 (.call 8 (ok_thrumref03_Take x2 0) nl_thrumref03_Take fun r1 => .join 14 3 (γ := Bool) ⟨fun x => [(25, bB x)], [8, 7, 11, 10, 6, 5, 2], fun _ => [], [.s 47, .s 15]⟩
 (.iteB 0 22 (x3)
 (.ret 4 true)
 (.ret 4 (r1.2.2 != 0)))
 fun j2 => .iteB 1 25 (j2)
 (.ret 12 (.inl ([], [], true)))
 (.app 7 eI 8 x1 [r1.1] <| .cut 6 eY x2 (some r1.2.1) none <| .let_ (cut' x2 (some r1.2.1) none : List Int) fun y3 => .again 8 (IntKind.i64.wrap (x0 + 1), x1 ++ [r1.1], y3, false)))
 (.ret 4 (.inr (x1, x2, x3)))
theorem ok_thrum_thrumref07_text_signed_l0 (a1 : Int) (x0 : Int) (x1 : List Int) (x2 : List Int) (x3 : Bool) : Ok (M_thrum_thrumref07_text_signed_l0 a1 x0 x1 x2 x3) fun v => go Tryz.prog F_thrum_thrumref07_text_signed.N (PostR (fun r => Fnl F_thrum_thrumref07_text_signed.res (F_thrum_thrumref07_text_signed.en r) (F_thrum_thrumref07_text_signed.bx r)) (.exit 0) (E_thrum_thrumref07_text_signed_l0 a1) v) [.l (lpA Tryz.prog 104 0)] .norm (S_thrum_thrumref07_text_signed_l0 a1 x0 x1 x2 x3) := by
 refine M_thrum_thrumref07_text_signed_l0.partial_correctness a1 (fun x0 x1 x2 x3 v => go Tryz.prog F_thrum_thrumref07_text_signed.N (PostR (fun r => Fnl F_thrum_thrumref07_text_signed.res (F_thrum_thrumref07_text_signed.en r) (F_thrum_thrumref07_text_signed.bx r)) (.exit 0) (E_thrum_thrumref07_text_signed_l0 a1) v) [.l (lpA Tryz.prog 104 0)] .norm (S_thrum_thrumref07_text_signed_l0 a1 x0 x1 x2 x3)) ?_ x0 x1 x2 x3
 clear x0 x1 x2 x3
 intro f IH x0 x1 x2 x3
 exact Tr.lpR (F := F_thrum_thrumref07_text_signed) (S := fun x => S_thrum_thrumref07_text_signed_l0 a1 x.1 x.2.1 x.2.2.1 x.2.2.2) (S' := E_thrum_thrumref07_text_signed_l0 a1) (t_thrum_thrumref07_text_signed_l0 a1 x0 x1 x2 x3) (fun x => f x.1 x.2.1 x.2.2.1 x.2.2.2) (fun x r h => IH x.1 x.2.1 x.2.2.1 x.2.2.2 r h) (by kernel_rfl) (by kernel_rfl)
noncomputable def t_thrum_thrumref07_text_signed (a0 : T_thrumref07_text) (a1 : Int) : Tr F_thrum_thrumref07_text_signed Empty ((List Int) × (List Int) × Bool) :=
 .loopR 18 id ⟨_, _, _, _, _, ok_thrum_thrumref07_text_signed_l0 a1 0 [] a0.F_B a0.F_Bad⟩ fun j5 => .ret 9 (j5.1, j5.2.1, j5.2.2)
noncomputable def s_thrum_thrumref07_text_signed (a0 : T_thrumref07_text) (a1 : Int) : Sg Tryz.prog ((List Int) × (List Int) × Bool) := ⟨104, M_thrum_thrumref07_text_signed a0 a1, [.agg [.lst (List.map (D.int .u8) a0.F_B), .bool a0.F_Bad], .int .i64 a1], en_thrum_thrumref07_text_signed⟩
theorem ok_thrum_thrumref07_text_signed (a0 : T_thrumref07_text) (a1 : Int) : (s_thrum_thrumref07_text_signed a0 a1).Holds := Tr.fn (F := F_thrum_thrumref07_text_signed) (t_thrum_thrumref07_text_signed a0 a1) (by kernel_rfl) (by kernel_rfl) (by kernel_rfl) (by kernel_rfl)
/-- (thrum/thrumref07.text).part. -/
def en_thrum_thrumref07_text_part (v : (List Int) × (List Int) × Bool) : PV := .tup [lY v.1, .d (.agg [.lst (List.map (D.int .u8) v.2.1), .bool v.2.2])]
noncomputable abbrev F_thrum_thrumref07_text_part : Fe := .of Tryz.prog 105 en_thrum_thrumref07_text_part
noncomputable def t_thrum_thrumref07_text_part (a0 : T_thrumref07_text) (a1 : Int) : Tr F_thrum_thrumref07_text_part Empty ((List Int) × (List Int) × Bool) :=
 .join 12 6 (γ := Bool) ⟨fun x => [(14, bB x)], [5, 2, 1], fun _ => [], [.s 47, .s 15]⟩
 (.iteB 0 8 (a0.F_Bad)
 (.ret 7 true)
 (.len 2 eY a0.F_B <| .ret 4 (decide ((a0.F_B.length : Int) < a1))))
 fun j1 => .iteB 1 14 (j1)
 (.ret 9 ([], [], true))
 (.cut 7 eY a0.F_B none (some a1) <| .cut 3 eY a0.F_B (some a1) none <| .ret 5 (cut' a0.F_B none (some a1), cut' a0.F_B (some a1) none, false))
noncomputable def s_thrum_thrumref07_text_part (a0 : T_thrumref07_text) (a1 : Int) : Sg Tryz.prog ((List Int) × (List Int) × Bool) := ⟨105, M_thrum_thrumref07_text_part a0 a1, [.agg [.lst (List.map (D.int .u8) a0.F_B), .bool a0.F_Bad], .int .i64 a1], en_thrum_thrumref07_text_part⟩
theorem ok_thrum_thrumref07_text_part (a0 : T_thrumref07_text) (a1 : Int) : (s_thrum_thrumref07_text_part a0 a1).Holds := Tr.fn (F := F_thrum_thrumref07_text_part) (t_thrum_thrumref07_text_part a0 a1) (by kernel_rfl) (by kernel_rfl) (by kernel_rfl) (by kernel_rfl)
/-- thrum/thrumref05.bits. -/
def en_thrumref05_bits (v : (List Bool) × Int) : PV := .tup [sB (.s 0) v.1, nI v.2]
noncomputable abbrev F_thrumref05_bits : Fe := .of Tryz.prog 127 en_thrumref05_bits
def S_thrumref05_bits_l1 (a0 : Int) (a1 : Int) (a2 : List Int) (x0 : Int) (x0_ : Int) (x1_ : List Bool) : St := ⟨[(13, nI x0_), (12, nY (at' a2 x0)), (31, nI x0), (30, nI (a2.length : Int)), (29, lY a2), (10, sB (.h 1) x1_), (0, nI a0), (1, nI a1)], []⟩
def E_thrumref05_bits_l1 (a0 : Int) (a1 : Int) (a2 : List Int) (x0 : Int) (x : (List Bool)) : St := ⟨[(31, nI x0), (30, nI (a2.length : Int)), (29, lY a2), (10, sB (.h 2) x), (0, nI a0), (1, nI a1)], []⟩
noncomputable def t_thrumref05_bits_l1 (a0 : Int) (a1 : Int) (a2 : List Int) (x0 : Int) (x0_ : Int) (x1_ : List Bool) : Tr F_thrumref05_bits (Int × (List Bool)) (List Bool) :=
 .ite 7 36 (x0_ ≥ 0)
 (.rd 8 (0 ≤ x0_) (nY (sShr .u8 (at' a2 x0) x0_)) <| .app 3 eB 1 x1_ [(Int.tmod (sShr .u8 (at' a2 x0) x0_) 2) == 1] <| .let_ (x1_ ++ [(Int.tmod (sShr .u8 (at' a2 x0) x0_) 2) == 1] : List Bool) fun y2 => .again 8 (IntKind.i64.wrap (x0_ - 1), y2))
 (.ret 4 x1_)
theorem ok_thrumref05_bits_l1 (a0 : Int) (a1 : Int) (a2 : List Int) (x0 : Int) (x0_ : Int) (x1_ : List Bool) : Ok (M_thrumref05_bits_l1 a0 a1 a2 x0 x0_ x1_) fun v => go Tryz.prog F_thrumref05_bits.N (PostN (.exit 2) (E_thrumref05_bits_l1 a0 a1 a2 x0) v) [.l (lpA Tryz.prog 127 1)] .norm (S_thrumref05_bits_l1 a0 a1 a2 x0 x0_ x1_) := by
 refine M_thrumref05_bits_l1.partial_correctness a0 a1 a2 x0 (fun x0_ x1_ v => go Tryz.prog F_thrumref05_bits.N (PostN (.exit 2) (E_thrumref05_bits_l1 a0 a1 a2 x0) v) [.l (lpA Tryz.prog 127 1)] .norm (S_thrumref05_bits_l1 a0 a1 a2 x0 x0_ x1_)) ?_ x0_ x1_
 clear x0_ x1_
 intro f IH x0_ x1_
 exact Tr.lpN (F := F_thrumref05_bits) (S := fun x => S_thrumref05_bits_l1 a0 a1 a2 x0 x.1 x.2) (S' := E_thrumref05_bits_l1 a0 a1 a2 x0) (t_thrumref05_bits_l1 a0 a1 a2 x0 x0_ x1_) (fun x => f x.1 x.2) (fun x r h => IH x.1 x.2 r h) (by kernel_rfl) (by kernel_rfl)
def S_thrumref05_bits_l0 (a0 : Int) (a1 : Int) (a2 : List Int) (x0 : Int) (x1 : List Bool) : St := ⟨[(31, nI x0), (30, nI (a2.length : Int)), (29, lY a2), (10, sB (.h 0) x1), (0, nI a0), (1, nI a1)], []⟩
def E_thrumref05_bits_l0 (a0 : Int) (a1 : Int) (a2 : List Int) (x : (List Bool)) : St := ⟨[(10, sB (.h 1) x), (0, nI a0), (1, nI a1)], []⟩
noncomputable def t_thrumref05_bits_l0 (a0 : Int) (a1 : Int) (a2 : List Int) (x0 : Int) (x1 : List Bool) : Tr F_thrumref05_bits (Int × (List Bool)) (List Bool) :=
 .ite 6 32 (x0 < (a2.length : Int))
 (.idx 6 eY a2 x0 <| .loop 9 ⟨_, _, _, _, _, ok_thrumref05_bits_l1 a0 a1 a2 x0 7 x1⟩ fun j4 => .again 6 (IntKind.i64.wrap (x0 + 1), j4))
 (.ret 4 x1)
theorem ok_thrumref05_bits_l0 (a0 : Int) (a1 : Int) (a2 : List Int) (x0 : Int) (x1 : List Bool) : Ok (M_thrumref05_bits_l0 a0 a1 a2 x0 x1) fun v => go Tryz.prog F_thrumref05_bits.N (PostN (.exit 0) (E_thrumref05_bits_l0 a0 a1 a2) v) [.l (lpA Tryz.prog 127 0)] .norm (S_thrumref05_bits_l0 a0 a1 a2 x0 x1) := by
 refine M_thrumref05_bits_l0.partial_correctness a0 a1 a2 (fun x0 x1 v => go Tryz.prog F_thrumref05_bits.N (PostN (.exit 0) (E_thrumref05_bits_l0 a0 a1 a2) v) [.l (lpA Tryz.prog 127 0)] .norm (S_thrumref05_bits_l0 a0 a1 a2 x0 x1)) ?_ x0 x1
 clear x0 x1
 intro f IH x0 x1
 exact Tr.lpN (F := F_thrumref05_bits) (S := fun x => S_thrumref05_bits_l0 a0 a1 a2 x.1 x.2) (S' := E_thrumref05_bits_l0 a0 a1 a2) (t_thrumref05_bits_l0 a0 a1 a2 x0 x1) (fun x => f x.1 x.2) (fun x r h => IH x.1 x.2 r h) (by kernel_rfl) (by kernel_rfl)
def S_thrumref05_bits_l2 (a0 : Int) (a1 : Int) (j5 : (List Bool)) (y6 : List Bool) (x0 : Int) : St := ⟨[(54, nI x0), (53, nI (y6.length : Int)), (52, .sl (.h 1) 1 (0 + Int.toNat (IntKind.i64.wrap (a0 * a1))) (List.map D.bool y6)), (10, sB (.h 1) j5), (0, nI a0), (1, nI a1)], []⟩
def E_thrumref05_bits_l2 (a0 : Int) (a1 : Int) (j5 : (List Bool)) (y6 : List Bool) (x : Unit) : St := ⟨[(10, sB (.h 1) j5), (0, nI a0), (1, nI a1)], []⟩
noncomputable def t_thrumref05_bits_l2 (a0 : Int) (a1 : Int) (j5 : (List Bool)) (y6 : List Bool) (x0 : Int) : Tr F_thrumref05_bits Int (Sum ((List Bool) × Int) Unit) :=
 .ite 6 55 (x0 < (y6.length : Int))
 (.idx 6 eB y6 x0 <| .iteB 7 58 (at' y6 x0)
 (.ret 10 (.inl ([], 6)))
 (.again 7 (IntKind.i64.wrap (x0 + 1))))
 (.ret 4 (.inr ()))
theorem ok_thrumref05_bits_l2 (a0 : Int) (a1 : Int) (j5 : (List Bool)) (y6 : List Bool) (x0 : Int) : Ok (M_thrumref05_bits_l2 a0 a1 j5 y6 x0) fun v => go Tryz.prog F_thrumref05_bits.N (PostR (fun r => Fnl F_thrumref05_bits.res (F_thrumref05_bits.en r) (F_thrumref05_bits.bx r)) (.exit 4) (E_thrumref05_bits_l2 a0 a1 j5 y6) v) [.l (lpA Tryz.prog 127 2)] .norm (S_thrumref05_bits_l2 a0 a1 j5 y6 x0) := by
 refine M_thrumref05_bits_l2.partial_correctness a0 a1 j5 y6 (fun x0 v => go Tryz.prog F_thrumref05_bits.N (PostR (fun r => Fnl F_thrumref05_bits.res (F_thrumref05_bits.en r) (F_thrumref05_bits.bx r)) (.exit 4) (E_thrumref05_bits_l2 a0 a1 j5 y6) v) [.l (lpA Tryz.prog 127 2)] .norm (S_thrumref05_bits_l2 a0 a1 j5 y6 x0)) ?_ x0
 clear x0
 intro f IH x0
 exact Tr.lpR (F := F_thrumref05_bits) (S := fun x => S_thrumref05_bits_l2 a0 a1 j5 y6 x) (S' := E_thrumref05_bits_l2 a0 a1 j5 y6) (t_thrumref05_bits_l2 a0 a1 j5 y6 x0) (fun x => f x) (fun x r h => IH x r h) (by kernel_rfl) (by kernel_rfl)
theorem nl_thrumref05_bits : ∀ v, (en_thrumref05_bits v).noLst := fun _ => ⟨(flat_map_of fun _ => trivial), trivial, trivial⟩
noncomputable def t_thrumref05_bits (a0 : Int) (a1 : Int) (a2 : List Int) : Tr F_thrumref05_bits Empty ((List Bool) × Int) :=
 .call 9 (ok_thrumref05_Bytes a0 a1) nl_thrumref05_Bytes fun r1 => .iteN 12 23 (r1.2 = 0)
 (.ret 9 ([], r1.2))
 (.len 6 eY a2 <| .iteN 3 28 ((a2.length : Int) = r1.1)
 (.ret 8 ([], 4))
 (.len 10 eY a2 <| .loop 4 ⟨_, _, _, _, _, ok_thrumref05_bits_l0 a0 a1 a2 0 []⟩ fun j5 => .cut 8 eB j5 (some (IntKind.i64.wrap (a0 * a1))) none <| .let_ (cut' j5 (some (IntKind.i64.wrap (a0 * a1))) none : List Bool) fun y6 => .len 0 eB y6 <| .loopR 4 id ⟨_, _, _, _, _, ok_thrumref05_bits_l2 a0 a1 j5 y6 0⟩ fun j8 => .cut 7 eB j5 none (some (IntKind.i64.wrap (a0 * a1))) <| .ret 4 (cut' j5 none (some (IntKind.i64.wrap (a0 * a1))), 0)))
noncomputable def s_thrumref05_bits (a0 : Int) (a1 : Int) (a2 : List Int) : Sg Tryz.prog ((List Bool) × Int) := ⟨127, M_thrumref05_bits a0 a1 a2, [.int .i64 a0, .int .i64 a1, .lst (List.map (D.int .u8) a2)], en_thrumref05_bits⟩
theorem ok_thrumref05_bits (a0 : Int) (a1 : Int) (a2 : List Int) : (s_thrumref05_bits a0 a1 a2).Holds := Tr.fn (F := F_thrumref05_bits) (t_thrumref05_bits a0 a1 a2) (by kernel_rfl) (by kernel_rfl) (by kernel_rfl) (by kernel_rfl)
/-- thrum/thrumref05.Unweave. -/
def en_thrumref05_Unweave (v : (List Int) × Int) : PV := .tup [sU (.s 0) v.1, nI v.2]
noncomputable abbrev F_thrumref05_Unweave : Fe := .of Tryz.prog 106 en_thrumref05_Unweave
def S_thrumref05_Unweave_l1 (a0 : Int) (a1 : Int) (r1 : (List Bool) × Int) (y2 : List Int) (x0 : Int) (x0_ : Int) (x1_ : List Int) : St := ⟨[(31, nI x0_), (30, nI a0), (11, nI x0), (27, nI x0), (26, nI (y2.length : Int)), (10, sU (.h 1) x1_), (8, sB (.s 1648) r1.1), (0, nI a0), (1, nI a1)], []⟩
def E_thrumref05_Unweave_l1 (a0 : Int) (a1 : Int) (r1 : (List Bool) × Int) (y2 : List Int) (x0 : Int) (x : (List Int)) : St := ⟨[(27, nI x0), (26, nI (y2.length : Int)), (10, sU (.h 2) x), (8, sB (.s 1648) r1.1), (0, nI a0), (1, nI a1)], []⟩
noncomputable def t_thrumref05_Unweave_l1 (a0 : Int) (a1 : Int) (r1 : (List Bool) × Int) (y2 : List Int) (x0 : Int) (x0_ : Int) (x1_ : List Int) : Tr F_thrumref05_Unweave (Int × (List Int)) (List Int) :=
 .ite 6 32 (x0_ < a0)
 (.idx 13 eU x1_ x0 <| .idx 2 eU x1_ x0 <| .sto 0 [10] eU x1_ x0 (IntKind.u64.wrap ((at' x1_ x0) * 2)) <| .let_ (x1_.set (Int.toNat x0) (IntKind.u64.wrap ((at' x1_ x0) * 2)) : List Int) fun y4 => .idx 9 eB r1.1 (IntKind.i64.wrap ((IntKind.i64.wrap (x0_ * a1)) + x0)) <| .iteB 2 47 (at' r1.1 (IntKind.i64.wrap ((IntKind.i64.wrap (x0_ * a1)) + x0)))
 (.idx 4 eU y4 x0 <| .idx 2 eU y4 x0 <| .sto 0 [10] eU y4 x0 (IntKind.u64.wrap ((at' y4 x0) + 1)) <| .let_ (y4.set (Int.toNat x0) (IntKind.u64.wrap ((at' y4 x0) + 1)) : List Int) fun y6 => .again 6 (IntKind.i64.wrap (x0_ + 1), y6))
 (.again 7 (IntKind.i64.wrap (x0_ + 1), y4)))
 (.ret 4 x1_)
theorem ok_thrumref05_Unweave_l1 (a0 : Int) (a1 : Int) (r1 : (List Bool) × Int) (y2 : List Int) (x0 : Int) (x0_ : Int) (x1_ : List Int) : Ok (M_thrumref05_Unweave_l1 a0 a1 r1 y2 x0 x0_ x1_) fun v => go Tryz.prog F_thrumref05_Unweave.N (PostN (.exit 2) (E_thrumref05_Unweave_l1 a0 a1 r1 y2 x0) v) [.l (lpA Tryz.prog 106 1)] .norm (S_thrumref05_Unweave_l1 a0 a1 r1 y2 x0 x0_ x1_) := by
 refine M_thrumref05_Unweave_l1.partial_correctness a0 a1 r1 y2 x0 (fun x0_ x1_ v => go Tryz.prog F_thrumref05_Unweave.N (PostN (.exit 2) (E_thrumref05_Unweave_l1 a0 a1 r1 y2 x0) v) [.l (lpA Tryz.prog 106 1)] .norm (S_thrumref05_Unweave_l1 a0 a1 r1 y2 x0 x0_ x1_)) ?_ x0_ x1_
 clear x0_ x1_
 intro f IH x0_ x1_
 exact Tr.lpN (F := F_thrumref05_Unweave) (S := fun x => S_thrumref05_Unweave_l1 a0 a1 r1 y2 x0 x.1 x.2) (S' := E_thrumref05_Unweave_l1 a0 a1 r1 y2 x0) (t_thrumref05_Unweave_l1 a0 a1 r1 y2 x0 x0_ x1_) (fun x => f x.1 x.2) (fun x r h => IH x.1 x.2 r h) (by kernel_rfl) (by kernel_rfl)
def S_thrumref05_Unweave_l0 (a0 : Int) (a1 : Int) (r1 : (List Bool) × Int) (y2 : List Int) (x0 : Int) (x1 : List Int) : St := ⟨[(27, nI x0), (26, nI (y2.length : Int)), (10, sU (.h 0) x1), (8, sB (.s 1648) r1.1), (0, nI a0), (1, nI a1)], []⟩
def E_thrumref05_Unweave_l0 (a0 : Int) (a1 : Int) (r1 : (List Bool) × Int) (y2 : List Int) (x : (List Int)) : St := ⟨[(10, sU (.h 1) x)], []⟩
noncomputable def t_thrumref05_Unweave_l0 (a0 : Int) (a1 : Int) (r1 : (List Bool) × Int) (y2 : List Int) (x0 : Int) (x1 : List Int) : Tr F_thrumref05_Unweave (Int × (List Int)) (List Int) :=
 .ite 6 28 (x0 < (y2.length : Int))
 (.loop 16 ⟨_, _, _, _, _, ok_thrumref05_Unweave_l1 a0 a1 r1 y2 x0 0 x1⟩ fun j8 => .again 6 (IntKind.i64.wrap (x0 + 1), j8))
 (.ret 4 x1)
theorem ok_thrumref05_Unweave_l0 (a0 : Int) (a1 : Int) (r1 : (List Bool) × Int) (y2 : List Int) (x0 : Int) (x1 : List Int) : Ok (M_thrumref05_Unweave_l0 a0 a1 r1 y2 x0 x1) fun v => go Tryz.prog F_thrumref05_Unweave.N (PostN (.exit 0) (E_thrumref05_Unweave_l0 a0 a1 r1 y2) v) [.l (lpA Tryz.prog 106 0)] .norm (S_thrumref05_Unweave_l0 a0 a1 r1 y2 x0 x1) := by
 refine M_thrumref05_Unweave_l0.partial_correctness a0 a1 r1 y2 (fun x0 x1 v => go Tryz.prog F_thrumref05_Unweave.N (PostN (.exit 0) (E_thrumref05_Unweave_l0 a0 a1 r1 y2) v) [.l (lpA Tryz.prog 106 0)] .norm (S_thrumref05_Unweave_l0 a0 a1 r1 y2 x0 x1)) ?_ x0 x1
 clear x0 x1
 intro f IH x0 x1
 exact Tr.lpN (F := F_thrumref05_Unweave) (S := fun x => S_thrumref05_Unweave_l0 a0 a1 r1 y2 x.1 x.2) (S' := E_thrumref05_Unweave_l0 a0 a1 r1 y2) (t_thrumref05_Unweave_l0 a0 a1 r1 y2 x0 x1) (fun x => f x.1 x.2) (fun x r h => IH x.1 x.2 r h) (by kernel_rfl) (by kernel_rfl)
theorem nl_thrumref05_Unweave : ∀ v, (en_thrumref05_Unweave v).noLst := fun _ => ⟨(flat_map_of fun _ => trivial), trivial, trivial⟩
noncomputable def t_thrumref05_Unweave (a0 : Int) (a1 : Int) (a2 : List Int) : Tr F_thrumref05_Unweave Empty ((List Int) × Int) :=
 .call 10 (ok_thrumref05_bits a0 a1 a2) nl_thrumref05_bits fun r1 => .iteN 12 21 (r1.2 = 0)
 (.ret 9 ([], r1.2))
 (.mk 5 eU 8 0 a1 a1 <| .let_ (List.replicate (Int.toNat a1) 0 : List Int) fun y2 => .len 6 eU y2 <| .loop 4 ⟨_, _, _, _, _, ok_thrumref05_Unweave_l0 a0 a1 r1 y2 0 y2⟩ fun j9 => .ret 8 (j9, 0))
noncomputable def s_thrumref05_Unweave (a0 : Int) (a1 : Int) (a2 : List Int) : Sg Tryz.prog ((List Int) × Int) := ⟨106, M_thrumref05_Unweave a0 a1 a2, [.int .i64 a0, .int .i64 a1, .lst (List.map (D.int .u8) a2)], en_thrumref05_Unweave⟩
theorem ok_thrumref05_Unweave (a0 : Int) (a1 : Int) (a2 : List Int) : (s_thrumref05_Unweave a0 a1 a2).Holds := Tr.fn (F := F_thrumref05_Unweave) (t_thrumref05_Unweave a0 a1 a2) (by kernel_rfl) (by kernel_rfl) (by kernel_rfl) (by kernel_rfl)
/-- thrum/thrumref05.Read. -/
def en_thrumref05_Read (v : (List Bool) × Int) : PV := .tup [sB (.s 0) v.1, nI v.2]
noncomputable abbrev F_thrumref05_Read : Fe := .of Tryz.prog 107 en_thrumref05_Read
theorem nl_thrumref05_Read : ∀ v, (en_thrumref05_Read v).noLst := fun _ => ⟨(flat_map_of fun _ => trivial), trivial, trivial⟩
noncomputable def t_thrumref05_Read (a0 : Int) (a1 : List Int) : Tr F_thrumref05_Read Empty ((List Bool) × Int) :=
 .call 9 (ok_thrumref05_bits 1 a0 a1) nl_thrumref05_bits fun r1 => .ret 6 (r1.1, r1.2)
noncomputable def s_thrumref05_Read (a0 : Int) (a1 : List Int) : Sg Tryz.prog ((List Bool) × Int) := ⟨107, M_thrumref05_Read a0 a1, [.int .i64 a0, .lst (List.map (D.int .u8) a1)], en_thrumref05_Read⟩
theorem ok_thrumref05_Read (a0 : Int) (a1 : List Int) : (s_thrumref05_Read a0 a1).Holds := Tr.fn (F := F_thrumref05_Read) (t_thrumref05_Read a0 a1) (by kernel_rfl) (by kernel_rfl) (by kernel_rfl) (by kernel_rfl)
/-- (thrum/thrumref07.text).sent. -/
def en_thrum_thrumref07_text_sent (v : Int × Int × (List Int) × (List Int) × Int × Int × (List Int) × (List Bool) × (List Int) × Bool) : PV := .tup [.d (.agg [.int .i64 v.1, .int .i64 v.2.1, .lst (List.map (D.int .i64) v.2.2.1), .lst (List.map (D.int .i64) v.2.2.2.1), .int .i64 v.2.2.2.2.1, .int .i64 v.2.2.2.2.2.1, .lst (List.map (D.int .u64) v.2.2.2.2.2.2.1), .lst (List.map D.bool v.2.2.2.2.2.2.2.1)]), .d (.agg [.lst (List.map (D.int .u8) v.2.2.2.2.2.2.2.2.1), .bool v.2.2.2.2.2.2.2.2.2])]
noncomputable abbrev F_thrum_thrumref07_text_sent : Fe := .of Tryz.prog 63 en_thrum_thrumref07_text_sent
noncomputable def t_thrum_thrumref07_text_sent (a0 : T_thrumref07_text) : Tr F_thrum_thrumref07_text_sent Empty (Int × Int × (List Int) × (List Int) × Int × Int × (List Int) × (List Bool) × (List Int) × Bool) :=
 .callZ 15 (ok_thrum_thrumref07_text_byte1 a0) fun r1 => .callZ 10 (ok_thrum_thrumref07_text_number (⟨r1.2.1, r1.2.2⟩ : T_thrumref07_text) 4096) fun r2 => .join 13 4 (γ := Bool) ⟨fun x => [(37, bB x)], [4, 3, 2, 1], fun _ => [], [.s 15, .s 1631, .s 47, .s 31]⟩
 (.iteB 0 33 (r2.2.2)
 (.ret 5 true)
 (.ret 5 (r2.1 == 0)))
 fun j3 => .iteB 1 37 (j3)
 (.ret 10 (r1.1, r2.1, [], [], 0, 0, [], [], [], true))
 (.joinR 15 0 (γ := Int × (List Int) × Bool × (List Int)) ⟨fun x => [(5, nI x.1)], [4, 3, 2, 1], fun x => [(.s 15, [lY x.2.1, bB x.2.2.1]), (.s 1631, [nI r1.1, nI r2.1, sI (.h 0) x.2.2.2, .nils, nI 0, nI 0, .nils, .nils])], [.s 47, .s 31]⟩ id
 (.ite 0 44 (r1.1 = 1)
 (.call 7 (ok_thrumref06_Get r2.1 r2.2.1 0) nl_thrumref06_Get fun r4 => .iteN 14 55 (r4.2.2 = 0)
 (.ret 10 (.inl (r1.1, r2.1, [], [], 0, 0, [], [], [], true)))
 (.len 11 eI r4.1 <| .cut 6 eY r2.2.1 (some r4.2.1) none <| .ret 3 (.inr ((r4.1.length : Int), cut' r2.2.1 (some r4.2.1) none, false, r4.1))))
 (.ret 2 (.inr (r2.1, r2.2.1, r2.2.2, []))))
 fun j5 => .join 7 4 (γ := Bool) ⟨fun x => [(74, bB x)], [5, 4, 3, 2, 1], fun _ => [], [.s 15, .s 1631, .s 47, .s 31]⟩
 (.ite 0 70 (r1.1 = 0)
 (.ret 5 true)
 (.ret 5 (r1.1 == 1)))
 fun j6 => .iteB 1 74 (j6)
 (.callZ 5 (ok_thrum_thrumref07_text_signed (⟨j5.2.1, j5.2.2.1⟩ : T_thrumref07_text) j5.1) fun r7 => .hold 13 [] <| .ret 5 (r1.1, r2.1, j5.2.2.2, r7.1, 0, 0, [], [], r7.2.1, r7.2.2))
 (.callZ 5 (ok_thrum_thrumref07_text_number (⟨j5.2.1, j5.2.2.1⟩ : T_thrumref07_text) 9223372036854775807) fun r8 => .joinR 19 0 (γ := (List Int) × Bool × Int × (List Int)) ⟨fun _ => [], [4, 3, 2, 1], fun x => [(.s 15, [lY x.1, bB x.2.1]), (.s 1631, [nI r1.1, nI r2.1, sI (.h 0) j5.2.2.2, .nils, nI r8.1, nI x.2.2.1, sU (.h 1) x.2.2.2, .nils])], [.s 47, .s 31]⟩ id
 (.ite 0 93 (r1.1 = 2)
 (.callZ 4 (ok_thrum_thrumref07_text_byte1 (⟨r8.2.1, r8.2.2⟩ : T_thrumref07_text)) fun r9 => .join 14 4 (γ := Bool) ⟨fun x => [(107, bB x)], [4, 3, 2, 1], fun _ => [], [.s 15, .s 1631, .s 47, .s 31]⟩
 (.ite 0 103 (r9.1 < 1)
 (.ret 5 true)
 (.ret 5 (decide (r9.1 > 8))))
 fun j10 => .iteB 1 107 (j10)
 (.ret 10 (.inl (r1.1, r2.1, j5.2.2.2, [], r8.1, r9.1, [], [], [], true)))
 (.let_ (IntKind.i64.wrap (Int.tdiv (IntKind.i64.wrap ((IntKind.i64.wrap (r9.1 * r2.1)) + 7)) 8) : Int) fun y11 => .callZ 12 (ok_thrum_thrumref07_text_part (⟨r9.2.1, r9.2.2⟩ : T_thrumref07_text) y11) fun r13 => .call 14 (ok_thrumref05_Unweave r9.1 r2.1 r13.1) nl_thrumref05_Unweave fun r14 => .join 12 3 (γ := Bool) ⟨fun x => [(136, bB x)], [12, 11, 4, 3, 2, 1], fun _ => [], [.s 37007, .s 15, .s 1631, .s 47, .s 31]⟩
 (.iteB 0 133 (r13.2.2)
 (.ret 4 true)
 (.ret 4 (r14.2 != 0)))
 fun j15 => .iteB 1 136 (j15)
 (.ret 10 (.inl (r1.1, r2.1, j5.2.2.2, [], r8.1, r9.1, [], [], [], true)))
 (.ret 12 (.inr (r13.2.1, r13.2.2, r9.1, r14.1)))))
 (.ret 2 (.inr (r8.2.1, r8.2.2, 0, []))))
 fun j16 => .callZ 7 (ok_thrum_thrumref07_text_part (⟨j16.1, j16.2.1⟩ : T_thrumref07_text) (IntKind.i64.wrap (Int.tdiv (IntKind.i64.wrap (r2.1 + 7)) 8))) fun r17 => .call 12 (ok_thrumref05_Read r2.1 r17.1) nl_thrumref05_Read fun r18 => .iteB 20 165 (r17.2.2)
 (.hold 6 [] <| .ret 4 (r1.1, r2.1, j5.2.2.2, [], r8.1, j16.2.2.1, j16.2.2.2, r18.1, r17.2.1, true))
 (.hold 6 [] <| .ret 4 (r1.1, r2.1, j5.2.2.2, [], r8.1, j16.2.2.1, j16.2.2.2, r18.1, r17.2.1, r18.2 != 0))))
noncomputable def s_thrum_thrumref07_text_sent (a0 : T_thrumref07_text) : Sg Tryz.prog (Int × Int × (List Int) × (List Int) × Int × Int × (List Int) × (List Bool) × (List Int) × Bool) := ⟨63, M_thrum_thrumref07_text_sent a0, [.agg [.lst (List.map (D.int .u8) a0.F_B), .bool a0.F_Bad]], en_thrum_thrumref07_text_sent⟩
theorem ok_thrum_thrumref07_text_sent (a0 : T_thrumref07_text) : (s_thrum_thrumref07_text_sent a0).Holds := Tr.fn (F := F_thrum_thrumref07_text_sent) (t_thrum_thrumref07_text_sent a0) (by kernel_rfl) (by kernel_rfl) (by kernel_rfl) (by kernel_rfl)
/-- thrum/thrumref07.Read. -/
def en_thrumref07_Read (v : Int × Int × Int × Int × Int × (List Int) × (List Int) × Int × Int × (List Int) × (List Bool) × Int) : PV := .tup [.d (.agg [.int .i64 v.1, .int .i64 v.2.1, .int .i64 v.2.2.1, .int .i64 v.2.2.2.1, .int .i64 v.2.2.2.2.1, .lst (List.map (D.int .i64) v.2.2.2.2.2.1), .lst (List.map (D.int .i64) v.2.2.2.2.2.2.1), .int .i64 v.2.2.2.2.2.2.2.1, .int .i64 v.2.2.2.2.2.2.2.2.1, .lst (List.map (D.int .u64) v.2.2.2.2.2.2.2.2.2.1), .lst (List.map D.bool v.2.2.2.2.2.2.2.2.2.2.1)]), nI v.2.2.2.2.2.2.2.2.2.2.2]
noncomputable abbrev F_thrumref07_Read : Fe := .of Tryz.prog 29 en_thrumref07_Read
noncomputable def t_thrumref07_Read (a0 : List Int) : Tr F_thrumref07_Read Empty (Int × Int × Int × Int × Int × (List Int) × (List Int) × Int × Int × (List Int) × (List Bool) × Int) :=
 .call 8 (ok_thrumref04_Open a0) nl_thrumref04_Open fun r1 => .iteN 12 15 (r1.2 = 0)
 (.ret 10 (0, 0, 0, 0, 0, [], [], 0, 0, [], [], r1.2))
 (.callZ 12 (ok_thrum_thrumref07_text_byte1 (⟨r1.1, false⟩ : T_thrumref07_text)) fun r2 => .callZ 10 (ok_thrum_thrumref07_text_byte1 (⟨r2.2.1, r2.2.2⟩ : T_thrumref07_text)) fun r3 => .callZ 10 (ok_thrum_thrumref07_text_number (⟨r3.2.1, r3.2.2⟩ : T_thrumref07_text) 63) fun r4 => .callZ 10 (ok_thrum_thrumref07_text_number (⟨r4.2.1, r4.2.2⟩ : T_thrumref07_text) 1073741824) fun r5 => .join 14 0 (γ := (List Int) × Bool × Int × Int × (List Int) × (List Int) × Int × Int × (List Int) × (List Bool)) ⟨fun _ => [], [7, 8, 6, 2], fun x => [(.s 8111, [lY x.1, bB x.2.1]), (.s 6431, [nI r3.1, nI r4.1, nI r5.1, nI x.2.2.1, nI x.2.2.2.1, lI x.2.2.2.2.1, lI x.2.2.2.2.2.1, nI x.2.2.2.2.2.2.1, nI x.2.2.2.2.2.2.2.1, lU x.2.2.2.2.2.2.2.2.1, lB x.2.2.2.2.2.2.2.2.2])], [.s 15]⟩
 (.ite 0 45 (r3.1 = 1)
 (.callZ 3 (ok_thrum_thrumref07_text_sent (⟨r5.2.1, r5.2.2⟩ : T_thrumref07_text)) fun r6 => .ret 7 (r6.2.2.2.2.2.2.2.2.1, r6.2.2.2.2.2.2.2.2.2, r6.1, r6.2.1, r6.2.2.1, r6.2.2.2.1, r6.2.2.2.2.1, r6.2.2.2.2.2.1, r6.2.2.2.2.2.2.1, r6.2.2.2.2.2.2.2.1))
 (.ret 2 (r5.2.1, r5.2.2, 0, 0, [], [], 0, 0, [], [])))
 fun j7 => .join 6 5 (γ := Bool) ⟨fun x => [(59, bB x)], [7, 6, 2], fun _ => [], [.s 6431, .s 15]⟩
 (.iteB 0 54 (j7.2.1)
 (.ret 6 true)
 (.len 2 eY j7.1 <| .ret 3 (decide ((j7.1.length : Int) > 0))))
 fun j8 => .join 1 3 (γ := Bool) ⟨fun x => [(63, bB x)], [6, 2], fun _ => [], [.s 6431, .s 15]⟩
 (.iteB 0 60 (j8)
 (.ret 4 true)
 (.ret 4 (r2.1 != 1)))
 fun j9 => .join 1 4 (γ := Bool) ⟨fun x => [(68, bB x)], [6, 2], fun _ => [], [.s 6431, .s 15]⟩
 (.iteB 0 64 (j9)
 (.ret 5 true)
 (.call 1 (ok_thrumref07_Check (⟨r3.1, r4.1, r5.1, (⟨j7.2.2.1, j7.2.2.2.1, j7.2.2.2.2.1, j7.2.2.2.2.2.1, j7.2.2.2.2.2.2.1, j7.2.2.2.2.2.2.2.1, j7.2.2.2.2.2.2.2.2.1, j7.2.2.2.2.2.2.2.2.2⟩ : T_api_Sent)⟩ : T_api_Frame)) nl_thrumref07_Check fun r10 => .ret 3 (r10 != 0)))
 fun j11 => .iteB 1 68 (j11)
 (.ret 9 (0, 0, 0, 0, 0, [], [], 0, 0, [], [], 6))
 (.ret 9 (r3.1, r4.1, r5.1, j7.2.2.1, j7.2.2.2.1, j7.2.2.2.2.1, j7.2.2.2.2.2.1, j7.2.2.2.2.2.2.1, j7.2.2.2.2.2.2.2.1, j7.2.2.2.2.2.2.2.2.1, j7.2.2.2.2.2.2.2.2.2, 0)))
noncomputable def s_thrumref07_Read (a0 : List Int) : Sg Tryz.prog (Int × Int × Int × Int × Int × (List Int) × (List Int) × Int × Int × (List Int) × (List Bool) × Int) := ⟨29, M_thrumref07_Read a0, [.lst (List.map (D.int .u8) a0)], en_thrumref07_Read⟩
theorem ok_thrumref07_Read (a0 : List Int) : (s_thrumref07_Read a0).Holds := Tr.fn (F := F_thrumref07_Read) (t_thrumref07_Read a0) (by kernel_rfl) (by kernel_rfl) (by kernel_rfl) (by kernel_rfl)
/-- thrum/thrumlaw07.FrameReads. -/
def en_thrumlaw07_FrameReads (v : Bool) : PV := bB v
noncomputable abbrev F_thrumlaw07_FrameReads : Fe := .of Tryz.prog 5 en_thrumlaw07_FrameReads
noncomputable def t_thrumlaw07_FrameReads (a0 : List Int) : Tr F_thrumlaw07_FrameReads Empty Bool :=
 .call 6 ok_thrumlaw07_live nl_thrumlaw07_live fun r1 => .iteX 8 16 (r1)
 (.ret 7 false)
 (.len 6 eY a0 <| .ite 2 19 ((a0.length : Int) > 3000)
 (.ret 8 r1)
 (.callZ 5 (ok_frame_Read a0) fun r2 => .callZ 10 (ok_thrumref07_Read a0) fun r3 => .call 10 (ok_crc_Seal a0) nl_crc_Seal fun r4 => .join 12 5 (γ := Bool) ⟨fun x => [(43, bB x)], [8, 7, 5, 3], fun _ => [], []⟩
 (.iteN 0 38 (r4.2 = 0)
 (.ret 6 true)
 (.call 2 (ok_thrumref07_Same (⟨r2.1, r2.2.1, r2.2.2.1, (⟨r2.2.2.2.1, r2.2.2.2.2.1, r2.2.2.2.2.2.1, r2.2.2.2.2.2.2.1, r2.2.2.2.2.2.2.2.1, r2.2.2.2.2.2.2.2.2.1, r2.2.2.2.2.2.2.2.2.2.1, r2.2.2.2.2.2.2.2.2.2.2.1⟩ : T_api_Sent)⟩ : T_api_Frame) (⟨r3.1, r3.2.1, r3.2.2.1, (⟨r3.2.2.2.1, r3.2.2.2.2.1, r3.2.2.2.2.2.1, r3.2.2.2.2.2.2.1, r3.2.2.2.2.2.2.2.1, r3.2.2.2.2.2.2.2.2.1, r3.2.2.2.2.2.2.2.2.2.1, r3.2.2.2.2.2.2.2.2.2.2.1⟩ : T_api_Sent)⟩ : T_api_Frame)) nl_thrumref07_Same fun r5 => .ret 3 (!r5)))
 fun j6 => .join 1 4 (γ := Bool) ⟨fun x => [(48, bB x)], [8, 3], fun _ => [], []⟩
 (.iteB 0 44 (j6)
 (.ret 5 true)
 (.ret 5 (r2.2.2.2.2.2.2.2.2.2.2.2 != r3.2.2.2.2.2.2.2.2.2.2.2)))
 fun j7 => .iteB 1 48 (j7)
 (.ret 7 false)
 (.callZ 5 (ok_frame_Read r4.1) fun r8 => .callZ 10 (ok_thrumref07_Read r4.1) fun r9 => .join 11 4 (γ := Bool) ⟨fun x => [(64, bB x)], [13, 11], fun _ => [], []⟩
 (.iteB 0 60 (r1)
 (.call 2 (ok_thrumref07_Same (⟨r8.1, r8.2.1, r8.2.2.1, (⟨r8.2.2.2.1, r8.2.2.2.2.1, r8.2.2.2.2.2.1, r8.2.2.2.2.2.2.1, r8.2.2.2.2.2.2.2.1, r8.2.2.2.2.2.2.2.2.1, r8.2.2.2.2.2.2.2.2.2.1, r8.2.2.2.2.2.2.2.2.2.2.1⟩ : T_api_Sent)⟩ : T_api_Frame) (⟨r9.1, r9.2.1, r9.2.2.1, (⟨r9.2.2.2.1, r9.2.2.2.2.1, r9.2.2.2.2.2.1, r9.2.2.2.2.2.2.1, r9.2.2.2.2.2.2.2.1, r9.2.2.2.2.2.2.2.2.1, r9.2.2.2.2.2.2.2.2.2.1, r9.2.2.2.2.2.2.2.2.2.2.1⟩ : T_api_Sent)⟩ : T_api_Frame)) nl_thrumref07_Same fun r10 => .ret 2 r10)
 (.ret 5 false))
 fun j11 => .join 1 4 (γ := Bool) ⟨fun x => [(69, bB x)], [], fun _ => [], []⟩
 (.iteB 0 65 (j11)
 (.ret 5 (r8.2.2.2.2.2.2.2.2.2.2.2 == r9.2.2.2.2.2.2.2.2.2.2.2))
 (.ret 5 false))
 fun j12 => .ret 3 j12)))
noncomputable def s_thrumlaw07_FrameReads (a0 : List Int) : Sg Tryz.prog Bool := ⟨5, M_thrumlaw07_FrameReads a0, [.lst (List.map (D.int .u8) a0)], en_thrumlaw07_FrameReads⟩
theorem ok_thrumlaw07_FrameReads (a0 : List Int) : (s_thrumlaw07_FrameReads a0).Holds := Tr.fn (F := F_thrumlaw07_FrameReads) (t_thrumlaw07_FrameReads a0) (by kernel_rfl) (by kernel_rfl) (by kernel_rfl) (by kernel_rfl)
end Go.Proofs.YtelobmiooldoaaaGreat.Abs
