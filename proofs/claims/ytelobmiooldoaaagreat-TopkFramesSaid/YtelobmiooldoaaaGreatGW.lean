/- Walks of functions, printed by a program. Conditions: none. -/
import Derived.Test.YtelobmiooldoaaaGreatProg
import Derived.Test.YtelobmiooldoaaaGreatAbsG8
import Derived.Test.YtelobmiooldoaaaGreatGM
namespace Go.Proofs.YtelobmiooldoaaaGreat.Abs
open Go Go.RowKit
set_option linter.unusedVariables false
set_option maxRecDepth 100000
open Z
def T_api_Sent.e : Enc T_api_Sent := ⟨T_api_Sent.en, 8, fun _ => rfl⟩
def T_api_Frame.e : Enc T_api_Frame := ⟨T_api_Frame.en, 11, fun _ => rfl⟩
def T_frame_pen.e : Enc T_frame_pen := ⟨T_frame_pen.en, 2, fun _ => rfl⟩
def T_frame_text.e : Enc T_frame_text := ⟨T_frame_text.en, 2, fun _ => rfl⟩
def T_frame_reader.e : Enc T_frame_reader := ⟨T_frame_reader.en, 3, fun _ => rfl⟩
def T_thrumref07_text.e : Enc T_thrumref07_text := ⟨T_thrumref07_text.en, 2, fun _ => rfl⟩
def T_topk_one.e : Enc T_topk_one := ⟨T_topk_one.en, 2, fun _ => rfl⟩
/-- thrum/index.measure. -/
def en_index_measure (v : Bool) : PV := bB v
noncomputable abbrev F_index_measure : Fe := .of Tryz.prog 118 en_index_measure
theorem nl_index_measure : ∀ v, (en_index_measure v).noLst := fun _ => trivial
noncomputable def t_index_measure (a0 : Int) : Tr F_index_measure Empty Bool :=
 .join 9 3 (γ := Bool) ⟨fun x => [(8, bB x)], [], fun _ => [], []⟩
 (.ite 0 5 (a0 > 0)
 (.ret 4 (decide (a0 ≤ 4096)))
 (.ret 4 false))
 fun j1 => .ret 3 j1
noncomputable def s_index_measure (a0 : Int) : Sg Tryz.prog Bool := ⟨118, M_index_measure a0, [.int .i64 a0], en_index_measure⟩
theorem ok_index_measure (a0 : Int) : (s_index_measure a0).Holds := Tr.fn (F := F_index_measure) (t_index_measure a0) (by kernel_rfl) (by kernel_rfl) (by kernel_rfl) (by kernel_rfl)
/-- thrum/index.rises. -/
def en_index_rises (v : Bool) : PV := bB v
noncomputable abbrev F_index_rises : Fe := .of Tryz.prog 40 en_index_rises
def S_index_rises_l0 (a0 : List Int) (x0 : Int) : St := ⟨[(3, nI x0), (0, lI a0)], []⟩
def E_index_rises_l0 (a0 : List Int) (x : Unit) : St := ⟨[], []⟩
noncomputable def t_index_rises_l0 (a0 : List Int) (x0 : Int) : Tr F_index_rises Int (Sum Bool Unit) :=
 .len 6 eI a0 <| .ite 2 7 (x0 < (a0.length : Int))
 (.idx 9 eI a0 (IntKind.i64.wrap (x0 - 1)) <| .idx 3 eI a0 x0 <| .ite 3 19 ((at' a0 (IntKind.i64.wrap (x0 - 1))) ≥ (at' a0 x0))
 (.ret 9 (.inl false))
 (.again 8 (IntKind.i64.wrap (x0 + 1))))
 (.ret 4 (.inr ()))
theorem ok_index_rises_l0 (a0 : List Int) (x0 : Int) : Ok (M_index_rises_l0 a0 x0) fun v => go Tryz.prog F_index_rises.N (PostR (fun r => Fnl F_index_rises.res (F_index_rises.en r) (F_index_rises.bx r)) (.exit 0) (E_index_rises_l0 a0) v) [.l (lpA Tryz.prog 40 0)] .norm (S_index_rises_l0 a0 x0) := by
 refine M_index_rises_l0.partial_correctness a0 (fun x0 v => go Tryz.prog F_index_rises.N (PostR (fun r => Fnl F_index_rises.res (F_index_rises.en r) (F_index_rises.bx r)) (.exit 0) (E_index_rises_l0 a0) v) [.l (lpA Tryz.prog 40 0)] .norm (S_index_rises_l0 a0 x0)) ?_ x0
 clear x0
 intro f IH x0
 exact Tr.lpR (F := F_index_rises) (S := fun x => S_index_rises_l0 a0 x) (S' := E_index_rises_l0 a0) (t_index_rises_l0 a0 x0) (fun x => f x) (fun x r h => IH x r h) (by kernel_rfl) (by kernel_rfl)
theorem nl_index_rises : ∀ v, (en_index_rises v).noLst := fun _ => trivial
noncomputable def t_index_rises (a0 : List Int) : Tr F_index_rises Empty Bool :=
 .loopR 11 id ⟨_, _, _, _, _, ok_index_rises_l0 a0 1⟩ fun j1 => .ret 6 true
noncomputable def s_index_rises (a0 : List Int) : Sg Tryz.prog Bool := ⟨40, M_index_rises a0, [.lst (List.map (D.int .i64) a0)], en_index_rises⟩
theorem ok_index_rises (a0 : List Int) : (s_index_rises a0).Holds := Tr.fn (F := F_index_rises) (t_index_rises a0) (by kernel_rfl) (by kernel_rfl) (by kernel_rfl) (by kernel_rfl)
/-- thrum/index.Check. -/
def en_index_Check (v : Int) : PV := nI v
noncomputable abbrev F_index_Check : Fe := .of Tryz.prog 83 en_index_Check
theorem nl_index_Check : ∀ v, (en_index_Check v).noLst := fun _ => trivial
noncomputable def t_index_Check (a0 : Int) (a1 : List Int) : Tr F_index_Check Empty Int :=
 .len 7 eI a1 <| .call 6 (ok_index_measure a0) nl_index_measure fun r1 => .join 2 4 (γ := Bool) ⟨fun x => [(15, bB x)], [5, 0, 1], fun _ => [], []⟩
 (.iteX 0 11 (r1)
 (.ret 5 true)
 (.call 1 (ok_index_rises a1) nl_index_rises fun r2 => .ret 3 (!r2)))
 fun j3 => .iteB 1 16 (j3)
 (.ret 26 1)
 (.ite 3 19 ((a1.length : Int) > 0)
 (.idx 1 eI a1 0 <| .ite 3 24 ((at' a1 0) < 0)
 (.ret 18 1)
 (.idx 3 eI a1 (IntKind.i64.wrap ((a1.length : Int) - 1)) <| .ite 7 34 ((at' a1 (IntKind.i64.wrap ((a1.length : Int) - 1))) ≥ a0)
 (.ret 7 1)
 (.ret 7 0)))
 (.ret 23 0))
noncomputable def s_index_Check (a0 : Int) (a1 : List Int) : Sg Tryz.prog Int := ⟨83, M_index_Check a0 a1, [.int .i64 a0, .lst (List.map (D.int .i64) a1)], en_index_Check⟩
theorem ok_index_Check (a0 : Int) (a1 : List Int) : (s_index_Check a0 a1).Holds := Tr.fn (F := F_index_Check) (t_index_Check a0 a1) (by kernel_rfl) (by kernel_rfl) (by kernel_rfl) (by kernel_rfl)
/-- math/bits.Len64. -/
def en_math_bits_Len64 (v : Int) : PV := nI v
noncomputable abbrev F_math_bits_Len64 : Fe := .of Tryz.prog 120 en_math_bits_Len64
theorem nl_math_bits_Len64 : ∀ v, (en_math_bits_Len64 v).noLst := fun _ => trivial
noncomputable def t_math_bits_Len64 (a0 : Int) : Tr F_math_bits_Len64 Empty Int :=
 .join 10 0 (γ := Int × Int) ⟨fun x => [(2, nI x.1), (0, nU x.2)], [], fun _ => [], []⟩
 (.ite 0 4 (a0 ≥ 4294967296)
 (.ret 10 (32, sShr .u64 a0 32))
 (.ret 2 (0, a0)))
 fun j1 => .join 6 0 (γ := Int × Int) ⟨fun x => [(2, nI x.1), (0, nU x.2)], [], fun _ => [], []⟩
 (.ite 0 8 (j1.2 ≥ 65536)
 (.ret 12 (IntKind.i64.wrap (j1.1 + 16), sShr .u64 j1.2 16))
 (.ret 2 (j1.1, j1.2)))
 fun j2 => .ite 6 14 (j2.2 ≥ 256)
 (.rd 17 (0 ≤ (IntKind.u8.wrap (sShr .u64 j2.2 8)) ∧ (IntKind.u8.wrap (sShr .u64 j2.2 8)) < ((ByteArray.mk #[0, 1, 2, 2, 3, 3, 3, 3, 4, 4, 4, 4, 4, 4, 4, 4, 5, 5, 5, 5, 5, 5, 5, 5, 5, 5, 5, 5, 5, 5, 5, 5, 6, 6, 6, 6, 6, 6, 6, 6, 6, 6, 6, 6, 6, 6, 6, 6, 6, 6, 6, 6, 6, 6, 6, 6, 6, 6, 6, 6, 6, 6, 6, 6, 7, 7, 7, 7, 7, 7, 7, 7, 7, 7, 7, 7, 7, 7, 7, 7, 7, 7, 7, 7, 7, 7, 7, 7, 7, 7, 7, 7, 7, 7, 7, 7, 7, 7, 7, 7, 7, 7, 7, 7, 7, 7, 7, 7, 7, 7, 7, 7, 7, 7, 7, 7, 7, 7, 7, 7, 7, 7, 7, 7, 7, 7, 7, 7, 8, 8, 8, 8, 8, 8, 8, 8, 8, 8, 8, 8, 8, 8, 8, 8, 8, 8, 8, 8, 8, 8, 8, 8, 8, 8, 8, 8, 8, 8, 8, 8, 8, 8, 8, 8, 8, 8, 8, 8, 8, 8, 8, 8, 8, 8, 8, 8, 8, 8, 8, 8, 8, 8, 8, 8, 8, 8, 8, 8, 8, 8, 8, 8, 8, 8, 8, 8, 8, 8, 8, 8, 8, 8, 8, 8, 8, 8, 8, 8, 8, 8, 8, 8, 8, 8, 8, 8, 8, 8, 8, 8, 8, 8, 8, 8, 8, 8, 8, 8, 8, 8, 8, 8, 8, 8, 8, 8, 8, 8, 8, 8, 8, 8, 8, 8, 8, 8, 8, 8, 8, 8, 8, 8, 8, 8, 8, 8]).size : Int)) (nY (((ByteArray.mk #[0, 1, 2, 2, 3, 3, 3, 3, 4, 4, 4, 4, 4, 4, 4, 4, 5, 5, 5, 5, 5, 5, 5, 5, 5, 5, 5, 5, 5, 5, 5, 5, 6, 6, 6, 6, 6, 6, 6, 6, 6, 6, 6, 6, 6, 6, 6, 6, 6, 6, 6, 6, 6, 6, 6, 6, 6, 6, 6, 6, 6, 6, 6, 6, 7, 7, 7, 7, 7, 7, 7, 7, 7, 7, 7, 7, 7, 7, 7, 7, 7, 7, 7, 7, 7, 7, 7, 7, 7, 7, 7, 7, 7, 7, 7, 7, 7, 7, 7, 7, 7, 7, 7, 7, 7, 7, 7, 7, 7, 7, 7, 7, 7, 7, 7, 7, 7, 7, 7, 7, 7, 7, 7, 7, 7, 7, 7, 7, 8, 8, 8, 8, 8, 8, 8, 8, 8, 8, 8, 8, 8, 8, 8, 8, 8, 8, 8, 8, 8, 8, 8, 8, 8, 8, 8, 8, 8, 8, 8, 8, 8, 8, 8, 8, 8, 8, 8, 8, 8, 8, 8, 8, 8, 8, 8, 8, 8, 8, 8, 8, 8, 8, 8, 8, 8, 8, 8, 8, 8, 8, 8, 8, 8, 8, 8, 8, 8, 8, 8, 8, 8, 8, 8, 8, 8, 8, 8, 8, 8, 8, 8, 8, 8, 8, 8, 8, 8, 8, 8, 8, 8, 8, 8, 8, 8, 8, 8, 8, 8, 8, 8, 8, 8, 8, 8, 8, 8, 8, 8, 8, 8, 8, 8, 8, 8, 8, 8, 8, 8, 8, 8, 8, 8, 8, 8, 8]).data.getD (Int.toNat (IntKind.u8.wrap (sShr .u64 j2.2 8))) 0).toNat : Int)) <| .ret 5 (IntKind.i64.wrap ((IntKind.i64.wrap (j2.1 + 8)) + (IntKind.i64.wrap (((ByteArray.mk #[0, 1, 2, 2, 3, 3, 3, 3, 4, 4, 4, 4, 4, 4, 4, 4, 5, 5, 5, 5, 5, 5, 5, 5, 5, 5, 5, 5, 5, 5, 5, 5, 6, 6, 6, 6, 6, 6, 6, 6, 6, 6, 6, 6, 6, 6, 6, 6, 6, 6, 6, 6, 6, 6, 6, 6, 6, 6, 6, 6, 6, 6, 6, 6, 7, 7, 7, 7, 7, 7, 7, 7, 7, 7, 7, 7, 7, 7, 7, 7, 7, 7, 7, 7, 7, 7, 7, 7, 7, 7, 7, 7, 7, 7, 7, 7, 7, 7, 7, 7, 7, 7, 7, 7, 7, 7, 7, 7, 7, 7, 7, 7, 7, 7, 7, 7, 7, 7, 7, 7, 7, 7, 7, 7, 7, 7, 7, 7, 8, 8, 8, 8, 8, 8, 8, 8, 8, 8, 8, 8, 8, 8, 8, 8, 8, 8, 8, 8, 8, 8, 8, 8, 8, 8, 8, 8, 8, 8, 8, 8, 8, 8, 8, 8, 8, 8, 8, 8, 8, 8, 8, 8, 8, 8, 8, 8, 8, 8, 8, 8, 8, 8, 8, 8, 8, 8, 8, 8, 8, 8, 8, 8, 8, 8, 8, 8, 8, 8, 8, 8, 8, 8, 8, 8, 8, 8, 8, 8, 8, 8, 8, 8, 8, 8, 8, 8, 8, 8, 8, 8, 8, 8, 8, 8, 8, 8, 8, 8, 8, 8, 8, 8, 8, 8, 8, 8, 8, 8, 8, 8, 8, 8, 8, 8, 8, 8, 8, 8, 8, 8, 8, 8, 8, 8, 8, 8]).data.getD (Int.toNat (IntKind.u8.wrap (sShr .u64 j2.2 8))) 0).toNat : Int)))))
 (.rd 7 (0 ≤ (IntKind.u8.wrap j2.2) ∧ (IntKind.u8.wrap j2.2) < ((ByteArray.mk #[0, 1, 2, 2, 3, 3, 3, 3, 4, 4, 4, 4, 4, 4, 4, 4, 5, 5, 5, 5, 5, 5, 5, 5, 5, 5, 5, 5, 5, 5, 5, 5, 6, 6, 6, 6, 6, 6, 6, 6, 6, 6, 6, 6, 6, 6, 6, 6, 6, 6, 6, 6, 6, 6, 6, 6, 6, 6, 6, 6, 6, 6, 6, 6, 7, 7, 7, 7, 7, 7, 7, 7, 7, 7, 7, 7, 7, 7, 7, 7, 7, 7, 7, 7, 7, 7, 7, 7, 7, 7, 7, 7, 7, 7, 7, 7, 7, 7, 7, 7, 7, 7, 7, 7, 7, 7, 7, 7, 7, 7, 7, 7, 7, 7, 7, 7, 7, 7, 7, 7, 7, 7, 7, 7, 7, 7, 7, 7, 8, 8, 8, 8, 8, 8, 8, 8, 8, 8, 8, 8, 8, 8, 8, 8, 8, 8, 8, 8, 8, 8, 8, 8, 8, 8, 8, 8, 8, 8, 8, 8, 8, 8, 8, 8, 8, 8, 8, 8, 8, 8, 8, 8, 8, 8, 8, 8, 8, 8, 8, 8, 8, 8, 8, 8, 8, 8, 8, 8, 8, 8, 8, 8, 8, 8, 8, 8, 8, 8, 8, 8, 8, 8, 8, 8, 8, 8, 8, 8, 8, 8, 8, 8, 8, 8, 8, 8, 8, 8, 8, 8, 8, 8, 8, 8, 8, 8, 8, 8, 8, 8, 8, 8, 8, 8, 8, 8, 8, 8, 8, 8, 8, 8, 8, 8, 8, 8, 8, 8, 8, 8, 8, 8, 8, 8, 8, 8]).size : Int)) (nY (((ByteArray.mk #[0, 1, 2, 2, 3, 3, 3, 3, 4, 4, 4, 4, 4, 4, 4, 4, 5, 5, 5, 5, 5, 5, 5, 5, 5, 5, 5, 5, 5, 5, 5, 5, 6, 6, 6, 6, 6, 6, 6, 6, 6, 6, 6, 6, 6, 6, 6, 6, 6, 6, 6, 6, 6, 6, 6, 6, 6, 6, 6, 6, 6, 6, 6, 6, 7, 7, 7, 7, 7, 7, 7, 7, 7, 7, 7, 7, 7, 7, 7, 7, 7, 7, 7, 7, 7, 7, 7, 7, 7, 7, 7, 7, 7, 7, 7, 7, 7, 7, 7, 7, 7, 7, 7, 7, 7, 7, 7, 7, 7, 7, 7, 7, 7, 7, 7, 7, 7, 7, 7, 7, 7, 7, 7, 7, 7, 7, 7, 7, 8, 8, 8, 8, 8, 8, 8, 8, 8, 8, 8, 8, 8, 8, 8, 8, 8, 8, 8, 8, 8, 8, 8, 8, 8, 8, 8, 8, 8, 8, 8, 8, 8, 8, 8, 8, 8, 8, 8, 8, 8, 8, 8, 8, 8, 8, 8, 8, 8, 8, 8, 8, 8, 8, 8, 8, 8, 8, 8, 8, 8, 8, 8, 8, 8, 8, 8, 8, 8, 8, 8, 8, 8, 8, 8, 8, 8, 8, 8, 8, 8, 8, 8, 8, 8, 8, 8, 8, 8, 8, 8, 8, 8, 8, 8, 8, 8, 8, 8, 8, 8, 8, 8, 8, 8, 8, 8, 8, 8, 8, 8, 8, 8, 8, 8, 8, 8, 8, 8, 8, 8, 8, 8, 8, 8, 8, 8, 8]).data.getD (Int.toNat (IntKind.u8.wrap j2.2)) 0).toNat : Int)) <| .ret 5 (IntKind.i64.wrap (j2.1 + (IntKind.i64.wrap (((ByteArray.mk #[0, 1, 2, 2, 3, 3, 3, 3, 4, 4, 4, 4, 4, 4, 4, 4, 5, 5, 5, 5, 5, 5, 5, 5, 5, 5, 5, 5, 5, 5, 5, 5, 6, 6, 6, 6, 6, 6, 6, 6, 6, 6, 6, 6, 6, 6, 6, 6, 6, 6, 6, 6, 6, 6, 6, 6, 6, 6, 6, 6, 6, 6, 6, 6, 7, 7, 7, 7, 7, 7, 7, 7, 7, 7, 7, 7, 7, 7, 7, 7, 7, 7, 7, 7, 7, 7, 7, 7, 7, 7, 7, 7, 7, 7, 7, 7, 7, 7, 7, 7, 7, 7, 7, 7, 7, 7, 7, 7, 7, 7, 7, 7, 7, 7, 7, 7, 7, 7, 7, 7, 7, 7, 7, 7, 7, 7, 7, 7, 8, 8, 8, 8, 8, 8, 8, 8, 8, 8, 8, 8, 8, 8, 8, 8, 8, 8, 8, 8, 8, 8, 8, 8, 8, 8, 8, 8, 8, 8, 8, 8, 8, 8, 8, 8, 8, 8, 8, 8, 8, 8, 8, 8, 8, 8, 8, 8, 8, 8, 8, 8, 8, 8, 8, 8, 8, 8, 8, 8, 8, 8, 8, 8, 8, 8, 8, 8, 8, 8, 8, 8, 8, 8, 8, 8, 8, 8, 8, 8, 8, 8, 8, 8, 8, 8, 8, 8, 8, 8, 8, 8, 8, 8, 8, 8, 8, 8, 8, 8, 8, 8, 8, 8, 8, 8, 8, 8, 8, 8, 8, 8, 8, 8, 8, 8, 8, 8, 8, 8, 8, 8, 8, 8, 8, 8, 8, 8]).data.getD (Int.toNat (IntKind.u8.wrap j2.2)) 0).toNat : Int)))))
noncomputable def s_math_bits_Len64 (a0 : Int) : Sg Tryz.prog Int := ⟨120, M_math_bits_Len64 a0, [.int .u64 a0], en_math_bits_Len64⟩
theorem ok_math_bits_Len64 (a0 : Int) : (s_math_bits_Len64 a0).Holds := Tr.fn (F := F_math_bits_Len64) (t_math_bits_Len64 a0) (by kernel_rfl) (by kernel_rfl) (by kernel_rfl) (by kernel_rfl)
/-- thrum/plane.Width. -/
def en_plane_Width (v : Int) : PV := nI v
noncomputable abbrev F_plane_Width : Fe := .of Tryz.prog 86 en_plane_Width
theorem nl_plane_Width : ∀ v, (en_plane_Width v).noLst := fun _ => trivial
noncomputable def t_plane_Width (a0 : Int) : Tr F_plane_Width Empty Int :=
 .call 7 (ok_math_bits_Len64 a0) nl_math_bits_Len64 fun r1 => .ret 3 r1
noncomputable def s_plane_Width (a0 : Int) : Sg Tryz.prog Int := ⟨86, M_plane_Width a0, [.int .u64 a0], en_plane_Width⟩
theorem ok_plane_Width (a0 : Int) : (s_plane_Width a0).Holds := Tr.fn (F := F_plane_Width) (t_plane_Width a0) (by kernel_rfl) (by kernel_rfl) (by kernel_rfl) (by kernel_rfl)
/-- thrum/frame.bare$1. -/
def en_frame_bare_1_c (v : Bool) : PV := bB v
noncomputable abbrev F_frame_bare_1_c : Fe := .of Tryz.prog 85 en_frame_bare_1_c
theorem nl_frame_bare_1_c : ∀ v, (en_frame_bare_1_c v).noLst := fun _ => trivial
noncomputable def t_frame_bare_1_c (a0 : Int) (a1 : Int) (a2 : Int) (a3 : List Int) (a4 : List Int) (a5 : Int) (a6 : Int) (a7 : List Int) (a8 : List Bool) : Tr F_frame_bare_1_c Empty Bool :=
 .call 9 (ok_plane_Width a0) nl_plane_Width fun r1 => .hold 1 [] <| .ret 5 (decide (r1 > a6))
noncomputable def s_frame_bare_1_c (a0 : Int) (a1 : Int) (a2 : Int) (a3 : List Int) (a4 : List Int) (a5 : Int) (a6 : Int) (a7 : List Int) (a8 : List Bool) : Sg Tryz.prog Bool := ⟨85, M_frame_bare_1_c a0 a1 a2 a3 a4 a5 a6 a7 a8, [.int .u64 a0, .cp [.int .i64 a1, .int .i64 a2, .lst (List.map (D.int .i64) a3), .lst (List.map (D.int .i64) a4), .int .i64 a5, .int .i64 a6, .lst (List.map (D.int .u64) a7), .lst (List.map D.bool a8)] 0], en_frame_bare_1_c⟩
theorem ok_frame_bare_1_c (a0 : Int) (a1 : Int) (a2 : Int) (a3 : List Int) (a4 : List Int) (a5 : Int) (a6 : Int) (a7 : List Int) (a8 : List Bool) : (s_frame_bare_1_c a0 a1 a2 a3 a4 a5 a6 a7 a8).Holds := Tr.fn (F := F_frame_bare_1_c) (t_frame_bare_1_c a0 a1 a2 a3 a4 a5 a6 a7 a8) (by kernel_rfl) (by kernel_rfl) (by kernel_rfl) (by kernel_rfl)
/-- slices.IndexFunc[[]uint64,uint64]. -/
def en_slices_IndexFunc_uint64_uint64_frame_bare_1 (v : Int) : PV := nI v
noncomputable abbrev F_slices_IndexFunc_uint64_uint64_frame_bare_1 : Fe := .of Tryz.prog 119 en_slices_IndexFunc_uint64_uint64_frame_bare_1
def S_slices_IndexFunc_uint64_uint64_frame_bare_1_l0 (a0 : List Int) (a1 : Int) (a2 : Int) (a3 : List Int) (a4 : List Int) (a5 : Int) (a6 : Int) (a7 : List Int) (a8 : List Bool) (x0 : Int) : St := ⟨[(8, nI x0), (7, nI (a0.length : Int)), (0, lU a0), (1, .d (.clo (.func 85) [] [.cp [.int .i64 a1, .int .i64 a2, .lst (List.map (D.int .i64) a3), .lst (List.map (D.int .i64) a4), .int .i64 a5, .int .i64 a6, .lst (List.map (D.int .u64) a7), .lst (List.map D.bool a8)] 0]))], []⟩
def E_slices_IndexFunc_uint64_uint64_frame_bare_1_l0 (a0 : List Int) (a1 : Int) (a2 : Int) (a3 : List Int) (a4 : List Int) (a5 : Int) (a6 : Int) (a7 : List Int) (a8 : List Bool) (x : Unit) : St := ⟨[], []⟩
noncomputable def t_slices_IndexFunc_uint64_uint64_frame_bare_1_l0 (a0 : List Int) (a1 : Int) (a2 : Int) (a3 : List Int) (a4 : List Int) (a5 : Int) (a6 : Int) (a7 : List Int) (a8 : List Bool) (x0 : Int) : Tr F_slices_IndexFunc_uint64_uint64_frame_bare_1 Int (Sum Int Unit) :=
 .ite 6 9 (x0 < (a0.length : Int))
 (.idx 14 eU a0 x0 <| .call 1 (ok_frame_bare_1_c (at' a0 x0) a1 a2 a3 a4 a5 a6 a7 a8) nl_frame_bare_1_c fun r1 => .iteB 1 16 (r1)
 (.ret 10 (.inl x0))
 (.again 7 (IntKind.i64.wrap (x0 + 1))))
 (.ret 4 (.inr ()))
theorem ok_slices_IndexFunc_uint64_uint64_frame_bare_1_l0 (a0 : List Int) (a1 : Int) (a2 : Int) (a3 : List Int) (a4 : List Int) (a5 : Int) (a6 : Int) (a7 : List Int) (a8 : List Bool) (x0 : Int) : Ok (M_slices_IndexFunc_uint64_uint64_frame_bare_1_l0 a0 a1 a2 a3 a4 a5 a6 a7 a8 x0) fun v => go Tryz.prog F_slices_IndexFunc_uint64_uint64_frame_bare_1.N (PostR (fun r => Fnl F_slices_IndexFunc_uint64_uint64_frame_bare_1.res (F_slices_IndexFunc_uint64_uint64_frame_bare_1.en r) (F_slices_IndexFunc_uint64_uint64_frame_bare_1.bx r)) (.exit 0) (E_slices_IndexFunc_uint64_uint64_frame_bare_1_l0 a0 a1 a2 a3 a4 a5 a6 a7 a8) v) [.l (lpA Tryz.prog 119 0)] .norm (S_slices_IndexFunc_uint64_uint64_frame_bare_1_l0 a0 a1 a2 a3 a4 a5 a6 a7 a8 x0) := by
 refine M_slices_IndexFunc_uint64_uint64_frame_bare_1_l0.partial_correctness a0 a1 a2 a3 a4 a5 a6 a7 a8 (fun x0 v => go Tryz.prog F_slices_IndexFunc_uint64_uint64_frame_bare_1.N (PostR (fun r => Fnl F_slices_IndexFunc_uint64_uint64_frame_bare_1.res (F_slices_IndexFunc_uint64_uint64_frame_bare_1.en r) (F_slices_IndexFunc_uint64_uint64_frame_bare_1.bx r)) (.exit 0) (E_slices_IndexFunc_uint64_uint64_frame_bare_1_l0 a0 a1 a2 a3 a4 a5 a6 a7 a8) v) [.l (lpA Tryz.prog 119 0)] .norm (S_slices_IndexFunc_uint64_uint64_frame_bare_1_l0 a0 a1 a2 a3 a4 a5 a6 a7 a8 x0)) ?_ x0
 clear x0
 intro f IH x0
 exact Tr.lpR (F := F_slices_IndexFunc_uint64_uint64_frame_bare_1) (S := fun x => S_slices_IndexFunc_uint64_uint64_frame_bare_1_l0 a0 a1 a2 a3 a4 a5 a6 a7 a8 x) (S' := E_slices_IndexFunc_uint64_uint64_frame_bare_1_l0 a0 a1 a2 a3 a4 a5 a6 a7 a8) (t_slices_IndexFunc_uint64_uint64_frame_bare_1_l0 a0 a1 a2 a3 a4 a5 a6 a7 a8 x0) (fun x => f x) (fun x r h => IH x r h) (by kernel_rfl) (by kernel_rfl)
theorem nl_slices_IndexFunc_uint64_uint64_frame_bare_1 : ∀ v, (en_slices_IndexFunc_uint64_uint64_frame_bare_1 v).noLst := fun _ => trivial
noncomputable def t_slices_IndexFunc_uint64_uint64_frame_bare_1 (a0 : List Int) (a1 : Int) (a2 : Int) (a3 : List Int) (a4 : List Int) (a5 : Int) (a6 : Int) (a7 : List Int) (a8 : List Bool) : Tr F_slices_IndexFunc_uint64_uint64_frame_bare_1 Empty Int :=
 .len 8 eU a0 <| .loopR 4 id ⟨_, _, _, _, _, ok_slices_IndexFunc_uint64_uint64_frame_bare_1_l0 a0 a1 a2 a3 a4 a5 a6 a7 a8 0⟩ fun j2 => .ret 6 (-1)
noncomputable def s_slices_IndexFunc_uint64_uint64_frame_bare_1 (a0 : List Int) (a1 : Int) (a2 : Int) (a3 : List Int) (a4 : List Int) (a5 : Int) (a6 : Int) (a7 : List Int) (a8 : List Bool) : Sg Tryz.prog Int := ⟨119, M_slices_IndexFunc_uint64_uint64_frame_bare_1 a0 a1 a2 a3 a4 a5 a6 a7 a8, [.lst (List.map (D.int .u64) a0), .clo (.func 85) [] [.cp [.int .i64 a1, .int .i64 a2, .lst (List.map (D.int .i64) a3), .lst (List.map (D.int .i64) a4), .int .i64 a5, .int .i64 a6, .lst (List.map (D.int .u64) a7), .lst (List.map D.bool a8)] 0]], en_slices_IndexFunc_uint64_uint64_frame_bare_1⟩
theorem ok_slices_IndexFunc_uint64_uint64_frame_bare_1 (a0 : List Int) (a1 : Int) (a2 : Int) (a3 : List Int) (a4 : List Int) (a5 : Int) (a6 : Int) (a7 : List Int) (a8 : List Bool) : (s_slices_IndexFunc_uint64_uint64_frame_bare_1 a0 a1 a2 a3 a4 a5 a6 a7 a8).Holds := Tr.fn (F := F_slices_IndexFunc_uint64_uint64_frame_bare_1) (t_slices_IndexFunc_uint64_uint64_frame_bare_1 a0 a1 a2 a3 a4 a5 a6 a7 a8) (by kernel_rfl) (by kernel_rfl) (by kernel_rfl) (by kernel_rfl)
/-- slices.ContainsFunc[[]uint64,uint64]. -/
def en_slices_ContainsFunc_uint64_uint64_frame_bare_1 (v : Bool) : PV := bB v
noncomputable abbrev F_slices_ContainsFunc_uint64_uint64_frame_bare_1 : Fe := .of Tryz.prog 84 en_slices_ContainsFunc_uint64_uint64_frame_bare_1
theorem nl_slices_ContainsFunc_uint64_uint64_frame_bare_1 : ∀ v, (en_slices_ContainsFunc_uint64_uint64_frame_bare_1 v).noLst := fun _ => trivial
noncomputable def t_slices_ContainsFunc_uint64_uint64_frame_bare_1 (a0 : List Int) (a1 : Int) (a2 : Int) (a3 : List Int) (a4 : List Int) (a5 : Int) (a6 : Int) (a7 : List Int) (a8 : List Bool) : Tr F_slices_ContainsFunc_uint64_uint64_frame_bare_1 Empty Bool :=
 .call 8 (ok_slices_IndexFunc_uint64_uint64_frame_bare_1 a0 a1 a2 a3 a4 a5 a6 a7 a8) nl_slices_IndexFunc_uint64_uint64_frame_bare_1 fun r1 => .ret 4 (decide (r1 ≥ 0))
noncomputable def s_slices_ContainsFunc_uint64_uint64_frame_bare_1 (a0 : List Int) (a1 : Int) (a2 : Int) (a3 : List Int) (a4 : List Int) (a5 : Int) (a6 : Int) (a7 : List Int) (a8 : List Bool) : Sg Tryz.prog Bool := ⟨84, M_slices_ContainsFunc_uint64_uint64_frame_bare_1 a0 a1 a2 a3 a4 a5 a6 a7 a8, [.lst (List.map (D.int .u64) a0), .clo (.func 85) [] [.cp [.int .i64 a1, .int .i64 a2, .lst (List.map (D.int .i64) a3), .lst (List.map (D.int .i64) a4), .int .i64 a5, .int .i64 a6, .lst (List.map (D.int .u64) a7), .lst (List.map D.bool a8)] 0]], en_slices_ContainsFunc_uint64_uint64_frame_bare_1⟩
theorem ok_slices_ContainsFunc_uint64_uint64_frame_bare_1 (a0 : List Int) (a1 : Int) (a2 : Int) (a3 : List Int) (a4 : List Int) (a5 : Int) (a6 : Int) (a7 : List Int) (a8 : List Bool) : (s_slices_ContainsFunc_uint64_uint64_frame_bare_1 a0 a1 a2 a3 a4 a5 a6 a7 a8).Holds := Tr.fn (F := F_slices_ContainsFunc_uint64_uint64_frame_bare_1) (t_slices_ContainsFunc_uint64_uint64_frame_bare_1 a0 a1 a2 a3 a4 a5 a6 a7 a8) (by kernel_rfl) (by kernel_rfl) (by kernel_rfl) (by kernel_rfl)
/-- thrum/frame.bare. -/
def en_frame_bare (v : Int × Int × (List Int) × (List Int) × Int × Int × (List Int) × (List Bool) × Bool) : PV := .tup [.d (.agg [.int .i64 v.1, .int .i64 v.2.1, .lst (List.map (D.int .i64) v.2.2.1), .lst (List.map (D.int .i64) v.2.2.2.1), .int .i64 v.2.2.2.2.1, .int .i64 v.2.2.2.2.2.1, .lst (List.map (D.int .u64) v.2.2.2.2.2.2.1), .lst (List.map D.bool v.2.2.2.2.2.2.2.1)]), bB v.2.2.2.2.2.2.2.2]
noncomputable abbrev F_frame_bare : Fe := .of Tryz.prog 43 en_frame_bare
noncomputable def t_frame_bare (a0 : T_api_Sent) : Tr F_frame_bare Empty (Int × Int × (List Int) × (List Int) × Int × Int × (List Int) × (List Bool) × Bool) :=
 .join 25 4 (γ := Bool) ⟨fun x => [(16, bB x)], [4, 2, 1], fun _ => [], [.s 1631, .s 31, .s 15]⟩
 (.ite 0 12 (a0.F_Dim > 0)
 (.ret 5 (decide (a0.F_Dim ≤ 4096)))
 (.ret 5 false))
 fun j1 => .ite 26 19 (a0.F_Scheme = 0)
 (.join 10 7 (γ := Bool) ⟨fun x => [(35, bB x)], [4, 2], fun _ => [], [.s 1631, .s 31]⟩
 (.iteB 0 28 (j1)
 (.len 2 eI a0.F_V <| .ret 5 ((a0.F_V.length : Int) == a0.F_Dim))
 (.ret 8 false))
 fun j2 => .ret 24 (0, 0, a0.F_L, [], a0.F_Scale, a0.F_Wide, a0.F_Lev, a0.F_Neg, j2))
 (.ite 8 21 (a0.F_Scheme = 1)
 (.join 12 7 (γ := Bool) ⟨fun x => [(45, bB x)], [4, 2, 1], fun _ => [], [.s 1631, .s 31, .s 15]⟩
 (.iteB 0 38 (j1)
 (.call 4 (ok_index_Check a0.F_Dim a0.F_L) nl_index_Check fun r3 => .ret 3 (r3 == 0))
 (.ret 8 false))
 fun j4 => .join 1 8 (γ := Bool) ⟨fun x => [(54, bB x)], [4, 2], fun _ => [], [.s 1631, .s 31]⟩
 (.iteB 0 46 (j4)
 (.len 2 eI a0.F_L <| .len 2 eI a0.F_V <| .ret 3 ((a0.F_L.length : Int) == (a0.F_V.length : Int)))
 (.ret 9 false))
 fun j5 => .ret 24 (0, 0, [], [], a0.F_Scale, a0.F_Wide, a0.F_Lev, a0.F_Neg, j5))
 (.ite 8 23 (a0.F_Scheme = 2)
 (.join 13 4 (γ := Bool) ⟨fun x => [(62, bB x)], [4, 2, 1], fun _ => [], [.s 1631, .s 31, .s 15]⟩
 (.iteB 0 58 (j1)
 (.ret 5 (decide (a0.F_Wide > 0)))
 (.ret 5 false))
 fun j6 => .join 1 4 (γ := Bool) ⟨fun x => [(67, bB x)], [4, 2, 1], fun _ => [], [.s 1631, .s 31, .s 15]⟩
 (.iteB 0 63 (j6)
 (.ret 5 (decide (a0.F_Wide ≤ 8)))
 (.ret 5 false))
 fun j7 => .join 1 7 (γ := Bool) ⟨fun x => [(75, bB x)], [4, 2, 1], fun _ => [], [.s 1631, .s 31, .s 15]⟩
 (.iteB 0 68 (j7)
 (.len 2 eU a0.F_Lev <| .ret 5 ((a0.F_Lev.length : Int) == a0.F_Dim))
 (.ret 8 false))
 fun j8 => .join 1 6 (γ := Bool) ⟨fun x => [(82, bB x)], [4, 2, 1], fun _ => [], [.s 1631, .s 31, .s 15]⟩
 (.iteB 0 76 (j8)
 (.call 3 (ok_slices_ContainsFunc_uint64_uint64_frame_bare_1 a0.F_Lev a0.F_Scheme a0.F_Dim a0.F_L a0.F_V a0.F_Scale a0.F_Wide a0.F_Lev a0.F_Neg) nl_slices_ContainsFunc_uint64_uint64_frame_bare_1 fun r9 => .ret 3 (!r9))
 (.ret 7 false))
 fun j10 => .join 14 4 (γ := Bool) ⟨fun x => [(90, bB x)], [4, 2, 1], fun _ => [], [.s 1631, .s 31, .s 15]⟩
 (.iteB 0 86 (j10)
 (.ret 5 (decide (a0.F_Scale ≥ 0)))
 (.ret 5 false))
 fun j11 => .join 1 7 (γ := Bool) ⟨fun x => [(98, bB x)], [4, 2], fun _ => [], [.s 1631, .s 31]⟩
 (.iteB 0 91 (j11)
 (.len 2 eB a0.F_Neg <| .ret 5 ((a0.F_Neg.length : Int) == a0.F_Dim))
 (.ret 8 false))
 fun j12 => .ret 20 (0, 0, a0.F_L, a0.F_V, 0, 0, [], [], j12))
 (.ite 7 25 (a0.F_Scheme = 3)
 (.join 15 4 (γ := Bool) ⟨fun x => [(90, bB x)], [4, 2, 1], fun _ => [], [.s 1631, .s 31, .s 15]⟩
 (.iteB 0 86 (j1)
 (.ret 5 (decide (a0.F_Scale ≥ 0)))
 (.ret 5 false))
 fun j13 => .join 1 7 (γ := Bool) ⟨fun x => [(98, bB x)], [4, 2], fun _ => [], [.s 1631, .s 31]⟩
 (.iteB 0 91 (j13)
 (.len 2 eB a0.F_Neg <| .ret 5 ((a0.F_Neg.length : Int) == a0.F_Dim))
 (.ret 8 false))
 fun j14 => .ret 20 (0, 0, a0.F_L, a0.F_V, 0, a0.F_Wide, a0.F_Lev, [], j14))
 (.ret 26 (0, 0, a0.F_L, a0.F_V, a0.F_Scale, a0.F_Wide, a0.F_Lev, a0.F_Neg, false)))))
noncomputable def s_frame_bare (a0 : T_api_Sent) : Sg Tryz.prog (Int × Int × (List Int) × (List Int) × Int × Int × (List Int) × (List Bool) × Bool) := ⟨43, M_frame_bare a0, [.agg [.int .i64 a0.F_Scheme, .int .i64 a0.F_Dim, .lst (List.map (D.int .i64) a0.F_L), .lst (List.map (D.int .i64) a0.F_V), .int .i64 a0.F_Scale, .int .i64 a0.F_Wide, .lst (List.map (D.int .u64) a0.F_Lev), .lst (List.map D.bool a0.F_Neg)]], en_frame_bare⟩
theorem ok_frame_bare (a0 : T_api_Sent) : (s_frame_bare a0).Holds := Tr.fn (F := F_frame_bare) (t_frame_bare a0) (by kernel_rfl) (by kernel_rfl) (by kernel_rfl) (by kernel_rfl)
/-- slices.Equal[[]int,int]. -/
def en_slices_Equal_int_int (v : Bool) : PV := bB v
noncomputable abbrev F_slices_Equal_int_int : Fe := .of Tryz.prog 87 en_slices_Equal_int_int
def S_slices_Equal_int_int_l0 (a0 : List Int) (a1 : List Int) (x0 : Int) : St := ⟨[(13, nI x0), (12, nI (a0.length : Int)), (0, lI a0), (1, lI a1)], []⟩
def E_slices_Equal_int_int_l0 (a0 : List Int) (a1 : List Int) (x : Unit) : St := ⟨[], []⟩
noncomputable def t_slices_Equal_int_int_l0 (a0 : List Int) (a1 : List Int) (x0 : Int) : Tr F_slices_Equal_int_int Int (Sum Bool Unit) :=
 .ite 6 14 (x0 < (a0.length : Int))
 (.idx 13 eI a0 x0 <| .idx 3 eI a1 x0 <| .iteN 3 24 ((at' a0 x0) = (at' a1 x0))
 (.ret 9 (.inl false))
 (.again 7 (IntKind.i64.wrap (x0 + 1))))
 (.ret 4 (.inr ()))
theorem ok_slices_Equal_int_int_l0 (a0 : List Int) (a1 : List Int) (x0 : Int) : Ok (M_slices_Equal_int_int_l0 a0 a1 x0) fun v => go Tryz.prog F_slices_Equal_int_int.N (PostR (fun r => Fnl F_slices_Equal_int_int.res (F_slices_Equal_int_int.en r) (F_slices_Equal_int_int.bx r)) (.exit 0) (E_slices_Equal_int_int_l0 a0 a1) v) [.l (lpA Tryz.prog 87 0)] .norm (S_slices_Equal_int_int_l0 a0 a1 x0) := by
 refine M_slices_Equal_int_int_l0.partial_correctness a0 a1 (fun x0 v => go Tryz.prog F_slices_Equal_int_int.N (PostR (fun r => Fnl F_slices_Equal_int_int.res (F_slices_Equal_int_int.en r) (F_slices_Equal_int_int.bx r)) (.exit 0) (E_slices_Equal_int_int_l0 a0 a1) v) [.l (lpA Tryz.prog 87 0)] .norm (S_slices_Equal_int_int_l0 a0 a1 x0)) ?_ x0
 clear x0
 intro f IH x0
 exact Tr.lpR (F := F_slices_Equal_int_int) (S := fun x => S_slices_Equal_int_int_l0 a0 a1 x) (S' := E_slices_Equal_int_int_l0 a0 a1) (t_slices_Equal_int_int_l0 a0 a1 x0) (fun x => f x) (fun x r h => IH x r h) (by kernel_rfl) (by kernel_rfl)
theorem nl_slices_Equal_int_int : ∀ v, (en_slices_Equal_int_int v).noLst := fun _ => trivial
noncomputable def t_slices_Equal_int_int (a0 : List Int) (a1 : List Int) : Tr F_slices_Equal_int_int Empty Bool :=
 .len 8 eI a0 <| .len 1 eI a1 <| .iteN 2 10 ((a0.length : Int) = (a1.length : Int))
 (.ret 7 false)
 (.len 6 eI a0 <| .loopR 4 id ⟨_, _, _, _, _, ok_slices_Equal_int_int_l0 a0 a1 0⟩ fun j1 => .ret 6 true)
noncomputable def s_slices_Equal_int_int (a0 : List Int) (a1 : List Int) : Sg Tryz.prog Bool := ⟨87, M_slices_Equal_int_int a0 a1, [.lst (List.map (D.int .i64) a0), .lst (List.map (D.int .i64) a1)], en_slices_Equal_int_int⟩
theorem ok_slices_Equal_int_int (a0 : List Int) (a1 : List Int) : (s_slices_Equal_int_int a0 a1).Holds := Tr.fn (F := F_slices_Equal_int_int) (t_slices_Equal_int_int a0 a1) (by kernel_rfl) (by kernel_rfl) (by kernel_rfl) (by kernel_rfl)
/-- slices.Equal[[]int64,int64]. -/
def en_slices_Equal_int64_int64 (v : Bool) : PV := bB v
noncomputable abbrev F_slices_Equal_int64_int64 : Fe := .of Tryz.prog 88 en_slices_Equal_int64_int64
def S_slices_Equal_int64_int64_l0 (a0 : List Int) (a1 : List Int) (x0 : Int) : St := ⟨[(13, nI x0), (12, nI (a0.length : Int)), (0, lI a0), (1, lI a1)], []⟩
def E_slices_Equal_int64_int64_l0 (a0 : List Int) (a1 : List Int) (x : Unit) : St := ⟨[], []⟩
noncomputable def t_slices_Equal_int64_int64_l0 (a0 : List Int) (a1 : List Int) (x0 : Int) : Tr F_slices_Equal_int64_int64 Int (Sum Bool Unit) :=
 .ite 6 14 (x0 < (a0.length : Int))
 (.idx 13 eI a0 x0 <| .idx 3 eI a1 x0 <| .iteN 3 24 ((at' a0 x0) = (at' a1 x0))
 (.ret 9 (.inl false))
 (.again 7 (IntKind.i64.wrap (x0 + 1))))
 (.ret 4 (.inr ()))
theorem ok_slices_Equal_int64_int64_l0 (a0 : List Int) (a1 : List Int) (x0 : Int) : Ok (M_slices_Equal_int64_int64_l0 a0 a1 x0) fun v => go Tryz.prog F_slices_Equal_int64_int64.N (PostR (fun r => Fnl F_slices_Equal_int64_int64.res (F_slices_Equal_int64_int64.en r) (F_slices_Equal_int64_int64.bx r)) (.exit 0) (E_slices_Equal_int64_int64_l0 a0 a1) v) [.l (lpA Tryz.prog 88 0)] .norm (S_slices_Equal_int64_int64_l0 a0 a1 x0) := by
 refine M_slices_Equal_int64_int64_l0.partial_correctness a0 a1 (fun x0 v => go Tryz.prog F_slices_Equal_int64_int64.N (PostR (fun r => Fnl F_slices_Equal_int64_int64.res (F_slices_Equal_int64_int64.en r) (F_slices_Equal_int64_int64.bx r)) (.exit 0) (E_slices_Equal_int64_int64_l0 a0 a1) v) [.l (lpA Tryz.prog 88 0)] .norm (S_slices_Equal_int64_int64_l0 a0 a1 x0)) ?_ x0
 clear x0
 intro f IH x0
 exact Tr.lpR (F := F_slices_Equal_int64_int64) (S := fun x => S_slices_Equal_int64_int64_l0 a0 a1 x) (S' := E_slices_Equal_int64_int64_l0 a0 a1) (t_slices_Equal_int64_int64_l0 a0 a1 x0) (fun x => f x) (fun x r h => IH x r h) (by kernel_rfl) (by kernel_rfl)
theorem nl_slices_Equal_int64_int64 : ∀ v, (en_slices_Equal_int64_int64 v).noLst := fun _ => trivial
noncomputable def t_slices_Equal_int64_int64 (a0 : List Int) (a1 : List Int) : Tr F_slices_Equal_int64_int64 Empty Bool :=
 .len 8 eI a0 <| .len 1 eI a1 <| .iteN 2 10 ((a0.length : Int) = (a1.length : Int))
 (.ret 7 false)
 (.len 6 eI a0 <| .loopR 4 id ⟨_, _, _, _, _, ok_slices_Equal_int64_int64_l0 a0 a1 0⟩ fun j1 => .ret 6 true)
noncomputable def s_slices_Equal_int64_int64 (a0 : List Int) (a1 : List Int) : Sg Tryz.prog Bool := ⟨88, M_slices_Equal_int64_int64 a0 a1, [.lst (List.map (D.int .i64) a0), .lst (List.map (D.int .i64) a1)], en_slices_Equal_int64_int64⟩
theorem ok_slices_Equal_int64_int64 (a0 : List Int) (a1 : List Int) : (s_slices_Equal_int64_int64 a0 a1).Holds := Tr.fn (F := F_slices_Equal_int64_int64) (t_slices_Equal_int64_int64 a0 a1) (by kernel_rfl) (by kernel_rfl) (by kernel_rfl) (by kernel_rfl)
/-- slices.Equal[[]uint64,uint64]. -/
def en_slices_Equal_uint64_uint64 (v : Bool) : PV := bB v
noncomputable abbrev F_slices_Equal_uint64_uint64 : Fe := .of Tryz.prog 89 en_slices_Equal_uint64_uint64
def S_slices_Equal_uint64_uint64_l0 (a0 : List Int) (a1 : List Int) (x0 : Int) : St := ⟨[(13, nI x0), (12, nI (a0.length : Int)), (0, lU a0), (1, lU a1)], []⟩
def E_slices_Equal_uint64_uint64_l0 (a0 : List Int) (a1 : List Int) (x : Unit) : St := ⟨[], []⟩
noncomputable def t_slices_Equal_uint64_uint64_l0 (a0 : List Int) (a1 : List Int) (x0 : Int) : Tr F_slices_Equal_uint64_uint64 Int (Sum Bool Unit) :=
 .ite 6 14 (x0 < (a0.length : Int))
 (.idx 13 eU a0 x0 <| .idx 3 eU a1 x0 <| .iteN 3 24 ((at' a0 x0) = (at' a1 x0))
 (.ret 9 (.inl false))
 (.again 7 (IntKind.i64.wrap (x0 + 1))))
 (.ret 4 (.inr ()))
theorem ok_slices_Equal_uint64_uint64_l0 (a0 : List Int) (a1 : List Int) (x0 : Int) : Ok (M_slices_Equal_uint64_uint64_l0 a0 a1 x0) fun v => go Tryz.prog F_slices_Equal_uint64_uint64.N (PostR (fun r => Fnl F_slices_Equal_uint64_uint64.res (F_slices_Equal_uint64_uint64.en r) (F_slices_Equal_uint64_uint64.bx r)) (.exit 0) (E_slices_Equal_uint64_uint64_l0 a0 a1) v) [.l (lpA Tryz.prog 89 0)] .norm (S_slices_Equal_uint64_uint64_l0 a0 a1 x0) := by
 refine M_slices_Equal_uint64_uint64_l0.partial_correctness a0 a1 (fun x0 v => go Tryz.prog F_slices_Equal_uint64_uint64.N (PostR (fun r => Fnl F_slices_Equal_uint64_uint64.res (F_slices_Equal_uint64_uint64.en r) (F_slices_Equal_uint64_uint64.bx r)) (.exit 0) (E_slices_Equal_uint64_uint64_l0 a0 a1) v) [.l (lpA Tryz.prog 89 0)] .norm (S_slices_Equal_uint64_uint64_l0 a0 a1 x0)) ?_ x0
 clear x0
 intro f IH x0
 exact Tr.lpR (F := F_slices_Equal_uint64_uint64) (S := fun x => S_slices_Equal_uint64_uint64_l0 a0 a1 x) (S' := E_slices_Equal_uint64_uint64_l0 a0 a1) (t_slices_Equal_uint64_uint64_l0 a0 a1 x0) (fun x => f x) (fun x r h => IH x r h) (by kernel_rfl) (by kernel_rfl)
theorem nl_slices_Equal_uint64_uint64 : ∀ v, (en_slices_Equal_uint64_uint64 v).noLst := fun _ => trivial
noncomputable def t_slices_Equal_uint64_uint64 (a0 : List Int) (a1 : List Int) : Tr F_slices_Equal_uint64_uint64 Empty Bool :=
 .len 8 eU a0 <| .len 1 eU a1 <| .iteN 2 10 ((a0.length : Int) = (a1.length : Int))
 (.ret 7 false)
 (.len 6 eU a0 <| .loopR 4 id ⟨_, _, _, _, _, ok_slices_Equal_uint64_uint64_l0 a0 a1 0⟩ fun j1 => .ret 6 true)
noncomputable def s_slices_Equal_uint64_uint64 (a0 : List Int) (a1 : List Int) : Sg Tryz.prog Bool := ⟨89, M_slices_Equal_uint64_uint64 a0 a1, [.lst (List.map (D.int .u64) a0), .lst (List.map (D.int .u64) a1)], en_slices_Equal_uint64_uint64⟩
theorem ok_slices_Equal_uint64_uint64 (a0 : List Int) (a1 : List Int) : (s_slices_Equal_uint64_uint64 a0 a1).Holds := Tr.fn (F := F_slices_Equal_uint64_uint64) (t_slices_Equal_uint64_uint64 a0 a1) (by kernel_rfl) (by kernel_rfl) (by kernel_rfl) (by kernel_rfl)
/-- slices.Equal[[]bool,bool]. -/
def en_slices_Equal_bool_bool (v : Bool) : PV := bB v
noncomputable abbrev F_slices_Equal_bool_bool : Fe := .of Tryz.prog 90 en_slices_Equal_bool_bool
def S_slices_Equal_bool_bool_l0 (a0 : List Bool) (a1 : List Bool) (x0 : Int) : St := ⟨[(13, nI x0), (12, nI (a0.length : Int)), (0, lB a0), (1, lB a1)], []⟩
def E_slices_Equal_bool_bool_l0 (a0 : List Bool) (a1 : List Bool) (x : Unit) : St := ⟨[], []⟩
noncomputable def t_slices_Equal_bool_bool_l0 (a0 : List Bool) (a1 : List Bool) (x0 : Int) : Tr F_slices_Equal_bool_bool Int (Sum Bool Unit) :=
 .ite 6 14 (x0 < (a0.length : Int))
 (.idx 13 eB a0 x0 <| .idx 3 eB a1 x0 <| .iteN 3 24 ((at' a0 x0) = (at' a1 x0))
 (.ret 9 (.inl false))
 (.again 7 (IntKind.i64.wrap (x0 + 1))))
 (.ret 4 (.inr ()))
theorem ok_slices_Equal_bool_bool_l0 (a0 : List Bool) (a1 : List Bool) (x0 : Int) : Ok (M_slices_Equal_bool_bool_l0 a0 a1 x0) fun v => go Tryz.prog F_slices_Equal_bool_bool.N (PostR (fun r => Fnl F_slices_Equal_bool_bool.res (F_slices_Equal_bool_bool.en r) (F_slices_Equal_bool_bool.bx r)) (.exit 0) (E_slices_Equal_bool_bool_l0 a0 a1) v) [.l (lpA Tryz.prog 90 0)] .norm (S_slices_Equal_bool_bool_l0 a0 a1 x0) := by
 refine M_slices_Equal_bool_bool_l0.partial_correctness a0 a1 (fun x0 v => go Tryz.prog F_slices_Equal_bool_bool.N (PostR (fun r => Fnl F_slices_Equal_bool_bool.res (F_slices_Equal_bool_bool.en r) (F_slices_Equal_bool_bool.bx r)) (.exit 0) (E_slices_Equal_bool_bool_l0 a0 a1) v) [.l (lpA Tryz.prog 90 0)] .norm (S_slices_Equal_bool_bool_l0 a0 a1 x0)) ?_ x0
 clear x0
 intro f IH x0
 exact Tr.lpR (F := F_slices_Equal_bool_bool) (S := fun x => S_slices_Equal_bool_bool_l0 a0 a1 x) (S' := E_slices_Equal_bool_bool_l0 a0 a1) (t_slices_Equal_bool_bool_l0 a0 a1 x0) (fun x => f x) (fun x r h => IH x r h) (by kernel_rfl) (by kernel_rfl)
theorem nl_slices_Equal_bool_bool : ∀ v, (en_slices_Equal_bool_bool v).noLst := fun _ => trivial
noncomputable def t_slices_Equal_bool_bool (a0 : List Bool) (a1 : List Bool) : Tr F_slices_Equal_bool_bool Empty Bool :=
 .len 8 eB a0 <| .len 1 eB a1 <| .iteN 2 10 ((a0.length : Int) = (a1.length : Int))
 (.ret 7 false)
 (.len 6 eB a0 <| .loopR 4 id ⟨_, _, _, _, _, ok_slices_Equal_bool_bool_l0 a0 a1 0⟩ fun j1 => .ret 6 true)
noncomputable def s_slices_Equal_bool_bool (a0 : List Bool) (a1 : List Bool) : Sg Tryz.prog Bool := ⟨90, M_slices_Equal_bool_bool a0 a1, [.lst (List.map D.bool a0), .lst (List.map D.bool a1)], en_slices_Equal_bool_bool⟩
theorem ok_slices_Equal_bool_bool (a0 : List Bool) (a1 : List Bool) : (s_slices_Equal_bool_bool a0 a1).Holds := Tr.fn (F := F_slices_Equal_bool_bool) (t_slices_Equal_bool_bool a0 a1) (by kernel_rfl) (by kernel_rfl) (by kernel_rfl) (by kernel_rfl)
/-- thrum/frame.same. -/
def en_frame_same (v : Bool) : PV := bB v
noncomputable abbrev F_frame_same : Fe := .of Tryz.prog 44 en_frame_same
theorem nl_frame_same : ∀ v, (en_frame_same v).noLst := fun _ => trivial
noncomputable def t_frame_same (a0 : T_api_Sent) (a1 : T_api_Sent) : Tr F_frame_same Empty Bool :=
 .join 28 6 (γ := Bool) ⟨fun x => [(30, bB x)], [3, 2], fun _ => [], [.s 31, .s 15]⟩
 (.iteP 0 24 (show (([a0.F_Scheme, a0.F_Dim, a0.F_Scale, a0.F_Wide] : List Int) == [a1.F_Scheme, a1.F_Dim, a1.F_Scale, a1.F_Wide]) = decide (([a0.F_Scheme, a0.F_Dim, a0.F_Scale, a0.F_Wide] : List Int) = [a1.F_Scheme, a1.F_Dim, a1.F_Scale, a1.F_Wide]) from decL)
 (.call 4 (ok_slices_Equal_int_int a0.F_L a1.F_L) nl_slices_Equal_int_int fun r1 => .ret 2 r1)
 (.ret 7 false))
 fun j2 => .join 1 6 (γ := Bool) ⟨fun x => [(37, bB x)], [3, 2], fun _ => [], [.s 31, .s 15]⟩
 (.iteB 0 31 (j2)
 (.call 4 (ok_slices_Equal_int64_int64 a0.F_V a1.F_V) nl_slices_Equal_int64_int64 fun r3 => .ret 2 r3)
 (.ret 7 false))
 fun j4 => .join 1 6 (γ := Bool) ⟨fun x => [(44, bB x)], [3, 2], fun _ => [], [.s 31, .s 15]⟩
 (.iteB 0 38 (j4)
 (.call 4 (ok_slices_Equal_uint64_uint64 a0.F_Lev a1.F_Lev) nl_slices_Equal_uint64_uint64 fun r5 => .ret 2 r5)
 (.ret 7 false))
 fun j6 => .join 1 6 (γ := Bool) ⟨fun x => [(51, bB x)], [], fun _ => [], []⟩
 (.iteB 0 45 (j6)
 (.call 4 (ok_slices_Equal_bool_bool a0.F_Neg a1.F_Neg) nl_slices_Equal_bool_bool fun r7 => .ret 2 r7)
 (.ret 7 false))
 fun j8 => .ret 3 j8
noncomputable def s_frame_same (a0 : T_api_Sent) (a1 : T_api_Sent) : Sg Tryz.prog Bool := ⟨44, M_frame_same a0 a1, [.agg [.int .i64 a0.F_Scheme, .int .i64 a0.F_Dim, .lst (List.map (D.int .i64) a0.F_L), .lst (List.map (D.int .i64) a0.F_V), .int .i64 a0.F_Scale, .int .i64 a0.F_Wide, .lst (List.map (D.int .u64) a0.F_Lev), .lst (List.map D.bool a0.F_Neg)], .agg [.int .i64 a1.F_Scheme, .int .i64 a1.F_Dim, .lst (List.map (D.int .i64) a1.F_L), .lst (List.map (D.int .i64) a1.F_V), .int .i64 a1.F_Scale, .int .i64 a1.F_Wide, .lst (List.map (D.int .u64) a1.F_Lev), .lst (List.map D.bool a1.F_Neg)]], en_frame_same⟩
theorem ok_frame_same (a0 : T_api_Sent) (a1 : T_api_Sent) : (s_frame_same a0 a1).Holds := Tr.fn (F := F_frame_same) (t_frame_same a0 a1) (by kernel_rfl) (by kernel_rfl) (by kernel_rfl) (by kernel_rfl)
/-- thrum/frame.May. -/
def en_frame_May (v : Bool) : PV := bB v
noncomputable abbrev F_frame_May : Fe := .of Tryz.prog 12 en_frame_May
theorem nl_frame_May : ∀ v, (en_frame_May v).noLst := fun _ => trivial
noncomputable def t_frame_May (a0 : T_api_Sent) : Tr F_frame_May Empty Bool :=
 .callZ 8 (ok_frame_bare a0) fun r1 => .join 11 4 (γ := Bool) ⟨fun x => [(15, bB x)], [], fun _ => [], []⟩
 (.iteB 0 11 (r1.2.2.2.2.2.2.2.2)
 (.call 2 (ok_frame_same (⟨r1.1, r1.2.1, r1.2.2.1, r1.2.2.2.1, r1.2.2.2.2.1, r1.2.2.2.2.2.1, r1.2.2.2.2.2.2.1, r1.2.2.2.2.2.2.2.1⟩ : T_api_Sent) (⟨0, 0, [], [], 0, 0, [], []⟩ : T_api_Sent)) nl_frame_same fun r2 => .ret 2 r2)
 (.ret 5 false))
 fun j3 => .ret 3 j3
noncomputable def s_frame_May (a0 : T_api_Sent) : Sg Tryz.prog Bool := ⟨12, M_frame_May a0, [.agg [.int .i64 a0.F_Scheme, .int .i64 a0.F_Dim, .lst (List.map (D.int .i64) a0.F_L), .lst (List.map (D.int .i64) a0.F_V), .int .i64 a0.F_Scale, .int .i64 a0.F_Wide, .lst (List.map (D.int .u64) a0.F_Lev), .lst (List.map D.bool a0.F_Neg)]], en_frame_May⟩
theorem ok_frame_May (a0 : T_api_Sent) : (s_frame_May a0).Holds := Tr.fn (F := F_frame_May) (t_frame_May a0) (by kernel_rfl) (by kernel_rfl) (by kernel_rfl) (by kernel_rfl)
/-- thrum/frame.Check. -/
def en_frame_Check (v : Int) : PV := nI v
noncomputable abbrev F_frame_Check : Fe := .of Tryz.prog 23 en_frame_Check
theorem nl_frame_Check : ∀ v, (en_frame_Check v).noLst := fun _ => trivial
noncomputable def t_frame_Check (a0 : T_api_Frame) : Tr F_frame_Check Empty Int :=
 .join 11 4 (γ := Bool) ⟨fun x => [(11, bB x)], [1], fun _ => [], [.s 15]⟩
 (.ite 0 7 (a0.F_From ≥ 0)
 (.ret 5 (decide (a0.F_From < 64)))
 (.ret 5 false))
 fun j1 => .join 1 4 (γ := Bool) ⟨fun x => [(16, bB x)], [1], fun _ => [], [.s 15]⟩
 (.iteB 0 12 (j1)
 (.ret 5 (decide (a0.F_Step ≥ 0)))
 (.ret 5 false))
 fun j2 => .join 1 4 (γ := Bool) ⟨fun x => [(21, bB x)], [1], fun _ => [], [.s 15]⟩
 (.iteB 0 17 (j2)
 (.ret 5 (decide (a0.F_Step ≤ 1073741824)))
 (.ret 5 false))
 fun j3 => .iteB 7 23 (j3)
 (.ite 4 27 (a0.F_Kind = 1)
 (.call 2 (ok_frame_May a0.F_S) nl_frame_May fun r4 => .iteB 2 32 (r4)
 (.ret 19 0)
 (.ite 4 36 (a0.F_Kind = 2)
 (.call 3 (ok_frame_same a0.F_S (⟨0, 0, [], [], 0, 0, [], []⟩ : T_api_Sent)) nl_frame_same fun r5 => .iteB 4 43 (r5)
 (.ret 7 0)
 (.ret 7 1))
 (.ret 15 1)))
 (.ite 9 36 (a0.F_Kind = 2)
 (.call 3 (ok_frame_same a0.F_S (⟨0, 0, [], [], 0, 0, [], []⟩ : T_api_Sent)) nl_frame_same fun r6 => .iteB 4 43 (r6)
 (.ret 7 0)
 (.ret 7 1))
 (.ret 15 1)))
 (.ret 28 1)
noncomputable def s_frame_Check (a0 : T_api_Frame) : Sg Tryz.prog Int := ⟨23, M_frame_Check a0, [.agg [.int .i64 a0.F_Kind, .int .i64 a0.F_From, .int .i64 a0.F_Step, .int .i64 a0.F_S.F_Scheme, .int .i64 a0.F_S.F_Dim, .lst (List.map (D.int .i64) a0.F_S.F_L), .lst (List.map (D.int .i64) a0.F_S.F_V), .int .i64 a0.F_S.F_Scale, .int .i64 a0.F_S.F_Wide, .lst (List.map (D.int .u64) a0.F_S.F_Lev), .lst (List.map D.bool a0.F_S.F_Neg)]], en_frame_Check⟩
theorem ok_frame_Check (a0 : T_api_Frame) : (s_frame_Check a0).Holds := Tr.fn (F := F_frame_Check) (t_frame_Check a0) (by kernel_rfl) (by kernel_rfl) (by kernel_rfl) (by kernel_rfl)
/-- slices.Clone[[]byte,byte]. -/
def en_slices_Clone_byte_byte (v : (List Int)) : PV := sY (.s 0) v
noncomputable abbrev F_slices_Clone_byte_byte : Fe := .of Tryz.prog 64 en_slices_Clone_byte_byte
theorem nl_slices_Clone_byte_byte : ∀ v, (en_slices_Clone_byte_byte v).noLst := fun _ => (flat_map_of fun _ => trivial)
noncomputable def t_slices_Clone_byte_byte (a0 : List Int) : Tr F_slices_Clone_byte_byte Empty (List Int) :=
 .nilq 8 eY.f a0
 (    if room 1 ([] ++ a0).length then
      some ([] ++ a0)
    else none)
 (    some [])
 (fun h => by (try obtain rfl := List.eq_nil_of_length_eq_zero h); first | rfl | (simp [h]; done))
 (.app 7 eY 1 [] a0 <| .ret 3 ([] ++ a0))
 (.ret 8 [])
noncomputable def s_slices_Clone_byte_byte (a0 : List Int) : Sg Tryz.prog (List Int) := ⟨64, M_slices_Clone_byte_byte a0, [.lst (List.map (D.int .u8) a0)], en_slices_Clone_byte_byte⟩
theorem ok_slices_Clone_byte_byte (a0 : List Int) : (s_slices_Clone_byte_byte a0).Holds := Tr.fn (F := F_slices_Clone_byte_byte) (t_slices_Clone_byte_byte a0) (by kernel_rfl) (by kernel_rfl) (by kernel_rfl) (by kernel_rfl)
/-- thrum/leb.put. -/
def en_leb_put (v : (List Int)) : PV := sY (.s 0) v
def bx_leb_put (v : (List Int)) : List (Tg × List PV) := []
noncomputable abbrev F_leb_put : Fe := .of Tryz.prog 73 en_leb_put bx_leb_put
def S_leb_put_l0 (x0 : List Int) (x1 : Int) : St := ⟨[(0, sY (.h 1) x0), (1, nU x1)], []⟩
def E_leb_put_l0 (x : (List Int) × Int) : St := ⟨[(0, sY (.h 2) x.1), (1, nU x.2)], []⟩
noncomputable def t_leb_put_l0 (x0 : List Int) (x1 : Int) : Tr F_leb_put ((List Int) × Int) ((List Int) × Int) :=
 .ite 7 6 (x1 > 127)
 (.app 10 eY 1 x0 [bOr .u8 (IntKind.u8.wrap x1) 128] <| .let_ (x0 ++ [bOr .u8 (IntKind.u8.wrap x1) 128] : List Int) fun y1 => .again 8 (y1, sShr .u64 x1 7))
 (.ret 4 (x0, x1))
theorem ok_leb_put_l0 (x0 : List Int) (x1 : Int) : Ok (M_leb_put_l0 x0 x1) fun v => go Tryz.prog F_leb_put.N (PostN (.exit 0) (E_leb_put_l0) v) [.l (lpA Tryz.prog 73 0)] .norm (S_leb_put_l0 x0 x1) := by
 refine M_leb_put_l0.partial_correctness (fun x0 x1 v => go Tryz.prog F_leb_put.N (PostN (.exit 0) (E_leb_put_l0) v) [.l (lpA Tryz.prog 73 0)] .norm (S_leb_put_l0 x0 x1)) ?_ x0 x1
 clear x0 x1
 intro f IH x0 x1
 exact Tr.lpN (F := F_leb_put) (S := fun x => S_leb_put_l0 x.1 x.2) (S' := E_leb_put_l0) (t_leb_put_l0 x0 x1) (fun x => f x.1 x.2) (fun x r h => IH x.1 x.2 r h) (by kernel_rfl) (by kernel_rfl)
theorem nl_leb_put : ∀ v, (en_leb_put v).noLst := fun _ => (flat_map_of fun _ => trivial)
theorem nlB_leb_put : ∀ v, noLstB (bx_leb_put v) := fun _ => trivial
noncomputable def t_leb_put (a0 : List Int) (a1 : Int) : Tr F_leb_put Empty (List Int) :=
 .loop 7 ⟨_, _, _, _, _, ok_leb_put_l0 a0 a1⟩ fun j3 => .app 7 eY 1 j3.1 [IntKind.u8.wrap j3.2] <| .ret 3 (j3.1 ++ [IntKind.u8.wrap j3.2])
noncomputable def s_leb_put (a0 : List Int) (a1 : Int) : SgG Tryz.prog (List Int) := ⟨73, M_leb_put a0 a1, [sY (.h 0) a0, nU a1], [], en_leb_put, bx_leb_put⟩
theorem ok_leb_put (a0 : List Int) (a1 : Int) : (s_leb_put a0 a1).Holds := Tr.fnG (F := F_leb_put) (t_leb_put a0 a1) (by kernel_rfl) (by kernel_rfl) (by kernel_rfl) (by kernel_rfl)
/-- thrum/leb.Put. -/
def en_leb_Put (v : (List Int)) : PV := sY (.s 0) v
noncomputable abbrev F_leb_Put : Fe := .of Tryz.prog 34 en_leb_Put
def S_leb_Put_l0 (a1 : List Int) (x0 : Int) (x1 : List Int) : St := ⟨[(11, nI x0), (10, nI (a1.length : Int)), (9, lU a1), (0, sY (.h 0) x1)], []⟩
def E_leb_Put_l0 (a1 : List Int) (x : (List Int)) : St := ⟨[(0, sY (.h 1) x)], []⟩
noncomputable def t_leb_Put_l0 (a1 : List Int) (x0 : Int) (x1 : List Int) : Tr F_leb_Put (Int × (List Int)) (List Int) :=
 .ite 6 12 (x0 < (a1.length : Int))
 (.idx 6 eU a1 x0 <| .callB 6 [(.h 0, .h 0)] (ok_leb_put x1 (at' a1 x0)) nl_leb_put nlB_leb_put fun r2 => .again 7 (IntKind.i64.wrap (x0 + 1), r2))
 (.ret 4 x1)
theorem ok_leb_Put_l0 (a1 : List Int) (x0 : Int) (x1 : List Int) : Ok (M_leb_Put_l0 a1 x0 x1) fun v => go Tryz.prog F_leb_Put.N (PostN (.exit 0) (E_leb_Put_l0 a1) v) [.l (lpA Tryz.prog 34 0)] .norm (S_leb_Put_l0 a1 x0 x1) := by
 refine M_leb_Put_l0.partial_correctness a1 (fun x0 x1 v => go Tryz.prog F_leb_Put.N (PostN (.exit 0) (E_leb_Put_l0 a1) v) [.l (lpA Tryz.prog 34 0)] .norm (S_leb_Put_l0 a1 x0 x1)) ?_ x0 x1
 clear x0 x1
 intro f IH x0 x1
 exact Tr.lpN (F := F_leb_Put) (S := fun x => S_leb_Put_l0 a1 x.1 x.2) (S' := E_leb_Put_l0 a1) (t_leb_Put_l0 a1 x0 x1) (fun x => f x.1 x.2) (fun x r h => IH x.1 x.2 r h) (by kernel_rfl) (by kernel_rfl)
theorem nl_leb_Put : ∀ v, (en_leb_Put v).noLst := fun _ => (flat_map_of fun _ => trivial)
noncomputable def t_leb_Put (a0 : List Int) (a1 : List Int) : Tr F_leb_Put Empty (List Int) :=
 .call 7 (ok_slices_Clone_byte_byte a0) nl_slices_Clone_byte_byte fun r1 => .len 6 eU a1 <| .loop 4 ⟨_, _, _, _, _, ok_leb_Put_l0 a1 0 r1⟩ fun j3 => .ret 7 j3
noncomputable def s_leb_Put (a0 : List Int) (a1 : List Int) : Sg Tryz.prog (List Int) := ⟨34, M_leb_Put a0 a1, [.lst (List.map (D.int .u8) a0), .lst (List.map (D.int .u64) a1)], en_leb_Put⟩
theorem ok_leb_Put (a0 : List Int) (a1 : List Int) : (s_leb_Put a0 a1).Holds := Tr.fn (F := F_leb_Put) (t_leb_Put a0 a1) (by kernel_rfl) (by kernel_rfl) (by kernel_rfl) (by kernel_rfl)
/-- thrum/leb.Zig. -/
def en_leb_Zig (v : Int) : PV := nU v
noncomputable abbrev F_leb_Zig : Fe := .of Tryz.prog 122 en_leb_Zig
theorem nl_leb_Zig : ∀ v, (en_leb_Zig v).noLst := fun _ => trivial
noncomputable def t_leb_Zig (a0 : Int) : Tr F_leb_Zig Empty Int :=
 .ret 16 (bXor .u64 (IntKind.u64.wrap (sShl .i64 a0 1)) (IntKind.u64.wrap (sShr .i64 a0 63)))
noncomputable def s_leb_Zig (a0 : Int) : Sg Tryz.prog Int := ⟨122, M_leb_Zig a0, [.int .i64 a0], en_leb_Zig⟩
theorem ok_leb_Zig (a0 : Int) : (s_leb_Zig a0).Holds := Tr.fn (F := F_leb_Zig) (t_leb_Zig a0) (by kernel_rfl) (by kernel_rfl) (by kernel_rfl) (by kernel_rfl)
/-- thrum/leb.Signed. -/
def en_leb_Signed (v : (List Int)) : PV := sY (.s 0) v
noncomputable abbrev F_leb_Signed : Fe := .of Tryz.prog 93 en_leb_Signed
def S_leb_Signed_l0 (a1 : List Int) (x0 : Int) (x1 : List Int) : St := ⟨[(11, nI x0), (10, nI (a1.length : Int)), (9, lI a1), (0, sY (.h 0) x1)], []⟩
def E_leb_Signed_l0 (a1 : List Int) (x : (List Int)) : St := ⟨[(0, sY (.h 1) x)], []⟩
noncomputable def t_leb_Signed_l0 (a1 : List Int) (x0 : Int) (x1 : List Int) : Tr F_leb_Signed (Int × (List Int)) (List Int) :=
 .ite 6 12 (x0 < (a1.length : Int))
 (.idx 6 eI a1 x0 <| .call 6 (ok_leb_Zig (at' a1 x0)) nl_leb_Zig fun r2 => .callB 0 [(.h 0, .h 0)] (ok_leb_put x1 r2) nl_leb_put nlB_leb_put fun r3 => .again 7 (IntKind.i64.wrap (x0 + 1), r3))
 (.ret 4 x1)
theorem ok_leb_Signed_l0 (a1 : List Int) (x0 : Int) (x1 : List Int) : Ok (M_leb_Signed_l0 a1 x0 x1) fun v => go Tryz.prog F_leb_Signed.N (PostN (.exit 0) (E_leb_Signed_l0 a1) v) [.l (lpA Tryz.prog 93 0)] .norm (S_leb_Signed_l0 a1 x0 x1) := by
 refine M_leb_Signed_l0.partial_correctness a1 (fun x0 x1 v => go Tryz.prog F_leb_Signed.N (PostN (.exit 0) (E_leb_Signed_l0 a1) v) [.l (lpA Tryz.prog 93 0)] .norm (S_leb_Signed_l0 a1 x0 x1)) ?_ x0 x1
 clear x0 x1
 intro f IH x0 x1
 exact Tr.lpN (F := F_leb_Signed) (S := fun x => S_leb_Signed_l0 a1 x.1 x.2) (S' := E_leb_Signed_l0 a1) (t_leb_Signed_l0 a1 x0 x1) (fun x => f x.1 x.2) (fun x r h => IH x.1 x.2 r h) (by kernel_rfl) (by kernel_rfl)
theorem nl_leb_Signed : ∀ v, (en_leb_Signed v).noLst := fun _ => (flat_map_of fun _ => trivial)
noncomputable def t_leb_Signed (a0 : List Int) (a1 : List Int) : Tr F_leb_Signed Empty (List Int) :=
 .call 7 (ok_slices_Clone_byte_byte a0) nl_slices_Clone_byte_byte fun r1 => .len 6 eI a1 <| .loop 4 ⟨_, _, _, _, _, ok_leb_Signed_l0 a1 0 r1⟩ fun j4 => .ret 7 j4
noncomputable def s_leb_Signed (a0 : List Int) (a1 : List Int) : Sg Tryz.prog (List Int) := ⟨93, M_leb_Signed a0 a1, [.lst (List.map (D.int .u8) a0), .lst (List.map (D.int .i64) a1)], en_leb_Signed⟩
theorem ok_leb_Signed (a0 : List Int) (a1 : List Int) : (s_leb_Signed a0 a1).Holds := Tr.fn (F := F_leb_Signed) (t_leb_Signed a0 a1) (by kernel_rfl) (by kernel_rfl) (by kernel_rfl) (by kernel_rfl)
/-- (*thrum/frame.pen).dense. -/
def en_thrum_frame_pen_dense (v : (List Int) × Int) : PV := .tup []
def bx_thrum_frame_pen_dense (v : (List Int) × Int) : List (Tg × List PV) := [(.up (.s 0), [sY (.s 0) v.1, nI v.2])]
noncomputable abbrev F_thrum_frame_pen_dense : Fe := .of Tryz.prog 50 en_thrum_frame_pen_dense bx_thrum_frame_pen_dense
noncomputable def t_thrum_frame_pen_dense (a0 : T_frame_pen) (a1 : T_api_Sent) : Tr F_thrum_frame_pen_dense Empty ((List Int) × Int) :=
 .call 12 (ok_leb_Signed a0.F_b a1.F_V) nl_leb_Signed fun r1 => .hold 1 [] <| .ret 5 (r1, a0.F_e)
noncomputable def s_thrum_frame_pen_dense (a0 : T_frame_pen) (a1 : T_api_Sent) : SgG Tryz.prog ((List Int) × Int) := ⟨50, M_thrum_frame_pen_dense a0 a1, [.ptr (.up (.s 0)) 0, .d (.agg [.int .i64 a1.F_Scheme, .int .i64 a1.F_Dim, .lst (List.map (D.int .i64) a1.F_L), .lst (List.map (D.int .i64) a1.F_V), .int .i64 a1.F_Scale, .int .i64 a1.F_Wide, .lst (List.map (D.int .u64) a1.F_Lev), .lst (List.map D.bool a1.F_Neg)])], [(.up (.s 0), [lY a0.F_b, nI a0.F_e])], en_thrum_frame_pen_dense, bx_thrum_frame_pen_dense⟩
theorem ok_thrum_frame_pen_dense (a0 : T_frame_pen) (a1 : T_api_Sent) : (s_thrum_frame_pen_dense a0 a1).Holds := Tr.fnG (F := F_thrum_frame_pen_dense) (t_thrum_frame_pen_dense a0 a1) (by kernel_rfl) (by kernel_rfl) (by kernel_rfl) (by kernel_rfl)
/-- thrum/index.Put. -/
def en_index_Put (v : (List Int) × Int) : PV := .tup [sY (.s 0) v.1, nI v.2]
noncomputable abbrev F_index_Put : Fe := .of Tryz.prog 95 en_index_Put
def S_index_Put_l0 (a1 : List Int) (x0 : Int) (x1 : Int) (x2 : List Int) : St := ⟨[(29, nI x0), (28, nI (a1.length : Int)), (27, lI a1), (8, nI x1), (7, sU (.h 0) x2)], []⟩
def E_index_Put_l0 (a1 : List Int) (x : (List Int)) : St := ⟨[(7, sU (.h 1) x)], []⟩
noncomputable def t_index_Put_l0 (a1 : List Int) (x0 : Int) (x1 : Int) (x2 : List Int) : Tr F_index_Put (Int × Int × (List Int)) (List Int) :=
 .ite 6 30 (x0 < (a1.length : Int))
 (.idx 6 eI a1 x0 <| .app 12 eU 8 x2 [IntKind.u64.wrap (IntKind.i64.wrap ((IntKind.i64.wrap ((at' a1 x0) - x1)) - 1))] <| .let_ (x2 ++ [IntKind.u64.wrap (IntKind.i64.wrap ((IntKind.i64.wrap ((at' a1 x0) - x1)) - 1))] : List Int) fun y6 => .again 11 (IntKind.i64.wrap (x0 + 1), at' a1 x0, y6))
 (.ret 4 x2)
theorem ok_index_Put_l0 (a1 : List Int) (x0 : Int) (x1 : Int) (x2 : List Int) : Ok (M_index_Put_l0 a1 x0 x1 x2) fun v => go Tryz.prog F_index_Put.N (PostN (.exit 0) (E_index_Put_l0 a1) v) [.l (lpA Tryz.prog 95 0)] .norm (S_index_Put_l0 a1 x0 x1 x2) := by
 refine M_index_Put_l0.partial_correctness a1 (fun x0 x1 x2 v => go Tryz.prog F_index_Put.N (PostN (.exit 0) (E_index_Put_l0 a1) v) [.l (lpA Tryz.prog 95 0)] .norm (S_index_Put_l0 a1 x0 x1 x2)) ?_ x0 x1 x2
 clear x0 x1 x2
 intro f IH x0 x1 x2
 exact Tr.lpN (F := F_index_Put) (S := fun x => S_index_Put_l0 a1 x.1 x.2.1 x.2.2) (S' := E_index_Put_l0 a1) (t_index_Put_l0 a1 x0 x1 x2) (fun x => f x.1 x.2.1 x.2.2) (fun x r h => IH x.1 x.2.1 x.2.2 r h) (by kernel_rfl) (by kernel_rfl)
theorem nl_index_Put : ∀ v, (en_index_Put v).noLst := fun _ => ⟨(flat_map_of fun _ => trivial), trivial, trivial⟩
noncomputable def t_index_Put (a0 : Int) (a1 : List Int) : Tr F_index_Put Empty ((List Int) × Int) :=
 .call 10 (ok_index_Check a0 a1) nl_index_Check fun r1 => .iteN 7 15 (r1 = 0)
 (.ret 9 ([], r1))
 (.len 5 eI a1 <| .mk 1 eU 8 0 0 (IntKind.i64.wrap ((a1.length : Int) + 1)) <| .let_ (List.replicate (Int.toNat 0) 0 : List Int) fun y2 => .len 6 eI a1 <| .app 2 eU 8 y2 [IntKind.u64.wrap (a1.length : Int)] <| .let_ (y2 ++ [IntKind.u64.wrap (a1.length : Int)] : List Int) fun y4 => .len 10 eI a1 <| .loop 4 ⟨_, _, _, _, _, ok_index_Put_l0 a1 0 (-1) y4⟩ fun j8 => .call 4 (ok_leb_Put [] j8) nl_leb_Put fun r9 => .ret 4 (r9, 0))
noncomputable def s_index_Put (a0 : Int) (a1 : List Int) : Sg Tryz.prog ((List Int) × Int) := ⟨95, M_index_Put a0 a1, [.int .i64 a0, .lst (List.map (D.int .i64) a1)], en_index_Put⟩
theorem ok_index_Put (a0 : Int) (a1 : List Int) : (s_index_Put a0 a1).Holds := Tr.fn (F := F_index_Put) (t_index_Put a0 a1) (by kernel_rfl) (by kernel_rfl) (by kernel_rfl) (by kernel_rfl)
/-- (*thrum/frame.pen).bytes. -/
def en_thrum_frame_pen_bytes (v : (List Int) × Int) : PV := .tup []
def bx_thrum_frame_pen_bytes (v : (List Int) × Int) : List (Tg × List PV) := [(.up (.s 0), [sY (.s 0) v.1, nI v.2])]
noncomputable abbrev F_thrum_frame_pen_bytes : Fe := .of Tryz.prog 94 en_thrum_frame_pen_bytes bx_thrum_frame_pen_bytes
theorem nl_thrum_frame_pen_bytes : ∀ v, (en_thrum_frame_pen_bytes v).noLst := fun _ => trivial
theorem nlB_thrum_frame_pen_bytes : ∀ v, noLstB (bx_thrum_frame_pen_bytes v) := fun _ => ⟨⟨(flat_map_of fun _ => trivial), trivial, trivial⟩, trivial⟩
noncomputable def t_thrum_frame_pen_bytes (a0 : T_frame_pen) (a1 : List Int) (a2 : Int) : Tr F_thrum_frame_pen_bytes Empty ((List Int) × Int) :=
 .app 8 eY 1 a0.F_b a1 <| .iteN 9 16 (a2 = 0)
 (.ret 8 (a0.F_b ++ a1, a2))
 (.ret 2 (a0.F_b ++ a1, a0.F_e))
noncomputable def s_thrum_frame_pen_bytes (a0 : T_frame_pen) (a1 : List Int) (a2 : Int) : SgG Tryz.prog ((List Int) × Int) := ⟨94, M_thrum_frame_pen_bytes a0 a1 a2, [.ptr (.up (.s 0)) 0, lY a1, nI a2], [(.up (.s 0), [sY (.h 0) a0.F_b, nI a0.F_e])], en_thrum_frame_pen_bytes, bx_thrum_frame_pen_bytes⟩
theorem ok_thrum_frame_pen_bytes (a0 : T_frame_pen) (a1 : List Int) (a2 : Int) : (s_thrum_frame_pen_bytes a0 a1 a2).Holds := Tr.fnG (F := F_thrum_frame_pen_bytes) (t_thrum_frame_pen_bytes a0 a1 a2) (by kernel_rfl) (by kernel_rfl) (by kernel_rfl) (by kernel_rfl)
/-- (*thrum/frame.pen).top. -/
def en_thrum_frame_pen_top (v : (List Int) × Int) : PV := .tup []
def bx_thrum_frame_pen_top (v : (List Int) × Int) : List (Tg × List PV) := [(.up (.s 0), [sY (.s 0) v.1, nI v.2])]
noncomputable abbrev F_thrum_frame_pen_top : Fe := .of Tryz.prog 51 en_thrum_frame_pen_top bx_thrum_frame_pen_top
theorem nl_thrum_frame_pen_top : ∀ v, (en_thrum_frame_pen_top v).noLst := fun _ => trivial
theorem nlB_thrum_frame_pen_top : ∀ v, noLstB (bx_thrum_frame_pen_top v) := fun _ => ⟨⟨(flat_map_of fun _ => trivial), trivial, trivial⟩, trivial⟩
noncomputable def t_thrum_frame_pen_top (a0 : T_frame_pen) (a1 : T_api_Sent) : Tr F_thrum_frame_pen_top Empty ((List Int) × Int) :=
 .call 11 (ok_index_Put a1.F_Dim a1.F_L) nl_index_Put fun r1 => .callB 2 [(.up (.s 0), .up (.s 0)), (.h 0, .h 0)] (ok_thrum_frame_pen_bytes a0 r1.1 r1.2) nl_thrum_frame_pen_bytes nlB_thrum_frame_pen_bytes fun r2 => .callG 4 [(.up (.s 0), .up (.s 0))] [.s 1728] (ok_thrum_frame_pen_dense (⟨r2.1, r2.2⟩ : T_frame_pen) a1) fun r3 => .ret 1 (r3.1, r3.2)
noncomputable def s_thrum_frame_pen_top (a0 : T_frame_pen) (a1 : T_api_Sent) : SgG Tryz.prog ((List Int) × Int) := ⟨51, M_thrum_frame_pen_top a0 a1, [.ptr (.up (.s 0)) 0, .d (.agg [.int .i64 a1.F_Scheme, .int .i64 a1.F_Dim, .lst (List.map (D.int .i64) a1.F_L), .lst (List.map (D.int .i64) a1.F_V), .int .i64 a1.F_Scale, .int .i64 a1.F_Wide, .lst (List.map (D.int .u64) a1.F_Lev), .lst (List.map D.bool a1.F_Neg)])], [(.up (.s 0), [sY (.h 0) a0.F_b, nI a0.F_e])], en_thrum_frame_pen_top, bx_thrum_frame_pen_top⟩
theorem ok_thrum_frame_pen_top (a0 : T_frame_pen) (a1 : T_api_Sent) : (s_thrum_frame_pen_top a0 a1).Holds := Tr.fnG (F := F_thrum_frame_pen_top) (t_thrum_frame_pen_top a0 a1) (by kernel_rfl) (by kernel_rfl) (by kernel_rfl) (by kernel_rfl)
/-- thrum/plane.woven. -/
def en_plane_woven (v : Int) : PV := .d (.clo (.func 139) [] [.cp [.int .i64 v] 0])
noncomputable abbrev F_plane_woven : Fe := .of Tryz.prog 116 en_plane_woven
noncomputable def t_plane_woven (a0 : Int) : Tr F_plane_woven Empty Int :=
 .box 11 (.s 15) [.int .i64 a0] <| .ret 0 a0
noncomputable def s_plane_woven (a0 : Int) : Sg Tryz.prog Int := ⟨116, M_plane_woven a0, [.int .i64 a0], en_plane_woven⟩
theorem ok_plane_woven (a0 : Int) : (s_plane_woven a0).Holds := Tr.fn (F := F_plane_woven) (t_plane_woven a0) (by kernel_rfl) (by kernel_rfl) (by kernel_rfl) (by kernel_rfl)
/-- thrum/plane.Bytes. -/
def en_plane_Bytes (v : Int × Int) : PV := .tup [nI v.1, nI v.2]
noncomputable abbrev F_plane_Bytes : Fe := .of Tryz.prog 79 en_plane_Bytes
theorem nl_plane_Bytes : ∀ v, (en_plane_Bytes v).noLst := fun _ => ⟨trivial, trivial, trivial⟩
noncomputable def t_plane_Bytes (a0 : Int) (a1 : Int) : Tr F_plane_Bytes Empty (Int × Int) :=
 .join 12 3 (γ := Bool) ⟨fun x => [(12, bB x)], [0, 1], fun _ => [], []⟩
 (.ite 0 9 (a0 < 0)
 (.ret 4 true)
 (.ret 4 (decide (a0 > 32))))
 fun j1 => .join 1 3 (γ := Bool) ⟨fun x => [(16, bB x)], [0, 1], fun _ => [], []⟩
 (.iteB 0 13 (j1)
 (.ret 4 true)
 (.ret 4 (decide (a1 < 0))))
 fun j2 => .iteB 2 6 (j2)
 (.ret 9 (0, 1))
 (.ite 7 17 (a1 > 4096)
 (.ret 9 (0, 3))
 (.ret 14 (sShr .i64 (IntKind.i64.wrap ((IntKind.i64.wrap (a0 * a1)) + 7)) 3, 0)))
noncomputable def s_plane_Bytes (a0 : Int) (a1 : Int) : Sg Tryz.prog (Int × Int) := ⟨79, M_plane_Bytes a0 a1, [.int .i64 a0, .int .i64 a1], en_plane_Bytes⟩
theorem ok_plane_Bytes (a0 : Int) (a1 : Int) : (s_plane_Bytes a0 a1).Holds := Tr.fn (F := F_plane_Bytes) (t_plane_Bytes a0 a1) (by kernel_rfl) (by kernel_rfl) (by kernel_rfl) (by kernel_rfl)
/-- thrum/plane.put$1. -/
def en_plane_put_1_c (v : Bool) : PV := bB v
noncomputable abbrev F_plane_put_1_c : Fe := .of Tryz.prog 141 en_plane_put_1_c
theorem nl_plane_put_1_c : ∀ v, (en_plane_put_1_c v).noLst := fun _ => trivial
noncomputable def t_plane_put_1_c (a0 : Int) (a1 : Int) : Tr F_plane_put_1_c Empty Bool :=
 .rd 8 (0 ≤ a1) (nU (sShr .u64 a0 a1)) <| .ret 4 ((sShr .u64 a0 a1) != 0)
noncomputable def s_plane_put_1_c (a0 : Int) (a1 : Int) : Sg Tryz.prog Bool := ⟨141, M_plane_put_1_c a0 a1, [.int .u64 a0, .cp [.int .i64 a1] 0], en_plane_put_1_c⟩
theorem ok_plane_put_1_c (a0 : Int) (a1 : Int) : (s_plane_put_1_c a0 a1).Holds := Tr.fn (F := F_plane_put_1_c) (t_plane_put_1_c a0 a1) (by kernel_rfl) (by kernel_rfl) (by kernel_rfl) (by kernel_rfl)
/-- slices.IndexFunc[[]uint64,uint64]. -/
def en_slices_IndexFunc_uint64_uint64_plane_put_1 (v : Int) : PV := nI v
noncomputable abbrev F_slices_IndexFunc_uint64_uint64_plane_put_1 : Fe := .of Tryz.prog 119 en_slices_IndexFunc_uint64_uint64_plane_put_1
def S_slices_IndexFunc_uint64_uint64_plane_put_1_l0 (a0 : List Int) (a1 : Int) (x0 : Int) : St := ⟨[(8, nI x0), (7, nI (a0.length : Int)), (0, lU a0), (1, .d (.clo (.func 141) [] [.cp [.int .i64 a1] 0]))], []⟩
def E_slices_IndexFunc_uint64_uint64_plane_put_1_l0 (a0 : List Int) (a1 : Int) (x : Unit) : St := ⟨[], []⟩
noncomputable def t_slices_IndexFunc_uint64_uint64_plane_put_1_l0 (a0 : List Int) (a1 : Int) (x0 : Int) : Tr F_slices_IndexFunc_uint64_uint64_plane_put_1 Int (Sum Int Unit) :=
 .ite 6 9 (x0 < (a0.length : Int))
 (.idx 14 eU a0 x0 <| .call 1 (ok_plane_put_1_c (at' a0 x0) a1) nl_plane_put_1_c fun r1 => .iteB 1 16 (r1)
 (.ret 10 (.inl x0))
 (.again 7 (IntKind.i64.wrap (x0 + 1))))
 (.ret 4 (.inr ()))
theorem ok_slices_IndexFunc_uint64_uint64_plane_put_1_l0 (a0 : List Int) (a1 : Int) (x0 : Int) : Ok (M_slices_IndexFunc_uint64_uint64_plane_put_1_l0 a0 a1 x0) fun v => go Tryz.prog F_slices_IndexFunc_uint64_uint64_plane_put_1.N (PostR (fun r => Fnl F_slices_IndexFunc_uint64_uint64_plane_put_1.res (F_slices_IndexFunc_uint64_uint64_plane_put_1.en r) (F_slices_IndexFunc_uint64_uint64_plane_put_1.bx r)) (.exit 0) (E_slices_IndexFunc_uint64_uint64_plane_put_1_l0 a0 a1) v) [.l (lpA Tryz.prog 119 0)] .norm (S_slices_IndexFunc_uint64_uint64_plane_put_1_l0 a0 a1 x0) := by
 refine M_slices_IndexFunc_uint64_uint64_plane_put_1_l0.partial_correctness a0 a1 (fun x0 v => go Tryz.prog F_slices_IndexFunc_uint64_uint64_plane_put_1.N (PostR (fun r => Fnl F_slices_IndexFunc_uint64_uint64_plane_put_1.res (F_slices_IndexFunc_uint64_uint64_plane_put_1.en r) (F_slices_IndexFunc_uint64_uint64_plane_put_1.bx r)) (.exit 0) (E_slices_IndexFunc_uint64_uint64_plane_put_1_l0 a0 a1) v) [.l (lpA Tryz.prog 119 0)] .norm (S_slices_IndexFunc_uint64_uint64_plane_put_1_l0 a0 a1 x0)) ?_ x0
 clear x0
 intro f IH x0
 exact Tr.lpR (F := F_slices_IndexFunc_uint64_uint64_plane_put_1) (S := fun x => S_slices_IndexFunc_uint64_uint64_plane_put_1_l0 a0 a1 x) (S' := E_slices_IndexFunc_uint64_uint64_plane_put_1_l0 a0 a1) (t_slices_IndexFunc_uint64_uint64_plane_put_1_l0 a0 a1 x0) (fun x => f x) (fun x r h => IH x r h) (by kernel_rfl) (by kernel_rfl)
theorem nl_slices_IndexFunc_uint64_uint64_plane_put_1 : ∀ v, (en_slices_IndexFunc_uint64_uint64_plane_put_1 v).noLst := fun _ => trivial
noncomputable def t_slices_IndexFunc_uint64_uint64_plane_put_1 (a0 : List Int) (a1 : Int) : Tr F_slices_IndexFunc_uint64_uint64_plane_put_1 Empty Int :=
 .len 8 eU a0 <| .loopR 4 id ⟨_, _, _, _, _, ok_slices_IndexFunc_uint64_uint64_plane_put_1_l0 a0 a1 0⟩ fun j2 => .ret 6 (-1)
noncomputable def s_slices_IndexFunc_uint64_uint64_plane_put_1 (a0 : List Int) (a1 : Int) : Sg Tryz.prog Int := ⟨119, M_slices_IndexFunc_uint64_uint64_plane_put_1 a0 a1, [.lst (List.map (D.int .u64) a0), .clo (.func 141) [] [.cp [.int .i64 a1] 0]], en_slices_IndexFunc_uint64_uint64_plane_put_1⟩
theorem ok_slices_IndexFunc_uint64_uint64_plane_put_1 (a0 : List Int) (a1 : Int) : (s_slices_IndexFunc_uint64_uint64_plane_put_1 a0 a1).Holds := Tr.fn (F := F_slices_IndexFunc_uint64_uint64_plane_put_1) (t_slices_IndexFunc_uint64_uint64_plane_put_1 a0 a1) (by kernel_rfl) (by kernel_rfl) (by kernel_rfl) (by kernel_rfl)
/-- slices.ContainsFunc[[]uint64,uint64]. -/
def en_slices_ContainsFunc_uint64_uint64_plane_put_1 (v : Bool) : PV := bB v
noncomputable abbrev F_slices_ContainsFunc_uint64_uint64_plane_put_1 : Fe := .of Tryz.prog 84 en_slices_ContainsFunc_uint64_uint64_plane_put_1
theorem nl_slices_ContainsFunc_uint64_uint64_plane_put_1 : ∀ v, (en_slices_ContainsFunc_uint64_uint64_plane_put_1 v).noLst := fun _ => trivial
noncomputable def t_slices_ContainsFunc_uint64_uint64_plane_put_1 (a0 : List Int) (a1 : Int) : Tr F_slices_ContainsFunc_uint64_uint64_plane_put_1 Empty Bool :=
 .call 8 (ok_slices_IndexFunc_uint64_uint64_plane_put_1 a0 a1) nl_slices_IndexFunc_uint64_uint64_plane_put_1 fun r1 => .ret 4 (decide (r1 ≥ 0))
noncomputable def s_slices_ContainsFunc_uint64_uint64_plane_put_1 (a0 : List Int) (a1 : Int) : Sg Tryz.prog Bool := ⟨84, M_slices_ContainsFunc_uint64_uint64_plane_put_1 a0 a1, [.lst (List.map (D.int .u64) a0), .clo (.func 141) [] [.cp [.int .i64 a1] 0]], en_slices_ContainsFunc_uint64_uint64_plane_put_1⟩
theorem ok_slices_ContainsFunc_uint64_uint64_plane_put_1 (a0 : List Int) (a1 : Int) : (s_slices_ContainsFunc_uint64_uint64_plane_put_1 a0 a1).Holds := Tr.fn (F := F_slices_ContainsFunc_uint64_uint64_plane_put_1) (t_slices_ContainsFunc_uint64_uint64_plane_put_1 a0 a1) (by kernel_rfl) (by kernel_rfl) (by kernel_rfl) (by kernel_rfl)
/-- thrum/plane.woven$1. -/
def en_plane_woven_1_c (v : Int) : PV := nI v
noncomputable abbrev F_plane_woven_1_c : Fe := .of Tryz.prog 139 en_plane_woven_1_c
theorem nl_plane_woven_1_c : ∀ v, (en_plane_woven_1_c v).noLst := fun _ => trivial
noncomputable def t_plane_woven_1_c (a0 : Int) (a1 : Int) (a2 : Int) : Tr F_plane_woven_1_c Empty Int :=
 .ret 14 (IntKind.i64.wrap ((IntKind.i64.wrap (a1 * a2)) + a0))
noncomputable def s_plane_woven_1_c (a0 : Int) (a1 : Int) (a2 : Int) : Sg Tryz.prog Int := ⟨139, M_plane_woven_1_c a0 a1 a2, [.int .i64 a0, .int .i64 a1, .cp [.int .i64 a2] 0], en_plane_woven_1_c⟩
theorem ok_plane_woven_1_c (a0 : Int) (a1 : Int) (a2 : Int) : (s_plane_woven_1_c a0 a1 a2).Holds := Tr.fn (F := F_plane_woven_1_c) (t_plane_woven_1_c a0 a1 a2) (by kernel_rfl) (by kernel_rfl) (by kernel_rfl) (by kernel_rfl)
/-- thrum/plane.put. -/
def en_plane_put_plane_woven_1 (v : (List Int) × Int) : PV := .tup [sY (.s 0) v.1, nI v.2]
noncomputable abbrev F_plane_put_plane_woven_1 : Fe := .of Tryz.prog 123 en_plane_put_plane_woven_1
def S_plane_put_plane_woven_1_l1 (a0 : Int) (a1 : List Int) (a2 : Int) (x0 : Int) (x0_ : Int) (x1_ : List Int) : St := ⟨[(38, nI x0_), (37, nI a0), (12, nU (at' a1 x0)), (11, nI x0), (32, nI x0), (31, nI (a1.length : Int)), (30, lU a1), (10, sY (.h 1) x1_), (3, .ptr (.s 15) 0), (2, .d (.clo (.func 139) [] [.cp [.int .i64 a2] 0]))], [(.s 15, [nI a0])]⟩
def E_plane_put_plane_woven_1_l1 (a0 : Int) (a1 : List Int) (a2 : Int) (x0 : Int) (x : (List Int)) : St := ⟨[(32, nI x0), (31, nI (a1.length : Int)), (30, lU a1), (10, sY (.h 2) x), (3, .ptr (.s 15) 0), (2, .d (.clo (.func 139) [] [.cp [.int .i64 a2] 0]))], [(.s 15, [nI a0])]⟩
noncomputable def t_plane_put_plane_woven_1_l1 (a0 : Int) (a1 : List Int) (a2 : Int) (x0 : Int) (x0_ : Int) (x1_ : List Int) : Tr F_plane_put_plane_woven_1 (Int × (List Int)) (List Int) :=
 .ite 6 39 (x0_ < a0)
 (.call 14 (ok_plane_woven_1_c x0 x0_ a2) nl_plane_woven_1_c fun r5 => .idx 6 eY x1_ (sShr .i64 r5 3) <| .rd 6 (0 ≤ IntKind.i64.wrap ((IntKind.i64.wrap (a0 - 1)) - x0_)) (nU (sShr .u64 (at' a1 x0) (IntKind.i64.wrap ((IntKind.i64.wrap (a0 - 1)) - x0_)))) <| .rd 5 (0 ≤ IntKind.i64.wrap (7 - (bAnd .i64 r5 7))) (nY (sShl .u8 (IntKind.u8.wrap (bAnd .u64 (sShr .u64 (at' a1 x0) (IntKind.i64.wrap ((IntKind.i64.wrap (a0 - 1)) - x0_))) 1)) (IntKind.i64.wrap (7 - (bAnd .i64 r5 7))))) <| .idx 1 eY x1_ (sShr .i64 r5 3) <| .sto 0 [45, 10] eY x1_ (sShr .i64 r5 3) (bOr .u8 (at' x1_ (sShr .i64 r5 3)) (sShl .u8 (IntKind.u8.wrap (bAnd .u64 (sShr .u64 (at' a1 x0) (IntKind.i64.wrap ((IntKind.i64.wrap (a0 - 1)) - x0_))) 1)) (IntKind.i64.wrap (7 - (bAnd .i64 r5 7))))) <| .let_ (x1_.set (Int.toNat (sShr .i64 r5 3)) (bOr .u8 (at' x1_ (sShr .i64 r5 3)) (sShl .u8 (IntKind.u8.wrap (bAnd .u64 (sShr .u64 (at' a1 x0) (IntKind.i64.wrap ((IntKind.i64.wrap (a0 - 1)) - x0_))) 1)) (IntKind.i64.wrap (7 - (bAnd .i64 r5 7))))) : List Int) fun y6 => .again 6 (IntKind.i64.wrap (x0_ + 1), y6))
 (.ret 4 x1_)
theorem ok_plane_put_plane_woven_1_l1 (a0 : Int) (a1 : List Int) (a2 : Int) (x0 : Int) (x0_ : Int) (x1_ : List Int) : Ok (M_plane_put_plane_woven_1_l1 a0 a1 a2 x0 x0_ x1_) fun v => go Tryz.prog F_plane_put_plane_woven_1.N (PostN (.exit 2) (E_plane_put_plane_woven_1_l1 a0 a1 a2 x0) v) [.l (lpA Tryz.prog 123 1)] .norm (S_plane_put_plane_woven_1_l1 a0 a1 a2 x0 x0_ x1_) := by
 refine M_plane_put_plane_woven_1_l1.partial_correctness a0 a1 a2 x0 (fun x0_ x1_ v => go Tryz.prog F_plane_put_plane_woven_1.N (PostN (.exit 2) (E_plane_put_plane_woven_1_l1 a0 a1 a2 x0) v) [.l (lpA Tryz.prog 123 1)] .norm (S_plane_put_plane_woven_1_l1 a0 a1 a2 x0 x0_ x1_)) ?_ x0_ x1_
 clear x0_ x1_
 intro f IH x0_ x1_
 exact Tr.lpN (F := F_plane_put_plane_woven_1) (S := fun x => S_plane_put_plane_woven_1_l1 a0 a1 a2 x0 x.1 x.2) (S' := E_plane_put_plane_woven_1_l1 a0 a1 a2 x0) (t_plane_put_plane_woven_1_l1 a0 a1 a2 x0 x0_ x1_) (fun x => f x.1 x.2) (fun x r h => IH x.1 x.2 r h) (by kernel_rfl) (by kernel_rfl)
def S_plane_put_plane_woven_1_l0 (a0 : Int) (a1 : List Int) (a2 : Int) (x0 : Int) (x1 : List Int) : St := ⟨[(32, nI x0), (31, nI (a1.length : Int)), (30, lU a1), (10, sY (.h 0) x1), (3, .ptr (.s 15) 0), (2, .d (.clo (.func 139) [] [.cp [.int .i64 a2] 0]))], [(.s 15, [nI a0])]⟩
def E_plane_put_plane_woven_1_l0 (a0 : Int) (a1 : List Int) (a2 : Int) (x : (List Int)) : St := ⟨[(10, sY (.h 1) x)], []⟩
noncomputable def t_plane_put_plane_woven_1_l0 (a0 : Int) (a1 : List Int) (a2 : Int) (x0 : Int) (x1 : List Int) : Tr F_plane_put_plane_woven_1 (Int × (List Int)) (List Int) :=
 .ite 6 33 (x0 < (a1.length : Int))
 (.idx 7 eU a1 x0 <| .loop 11 ⟨_, _, _, _, _, ok_plane_put_plane_woven_1_l1 a0 a1 a2 x0 0 x1⟩ fun j8 => .again 6 (IntKind.i64.wrap (x0 + 1), j8))
 (.ret 4 x1)
theorem ok_plane_put_plane_woven_1_l0 (a0 : Int) (a1 : List Int) (a2 : Int) (x0 : Int) (x1 : List Int) : Ok (M_plane_put_plane_woven_1_l0 a0 a1 a2 x0 x1) fun v => go Tryz.prog F_plane_put_plane_woven_1.N (PostN (.exit 0) (E_plane_put_plane_woven_1_l0 a0 a1 a2) v) [.l (lpA Tryz.prog 123 0)] .norm (S_plane_put_plane_woven_1_l0 a0 a1 a2 x0 x1) := by
 refine M_plane_put_plane_woven_1_l0.partial_correctness a0 a1 a2 (fun x0 x1 v => go Tryz.prog F_plane_put_plane_woven_1.N (PostN (.exit 0) (E_plane_put_plane_woven_1_l0 a0 a1 a2) v) [.l (lpA Tryz.prog 123 0)] .norm (S_plane_put_plane_woven_1_l0 a0 a1 a2 x0 x1)) ?_ x0 x1
 clear x0 x1
 intro f IH x0 x1
 exact Tr.lpN (F := F_plane_put_plane_woven_1) (S := fun x => S_plane_put_plane_woven_1_l0 a0 a1 a2 x.1 x.2) (S' := E_plane_put_plane_woven_1_l0 a0 a1 a2) (t_plane_put_plane_woven_1_l0 a0 a1 a2 x0 x1) (fun x => f x.1 x.2) (fun x r h => IH x.1 x.2 r h) (by kernel_rfl) (by kernel_rfl)
theorem nl_plane_put_plane_woven_1 : ∀ v, (en_plane_put_plane_woven_1 v).noLst := fun _ => ⟨(flat_map_of fun _ => trivial), trivial, trivial⟩
noncomputable def t_plane_put_plane_woven_1 (a0 : Int) (a1 : List Int) (a2 : Int) : Tr F_plane_put_plane_woven_1 Empty ((List Int) × Int) :=
 .len 10 eU a1 <| .call 0 (ok_plane_Bytes a0 (a1.length : Int)) nl_plane_Bytes fun r1 => .iteN 12 23 (r1.2 = 0)
 (.ret 9 ([], r1.2))
 (.call 7 (ok_slices_ContainsFunc_uint64_uint64_plane_put_1 a1 a0) nl_slices_ContainsFunc_uint64_uint64_plane_put_1 fun r2 => .iteB 1 27 (r2)
 (.ret 8 ([], 1))
 (.mk 5 eY 1 0 r1.1 r1.1 <| .let_ (List.replicate (Int.toNat r1.1) 0 : List Int) fun y3 => .len 6 eU a1 <| .loop 4 ⟨_, _, _, _, _, ok_plane_put_plane_woven_1_l0 a0 a1 a2 0 y3⟩ fun j9 => .ret 8 (j9, 0)))
noncomputable def s_plane_put_plane_woven_1 (a0 : Int) (a1 : List Int) (a2 : Int) : Sg Tryz.prog ((List Int) × Int) := ⟨123, M_plane_put_plane_woven_1 a0 a1 a2, [.int .i64 a0, .lst (List.map (D.int .u64) a1), .clo (.func 139) [] [.cp [.int .i64 a2] 0]], en_plane_put_plane_woven_1⟩
theorem ok_plane_put_plane_woven_1 (a0 : Int) (a1 : List Int) (a2 : Int) : (s_plane_put_plane_woven_1 a0 a1 a2).Holds := Tr.fn (F := F_plane_put_plane_woven_1) (t_plane_put_plane_woven_1 a0 a1 a2) (by kernel_rfl) (by kernel_rfl) (by kernel_rfl) (by kernel_rfl)
/-- thrum/plane.Weave. -/
def en_plane_Weave (v : (List Int) × Int) : PV := .tup [sY (.s 0) v.1, nI v.2]
noncomputable abbrev F_plane_Weave : Fe := .of Tryz.prog 96 en_plane_Weave
theorem nl_plane_Weave : ∀ v, (en_plane_Weave v).noLst := fun _ => ⟨(flat_map_of fun _ => trivial), trivial, trivial⟩
noncomputable def t_plane_Weave (a0 : Int) (a1 : List Int) : Tr F_plane_Weave Empty ((List Int) × Int) :=
 .len 10 eU a1 <| .callZ 0 (ok_plane_woven (a1.length : Int)) fun r1 => .call 0 (ok_plane_put_plane_woven_1 a0 a1 r1) nl_plane_put_plane_woven_1 fun r2 => .ret 6 (r2.1, r2.2)
noncomputable def s_plane_Weave (a0 : Int) (a1 : List Int) : Sg Tryz.prog ((List Int) × Int) := ⟨96, M_plane_Weave a0 a1, [.int .i64 a0, .lst (List.map (D.int .u64) a1)], en_plane_Weave⟩
theorem ok_plane_Weave (a0 : Int) (a1 : List Int) : (s_plane_Weave a0 a1).Holds := Tr.fn (F := F_plane_Weave) (t_plane_Weave a0 a1) (by kernel_rfl) (by kernel_rfl) (by kernel_rfl) (by kernel_rfl)
/-- thrum/plane.side. -/
def en_plane_side (v : Int) : PV := .d (.clo (.func 152) [] [.cp [.int .i64 v] 0])
noncomputable abbrev F_plane_side : Fe := .of Tryz.prog 142 en_plane_side
noncomputable def t_plane_side (a0 : Int) : Tr F_plane_side Empty Int :=
 .box 11 (.s 15) [.int .i64 a0] <| .ret 0 a0
noncomputable def s_plane_side (a0 : Int) : Sg Tryz.prog Int := ⟨142, M_plane_side a0, [.int .i64 a0], en_plane_side⟩
theorem ok_plane_side (a0 : Int) : (s_plane_side a0).Holds := Tr.fn (F := F_plane_side) (t_plane_side a0) (by kernel_rfl) (by kernel_rfl) (by kernel_rfl) (by kernel_rfl)
/-- thrum/plane.side$1. -/
def en_plane_side_1_c (v : Int) : PV := nI v
noncomputable abbrev F_plane_side_1_c : Fe := .of Tryz.prog 152 en_plane_side_1_c
theorem nl_plane_side_1_c : ∀ v, (en_plane_side_1_c v).noLst := fun _ => trivial
noncomputable def t_plane_side_1_c (a0 : Int) (a1 : Int) (a2 : Int) : Tr F_plane_side_1_c Empty Int :=
 .ret 14 (IntKind.i64.wrap ((IntKind.i64.wrap (a0 * a2)) + a1))
noncomputable def s_plane_side_1_c (a0 : Int) (a1 : Int) (a2 : Int) : Sg Tryz.prog Int := ⟨152, M_plane_side_1_c a0 a1 a2, [.int .i64 a0, .int .i64 a1, .cp [.int .i64 a2] 0], en_plane_side_1_c⟩
theorem ok_plane_side_1_c (a0 : Int) (a1 : Int) (a2 : Int) : (s_plane_side_1_c a0 a1 a2).Holds := Tr.fn (F := F_plane_side_1_c) (t_plane_side_1_c a0 a1 a2) (by kernel_rfl) (by kernel_rfl) (by kernel_rfl) (by kernel_rfl)
/-- thrum/plane.put. -/
def en_plane_put_plane_side_1 (v : (List Int) × Int) : PV := .tup [sY (.s 0) v.1, nI v.2]
noncomputable abbrev F_plane_put_plane_side_1 : Fe := .of Tryz.prog 123 en_plane_put_plane_side_1
def S_plane_put_plane_side_1_l1 (a0 : Int) (a1 : List Int) (a2 : Int) (x0 : Int) (x0_ : Int) (x1_ : List Int) : St := ⟨[(38, nI x0_), (37, nI a0), (12, nU (at' a1 x0)), (11, nI x0), (32, nI x0), (31, nI (a1.length : Int)), (30, lU a1), (10, sY (.h 1) x1_), (3, .ptr (.s 15) 0), (2, .d (.clo (.func 152) [] [.cp [.int .i64 a2] 0]))], [(.s 15, [nI a0])]⟩
def E_plane_put_plane_side_1_l1 (a0 : Int) (a1 : List Int) (a2 : Int) (x0 : Int) (x : (List Int)) : St := ⟨[(32, nI x0), (31, nI (a1.length : Int)), (30, lU a1), (10, sY (.h 2) x), (3, .ptr (.s 15) 0), (2, .d (.clo (.func 152) [] [.cp [.int .i64 a2] 0]))], [(.s 15, [nI a0])]⟩
noncomputable def t_plane_put_plane_side_1_l1 (a0 : Int) (a1 : List Int) (a2 : Int) (x0 : Int) (x0_ : Int) (x1_ : List Int) : Tr F_plane_put_plane_side_1 (Int × (List Int)) (List Int) :=
 .ite 6 39 (x0_ < a0)
 (.call 14 (ok_plane_side_1_c x0 x0_ a2) nl_plane_side_1_c fun r5 => .idx 6 eY x1_ (sShr .i64 r5 3) <| .rd 6 (0 ≤ IntKind.i64.wrap ((IntKind.i64.wrap (a0 - 1)) - x0_)) (nU (sShr .u64 (at' a1 x0) (IntKind.i64.wrap ((IntKind.i64.wrap (a0 - 1)) - x0_)))) <| .rd 5 (0 ≤ IntKind.i64.wrap (7 - (bAnd .i64 r5 7))) (nY (sShl .u8 (IntKind.u8.wrap (bAnd .u64 (sShr .u64 (at' a1 x0) (IntKind.i64.wrap ((IntKind.i64.wrap (a0 - 1)) - x0_))) 1)) (IntKind.i64.wrap (7 - (bAnd .i64 r5 7))))) <| .idx 1 eY x1_ (sShr .i64 r5 3) <| .sto 0 [45, 10] eY x1_ (sShr .i64 r5 3) (bOr .u8 (at' x1_ (sShr .i64 r5 3)) (sShl .u8 (IntKind.u8.wrap (bAnd .u64 (sShr .u64 (at' a1 x0) (IntKind.i64.wrap ((IntKind.i64.wrap (a0 - 1)) - x0_))) 1)) (IntKind.i64.wrap (7 - (bAnd .i64 r5 7))))) <| .let_ (x1_.set (Int.toNat (sShr .i64 r5 3)) (bOr .u8 (at' x1_ (sShr .i64 r5 3)) (sShl .u8 (IntKind.u8.wrap (bAnd .u64 (sShr .u64 (at' a1 x0) (IntKind.i64.wrap ((IntKind.i64.wrap (a0 - 1)) - x0_))) 1)) (IntKind.i64.wrap (7 - (bAnd .i64 r5 7))))) : List Int) fun y6 => .again 6 (IntKind.i64.wrap (x0_ + 1), y6))
 (.ret 4 x1_)
theorem ok_plane_put_plane_side_1_l1 (a0 : Int) (a1 : List Int) (a2 : Int) (x0 : Int) (x0_ : Int) (x1_ : List Int) : Ok (M_plane_put_plane_side_1_l1 a0 a1 a2 x0 x0_ x1_) fun v => go Tryz.prog F_plane_put_plane_side_1.N (PostN (.exit 2) (E_plane_put_plane_side_1_l1 a0 a1 a2 x0) v) [.l (lpA Tryz.prog 123 1)] .norm (S_plane_put_plane_side_1_l1 a0 a1 a2 x0 x0_ x1_) := by
 refine M_plane_put_plane_side_1_l1.partial_correctness a0 a1 a2 x0 (fun x0_ x1_ v => go Tryz.prog F_plane_put_plane_side_1.N (PostN (.exit 2) (E_plane_put_plane_side_1_l1 a0 a1 a2 x0) v) [.l (lpA Tryz.prog 123 1)] .norm (S_plane_put_plane_side_1_l1 a0 a1 a2 x0 x0_ x1_)) ?_ x0_ x1_
 clear x0_ x1_
 intro f IH x0_ x1_
 exact Tr.lpN (F := F_plane_put_plane_side_1) (S := fun x => S_plane_put_plane_side_1_l1 a0 a1 a2 x0 x.1 x.2) (S' := E_plane_put_plane_side_1_l1 a0 a1 a2 x0) (t_plane_put_plane_side_1_l1 a0 a1 a2 x0 x0_ x1_) (fun x => f x.1 x.2) (fun x r h => IH x.1 x.2 r h) (by kernel_rfl) (by kernel_rfl)
def S_plane_put_plane_side_1_l0 (a0 : Int) (a1 : List Int) (a2 : Int) (x0 : Int) (x1 : List Int) : St := ⟨[(32, nI x0), (31, nI (a1.length : Int)), (30, lU a1), (10, sY (.h 0) x1), (3, .ptr (.s 15) 0), (2, .d (.clo (.func 152) [] [.cp [.int .i64 a2] 0]))], [(.s 15, [nI a0])]⟩
def E_plane_put_plane_side_1_l0 (a0 : Int) (a1 : List Int) (a2 : Int) (x : (List Int)) : St := ⟨[(10, sY (.h 1) x)], []⟩
noncomputable def t_plane_put_plane_side_1_l0 (a0 : Int) (a1 : List Int) (a2 : Int) (x0 : Int) (x1 : List Int) : Tr F_plane_put_plane_side_1 (Int × (List Int)) (List Int) :=
 .ite 6 33 (x0 < (a1.length : Int))
 (.idx 7 eU a1 x0 <| .loop 11 ⟨_, _, _, _, _, ok_plane_put_plane_side_1_l1 a0 a1 a2 x0 0 x1⟩ fun j8 => .again 6 (IntKind.i64.wrap (x0 + 1), j8))
 (.ret 4 x1)
theorem ok_plane_put_plane_side_1_l0 (a0 : Int) (a1 : List Int) (a2 : Int) (x0 : Int) (x1 : List Int) : Ok (M_plane_put_plane_side_1_l0 a0 a1 a2 x0 x1) fun v => go Tryz.prog F_plane_put_plane_side_1.N (PostN (.exit 0) (E_plane_put_plane_side_1_l0 a0 a1 a2) v) [.l (lpA Tryz.prog 123 0)] .norm (S_plane_put_plane_side_1_l0 a0 a1 a2 x0 x1) := by
 refine M_plane_put_plane_side_1_l0.partial_correctness a0 a1 a2 (fun x0 x1 v => go Tryz.prog F_plane_put_plane_side_1.N (PostN (.exit 0) (E_plane_put_plane_side_1_l0 a0 a1 a2) v) [.l (lpA Tryz.prog 123 0)] .norm (S_plane_put_plane_side_1_l0 a0 a1 a2 x0 x1)) ?_ x0 x1
 clear x0 x1
 intro f IH x0 x1
 exact Tr.lpN (F := F_plane_put_plane_side_1) (S := fun x => S_plane_put_plane_side_1_l0 a0 a1 a2 x.1 x.2) (S' := E_plane_put_plane_side_1_l0 a0 a1 a2) (t_plane_put_plane_side_1_l0 a0 a1 a2 x0 x1) (fun x => f x.1 x.2) (fun x r h => IH x.1 x.2 r h) (by kernel_rfl) (by kernel_rfl)
theorem nl_plane_put_plane_side_1 : ∀ v, (en_plane_put_plane_side_1 v).noLst := fun _ => ⟨(flat_map_of fun _ => trivial), trivial, trivial⟩
noncomputable def t_plane_put_plane_side_1 (a0 : Int) (a1 : List Int) (a2 : Int) : Tr F_plane_put_plane_side_1 Empty ((List Int) × Int) :=
 .len 10 eU a1 <| .call 0 (ok_plane_Bytes a0 (a1.length : Int)) nl_plane_Bytes fun r1 => .iteN 12 23 (r1.2 = 0)
 (.ret 9 ([], r1.2))
 (.call 7 (ok_slices_ContainsFunc_uint64_uint64_plane_put_1 a1 a0) nl_slices_ContainsFunc_uint64_uint64_plane_put_1 fun r2 => .iteB 1 27 (r2)
 (.ret 8 ([], 1))
 (.mk 5 eY 1 0 r1.1 r1.1 <| .let_ (List.replicate (Int.toNat r1.1) 0 : List Int) fun y3 => .len 6 eU a1 <| .loop 4 ⟨_, _, _, _, _, ok_plane_put_plane_side_1_l0 a0 a1 a2 0 y3⟩ fun j9 => .ret 8 (j9, 0)))
noncomputable def s_plane_put_plane_side_1 (a0 : Int) (a1 : List Int) (a2 : Int) : Sg Tryz.prog ((List Int) × Int) := ⟨123, M_plane_put_plane_side_1 a0 a1 a2, [.int .i64 a0, .lst (List.map (D.int .u64) a1), .clo (.func 152) [] [.cp [.int .i64 a2] 0]], en_plane_put_plane_side_1⟩
theorem ok_plane_put_plane_side_1 (a0 : Int) (a1 : List Int) (a2 : Int) : (s_plane_put_plane_side_1 a0 a1 a2).Holds := Tr.fn (F := F_plane_put_plane_side_1) (t_plane_put_plane_side_1 a0 a1 a2) (by kernel_rfl) (by kernel_rfl) (by kernel_rfl) (by kernel_rfl)
/-- thrum/plane.Pack. -/
def en_plane_Pack (v : (List Int) × Int) : PV := .tup [sY (.s 0) v.1, nI v.2]
noncomputable abbrev F_plane_Pack : Fe := .of Tryz.prog 124 en_plane_Pack
theorem nl_plane_Pack : ∀ v, (en_plane_Pack v).noLst := fun _ => ⟨(flat_map_of fun _ => trivial), trivial, trivial⟩
noncomputable def t_plane_Pack (a0 : Int) (a1 : List Int) : Tr F_plane_Pack Empty ((List Int) × Int) :=
 .callZ 10 (ok_plane_side a0) fun r1 => .call 0 (ok_plane_put_plane_side_1 a0 a1 r1) nl_plane_put_plane_side_1 fun r2 => .ret 6 (r2.1, r2.2)
noncomputable def s_plane_Pack (a0 : Int) (a1 : List Int) : Sg Tryz.prog ((List Int) × Int) := ⟨124, M_plane_Pack a0 a1, [.int .i64 a0, .lst (List.map (D.int .u64) a1)], en_plane_Pack⟩
theorem ok_plane_Pack (a0 : Int) (a1 : List Int) : (s_plane_Pack a0 a1).Holds := Tr.fn (F := F_plane_Pack) (t_plane_Pack a0 a1) (by kernel_rfl) (by kernel_rfl) (by kernel_rfl) (by kernel_rfl)
/-- thrum/plane.Signs. -/
def en_plane_Signs (v : (List Int) × Int) : PV := .tup [sY (.s 0) v.1, nI v.2]
noncomputable abbrev F_plane_Signs : Fe := .of Tryz.prog 97 en_plane_Signs
def S_plane_Signs_l0 (a0 : List Bool) (x0 : Int) (x1 : List Int) : St := ⟨[(12, nI x0), (11, nI (a0.length : Int)), (10, lB a0), (4, sU (.h 0) x1)], []⟩
def E_plane_Signs_l0 (a0 : List Bool) (x : (List Int)) : St := ⟨[(4, sU (.h 1) x)], []⟩
noncomputable def t_plane_Signs_l0 (a0 : List Bool) (x0 : Int) (x1 : List Int) : Tr F_plane_Signs (Int × (List Int)) (List Int) :=
 .ite 6 13 (x0 < (a0.length : Int))
 (.idx 7 eB a0 x0 <| .iteB 8 17 (at' a0 x0)
 (.idx 4 eU x1 x0 <| .sto 0 [4] eU x1 x0 1 <| .again 6 (IntKind.i64.wrap (x0 + 1), x1.set (Int.toNat x0) 1))
 (.again 7 (IntKind.i64.wrap (x0 + 1), x1)))
 (.ret 4 x1)
theorem ok_plane_Signs_l0 (a0 : List Bool) (x0 : Int) (x1 : List Int) : Ok (M_plane_Signs_l0 a0 x0 x1) fun v => go Tryz.prog F_plane_Signs.N (PostN (.exit 0) (E_plane_Signs_l0 a0) v) [.l (lpA Tryz.prog 97 0)] .norm (S_plane_Signs_l0 a0 x0 x1) := by
 refine M_plane_Signs_l0.partial_correctness a0 (fun x0 x1 v => go Tryz.prog F_plane_Signs.N (PostN (.exit 0) (E_plane_Signs_l0 a0) v) [.l (lpA Tryz.prog 97 0)] .norm (S_plane_Signs_l0 a0 x0 x1)) ?_ x0 x1
 clear x0 x1
 intro f IH x0 x1
 exact Tr.lpN (F := F_plane_Signs) (S := fun x => S_plane_Signs_l0 a0 x.1 x.2) (S' := E_plane_Signs_l0 a0) (t_plane_Signs_l0 a0 x0 x1) (fun x => f x.1 x.2) (fun x r h => IH x.1 x.2 r h) (by kernel_rfl) (by kernel_rfl)
theorem nl_plane_Signs : ∀ v, (en_plane_Signs v).noLst := fun _ => ⟨(flat_map_of fun _ => trivial), trivial, trivial⟩
noncomputable def t_plane_Signs (a0 : List Bool) : Tr F_plane_Signs Empty ((List Int) × Int) :=
 .len 8 eB a0 <| .mk 0 eU 8 0 (a0.length : Int) (a0.length : Int) <| .let_ (List.replicate (Int.toNat (a0.length : Int)) 0 : List Int) fun y1 => .len 6 eB a0 <| .loop 4 ⟨_, _, _, _, _, ok_plane_Signs_l0 a0 0 y1⟩ fun j3 => .call 4 (ok_plane_Pack 1 j3) nl_plane_Pack fun r4 => .ret 6 (r4.1, r4.2)
noncomputable def s_plane_Signs (a0 : List Bool) : Sg Tryz.prog ((List Int) × Int) := ⟨97, M_plane_Signs a0, [.lst (List.map D.bool a0)], en_plane_Signs⟩
theorem ok_plane_Signs (a0 : List Bool) : (s_plane_Signs a0).Holds := Tr.fn (F := F_plane_Signs) (t_plane_Signs a0) (by kernel_rfl) (by kernel_rfl) (by kernel_rfl) (by kernel_rfl)
/-- (*thrum/frame.pen).level. -/
def en_thrum_frame_pen_level (v : (List Int) × Int) : PV := .tup []
def bx_thrum_frame_pen_level (v : (List Int) × Int) : List (Tg × List PV) := [(.up (.s 0), [sY (.s 0) v.1, nI v.2])]
noncomputable abbrev F_thrum_frame_pen_level : Fe := .of Tryz.prog 52 en_thrum_frame_pen_level bx_thrum_frame_pen_level
noncomputable def t_thrum_frame_pen_level (a0 : T_frame_pen) (a1 : T_api_Sent) : Tr F_thrum_frame_pen_level Empty ((List Int) × Int) :=
 .join 5 0 (γ := (List Int)) ⟨fun _ => [], [3, 0], fun x => [(.up (.s 0), [sY (.h 0) x, nI a0.F_e])], [.s 15]⟩
 (.draws3 0 (.hold 13 [] <| .call 0 (ok_leb_Put a0.F_b [IntKind.u64.wrap a1.F_Scale]) nl_leb_Put fun r1 => .hold 1 [] <| .hold 2 [] <| .app 0 eY 1 r1 [IntKind.u8.wrap a1.F_Wide] <| .hold 1 [] <| .ret 5 (r1 ++ [IntKind.u8.wrap a1.F_Wide])) (.hold 13 [] <| .hold 2 [] <| .call 0 (ok_leb_Put a0.F_b [IntKind.u64.wrap a1.F_Scale]) nl_leb_Put fun r1 => .hold 1 [] <| .app 0 eY 1 r1 [IntKind.u8.wrap a1.F_Wide] <| .hold 1 [] <| .ret 5 (r1 ++ [IntKind.u8.wrap a1.F_Wide])) (.hold 13 [] <| .hold 2 [] <| .call 0 (ok_leb_Put a0.F_b [IntKind.u64.wrap a1.F_Scale]) nl_leb_Put fun r1 => .hold 1 [] <| .app 0 eY 1 r1 [IntKind.u8.wrap a1.F_Wide] <| .hold 1 [] <| .ret 5 (r1 ++ [IntKind.u8.wrap a1.F_Wide])))
 fun j2 => .call 7 (ok_plane_Weave a1.F_Wide a1.F_Lev) nl_plane_Weave fun r3 => .callB 2 [(.up (.s 0), .up (.s 0)), (.h 0, .h 0)] (ok_thrum_frame_pen_bytes (⟨j2, a0.F_e⟩ : T_frame_pen) r3.1 r3.2) nl_thrum_frame_pen_bytes nlB_thrum_frame_pen_bytes fun r4 => .call 5 (ok_plane_Signs a1.F_Neg) nl_plane_Signs fun r5 => .callB 2 [(.up (.s 0), .up (.s 0)), (.h 0, .s 3328)] (ok_thrum_frame_pen_bytes (⟨r4.1, r4.2⟩ : T_frame_pen) r5.1 r5.2) nl_thrum_frame_pen_bytes nlB_thrum_frame_pen_bytes fun r6 => .ret 1 (r6.1, r6.2)
noncomputable def s_thrum_frame_pen_level (a0 : T_frame_pen) (a1 : T_api_Sent) : SgG Tryz.prog ((List Int) × Int) := ⟨52, M_thrum_frame_pen_level a0 a1, [.ptr (.up (.s 0)) 0, .d (.agg [.int .i64 a1.F_Scheme, .int .i64 a1.F_Dim, .lst (List.map (D.int .i64) a1.F_L), .lst (List.map (D.int .i64) a1.F_V), .int .i64 a1.F_Scale, .int .i64 a1.F_Wide, .lst (List.map (D.int .u64) a1.F_Lev), .lst (List.map D.bool a1.F_Neg)])], [(.up (.s 0), [lY a0.F_b, nI a0.F_e])], en_thrum_frame_pen_level, bx_thrum_frame_pen_level⟩
theorem ok_thrum_frame_pen_level (a0 : T_frame_pen) (a1 : T_api_Sent) : (s_thrum_frame_pen_level a0 a1).Holds := Tr.fnG (F := F_thrum_frame_pen_level) (t_thrum_frame_pen_level a0 a1) (by kernel_rfl) (by kernel_rfl) (by kernel_rfl) (by kernel_rfl)
/-- (*thrum/frame.pen).sign. -/
def en_thrum_frame_pen_sign (v : (List Int) × Int) : PV := .tup []
def bx_thrum_frame_pen_sign (v : (List Int) × Int) : List (Tg × List PV) := [(.up (.s 0), [sY (.s 0) v.1, nI v.2])]
noncomputable abbrev F_thrum_frame_pen_sign : Fe := .of Tryz.prog 53 en_thrum_frame_pen_sign bx_thrum_frame_pen_sign
noncomputable def t_thrum_frame_pen_sign (a0 : T_frame_pen) (a1 : T_api_Sent) : Tr F_thrum_frame_pen_sign Empty ((List Int) × Int) :=
 .hold 16 [] <| .call 0 (ok_leb_Put a0.F_b [IntKind.u64.wrap a1.F_Scale]) nl_leb_Put fun r1 => .hold 1 [] <| .call 9 (ok_plane_Signs a1.F_Neg) nl_plane_Signs fun r2 => .callB 2 [(.up (.s 0), .up (.s 0)), (.h 0, .s 1744)] (ok_thrum_frame_pen_bytes (⟨r1, a0.F_e⟩ : T_frame_pen) r2.1 r2.2) nl_thrum_frame_pen_bytes nlB_thrum_frame_pen_bytes fun r3 => .ret 1 (r3.1, r3.2)
noncomputable def s_thrum_frame_pen_sign (a0 : T_frame_pen) (a1 : T_api_Sent) : SgG Tryz.prog ((List Int) × Int) := ⟨53, M_thrum_frame_pen_sign a0 a1, [.ptr (.up (.s 0)) 0, .d (.agg [.int .i64 a1.F_Scheme, .int .i64 a1.F_Dim, .lst (List.map (D.int .i64) a1.F_L), .lst (List.map (D.int .i64) a1.F_V), .int .i64 a1.F_Scale, .int .i64 a1.F_Wide, .lst (List.map (D.int .u64) a1.F_Lev), .lst (List.map D.bool a1.F_Neg)])], [(.up (.s 0), [lY a0.F_b, nI a0.F_e])], en_thrum_frame_pen_sign, bx_thrum_frame_pen_sign⟩
theorem ok_thrum_frame_pen_sign (a0 : T_frame_pen) (a1 : T_api_Sent) : (s_thrum_frame_pen_sign a0 a1).Holds := Tr.fnG (F := F_thrum_frame_pen_sign) (t_thrum_frame_pen_sign a0 a1) (by kernel_rfl) (by kernel_rfl) (by kernel_rfl) (by kernel_rfl)
/-- thrum/frame.Body. -/
def en_frame_Body (v : (List Int) × Int) : PV := .tup [sY (.s 0) v.1, nI v.2]
noncomputable abbrev F_frame_Body : Fe := .of Tryz.prog 17 en_frame_Body
theorem nl_frame_Body : ∀ v, (en_frame_Body v).noLst := fun _ => ⟨(flat_map_of fun _ => trivial), trivial, trivial⟩
noncomputable def t_frame_Body (a0 : T_api_Sent) : Tr F_frame_Body Empty ((List Int) × Int) :=
 .call 10 (ok_frame_May a0) nl_frame_May fun r1 => .iteX 2 8 (r1)
 (.ret 8 ([], 1))
 (.call 12 (ok_leb_Put [IntKind.u8.wrap a0.F_Scheme] [IntKind.u64.wrap a0.F_Dim]) nl_leb_Put fun r2 => .join 27 3 (γ := (List Int) × Int) ⟨fun _ => [], [4], fun x => [(.s 4975, [sY (.h 0) x.1, nI x.2])], []⟩
 (.look 0 <| .lk a0.F_Scheme 0
 (.callG 1 [(.up (.s 0), .s 4975)] [.s 4928] (ok_thrum_frame_pen_dense (⟨r2, 0⟩ : T_frame_pen) a0) fun r3 => .ret 1 (r3.1, r3.2))
 (.lk a0.F_Scheme 1
 (.callB 1 [(.up (.s 0), .s 4975), (.h 0, .s 4928)] (ok_thrum_frame_pen_top (⟨r2, 0⟩ : T_frame_pen) a0) nl_thrum_frame_pen_top nlB_thrum_frame_pen_top fun r4 => .ret 1 (r4.1, r4.2))
 (.lk a0.F_Scheme 2
 (.callG 1 [(.up (.s 0), .s 4975)] [.s 4928] (ok_thrum_frame_pen_level (⟨r2, 0⟩ : T_frame_pen) a0) fun r5 => .ret 1 (r5.1, r5.2))
 (.lk a0.F_Scheme 3
 (.callG 1 [(.up (.s 0), .s 4975)] [.s 4928] (ok_thrum_frame_pen_sign (⟨r2, 0⟩ : T_frame_pen) a0) fun r6 => .ret 1 (r6.1, r6.2))
 (.lk0 <| .halt)))))
 fun j7 => .iteN 10 40 (j7.2 = 0)
 (.ret 12 ([], j7.2))
 (.ret 12 (j7.1, 0)))
noncomputable def s_frame_Body (a0 : T_api_Sent) : Sg Tryz.prog ((List Int) × Int) := ⟨17, M_frame_Body a0, [.agg [.int .i64 a0.F_Scheme, .int .i64 a0.F_Dim, .lst (List.map (D.int .i64) a0.F_L), .lst (List.map (D.int .i64) a0.F_V), .int .i64 a0.F_Scale, .int .i64 a0.F_Wide, .lst (List.map (D.int .u64) a0.F_Lev), .lst (List.map D.bool a0.F_Neg)]], en_frame_Body⟩
theorem ok_frame_Body (a0 : T_api_Sent) : (s_frame_Body a0).Holds := Tr.fn (F := F_frame_Body) (t_frame_Body a0) (by kernel_rfl) (by kernel_rfl) (by kernel_rfl) (by kernel_rfl)
noncomputable def s_crc_More (a0 : Int) (a1 : List Int) : Sg Tryz.prog Int := ⟨108, M_crc_More a0 a1, [.int .u32 a0, .lst (List.map (D.int .u8) a1)], en_crc_More⟩
theorem sk_crc_More (a0 : Int) (a1 : List Int) : (s_crc_More a0 a1).Holds := ok_crc_More a0 a1
theorem nl_crc_More : ∀ v, (en_crc_More v).noLst := fun _ => trivial
/-- thrum/crc.Sum. -/
def en_crc_Sum (v : Int) : PV := nW v
noncomputable abbrev F_crc_Sum : Fe := .of Tryz.prog 65 en_crc_Sum
theorem nl_crc_Sum : ∀ v, (en_crc_Sum v).noLst := fun _ => trivial
noncomputable def t_crc_Sum (a0 : List Int) : Tr F_crc_Sum Empty Int :=
 .call 7 (sk_crc_More 0 a0) nl_crc_More fun r1 => .ret 3 r1
noncomputable def s_crc_Sum (a0 : List Int) : Sg Tryz.prog Int := ⟨65, M_crc_Sum a0, [.lst (List.map (D.int .u8) a0)], en_crc_Sum⟩
theorem ok_crc_Sum (a0 : List Int) : (s_crc_Sum a0).Holds := Tr.fn (F := F_crc_Sum) (t_crc_Sum a0) (by kernel_rfl) (by kernel_rfl) (by kernel_rfl) (by kernel_rfl)
/-- thrum/crc.Seal. -/
def en_crc_Seal (v : (List Int) × Int) : PV := .tup [sY (.s 0) v.1, nI v.2]
noncomputable abbrev F_crc_Seal : Fe := .of Tryz.prog 30 en_crc_Seal
def S_crc_Seal_l0 (x0 : Int) (x1 : Int) (x2 : List Int) : St := ⟨[(6, nI x0), (5, nW x1), (4, sY (.h 0) x2)], []⟩
def E_crc_Seal_l0 (x : (List Int)) : St := ⟨[(4, sY (.h 1) x)], []⟩
noncomputable def t_crc_Seal_l0 (x0 : Int) (x1 : Int) (x2 : List Int) : Tr F_crc_Seal (Int × Int × (List Int)) (List Int) :=
 .ite 7 15 (x0 < 4)
 (.app 9 eY 1 x2 [IntKind.u8.wrap x1] <| .let_ (x2 ++ [IntKind.u8.wrap x1] : List Int) fun y3 => .again 11 (IntKind.i64.wrap (x0 + 1), sShr .u32 x1 8, y3))
 (.ret 4 x2)
theorem ok_crc_Seal_l0 (x0 : Int) (x1 : Int) (x2 : List Int) : Ok (M_crc_Seal_l0 x0 x1 x2) fun v => go Tryz.prog F_crc_Seal.N (PostN (.exit 0) (E_crc_Seal_l0) v) [.l (lpA Tryz.prog 30 0)] .norm (S_crc_Seal_l0 x0 x1 x2) := by
 refine M_crc_Seal_l0.partial_correctness (fun x0 x1 x2 v => go Tryz.prog F_crc_Seal.N (PostN (.exit 0) (E_crc_Seal_l0) v) [.l (lpA Tryz.prog 30 0)] .norm (S_crc_Seal_l0 x0 x1 x2)) ?_ x0 x1 x2
 clear x0 x1 x2
 intro f IH x0 x1 x2
 exact Tr.lpN (F := F_crc_Seal) (S := fun x => S_crc_Seal_l0 x.1 x.2.1 x.2.2) (S' := E_crc_Seal_l0) (t_crc_Seal_l0 x0 x1 x2) (fun x => f x.1 x.2.1 x.2.2) (fun x r h => IH x.1 x.2.1 x.2.2 r h) (by kernel_rfl) (by kernel_rfl)
theorem nl_crc_Seal : ∀ v, (en_crc_Seal v).noLst := fun _ => ⟨(flat_map_of fun _ => trivial), trivial, trivial⟩
noncomputable def t_crc_Seal (a0 : List Int) : Tr F_crc_Seal Empty ((List Int) × Int) :=
 .len 9 eY a0 <| .ite 2 9 ((a0.length : Int) > 65532)
 (.ret 8 ([], 3))
 (.call 5 (ok_slices_Clone_byte_byte a0) nl_slices_Clone_byte_byte fun r1 => .call 6 (ok_crc_Sum a0) nl_crc_Sum fun r2 => .loop 5 ⟨_, _, _, _, _, ok_crc_Seal_l0 0 r2 r1⟩ fun j5 => .ret 8 (j5, 0))
noncomputable def s_crc_Seal (a0 : List Int) : Sg Tryz.prog ((List Int) × Int) := ⟨30, M_crc_Seal a0, [.lst (List.map (D.int .u8) a0)], en_crc_Seal⟩
theorem ok_crc_Seal (a0 : List Int) : (s_crc_Seal a0).Holds := Tr.fn (F := F_crc_Seal) (t_crc_Seal a0) (by kernel_rfl) (by kernel_rfl) (by kernel_rfl) (by kernel_rfl)
/-- thrum/frame.Write. -/
def en_frame_Write (v : (List Int) × Int) : PV := .tup [sY (.s 0) v.1, nI v.2]
noncomputable abbrev F_frame_Write : Fe := .of Tryz.prog 9 en_frame_Write
theorem nl_frame_Write : ∀ v, (en_frame_Write v).noLst := fun _ => ⟨(flat_map_of fun _ => trivial), trivial, trivial⟩
noncomputable def t_frame_Write (a0 : T_api_Frame) : Tr F_frame_Write Empty ((List Int) × Int) :=
 .call 10 (ok_frame_Check a0) nl_frame_Check fun r1 => .iteN 7 11 (r1 = 0)
 (.ret 9 ([], r1))
 (.call 15 (ok_leb_Put [1, IntKind.u8.wrap a0.F_Kind] [IntKind.u64.wrap a0.F_From, IntKind.u64.wrap a0.F_Step]) nl_leb_Put fun r2 => .ite 9 27 (a0.F_Kind = 1)
 (.call 5 (ok_frame_Body a0.F_S) nl_frame_Body fun r3 => .iteN 12 35 (r3.2 = 0)
 (.ret 10 ([], r3.2))
 (.app 5 eY 1 r2 r3.1 <| .call 5 (ok_crc_Seal (r2 ++ r3.1)) nl_crc_Seal fun r4 => .ret 6 (r4.1, r4.2)))
 (.call 5 (ok_crc_Seal r2) nl_crc_Seal fun r5 => .ret 6 (r5.1, r5.2)))
noncomputable def s_frame_Write (a0 : T_api_Frame) : Sg Tryz.prog ((List Int) × Int) := ⟨9, M_frame_Write a0, [.agg [.int .i64 a0.F_Kind, .int .i64 a0.F_From, .int .i64 a0.F_Step, .int .i64 a0.F_S.F_Scheme, .int .i64 a0.F_S.F_Dim, .lst (List.map (D.int .i64) a0.F_S.F_L), .lst (List.map (D.int .i64) a0.F_S.F_V), .int .i64 a0.F_S.F_Scale, .int .i64 a0.F_S.F_Wide, .lst (List.map (D.int .u64) a0.F_S.F_Lev), .lst (List.map D.bool a0.F_S.F_Neg)]], en_frame_Write⟩
theorem ok_frame_Write (a0 : T_api_Frame) : (s_frame_Write a0).Holds := Tr.fn (F := F_frame_Write) (t_frame_Write a0) (by kernel_rfl) (by kernel_rfl) (by kernel_rfl) (by kernel_rfl)
/-- thrum/thrumref06.Equal. -/
def en_thrumref06_Equal (v : Bool) : PV := bB v
noncomputable abbrev F_thrumref06_Equal : Fe := .of Tryz.prog 33 en_thrumref06_Equal
def S_thrumref06_Equal_l0 (a0 : List Int) (a1 : List Int) (x0 : Int) : St := ⟨[(13, nI x0), (12, nI (a0.length : Int)), (0, lI a0), (1, lI a1)], []⟩
def E_thrumref06_Equal_l0 (a0 : List Int) (a1 : List Int) (x : Unit) : St := ⟨[], []⟩
noncomputable def t_thrumref06_Equal_l0 (a0 : List Int) (a1 : List Int) (x0 : Int) : Tr F_thrumref06_Equal Int (Sum Bool Unit) :=
 .ite 6 14 (x0 < (a0.length : Int))
 (.idx 13 eI a0 x0 <| .idx 3 eI a1 x0 <| .iteN 3 24 ((at' a0 x0) = (at' a1 x0))
 (.ret 9 (.inl false))
 (.again 7 (IntKind.i64.wrap (x0 + 1))))
 (.ret 4 (.inr ()))
theorem ok_thrumref06_Equal_l0 (a0 : List Int) (a1 : List Int) (x0 : Int) : Ok (M_thrumref06_Equal_l0 a0 a1 x0) fun v => go Tryz.prog F_thrumref06_Equal.N (PostR (fun r => Fnl F_thrumref06_Equal.res (F_thrumref06_Equal.en r) (F_thrumref06_Equal.bx r)) (.exit 0) (E_thrumref06_Equal_l0 a0 a1) v) [.l (lpA Tryz.prog 33 0)] .norm (S_thrumref06_Equal_l0 a0 a1 x0) := by
 refine M_thrumref06_Equal_l0.partial_correctness a0 a1 (fun x0 v => go Tryz.prog F_thrumref06_Equal.N (PostR (fun r => Fnl F_thrumref06_Equal.res (F_thrumref06_Equal.en r) (F_thrumref06_Equal.bx r)) (.exit 0) (E_thrumref06_Equal_l0 a0 a1) v) [.l (lpA Tryz.prog 33 0)] .norm (S_thrumref06_Equal_l0 a0 a1 x0)) ?_ x0
 clear x0
 intro f IH x0
 exact Tr.lpR (F := F_thrumref06_Equal) (S := fun x => S_thrumref06_Equal_l0 a0 a1 x) (S' := E_thrumref06_Equal_l0 a0 a1) (t_thrumref06_Equal_l0 a0 a1 x0) (fun x => f x) (fun x r h => IH x r h) (by kernel_rfl) (by kernel_rfl)
theorem nl_thrumref06_Equal : ∀ v, (en_thrumref06_Equal v).noLst := fun _ => trivial
noncomputable def t_thrumref06_Equal (a0 : List Int) (a1 : List Int) : Tr F_thrumref06_Equal Empty Bool :=
 .len 8 eI a0 <| .len 1 eI a1 <| .iteN 2 10 ((a0.length : Int) = (a1.length : Int))
 (.ret 7 false)
 (.len 6 eI a0 <| .loopR 4 id ⟨_, _, _, _, _, ok_thrumref06_Equal_l0 a0 a1 0⟩ fun j1 => .ret 6 true)
noncomputable def s_thrumref06_Equal (a0 : List Int) (a1 : List Int) : Sg Tryz.prog Bool := ⟨33, M_thrumref06_Equal a0 a1, [.lst (List.map (D.int .i64) a0), .lst (List.map (D.int .i64) a1)], en_thrumref06_Equal⟩
theorem ok_thrumref06_Equal (a0 : List Int) (a1 : List Int) : (s_thrumref06_Equal a0 a1).Holds := Tr.fn (F := F_thrumref06_Equal) (t_thrumref06_Equal a0 a1) (by kernel_rfl) (by kernel_rfl) (by kernel_rfl) (by kernel_rfl)
/-- thrum/thrumref02.Same. -/
def en_thrumref02_Same (v : Bool) : PV := bB v
noncomputable abbrev F_thrumref02_Same : Fe := .of Tryz.prog 45 en_thrumref02_Same
def S_thrumref02_Same_l0 (a0 : List Int) (a1 : List Int) (x0 : Int) : St := ⟨[(13, nI x0), (12, nI (a0.length : Int)), (0, lI a0), (1, lI a1)], []⟩
def E_thrumref02_Same_l0 (a0 : List Int) (a1 : List Int) (x : Unit) : St := ⟨[], []⟩
noncomputable def t_thrumref02_Same_l0 (a0 : List Int) (a1 : List Int) (x0 : Int) : Tr F_thrumref02_Same Int (Sum Bool Unit) :=
 .ite 6 14 (x0 < (a0.length : Int))
 (.idx 13 eI a0 x0 <| .idx 3 eI a1 x0 <| .iteN 3 24 ((at' a0 x0) = (at' a1 x0))
 (.ret 9 (.inl false))
 (.again 7 (IntKind.i64.wrap (x0 + 1))))
 (.ret 4 (.inr ()))
theorem ok_thrumref02_Same_l0 (a0 : List Int) (a1 : List Int) (x0 : Int) : Ok (M_thrumref02_Same_l0 a0 a1 x0) fun v => go Tryz.prog F_thrumref02_Same.N (PostR (fun r => Fnl F_thrumref02_Same.res (F_thrumref02_Same.en r) (F_thrumref02_Same.bx r)) (.exit 0) (E_thrumref02_Same_l0 a0 a1) v) [.l (lpA Tryz.prog 45 0)] .norm (S_thrumref02_Same_l0 a0 a1 x0) := by
 refine M_thrumref02_Same_l0.partial_correctness a0 a1 (fun x0 v => go Tryz.prog F_thrumref02_Same.N (PostR (fun r => Fnl F_thrumref02_Same.res (F_thrumref02_Same.en r) (F_thrumref02_Same.bx r)) (.exit 0) (E_thrumref02_Same_l0 a0 a1) v) [.l (lpA Tryz.prog 45 0)] .norm (S_thrumref02_Same_l0 a0 a1 x0)) ?_ x0
 clear x0
 intro f IH x0
 exact Tr.lpR (F := F_thrumref02_Same) (S := fun x => S_thrumref02_Same_l0 a0 a1 x) (S' := E_thrumref02_Same_l0 a0 a1) (t_thrumref02_Same_l0 a0 a1 x0) (fun x => f x) (fun x r h => IH x r h) (by kernel_rfl) (by kernel_rfl)
theorem nl_thrumref02_Same : ∀ v, (en_thrumref02_Same v).noLst := fun _ => trivial
noncomputable def t_thrumref02_Same (a0 : List Int) (a1 : List Int) : Tr F_thrumref02_Same Empty Bool :=
 .len 8 eI a0 <| .len 1 eI a1 <| .iteN 2 10 ((a0.length : Int) = (a1.length : Int))
 (.ret 7 false)
 (.len 6 eI a0 <| .loopR 4 id ⟨_, _, _, _, _, ok_thrumref02_Same_l0 a0 a1 0⟩ fun j1 => .ret 6 true)
noncomputable def s_thrumref02_Same (a0 : List Int) (a1 : List Int) : Sg Tryz.prog Bool := ⟨45, M_thrumref02_Same a0 a1, [.lst (List.map (D.int .i64) a0), .lst (List.map (D.int .i64) a1)], en_thrumref02_Same⟩
theorem ok_thrumref02_Same (a0 : List Int) (a1 : List Int) : (s_thrumref02_Same a0 a1).Holds := Tr.fn (F := F_thrumref02_Same) (t_thrumref02_Same a0 a1) (by kernel_rfl) (by kernel_rfl) (by kernel_rfl) (by kernel_rfl)
/-- thrum/thrumref03.SameNumbers. -/
def en_thrumref03_SameNumbers (v : Bool) : PV := bB v
noncomputable abbrev F_thrumref03_SameNumbers : Fe := .of Tryz.prog 46 en_thrumref03_SameNumbers
def S_thrumref03_SameNumbers_l0 (a0 : List Int) (a1 : List Int) (x0 : Int) : St := ⟨[(13, nI x0), (12, nI (a0.length : Int)), (0, lU a0), (1, lU a1)], []⟩
def E_thrumref03_SameNumbers_l0 (a0 : List Int) (a1 : List Int) (x : Unit) : St := ⟨[], []⟩
noncomputable def t_thrumref03_SameNumbers_l0 (a0 : List Int) (a1 : List Int) (x0 : Int) : Tr F_thrumref03_SameNumbers Int (Sum Bool Unit) :=
 .ite 6 14 (x0 < (a0.length : Int))
 (.idx 13 eU a0 x0 <| .idx 3 eU a1 x0 <| .iteN 3 24 ((at' a0 x0) = (at' a1 x0))
 (.ret 9 (.inl false))
 (.again 7 (IntKind.i64.wrap (x0 + 1))))
 (.ret 4 (.inr ()))
theorem ok_thrumref03_SameNumbers_l0 (a0 : List Int) (a1 : List Int) (x0 : Int) : Ok (M_thrumref03_SameNumbers_l0 a0 a1 x0) fun v => go Tryz.prog F_thrumref03_SameNumbers.N (PostR (fun r => Fnl F_thrumref03_SameNumbers.res (F_thrumref03_SameNumbers.en r) (F_thrumref03_SameNumbers.bx r)) (.exit 0) (E_thrumref03_SameNumbers_l0 a0 a1) v) [.l (lpA Tryz.prog 46 0)] .norm (S_thrumref03_SameNumbers_l0 a0 a1 x0) := by
 refine M_thrumref03_SameNumbers_l0.partial_correctness a0 a1 (fun x0 v => go Tryz.prog F_thrumref03_SameNumbers.N (PostR (fun r => Fnl F_thrumref03_SameNumbers.res (F_thrumref03_SameNumbers.en r) (F_thrumref03_SameNumbers.bx r)) (.exit 0) (E_thrumref03_SameNumbers_l0 a0 a1) v) [.l (lpA Tryz.prog 46 0)] .norm (S_thrumref03_SameNumbers_l0 a0 a1 x0)) ?_ x0
 clear x0
 intro f IH x0
 exact Tr.lpR (F := F_thrumref03_SameNumbers) (S := fun x => S_thrumref03_SameNumbers_l0 a0 a1 x) (S' := E_thrumref03_SameNumbers_l0 a0 a1) (t_thrumref03_SameNumbers_l0 a0 a1 x0) (fun x => f x) (fun x r h => IH x r h) (by kernel_rfl) (by kernel_rfl)
theorem nl_thrumref03_SameNumbers : ∀ v, (en_thrumref03_SameNumbers v).noLst := fun _ => trivial
noncomputable def t_thrumref03_SameNumbers (a0 : List Int) (a1 : List Int) : Tr F_thrumref03_SameNumbers Empty Bool :=
 .len 8 eU a0 <| .len 1 eU a1 <| .iteN 2 10 ((a0.length : Int) = (a1.length : Int))
 (.ret 7 false)
 (.len 6 eU a0 <| .loopR 4 id ⟨_, _, _, _, _, ok_thrumref03_SameNumbers_l0 a0 a1 0⟩ fun j1 => .ret 6 true)
noncomputable def s_thrumref03_SameNumbers (a0 : List Int) (a1 : List Int) : Sg Tryz.prog Bool := ⟨46, M_thrumref03_SameNumbers a0 a1, [.lst (List.map (D.int .u64) a0), .lst (List.map (D.int .u64) a1)], en_thrumref03_SameNumbers⟩
theorem ok_thrumref03_SameNumbers (a0 : List Int) (a1 : List Int) : (s_thrumref03_SameNumbers a0 a1).Holds := Tr.fn (F := F_thrumref03_SameNumbers) (t_thrumref03_SameNumbers a0 a1) (by kernel_rfl) (by kernel_rfl) (by kernel_rfl) (by kernel_rfl)
/-- thrum/thrumref05.SameSigns. -/
def en_thrumref05_SameSigns (v : Bool) : PV := bB v
noncomputable abbrev F_thrumref05_SameSigns : Fe := .of Tryz.prog 47 en_thrumref05_SameSigns
def S_thrumref05_SameSigns_l0 (a0 : List Bool) (a1 : List Bool) (x0 : Int) : St := ⟨[(13, nI x0), (12, nI (a0.length : Int)), (0, lB a0), (1, lB a1)], []⟩
def E_thrumref05_SameSigns_l0 (a0 : List Bool) (a1 : List Bool) (x : Unit) : St := ⟨[], []⟩
noncomputable def t_thrumref05_SameSigns_l0 (a0 : List Bool) (a1 : List Bool) (x0 : Int) : Tr F_thrumref05_SameSigns Int (Sum Bool Unit) :=
 .ite 6 14 (x0 < (a0.length : Int))
 (.idx 13 eB a0 x0 <| .idx 3 eB a1 x0 <| .iteN 3 24 ((at' a0 x0) = (at' a1 x0))
 (.ret 9 (.inl false))
 (.again 7 (IntKind.i64.wrap (x0 + 1))))
 (.ret 4 (.inr ()))
theorem ok_thrumref05_SameSigns_l0 (a0 : List Bool) (a1 : List Bool) (x0 : Int) : Ok (M_thrumref05_SameSigns_l0 a0 a1 x0) fun v => go Tryz.prog F_thrumref05_SameSigns.N (PostR (fun r => Fnl F_thrumref05_SameSigns.res (F_thrumref05_SameSigns.en r) (F_thrumref05_SameSigns.bx r)) (.exit 0) (E_thrumref05_SameSigns_l0 a0 a1) v) [.l (lpA Tryz.prog 47 0)] .norm (S_thrumref05_SameSigns_l0 a0 a1 x0) := by
 refine M_thrumref05_SameSigns_l0.partial_correctness a0 a1 (fun x0 v => go Tryz.prog F_thrumref05_SameSigns.N (PostR (fun r => Fnl F_thrumref05_SameSigns.res (F_thrumref05_SameSigns.en r) (F_thrumref05_SameSigns.bx r)) (.exit 0) (E_thrumref05_SameSigns_l0 a0 a1) v) [.l (lpA Tryz.prog 47 0)] .norm (S_thrumref05_SameSigns_l0 a0 a1 x0)) ?_ x0
 clear x0
 intro f IH x0
 exact Tr.lpR (F := F_thrumref05_SameSigns) (S := fun x => S_thrumref05_SameSigns_l0 a0 a1 x) (S' := E_thrumref05_SameSigns_l0 a0 a1) (t_thrumref05_SameSigns_l0 a0 a1 x0) (fun x => f x) (fun x r h => IH x r h) (by kernel_rfl) (by kernel_rfl)
theorem nl_thrumref05_SameSigns : ∀ v, (en_thrumref05_SameSigns v).noLst := fun _ => trivial
noncomputable def t_thrumref05_SameSigns (a0 : List Bool) (a1 : List Bool) : Tr F_thrumref05_SameSigns Empty Bool :=
 .len 8 eB a0 <| .len 1 eB a1 <| .iteN 2 10 ((a0.length : Int) = (a1.length : Int))
 (.ret 7 false)
 (.len 6 eB a0 <| .loopR 4 id ⟨_, _, _, _, _, ok_thrumref05_SameSigns_l0 a0 a1 0⟩ fun j1 => .ret 6 true)
noncomputable def s_thrumref05_SameSigns (a0 : List Bool) (a1 : List Bool) : Sg Tryz.prog Bool := ⟨47, M_thrumref05_SameSigns a0 a1, [.lst (List.map D.bool a0), .lst (List.map D.bool a1)], en_thrumref05_SameSigns⟩
theorem ok_thrumref05_SameSigns (a0 : List Bool) (a1 : List Bool) : (s_thrumref05_SameSigns a0 a1).Holds := Tr.fn (F := F_thrumref05_SameSigns) (t_thrumref05_SameSigns a0 a1) (by kernel_rfl) (by kernel_rfl) (by kernel_rfl) (by kernel_rfl)
/-- thrum/thrumref07.SameSent. -/
def en_thrumref07_SameSent (v : Bool) : PV := bB v
noncomputable abbrev F_thrumref07_SameSent : Fe := .of Tryz.prog 13 en_thrumref07_SameSent
theorem nl_thrumref07_SameSent : ∀ v, (en_thrumref07_SameSent v).noLst := fun _ => trivial
noncomputable def t_thrumref07_SameSent (a0 : T_api_Sent) (a1 : T_api_Sent) : Tr F_thrumref07_SameSent Empty Bool :=
 .join 14 6 (γ := Bool) ⟨fun x => [(16, bB x)], [3, 2], fun _ => [], [.s 31, .s 15]⟩
 (.ite 0 10 (a0.F_Scheme = a1.F_Scheme)
 (.ret 7 (a0.F_Dim == a1.F_Dim))
 (.ret 7 false))
 fun j1 => .join 1 6 (γ := Bool) ⟨fun x => [(23, bB x)], [3, 2], fun _ => [], [.s 31, .s 15]⟩
 (.iteB 0 17 (j1)
 (.call 4 (ok_thrumref06_Equal a0.F_L a1.F_L) nl_thrumref06_Equal fun r2 => .ret 2 r2)
 (.ret 7 false))
 fun j3 => .join 1 6 (γ := Bool) ⟨fun x => [(30, bB x)], [3, 2], fun _ => [], [.s 31, .s 15]⟩
 (.iteB 0 24 (j3)
 (.call 4 (ok_thrumref02_Same a0.F_V a1.F_V) nl_thrumref02_Same fun r4 => .ret 2 r4)
 (.ret 7 false))
 fun j5 => .join 1 6 (γ := Bool) ⟨fun x => [(37, bB x)], [3, 2], fun _ => [], [.s 31, .s 15]⟩
 (.iteB 0 31 (j5)
 (.ret 7 (a0.F_Scale == a1.F_Scale))
 (.ret 7 false))
 fun j6 => .join 1 6 (γ := Bool) ⟨fun x => [(44, bB x)], [3, 2], fun _ => [], [.s 31, .s 15]⟩
 (.iteB 0 38 (j6)
 (.ret 7 (a0.F_Wide == a1.F_Wide))
 (.ret 7 false))
 fun j7 => .join 1 6 (γ := Bool) ⟨fun x => [(51, bB x)], [3, 2], fun _ => [], [.s 31, .s 15]⟩
 (.iteB 0 45 (j7)
 (.call 4 (ok_thrumref03_SameNumbers a0.F_Lev a1.F_Lev) nl_thrumref03_SameNumbers fun r8 => .ret 2 r8)
 (.ret 7 false))
 fun j9 => .join 1 6 (γ := Bool) ⟨fun x => [(58, bB x)], [], fun _ => [], []⟩
 (.iteB 0 52 (j9)
 (.call 4 (ok_thrumref05_SameSigns a0.F_Neg a1.F_Neg) nl_thrumref05_SameSigns fun r10 => .ret 2 r10)
 (.ret 7 false))
 fun j11 => .ret 3 j11
noncomputable def s_thrumref07_SameSent (a0 : T_api_Sent) (a1 : T_api_Sent) : Sg Tryz.prog Bool := ⟨13, M_thrumref07_SameSent a0 a1, [.agg [.int .i64 a0.F_Scheme, .int .i64 a0.F_Dim, .lst (List.map (D.int .i64) a0.F_L), .lst (List.map (D.int .i64) a0.F_V), .int .i64 a0.F_Scale, .int .i64 a0.F_Wide, .lst (List.map (D.int .u64) a0.F_Lev), .lst (List.map D.bool a0.F_Neg)], .agg [.int .i64 a1.F_Scheme, .int .i64 a1.F_Dim, .lst (List.map (D.int .i64) a1.F_L), .lst (List.map (D.int .i64) a1.F_V), .int .i64 a1.F_Scale, .int .i64 a1.F_Wide, .lst (List.map (D.int .u64) a1.F_Lev), .lst (List.map D.bool a1.F_Neg)]], en_thrumref07_SameSent⟩
theorem ok_thrumref07_SameSent (a0 : T_api_Sent) (a1 : T_api_Sent) : (s_thrumref07_SameSent a0 a1).Holds := Tr.fn (F := F_thrumref07_SameSent) (t_thrumref07_SameSent a0 a1) (by kernel_rfl) (by kernel_rfl) (by kernel_rfl) (by kernel_rfl)
/-- slices.Equal[[]byte,byte]. -/
def en_slices_Equal_byte_byte (v : Bool) : PV := bB v
noncomputable abbrev F_slices_Equal_byte_byte : Fe := .of Tryz.prog 74 en_slices_Equal_byte_byte
def S_slices_Equal_byte_byte_l0 (a0 : List Int) (a1 : List Int) (x0 : Int) : St := ⟨[(13, nI x0), (12, nI (a0.length : Int)), (0, lY a0), (1, lY a1)], []⟩
def E_slices_Equal_byte_byte_l0 (a0 : List Int) (a1 : List Int) (x : Unit) : St := ⟨[], []⟩
noncomputable def t_slices_Equal_byte_byte_l0 (a0 : List Int) (a1 : List Int) (x0 : Int) : Tr F_slices_Equal_byte_byte Int (Sum Bool Unit) :=
 .ite 6 14 (x0 < (a0.length : Int))
 (.idx 13 eY a0 x0 <| .idx 3 eY a1 x0 <| .iteN 3 24 ((at' a0 x0) = (at' a1 x0))
 (.ret 9 (.inl false))
 (.again 7 (IntKind.i64.wrap (x0 + 1))))
 (.ret 4 (.inr ()))
theorem ok_slices_Equal_byte_byte_l0 (a0 : List Int) (a1 : List Int) (x0 : Int) : Ok (M_slices_Equal_byte_byte_l0 a0 a1 x0) fun v => go Tryz.prog F_slices_Equal_byte_byte.N (PostR (fun r => Fnl F_slices_Equal_byte_byte.res (F_slices_Equal_byte_byte.en r) (F_slices_Equal_byte_byte.bx r)) (.exit 0) (E_slices_Equal_byte_byte_l0 a0 a1) v) [.l (lpA Tryz.prog 74 0)] .norm (S_slices_Equal_byte_byte_l0 a0 a1 x0) := by
 refine M_slices_Equal_byte_byte_l0.partial_correctness a0 a1 (fun x0 v => go Tryz.prog F_slices_Equal_byte_byte.N (PostR (fun r => Fnl F_slices_Equal_byte_byte.res (F_slices_Equal_byte_byte.en r) (F_slices_Equal_byte_byte.bx r)) (.exit 0) (E_slices_Equal_byte_byte_l0 a0 a1) v) [.l (lpA Tryz.prog 74 0)] .norm (S_slices_Equal_byte_byte_l0 a0 a1 x0)) ?_ x0
 clear x0
 intro f IH x0
 exact Tr.lpR (F := F_slices_Equal_byte_byte) (S := fun x => S_slices_Equal_byte_byte_l0 a0 a1 x) (S' := E_slices_Equal_byte_byte_l0 a0 a1) (t_slices_Equal_byte_byte_l0 a0 a1 x0) (fun x => f x) (fun x r h => IH x r h) (by kernel_rfl) (by kernel_rfl)
theorem nl_slices_Equal_byte_byte : ∀ v, (en_slices_Equal_byte_byte v).noLst := fun _ => trivial
noncomputable def t_slices_Equal_byte_byte (a0 : List Int) (a1 : List Int) : Tr F_slices_Equal_byte_byte Empty Bool :=
 .len 8 eY a0 <| .len 1 eY a1 <| .iteN 2 10 ((a0.length : Int) = (a1.length : Int))
 (.ret 7 false)
 (.len 6 eY a0 <| .loopR 4 id ⟨_, _, _, _, _, ok_slices_Equal_byte_byte_l0 a0 a1 0⟩ fun j1 => .ret 6 true)
noncomputable def s_slices_Equal_byte_byte (a0 : List Int) (a1 : List Int) : Sg Tryz.prog Bool := ⟨74, M_slices_Equal_byte_byte a0 a1, [.lst (List.map (D.int .u8) a0), .lst (List.map (D.int .u8) a1)], en_slices_Equal_byte_byte⟩
theorem ok_slices_Equal_byte_byte (a0 : List Int) (a1 : List Int) : (s_slices_Equal_byte_byte a0 a1).Holds := Tr.fn (F := F_slices_Equal_byte_byte) (t_slices_Equal_byte_byte a0 a1) (by kernel_rfl) (by kernel_rfl) (by kernel_rfl) (by kernel_rfl)
/-- thrum/crc.Open. -/
def en_crc_Open (v : (List Int) × Int) : PV := .tup [sY (.s 0) v.1, nI v.2]
noncomputable abbrev F_crc_Open : Fe := .of Tryz.prog 35 en_crc_Open
theorem nl_crc_Open : ∀ v, (en_crc_Open v).noLst := fun _ => ⟨(flat_map_of fun _ => trivial), trivial, trivial⟩
noncomputable def t_crc_Open (a0 : List Int) : Tr F_crc_Open Empty ((List Int) × Int) :=
 .len 8 eY a0 <| .len 8 eY a0 <| .ite 3 10 ((a0.length : Int) > 65536)
 (.ret 9 ([], 3))
 (.ite 7 14 ((IntKind.i64.wrap ((a0.length : Int) - 4)) < 0)
 (.ret 9 ([], 5))
 (.cut 8 eY a0 none (some (IntKind.i64.wrap ((a0.length : Int) - 4))) <| .let_ (cut' a0 none (some (IntKind.i64.wrap ((a0.length : Int) - 4))) : List Int) fun y1 => .call 0 (ok_crc_Seal y1) nl_crc_Seal fun r3 => .join 11 5 (γ := Bool) ⟨fun x => [(31, bB x)], [4, 0], fun _ => [], []⟩
 (.iteN 0 26 (r3.2 = 0)
 (.ret 6 true)
 (.call 2 (ok_slices_Equal_byte_byte r3.1 a0) nl_slices_Equal_byte_byte fun r4 => .ret 3 (!r4)))
 fun j5 => .iteB 1 31 (j5)
 (.ret 8 ([], 7))
 (.cut 6 eY a0 none (some (IntKind.i64.wrap ((a0.length : Int) - 4))) <| .let_ (cut' a0 none (some (IntKind.i64.wrap ((a0.length : Int) - 4))) : List Int) fun y6 => .call 0 (ok_slices_Clone_byte_byte y6) nl_slices_Clone_byte_byte fun r8 => .ret 4 (r8, 0))))
noncomputable def s_crc_Open (a0 : List Int) : Sg Tryz.prog ((List Int) × Int) := ⟨35, M_crc_Open a0, [.lst (List.map (D.int .u8) a0)], en_crc_Open⟩
theorem ok_crc_Open (a0 : List Int) : (s_crc_Open a0).Holds := Tr.fn (F := F_crc_Open) (t_crc_Open a0) (by kernel_rfl) (by kernel_rfl) (by kernel_rfl) (by kernel_rfl)
/-- (*thrum/frame.reader).part. -/
def en_thrum_frame_reader_part (v : (List Int) × (List Int) × Int × Bool) : PV := lY v.1
def bx_thrum_frame_reader_part (v : (List Int) × (List Int) × Int × Bool) : List (Tg × List PV) := [(.up (.s 0), [lY v.2.1, nI v.2.2.1, bB v.2.2.2])]
noncomputable abbrev F_thrum_frame_reader_part : Fe := .of Tryz.prog 75 en_thrum_frame_reader_part bx_thrum_frame_reader_part
noncomputable def t_thrum_frame_reader_part (a0 : T_frame_reader) (a1 : Int) : Tr F_thrum_frame_reader_part Empty ((List Int) × (List Int) × Int × Bool) :=
 .iteB 12 9 (a0.F_bad)
 (.mk 27 eY 1 0 a1 a1 <| .ret 4 (List.replicate (Int.toNat a1) 0, a0.F_text.F_b, a0.F_text.F_at, true))
 (.len 6 eY a0.F_text.F_b <| .ite 9 24 (a1 > (IntKind.i64.wrap ((a0.F_text.F_b.length : Int) - a0.F_text.F_at)))
 (.mk 11 eY 1 0 a1 a1 <| .ret 4 (List.replicate (Int.toNat a1) 0, a0.F_text.F_b, a0.F_text.F_at, true))
 (.cut 35 eY a0.F_text.F_b (some (IntKind.i64.wrap ((IntKind.i64.wrap (a0.F_text.F_at + a1)) - a1))) (some (IntKind.i64.wrap (a0.F_text.F_at + a1))) <| .ret 3 (cut' a0.F_text.F_b (some (IntKind.i64.wrap ((IntKind.i64.wrap (a0.F_text.F_at + a1)) - a1))) (some (IntKind.i64.wrap (a0.F_text.F_at + a1))), a0.F_text.F_b, IntKind.i64.wrap (a0.F_text.F_at + a1), a0.F_bad)))
noncomputable def s_thrum_frame_reader_part (a0 : T_frame_reader) (a1 : Int) : SgG Tryz.prog ((List Int) × (List Int) × Int × Bool) := ⟨75, M_thrum_frame_reader_part a0 a1, [.ptr (.up (.s 0)) 0, nI a1], [(.up (.s 0), [lY a0.F_text.F_b, nI a0.F_text.F_at, bB a0.F_bad])], en_thrum_frame_reader_part, bx_thrum_frame_reader_part⟩
theorem ok_thrum_frame_reader_part (a0 : T_frame_reader) (a1 : Int) : (s_thrum_frame_reader_part a0 a1).Holds := Tr.fnG (F := F_thrum_frame_reader_part) (t_thrum_frame_reader_part a0 a1) (by kernel_rfl) (by kernel_rfl) (by kernel_rfl) (by kernel_rfl)
/-- (*thrum/frame.reader).small. -/
def en_thrum_frame_reader_small (v : Int × (List Int) × Int × Bool) : PV := nI v.1
def bx_thrum_frame_reader_small (v : Int × (List Int) × Int × Bool) : List (Tg × List PV) := [(.up (.s 0), [lY v.2.1, nI v.2.2.1, bB v.2.2.2])]
noncomputable abbrev F_thrum_frame_reader_small : Fe := .of Tryz.prog 37 en_thrum_frame_reader_small bx_thrum_frame_reader_small
noncomputable def t_thrum_frame_reader_small (a0 : T_frame_reader) : Tr F_thrum_frame_reader_small Empty (Int × (List Int) × Int × Bool) :=
 .callG 7 [(.up (.s 0), .up (.s 0))] [] (ok_thrum_frame_reader_part a0 1) fun r1 => .idx 0 eY r1.1 0 <| .ret 5 (IntKind.i64.wrap (at' r1.1 0), r1.2.1, r1.2.2.1, r1.2.2.2)
noncomputable def s_thrum_frame_reader_small (a0 : T_frame_reader) : SgG Tryz.prog (Int × (List Int) × Int × Bool) := ⟨37, M_thrum_frame_reader_small a0, [.ptr (.up (.s 0)) 0], [(.up (.s 0), [lY a0.F_text.F_b, nI a0.F_text.F_at, bB a0.F_bad])], en_thrum_frame_reader_small, bx_thrum_frame_reader_small⟩
theorem ok_thrum_frame_reader_small (a0 : T_frame_reader) : (s_thrum_frame_reader_small a0).Holds := Tr.fnG (F := F_thrum_frame_reader_small) (t_thrum_frame_reader_small a0) (by kernel_rfl) (by kernel_rfl) (by kernel_rfl) (by kernel_rfl)
/-- (*thrum/frame.reader).must. -/
def en_thrum_frame_reader_must (v : (List Int) × Int × Bool) : PV := .tup []
def bx_thrum_frame_reader_must (v : (List Int) × Int × Bool) : List (Tg × List PV) := [(.up (.s 0), [lY v.1, nI v.2.1, bB v.2.2])]
noncomputable abbrev F_thrum_frame_reader_must : Fe := .of Tryz.prog 36 en_thrum_frame_reader_must bx_thrum_frame_reader_must
noncomputable def t_thrum_frame_reader_must (a0 : T_frame_reader) (a1 : Bool) : Tr F_thrum_frame_reader_must Empty ((List Int) × Int × Bool) :=
 .join 7 3 (γ := Bool) ⟨fun x => [(12, bB x)], [4], fun _ => [], [.up (.s 0)]⟩
 (.iteB 0 9 (a0.F_bad)
 (.ret 4 true)
 (.ret 4 (!a1)))
 fun j1 => .ret 4 (a0.F_text.F_b, a0.F_text.F_at, j1)
noncomputable def s_thrum_frame_reader_must (a0 : T_frame_reader) (a1 : Bool) : SgG Tryz.prog ((List Int) × Int × Bool) := ⟨36, M_thrum_frame_reader_must a0 a1, [.ptr (.up (.s 0)) 0, bB a1], [(.up (.s 0), [lY a0.F_text.F_b, nI a0.F_text.F_at, bB a0.F_bad])], en_thrum_frame_reader_must, bx_thrum_frame_reader_must⟩
theorem ok_thrum_frame_reader_must (a0 : T_frame_reader) (a1 : Bool) : (s_thrum_frame_reader_must a0 a1).Holds := Tr.fnG (F := F_thrum_frame_reader_must) (t_thrum_frame_reader_must a0 a1) (by kernel_rfl) (by kernel_rfl) (by kernel_rfl) (by kernel_rfl)
/-- thrum/leb.Get. -/
def en_leb_Get (v : Int × Int × Int) : PV := .tup [nU v.1, nI v.2.1, nI v.2.2]
noncomputable abbrev F_leb_Get : Fe := .of Tryz.prog 76 en_leb_Get
def S_leb_Get_l0 (a1 : Int) (y1 : List Int) (x0 : Int) (x1 : Int) : St := ⟨[(19, nI x0), (18, nI (y1.length : Int)), (17, lY y1), (4, nU x1), (1, nI a1)], []⟩
def E_leb_Get_l0 (a1 : Int) (y1 : List Int) (x : Unit) : St := ⟨[], []⟩
noncomputable def t_leb_Get_l0 (a1 : Int) (y1 : List Int) (x0 : Int) (x1 : Int) : Tr F_leb_Get (Int × Int) (Sum (Int × Int × Int) Unit) :=
 .ite 6 20 (x0 < (y1.length : Int))
 (.idx 7 eY y1 x0 <| .join 18 3 (γ := Bool) ⟨fun x => [(32, bB x)], [9, 8, 7, 19, 18, 17, 4, 1], fun _ => [], []⟩
 (.ite 0 29 (x0 = 9)
 (.ret 4 (decide ((at' y1 x0) > 1)))
 (.ret 4 false))
 fun j3 => .join 2 0 (γ := Bool) ⟨fun x => [(26, bB x)], [9, 8, 7, 19, 18, 17, 4, 1], fun _ => [], []⟩
 (.iteB 0 26 (j3)
 (.ret 2 true)
 (.join 4 3 (γ := Bool) ⟨fun x => [(37, bB x)], [9, 8, 7, 19, 18, 17, 4, 1], fun _ => [], []⟩
 (.ite 0 34 ((at' y1 x0) < 128)
 (.ret 4 ((at' y1 x0) == 0))
 (.ret 4 false))
 fun j4 => .join 1 3 (γ := Bool) ⟨fun x => [(41, bB x)], [9, 8, 7, 19, 18, 17, 4, 1], fun _ => [], []⟩
 (.iteB 0 38 (j4)
 (.ret 4 (decide (x0 > 0)))
 (.ret 4 false))
 fun j5 => .ret 2 j5))
 fun j6 => .iteB 0 26 (j6)
 (.ret 13 (.inl (0, 0, 6)))
 (.rd 11 (0 ≤ IntKind.i64.wrap (7 * x0)) (nU (sShl .u64 (IntKind.u64.wrap (bAnd .u8 (at' y1 x0) 127)) (IntKind.i64.wrap (7 * x0)))) <| .let_ (bOr .u64 x1 (sShl .u64 (IntKind.u64.wrap (bAnd .u8 (at' y1 x0) 127)) (IntKind.i64.wrap (7 * x0))) : Int) fun y7 => .ite 7 50 ((at' y1 x0) < 128)
 (.ret 16 (.inl (y7, IntKind.i64.wrap ((IntKind.i64.wrap (a1 + x0)) + 1), 0)))
 (.again 7 (IntKind.i64.wrap (x0 + 1), y7))))
 (.ret 4 (.inr ()))
theorem ok_leb_Get_l0 (a1 : Int) (y1 : List Int) (x0 : Int) (x1 : Int) : Ok (M_leb_Get_l0 a1 y1 x0 x1) fun v => go Tryz.prog F_leb_Get.N (PostR (fun r => Fnl F_leb_Get.res (F_leb_Get.en r) (F_leb_Get.bx r)) (.exit 0) (E_leb_Get_l0 a1 y1) v) [.l (lpA Tryz.prog 76 0)] .norm (S_leb_Get_l0 a1 y1 x0 x1) := by
 refine M_leb_Get_l0.partial_correctness a1 y1 (fun x0 x1 v => go Tryz.prog F_leb_Get.N (PostR (fun r => Fnl F_leb_Get.res (F_leb_Get.en r) (F_leb_Get.bx r)) (.exit 0) (E_leb_Get_l0 a1 y1) v) [.l (lpA Tryz.prog 76 0)] .norm (S_leb_Get_l0 a1 y1 x0 x1)) ?_ x0 x1
 clear x0 x1
 intro f IH x0 x1
 exact Tr.lpR (F := F_leb_Get) (S := fun x => S_leb_Get_l0 a1 y1 x.1 x.2) (S' := E_leb_Get_l0 a1 y1) (t_leb_Get_l0 a1 y1 x0 x1) (fun x => f x.1 x.2) (fun x r h => IH x.1 x.2 r h) (by kernel_rfl) (by kernel_rfl)
theorem nl_leb_Get : ∀ v, (en_leb_Get v).noLst := fun _ => ⟨trivial, trivial, trivial, trivial⟩
noncomputable def t_leb_Get (a0 : List Int) (a1 : Int) : Tr F_leb_Get Empty (Int × Int × Int) :=
 .ite 12 11 (a1 < 0)
 (.ret 9 (0, 0, 1))
 (.len 8 eY a0 <| .cut 1 eY a0 (some (if (a0.length : Int) < a1 then (a0.length : Int) else a1)) none <| .let_ (cut' a0 (some (if (a0.length : Int) < a1 then (a0.length : Int) else a1)) none : List Int) fun y1 => .len 0 eY y1 <| .loopR 4 id ⟨_, _, _, _, _, ok_leb_Get_l0 a1 y1 0 0⟩ fun j9 => .ret 8 (0, 0, 5))
noncomputable def s_leb_Get (a0 : List Int) (a1 : Int) : Sg Tryz.prog (Int × Int × Int) := ⟨76, M_leb_Get a0 a1, [.lst (List.map (D.int .u8) a0), .int .i64 a1], en_leb_Get⟩
theorem ok_leb_Get (a0 : List Int) (a1 : Int) : (s_leb_Get a0 a1).Holds := Tr.fn (F := F_leb_Get) (t_leb_Get a0 a1) (by kernel_rfl) (by kernel_rfl) (by kernel_rfl) (by kernel_rfl)
/-- (*thrum/frame.reader).number. -/
def en_thrum_frame_reader_number (v : Int × (List Int) × Int × Bool) : PV := nU v.1
def bx_thrum_frame_reader_number (v : Int × (List Int) × Int × Bool) : List (Tg × List PV) := [(.up (.s 0), [lY v.2.1, nI v.2.2.1, bB v.2.2.2])]
noncomputable abbrev F_thrum_frame_reader_number : Fe := .of Tryz.prog 38 en_thrum_frame_reader_number bx_thrum_frame_reader_number
noncomputable def t_thrum_frame_reader_number (a0 : T_frame_reader) (a1 : Int) : Tr F_thrum_frame_reader_number Empty (Int × (List Int) × Int × Bool) :=
 .call 16 (ok_leb_Get a0.F_text.F_b a0.F_text.F_at) nl_leb_Get fun r1 => .join 16 3 (γ := Bool) ⟨fun x => [(30, bB x)], [6, 5, 0, 1], fun _ => [], [.up (.s 0)]⟩
 (.iteB 0 27 (a0.F_bad)
 (.ret 4 true)
 (.ret 4 (r1.2.2 != 0)))
 fun j2 => .join 1 4 (γ := Bool) ⟨fun x => [(35, bB x)], [6, 5, 0], fun _ => [], [.up (.s 0)]⟩
 (.iteB 0 31 (j2)
 (.ret 5 true)
 (.ret 5 (decide (r1.1 > a1))))
 fun j3 => .iteB 1 35 (j3)
 (.ret 14 (0, a0.F_text.F_b, a0.F_text.F_at, true))
 (.ret 17 (r1.1, a0.F_text.F_b, r1.2.1, a0.F_bad))
noncomputable def s_thrum_frame_reader_number (a0 : T_frame_reader) (a1 : Int) : SgG Tryz.prog (Int × (List Int) × Int × Bool) := ⟨38, M_thrum_frame_reader_number a0 a1, [.ptr (.up (.s 0)) 0, nU a1], [(.up (.s 0), [lY a0.F_text.F_b, nI a0.F_text.F_at, bB a0.F_bad])], en_thrum_frame_reader_number, bx_thrum_frame_reader_number⟩
theorem ok_thrum_frame_reader_number (a0 : T_frame_reader) (a1 : Int) : (s_thrum_frame_reader_number a0 a1).Holds := Tr.fnG (F := F_thrum_frame_reader_number) (t_thrum_frame_reader_number a0 a1) (by kernel_rfl) (by kernel_rfl) (by kernel_rfl) (by kernel_rfl)
/-- thrum/leb.Zag. -/
def en_leb_Zag (v : Int) : PV := nI v
noncomputable abbrev F_leb_Zag : Fe := .of Tryz.prog 113 en_leb_Zag
theorem nl_leb_Zag : ∀ v, (en_leb_Zag v).noLst := fun _ => trivial
noncomputable def t_leb_Zag (a0 : Int) : Tr F_leb_Zag Empty Int :=
 .ret 17 (bXor .i64 (IntKind.i64.wrap (sShr .u64 a0 1)) (IntKind.i64.wrap (0 - (IntKind.i64.wrap (bAnd .u64 a0 1)))))
noncomputable def s_leb_Zag (a0 : Int) : Sg Tryz.prog Int := ⟨113, M_leb_Zag a0, [.int .u64 a0], en_leb_Zag⟩
theorem ok_leb_Zag (a0 : Int) : (s_leb_Zag a0).Holds := Tr.fn (F := F_leb_Zag) (t_leb_Zag a0) (by kernel_rfl) (by kernel_rfl) (by kernel_rfl) (by kernel_rfl)
/-- (*thrum/frame.reader).signed. -/
def en_thrum_frame_reader_signed (v : (List Int) × (List Int) × Int × Bool) : PV := sI (.s 0) v.1
def bx_thrum_frame_reader_signed (v : (List Int) × (List Int) × Int × Bool) : List (Tg × List PV) := [(.up (.s 0), [lY v.2.1, nI v.2.2.1, bB v.2.2.2])]
noncomputable abbrev F_thrum_frame_reader_signed : Fe := .of Tryz.prog 77 en_thrum_frame_reader_signed bx_thrum_frame_reader_signed
def S_thrum_frame_reader_signed_l0 (a1 : Int) (x0 : List Int) (x1 : List Int) (x2 : Int) (x3 : Bool) : St := ⟨[(5, sI (.h 0) x0), (0, .ptr (.up (.s 0)) 0), (1, nI a1)], [(.up (.s 0), [lY x1, nI x2, bB x3])]⟩
def E_thrum_frame_reader_signed_l0 (a1 : Int) (x : (List Int) × (List Int) × Int × Bool) : St := ⟨[(5, sI (.h 1) x.1)], [(.up (.s 0), [lY x.2.1, nI x.2.2.1, bB x.2.2.2])]⟩
noncomputable def t_thrum_frame_reader_signed_l0 (a1 : Int) (x0 : List Int) (x1 : List Int) (x2 : Int) (x3 : Bool) : Tr F_thrum_frame_reader_signed ((List Int) × (List Int) × Int × Bool) ((List Int) × (List Int) × Int × Bool) :=
 .join 10 5 (γ := Bool) ⟨fun x => [(18, bB x)], [5, 0, 1], fun _ => [], [.up (.s 0)]⟩
 (.iteX 0 13 (x3)
 (.len 1 eI x0 <| .ret 4 (decide ((x0.length : Int) < a1)))
 (.ret 6 false))
 fun j3 => .iteB 1 18 (j3)
 (.callG 6 [(.up (.s 0), .up (.s 0))] [] (ok_thrum_frame_reader_number (⟨(⟨x1, x2⟩ : T_frame_text), x3⟩ : T_frame_reader) 18446744073709551615) fun r4 => .call 0 (ok_leb_Zag r4.1) nl_leb_Zag fun r5 => .app 1 eI 8 x0 [r5] <| .again 3 (x0 ++ [r5], r4.2.1, r4.2.2.1, r4.2.2.2))
 (.ret 4 (x0, x1, x2, x3))
theorem ok_thrum_frame_reader_signed_l0 (a1 : Int) (x0 : List Int) (x1 : List Int) (x2 : Int) (x3 : Bool) : Ok (M_thrum_frame_reader_signed_l0 a1 x0 x1 x2 x3) fun v => go Tryz.prog F_thrum_frame_reader_signed.N (PostN (.exit 0) (E_thrum_frame_reader_signed_l0 a1) v) [.l (lpA Tryz.prog 77 0)] .norm (S_thrum_frame_reader_signed_l0 a1 x0 x1 x2 x3) := by
 refine M_thrum_frame_reader_signed_l0.partial_correctness a1 (fun x0 x1 x2 x3 v => go Tryz.prog F_thrum_frame_reader_signed.N (PostN (.exit 0) (E_thrum_frame_reader_signed_l0 a1) v) [.l (lpA Tryz.prog 77 0)] .norm (S_thrum_frame_reader_signed_l0 a1 x0 x1 x2 x3)) ?_ x0 x1 x2 x3
 clear x0 x1 x2 x3
 intro f IH x0 x1 x2 x3
 exact Tr.lpN (F := F_thrum_frame_reader_signed) (S := fun x => S_thrum_frame_reader_signed_l0 a1 x.1 x.2.1 x.2.2.1 x.2.2.2) (S' := E_thrum_frame_reader_signed_l0 a1) (t_thrum_frame_reader_signed_l0 a1 x0 x1 x2 x3) (fun x => f x.1 x.2.1 x.2.2.1 x.2.2.2) (fun x r h => IH x.1 x.2.1 x.2.2.1 x.2.2.2 r h) (by kernel_rfl) (by kernel_rfl)
noncomputable def t_thrum_frame_reader_signed (a0 : T_frame_reader) (a1 : Int) : Tr F_thrum_frame_reader_signed Empty ((List Int) × (List Int) × Int × Bool) :=
 .mk 7 eI 8 0 0 a1 <| .let_ (List.replicate (Int.toNat 0) 0 : List Int) fun y1 => .loop 5 ⟨_, _, _, _, _, ok_thrum_frame_reader_signed_l0 a1 y1 a0.F_text.F_b a0.F_text.F_at a0.F_bad⟩ fun j6 => .ret 7 (j6.1, j6.2.1, j6.2.2.1, j6.2.2.2)
noncomputable def s_thrum_frame_reader_signed (a0 : T_frame_reader) (a1 : Int) : SgG Tryz.prog ((List Int) × (List Int) × Int × Bool) := ⟨77, M_thrum_frame_reader_signed a0 a1, [.ptr (.up (.s 0)) 0, nI a1], [(.up (.s 0), [lY a0.F_text.F_b, nI a0.F_text.F_at, bB a0.F_bad])], en_thrum_frame_reader_signed, bx_thrum_frame_reader_signed⟩
theorem ok_thrum_frame_reader_signed (a0 : T_frame_reader) (a1 : Int) : (s_thrum_frame_reader_signed a0 a1).Holds := Tr.fnG (F := F_thrum_frame_reader_signed) (t_thrum_frame_reader_signed a0 a1) (by kernel_rfl) (by kernel_rfl) (by kernel_rfl) (by kernel_rfl)
/-- thrum/index.Get. -/
def en_index_Get (v : (List Int) × Int × Int) : PV := .tup [sI (.s 0) v.1, nI v.2.1, nI v.2.2]
noncomputable abbrev F_index_Get : Fe := .of Tryz.prog 114 en_index_Get
def S_index_Get_l0 (a0 : Int) (a1 : List Int) (r2 : Int × Int × Int) (x0 : Int) (x1 : Int) (x2 : List Int) (x3 : Int) (x4 : Int) : St := ⟨[(13, nU x0), (12, nI x1), (11, sI (.h 0) x2), (10, nI x3), (2, nI x4), (9, nU r2.1), (0, nI a0), (1, lY a1)], []⟩
def E_index_Get_l0 (a0 : Int) (a1 : List Int) (r2 : Int × Int × Int) (x : Int × Int × (List Int)) : St := ⟨[(10, nI x.1), (2, nI x.2.1), (11, sI (.h 1) x.2.2)], []⟩
noncomputable def t_index_Get_l0 (a0 : Int) (a1 : List Int) (r2 : Int × Int × Int) (x0 : Int) (x1 : Int) (x2 : List Int) (x3 : Int) (x4 : Int) : Tr F_index_Get (Int × Int × (List Int) × Int × Int) (Int × Int × (List Int)) :=
 .join 7 4 (γ := Bool) ⟨fun x => [(39, bB x)], [13, 12, 11, 10, 2, 9, 0, 1], fun _ => [], []⟩
 (.ite 0 35 (x3 = 0)
 (.ret 5 (decide (x0 < r2.1)))
 (.ret 5 false))
 fun j5 => .iteB 1 39 (j5)
 (.call 13 (ok_leb_Get a1 x4) nl_leb_Get fun r6 => .iteN 13 50 (r6.2.2 = 0)
 (.ret 6 (r6.2.2, r6.2.1, x2))
 (.ite 13 57 (r6.1 ≥ (IntKind.u64.wrap (IntKind.i64.wrap ((IntKind.i64.wrap (a0 - 1)) - x1))))
 (.ret 10 (6, r6.2.1, x2))
 (.let_ (IntKind.i64.wrap (x1 + (IntKind.i64.wrap (1 + (IntKind.i64.wrap r6.1)))) : Int) fun y7 => .app 15 eI 8 x2 [IntKind.i64.wrap (x1 + (IntKind.i64.wrap (1 + (IntKind.i64.wrap r6.1))))] <| .let_ (x2 ++ [IntKind.i64.wrap (x1 + (IntKind.i64.wrap (1 + (IntKind.i64.wrap r6.1))))] : List Int) fun y9 => .again 8 (IntKind.u64.wrap (x0 + 1), y7, y9, r6.2.2, r6.2.1))))
 (.ret 4 (x3, x4, x2))
theorem ok_index_Get_l0 (a0 : Int) (a1 : List Int) (r2 : Int × Int × Int) (x0 : Int) (x1 : Int) (x2 : List Int) (x3 : Int) (x4 : Int) : Ok (M_index_Get_l0 a0 a1 r2 x0 x1 x2 x3 x4) fun v => go Tryz.prog F_index_Get.N (PostN (.exit 0) (E_index_Get_l0 a0 a1 r2) v) [.l (lpA Tryz.prog 114 0)] .norm (S_index_Get_l0 a0 a1 r2 x0 x1 x2 x3 x4) := by
 refine M_index_Get_l0.partial_correctness a0 a1 r2 (fun x0 x1 x2 x3 x4 v => go Tryz.prog F_index_Get.N (PostN (.exit 0) (E_index_Get_l0 a0 a1 r2) v) [.l (lpA Tryz.prog 114 0)] .norm (S_index_Get_l0 a0 a1 r2 x0 x1 x2 x3 x4)) ?_ x0 x1 x2 x3 x4
 clear x0 x1 x2 x3 x4
 intro f IH x0 x1 x2 x3 x4
 exact Tr.lpN (F := F_index_Get) (S := fun x => S_index_Get_l0 a0 a1 r2 x.1 x.2.1 x.2.2.1 x.2.2.2.1 x.2.2.2.2) (S' := E_index_Get_l0 a0 a1 r2) (t_index_Get_l0 a0 a1 r2 x0 x1 x2 x3 x4) (fun x => f x.1 x.2.1 x.2.2.1 x.2.2.2.1 x.2.2.2.2) (fun x r h => IH x.1 x.2.1 x.2.2.1 x.2.2.2.1 x.2.2.2.2 r h) (by kernel_rfl) (by kernel_rfl)
theorem nl_index_Get : ∀ v, (en_index_Get v).noLst := fun _ => ⟨(flat_map_of fun _ => trivial), trivial, trivial, trivial⟩
noncomputable def t_index_Get (a0 : Int) (a1 : List Int) (a2 : Int) : Tr F_index_Get Empty ((List Int) × Int × Int) :=
 .call 10 (ok_index_measure a0) nl_index_measure fun r1 => .iteX 2 17 (r1)
 (.ret 9 ([], 0, 1))
 (.call 6 (ok_leb_Get a1 a2) nl_leb_Get fun r2 => .join 14 5 (γ := Bool) ⟨fun x => [(32, bB x)], [10, 2, 9, 0, 1], fun _ => [], []⟩
 (.ite 0 27 (r2.2.2 = 0)
 (.ret 6 (decide (r2.1 > (IntKind.u64.wrap a0))))
 (.ret 6 false))
 fun j3 => .join 1 0 (γ := Int) ⟨fun x => [(10, nI x)], [2, 9, 0, 1], fun _ => [], []⟩
 (.iteB 0 32 (j3)
 (.ret 4 6)
 (.ret 2 r2.2.2))
 fun j4 => .loop 15 ⟨_, _, _, _, _, ok_index_Get_l0 a0 a1 r2 0 (-1) [] j4 r2.2.1⟩ fun j11 => .iteN 7 68 (j11.1 = 0)
 (.ret 10 ([], 0, j11.1))
 (.ret 11 (j11.2.2, j11.2.1, 0)))
noncomputable def s_index_Get (a0 : Int) (a1 : List Int) (a2 : Int) : Sg Tryz.prog ((List Int) × Int × Int) := ⟨114, M_index_Get a0 a1 a2, [.int .i64 a0, .lst (List.map (D.int .u8) a1), .int .i64 a2], en_index_Get⟩
theorem ok_index_Get (a0 : Int) (a1 : List Int) (a2 : Int) : (s_index_Get a0 a1 a2).Holds := Tr.fn (F := F_index_Get) (t_index_Get a0 a1 a2) (by kernel_rfl) (by kernel_rfl) (by kernel_rfl) (by kernel_rfl)
/-- (*thrum/frame.reader).places. -/
def en_thrum_frame_reader_places (v : (List Int) × (List Int) × Int × Bool) : PV := sI (.s 0) v.1
def bx_thrum_frame_reader_places (v : (List Int) × (List Int) × Int × Bool) : List (Tg × List PV) := [(.up (.s 0), [lY v.2.1, nI v.2.2.1, bB v.2.2.2])]
noncomputable abbrev F_thrum_frame_reader_places : Fe := .of Tryz.prog 78 en_thrum_frame_reader_places bx_thrum_frame_reader_places
noncomputable def t_thrum_frame_reader_places (a0 : T_frame_reader) (a1 : Int) : Tr F_thrum_frame_reader_places Empty ((List Int) × (List Int) × Int × Bool) :=
 .iteB 12 11 (a0.F_bad)
 (.ret 7 ([], a0.F_text.F_b, a0.F_text.F_at, a0.F_bad))
 (.call 15 (ok_index_Get a1 a0.F_text.F_b a0.F_text.F_at) nl_index_Get fun r1 => .iteN 14 29 (r1.2.2 = 0)
 (.ret 14 ([], a0.F_text.F_b, a0.F_text.F_at, true))
 (.ret 17 (r1.1, a0.F_text.F_b, r1.2.1, a0.F_bad)))
noncomputable def s_thrum_frame_reader_places (a0 : T_frame_reader) (a1 : Int) : SgG Tryz.prog ((List Int) × (List Int) × Int × Bool) := ⟨78, M_thrum_frame_reader_places a0 a1, [.ptr (.up (.s 0)) 0, nI a1], [(.up (.s 0), [lY a0.F_text.F_b, nI a0.F_text.F_at, bB a0.F_bad])], en_thrum_frame_reader_places, bx_thrum_frame_reader_places⟩
theorem ok_thrum_frame_reader_places (a0 : T_frame_reader) (a1 : Int) : (s_thrum_frame_reader_places a0 a1).Holds := Tr.fnG (F := F_thrum_frame_reader_places) (t_thrum_frame_reader_places a0 a1) (by kernel_rfl) (by kernel_rfl) (by kernel_rfl) (by kernel_rfl)
/-- thrum/plane.take. -/
def en_plane_take_plane_woven_1 (v : (List Int) × Int) : PV := .tup [sU (.s 0) v.1, nI v.2]
noncomputable abbrev F_plane_take_plane_woven_1 : Fe := .of Tryz.prog 115 en_plane_take_plane_woven_1
def S_plane_take_plane_woven_1_l1 (a0 : Int) (a2 : List Int) (a3 : Int) (y4 : List Int) (x0 : Int) (x0_ : Int) (x1_ : List Int) : St := ⟨[(60, nI x0_), (59, nI a0), (14, nI x0), (56, nI x0), (55, nI (y4.length : Int)), (13, sU (.h 1) x1_), (0, nI a0), (2, lY a2), (3, .d (.clo (.func 139) [] [.cp [.int .i64 a3] 0]))], []⟩
def E_plane_take_plane_woven_1_l1 (a0 : Int) (a2 : List Int) (a3 : Int) (y4 : List Int) (x0 : Int) (x : (List Int)) : St := ⟨[(56, nI x0), (55, nI (y4.length : Int)), (13, sU (.h 2) x), (0, nI a0), (2, lY a2), (3, .d (.clo (.func 139) [] [.cp [.int .i64 a3] 0]))], []⟩
noncomputable def t_plane_take_plane_woven_1_l1 (a0 : Int) (a2 : List Int) (a3 : Int) (y4 : List Int) (x0 : Int) (x0_ : Int) (x1_ : List Int) : Tr F_plane_take_plane_woven_1 (Int × (List Int)) (List Int) :=
 .ite 6 61 (x0_ < a0)
 (.call 14 (ok_plane_woven_1_c x0 x0_ a3) nl_plane_woven_1_c fun r6 => .idx 7 eU x1_ x0 <| .idx 5 eY a2 (sShr .i64 r6 3) <| .rd 4 (0 ≤ IntKind.i64.wrap (7 - (bAnd .i64 r6 7))) (nY (sShr .u8 (at' a2 (sShr .i64 r6 3)) (IntKind.i64.wrap (7 - (bAnd .i64 r6 7))))) <| .idx 3 eU x1_ x0 <| .sto 0 [69, 67, 13] eU x1_ x0 (bOr .u64 (sShl .u64 (at' x1_ x0) 1) (IntKind.u64.wrap (bAnd .u8 (sShr .u8 (at' a2 (sShr .i64 r6 3)) (IntKind.i64.wrap (7 - (bAnd .i64 r6 7)))) 1))) <| .let_ (x1_.set (Int.toNat x0) (bOr .u64 (sShl .u64 (at' x1_ x0) 1) (IntKind.u64.wrap (bAnd .u8 (sShr .u8 (at' a2 (sShr .i64 r6 3)) (IntKind.i64.wrap (7 - (bAnd .i64 r6 7)))) 1))) : List Int) fun y7 => .again 6 (IntKind.i64.wrap (x0_ + 1), y7))
 (.ret 4 x1_)
theorem ok_plane_take_plane_woven_1_l1 (a0 : Int) (a2 : List Int) (a3 : Int) (y4 : List Int) (x0 : Int) (x0_ : Int) (x1_ : List Int) : Ok (M_plane_take_plane_woven_1_l1 a0 a2 a3 y4 x0 x0_ x1_) fun v => go Tryz.prog F_plane_take_plane_woven_1.N (PostN (.exit 3) (E_plane_take_plane_woven_1_l1 a0 a2 a3 y4 x0) v) [.l (lpA Tryz.prog 115 1)] .norm (S_plane_take_plane_woven_1_l1 a0 a2 a3 y4 x0 x0_ x1_) := by
 refine M_plane_take_plane_woven_1_l1.partial_correctness a0 a2 a3 y4 x0 (fun x0_ x1_ v => go Tryz.prog F_plane_take_plane_woven_1.N (PostN (.exit 3) (E_plane_take_plane_woven_1_l1 a0 a2 a3 y4 x0) v) [.l (lpA Tryz.prog 115 1)] .norm (S_plane_take_plane_woven_1_l1 a0 a2 a3 y4 x0 x0_ x1_)) ?_ x0_ x1_
 clear x0_ x1_
 intro f IH x0_ x1_
 exact Tr.lpN (F := F_plane_take_plane_woven_1) (S := fun x => S_plane_take_plane_woven_1_l1 a0 a2 a3 y4 x0 x.1 x.2) (S' := E_plane_take_plane_woven_1_l1 a0 a2 a3 y4 x0) (t_plane_take_plane_woven_1_l1 a0 a2 a3 y4 x0 x0_ x1_) (fun x => f x.1 x.2) (fun x r h => IH x.1 x.2 r h) (by kernel_rfl) (by kernel_rfl)
def S_plane_take_plane_woven_1_l0 (a0 : Int) (a2 : List Int) (a3 : Int) (y4 : List Int) (x0 : Int) (x1 : List Int) : St := ⟨[(56, nI x0), (55, nI (y4.length : Int)), (13, sU (.h 0) x1), (0, nI a0), (2, lY a2), (3, .d (.clo (.func 139) [] [.cp [.int .i64 a3] 0]))], []⟩
def E_plane_take_plane_woven_1_l0 (a0 : Int) (a2 : List Int) (a3 : Int) (y4 : List Int) (x : (List Int)) : St := ⟨[(13, sU (.h 1) x)], []⟩
noncomputable def t_plane_take_plane_woven_1_l0 (a0 : Int) (a2 : List Int) (a3 : Int) (y4 : List Int) (x0 : Int) (x1 : List Int) : Tr F_plane_take_plane_woven_1 (Int × (List Int)) (List Int) :=
 .ite 6 57 (x0 < (y4.length : Int))
 (.loop 16 ⟨_, _, _, _, _, ok_plane_take_plane_woven_1_l1 a0 a2 a3 y4 x0 0 x1⟩ fun j9 => .again 6 (IntKind.i64.wrap (x0 + 1), j9))
 (.ret 4 x1)
theorem ok_plane_take_plane_woven_1_l0 (a0 : Int) (a2 : List Int) (a3 : Int) (y4 : List Int) (x0 : Int) (x1 : List Int) : Ok (M_plane_take_plane_woven_1_l0 a0 a2 a3 y4 x0 x1) fun v => go Tryz.prog F_plane_take_plane_woven_1.N (PostN (.exit 1) (E_plane_take_plane_woven_1_l0 a0 a2 a3 y4) v) [.l (lpA Tryz.prog 115 0)] .norm (S_plane_take_plane_woven_1_l0 a0 a2 a3 y4 x0 x1) := by
 refine M_plane_take_plane_woven_1_l0.partial_correctness a0 a2 a3 y4 (fun x0 x1 v => go Tryz.prog F_plane_take_plane_woven_1.N (PostN (.exit 1) (E_plane_take_plane_woven_1_l0 a0 a2 a3 y4) v) [.l (lpA Tryz.prog 115 0)] .norm (S_plane_take_plane_woven_1_l0 a0 a2 a3 y4 x0 x1)) ?_ x0 x1
 clear x0 x1
 intro f IH x0 x1
 exact Tr.lpN (F := F_plane_take_plane_woven_1) (S := fun x => S_plane_take_plane_woven_1_l0 a0 a2 a3 y4 x.1 x.2) (S' := E_plane_take_plane_woven_1_l0 a0 a2 a3 y4) (t_plane_take_plane_woven_1_l0 a0 a2 a3 y4 x0 x1) (fun x => f x.1 x.2) (fun x r h => IH x.1 x.2 r h) (by kernel_rfl) (by kernel_rfl)
def S_plane_take_plane_woven_1_l3 (a0 : Int) (a2 : List Int) (a3 : Int) (y11 : List Int) (x0 : Int) (x0_ : Int) (x1_ : List Int) : St := ⟨[(60, nI x0_), (59, nI a0), (14, nI x0), (56, nI x0), (55, nI (y11.length : Int)), (13, sU (.h 1) x1_), (0, nI a0), (2, lY a2), (3, .d (.clo (.func 139) [] [.cp [.int .i64 a3] 0]))], []⟩
def E_plane_take_plane_woven_1_l3 (a0 : Int) (a2 : List Int) (a3 : Int) (y11 : List Int) (x0 : Int) (x : (List Int)) : St := ⟨[(56, nI x0), (55, nI (y11.length : Int)), (13, sU (.h 2) x), (0, nI a0), (2, lY a2), (3, .d (.clo (.func 139) [] [.cp [.int .i64 a3] 0]))], []⟩
noncomputable def t_plane_take_plane_woven_1_l3 (a0 : Int) (a2 : List Int) (a3 : Int) (y11 : List Int) (x0 : Int) (x0_ : Int) (x1_ : List Int) : Tr F_plane_take_plane_woven_1 (Int × (List Int)) (List Int) :=
 .ite 6 61 (x0_ < a0)
 (.call 14 (ok_plane_woven_1_c x0 x0_ a3) nl_plane_woven_1_c fun r13 => .idx 7 eU x1_ x0 <| .idx 5 eY a2 (sShr .i64 r13 3) <| .rd 4 (0 ≤ IntKind.i64.wrap (7 - (bAnd .i64 r13 7))) (nY (sShr .u8 (at' a2 (sShr .i64 r13 3)) (IntKind.i64.wrap (7 - (bAnd .i64 r13 7))))) <| .idx 3 eU x1_ x0 <| .sto 0 [69, 67, 13] eU x1_ x0 (bOr .u64 (sShl .u64 (at' x1_ x0) 1) (IntKind.u64.wrap (bAnd .u8 (sShr .u8 (at' a2 (sShr .i64 r13 3)) (IntKind.i64.wrap (7 - (bAnd .i64 r13 7)))) 1))) <| .let_ (x1_.set (Int.toNat x0) (bOr .u64 (sShl .u64 (at' x1_ x0) 1) (IntKind.u64.wrap (bAnd .u8 (sShr .u8 (at' a2 (sShr .i64 r13 3)) (IntKind.i64.wrap (7 - (bAnd .i64 r13 7)))) 1))) : List Int) fun y14 => .again 6 (IntKind.i64.wrap (x0_ + 1), y14))
 (.ret 4 x1_)
theorem ok_plane_take_plane_woven_1_l3 (a0 : Int) (a2 : List Int) (a3 : Int) (y11 : List Int) (x0 : Int) (x0_ : Int) (x1_ : List Int) : Ok (M_plane_take_plane_woven_1_l3 a0 a2 a3 y11 x0 x0_ x1_) fun v => go Tryz.prog F_plane_take_plane_woven_1.N (PostN (.exit 3) (E_plane_take_plane_woven_1_l3 a0 a2 a3 y11 x0) v) [.l (lpA Tryz.prog 115 1)] .norm (S_plane_take_plane_woven_1_l3 a0 a2 a3 y11 x0 x0_ x1_) := by
 refine M_plane_take_plane_woven_1_l3.partial_correctness a0 a2 a3 y11 x0 (fun x0_ x1_ v => go Tryz.prog F_plane_take_plane_woven_1.N (PostN (.exit 3) (E_plane_take_plane_woven_1_l3 a0 a2 a3 y11 x0) v) [.l (lpA Tryz.prog 115 1)] .norm (S_plane_take_plane_woven_1_l3 a0 a2 a3 y11 x0 x0_ x1_)) ?_ x0_ x1_
 clear x0_ x1_
 intro f IH x0_ x1_
 exact Tr.lpN (F := F_plane_take_plane_woven_1) (S := fun x => S_plane_take_plane_woven_1_l3 a0 a2 a3 y11 x0 x.1 x.2) (S' := E_plane_take_plane_woven_1_l3 a0 a2 a3 y11 x0) (t_plane_take_plane_woven_1_l3 a0 a2 a3 y11 x0 x0_ x1_) (fun x => f x.1 x.2) (fun x r h => IH x.1 x.2 r h) (by kernel_rfl) (by kernel_rfl)
def S_plane_take_plane_woven_1_l2 (a0 : Int) (a2 : List Int) (a3 : Int) (y11 : List Int) (x0 : Int) (x1 : List Int) : St := ⟨[(56, nI x0), (55, nI (y11.length : Int)), (13, sU (.h 0) x1), (0, nI a0), (2, lY a2), (3, .d (.clo (.func 139) [] [.cp [.int .i64 a3] 0]))], []⟩
def E_plane_take_plane_woven_1_l2 (a0 : Int) (a2 : List Int) (a3 : Int) (y11 : List Int) (x : (List Int)) : St := ⟨[(13, sU (.h 1) x)], []⟩
noncomputable def t_plane_take_plane_woven_1_l2 (a0 : Int) (a2 : List Int) (a3 : Int) (y11 : List Int) (x0 : Int) (x1 : List Int) : Tr F_plane_take_plane_woven_1 (Int × (List Int)) (List Int) :=
 .ite 6 57 (x0 < (y11.length : Int))
 (.loop 16 ⟨_, _, _, _, _, ok_plane_take_plane_woven_1_l3 a0 a2 a3 y11 x0 0 x1⟩ fun j16 => .again 6 (IntKind.i64.wrap (x0 + 1), j16))
 (.ret 4 x1)
theorem ok_plane_take_plane_woven_1_l2 (a0 : Int) (a2 : List Int) (a3 : Int) (y11 : List Int) (x0 : Int) (x1 : List Int) : Ok (M_plane_take_plane_woven_1_l2 a0 a2 a3 y11 x0 x1) fun v => go Tryz.prog F_plane_take_plane_woven_1.N (PostN (.exit 1) (E_plane_take_plane_woven_1_l2 a0 a2 a3 y11) v) [.l (lpA Tryz.prog 115 0)] .norm (S_plane_take_plane_woven_1_l2 a0 a2 a3 y11 x0 x1) := by
 refine M_plane_take_plane_woven_1_l2.partial_correctness a0 a2 a3 y11 (fun x0 x1 v => go Tryz.prog F_plane_take_plane_woven_1.N (PostN (.exit 1) (E_plane_take_plane_woven_1_l2 a0 a2 a3 y11) v) [.l (lpA Tryz.prog 115 0)] .norm (S_plane_take_plane_woven_1_l2 a0 a2 a3 y11 x0 x1)) ?_ x0 x1
 clear x0 x1
 intro f IH x0 x1
 exact Tr.lpN (F := F_plane_take_plane_woven_1) (S := fun x => S_plane_take_plane_woven_1_l2 a0 a2 a3 y11 x.1 x.2) (S' := E_plane_take_plane_woven_1_l2 a0 a2 a3 y11) (t_plane_take_plane_woven_1_l2 a0 a2 a3 y11 x0 x1) (fun x => f x.1 x.2) (fun x r h => IH x.1 x.2 r h) (by kernel_rfl) (by kernel_rfl)
theorem nl_plane_take_plane_woven_1 : ∀ v, (en_plane_take_plane_woven_1 v).noLst := fun _ => ⟨(flat_map_of fun _ => trivial), trivial, trivial⟩
noncomputable def t_plane_take_plane_woven_1 (a0 : Int) (a1 : Int) (a2 : List Int) (a3 : Int) : Tr F_plane_take_plane_woven_1 Empty ((List Int) × Int) :=
 .call 9 (ok_plane_Bytes a0 a1) nl_plane_Bytes fun r1 => .iteN 14 23 (r1.2 = 0)
 (.ret 10 ([], r1.2))
 (.len 4 eY a2 <| .iteN 4 27 ((a2.length : Int) = r1.1)
 (.ret 9 ([], 4))
 (.let_ (IntKind.i64.wrap ((IntKind.i64.wrap (8 * r1.1)) - (IntKind.i64.wrap (a0 * a1))) : Int) fun y2 => .ite 19 40 (y2 > 0)
 (.idx 3 eY a2 (IntKind.i64.wrap (r1.1 - 1)) <| .rd 2 (0 ≤ y2) (nY (sShl .u8 1 y2)) <| .iteN 5 51 ((bAnd .u8 (at' a2 (IntKind.i64.wrap (r1.1 - 1))) (IntKind.u8.wrap ((sShl .u8 1 y2) - 1))) = 0)
 (.ret 8 ([], 6))
 (.mk 5 eU 8 0 a1 a1 <| .let_ (List.replicate (Int.toNat a1) 0 : List Int) fun y4 => .len 6 eU y4 <| .loop 4 ⟨_, _, _, _, _, ok_plane_take_plane_woven_1_l0 a0 a2 a3 y4 0 y4⟩ fun j10 => .ret 8 (j10, 0)))
 (.mk 17 eU 8 0 a1 a1 <| .let_ (List.replicate (Int.toNat a1) 0 : List Int) fun y11 => .len 6 eU y11 <| .loop 4 ⟨_, _, _, _, _, ok_plane_take_plane_woven_1_l2 a0 a2 a3 y11 0 y11⟩ fun j17 => .ret 8 (j17, 0))))
noncomputable def s_plane_take_plane_woven_1 (a0 : Int) (a1 : Int) (a2 : List Int) (a3 : Int) : Sg Tryz.prog ((List Int) × Int) := ⟨115, M_plane_take_plane_woven_1 a0 a1 a2 a3, [.int .i64 a0, .int .i64 a1, .lst (List.map (D.int .u8) a2), .clo (.func 139) [] [.cp [.int .i64 a3] 0]], en_plane_take_plane_woven_1⟩
theorem ok_plane_take_plane_woven_1 (a0 : Int) (a1 : Int) (a2 : List Int) (a3 : Int) : (s_plane_take_plane_woven_1 a0 a1 a2 a3).Holds := Tr.fn (F := F_plane_take_plane_woven_1) (t_plane_take_plane_woven_1 a0 a1 a2 a3) (by kernel_rfl) (by kernel_rfl) (by kernel_rfl) (by kernel_rfl)
/-- thrum/plane.Unweave. -/
def en_plane_Unweave (v : (List Int) × Int) : PV := .tup [sU (.s 0) v.1, nI v.2]
noncomputable abbrev F_plane_Unweave : Fe := .of Tryz.prog 80 en_plane_Unweave
theorem nl_plane_Unweave : ∀ v, (en_plane_Unweave v).noLst := fun _ => ⟨(flat_map_of fun _ => trivial), trivial, trivial⟩
noncomputable def t_plane_Unweave (a0 : Int) (a1 : Int) (a2 : List Int) : Tr F_plane_Unweave Empty ((List Int) × Int) :=
 .callZ 11 (ok_plane_woven a1) fun r1 => .call 0 (ok_plane_take_plane_woven_1 a0 a1 a2 r1) nl_plane_take_plane_woven_1 fun r2 => .ret 6 (r2.1, r2.2)
noncomputable def s_plane_Unweave (a0 : Int) (a1 : Int) (a2 : List Int) : Sg Tryz.prog ((List Int) × Int) := ⟨80, M_plane_Unweave a0 a1 a2, [.int .i64 a0, .int .i64 a1, .lst (List.map (D.int .u8) a2)], en_plane_Unweave⟩
theorem ok_plane_Unweave (a0 : Int) (a1 : Int) (a2 : List Int) : (s_plane_Unweave a0 a1 a2).Holds := Tr.fn (F := F_plane_Unweave) (t_plane_Unweave a0 a1 a2) (by kernel_rfl) (by kernel_rfl) (by kernel_rfl) (by kernel_rfl)
/-- thrum/plane.take. -/
def en_plane_take_plane_side_1 (v : (List Int) × Int) : PV := .tup [sU (.s 0) v.1, nI v.2]
noncomputable abbrev F_plane_take_plane_side_1 : Fe := .of Tryz.prog 115 en_plane_take_plane_side_1
def S_plane_take_plane_side_1_l1 (a0 : Int) (a2 : List Int) (a3 : Int) (y4 : List Int) (x0 : Int) (x0_ : Int) (x1_ : List Int) : St := ⟨[(60, nI x0_), (59, nI a0), (14, nI x0), (56, nI x0), (55, nI (y4.length : Int)), (13, sU (.h 1) x1_), (0, nI a0), (2, lY a2), (3, .d (.clo (.func 152) [] [.cp [.int .i64 a3] 0]))], []⟩
def E_plane_take_plane_side_1_l1 (a0 : Int) (a2 : List Int) (a3 : Int) (y4 : List Int) (x0 : Int) (x : (List Int)) : St := ⟨[(56, nI x0), (55, nI (y4.length : Int)), (13, sU (.h 2) x), (0, nI a0), (2, lY a2), (3, .d (.clo (.func 152) [] [.cp [.int .i64 a3] 0]))], []⟩
noncomputable def t_plane_take_plane_side_1_l1 (a0 : Int) (a2 : List Int) (a3 : Int) (y4 : List Int) (x0 : Int) (x0_ : Int) (x1_ : List Int) : Tr F_plane_take_plane_side_1 (Int × (List Int)) (List Int) :=
 .ite 6 61 (x0_ < a0)
 (.call 14 (ok_plane_side_1_c x0 x0_ a3) nl_plane_side_1_c fun r6 => .idx 7 eU x1_ x0 <| .idx 5 eY a2 (sShr .i64 r6 3) <| .rd 4 (0 ≤ IntKind.i64.wrap (7 - (bAnd .i64 r6 7))) (nY (sShr .u8 (at' a2 (sShr .i64 r6 3)) (IntKind.i64.wrap (7 - (bAnd .i64 r6 7))))) <| .idx 3 eU x1_ x0 <| .sto 0 [69, 67, 13] eU x1_ x0 (bOr .u64 (sShl .u64 (at' x1_ x0) 1) (IntKind.u64.wrap (bAnd .u8 (sShr .u8 (at' a2 (sShr .i64 r6 3)) (IntKind.i64.wrap (7 - (bAnd .i64 r6 7)))) 1))) <| .let_ (x1_.set (Int.toNat x0) (bOr .u64 (sShl .u64 (at' x1_ x0) 1) (IntKind.u64.wrap (bAnd .u8 (sShr .u8 (at' a2 (sShr .i64 r6 3)) (IntKind.i64.wrap (7 - (bAnd .i64 r6 7)))) 1))) : List Int) fun y7 => .again 6 (IntKind.i64.wrap (x0_ + 1), y7))
 (.ret 4 x1_)
theorem ok_plane_take_plane_side_1_l1 (a0 : Int) (a2 : List Int) (a3 : Int) (y4 : List Int) (x0 : Int) (x0_ : Int) (x1_ : List Int) : Ok (M_plane_take_plane_side_1_l1 a0 a2 a3 y4 x0 x0_ x1_) fun v => go Tryz.prog F_plane_take_plane_side_1.N (PostN (.exit 3) (E_plane_take_plane_side_1_l1 a0 a2 a3 y4 x0) v) [.l (lpA Tryz.prog 115 1)] .norm (S_plane_take_plane_side_1_l1 a0 a2 a3 y4 x0 x0_ x1_) := by
 refine M_plane_take_plane_side_1_l1.partial_correctness a0 a2 a3 y4 x0 (fun x0_ x1_ v => go Tryz.prog F_plane_take_plane_side_1.N (PostN (.exit 3) (E_plane_take_plane_side_1_l1 a0 a2 a3 y4 x0) v) [.l (lpA Tryz.prog 115 1)] .norm (S_plane_take_plane_side_1_l1 a0 a2 a3 y4 x0 x0_ x1_)) ?_ x0_ x1_
 clear x0_ x1_
 intro f IH x0_ x1_
 exact Tr.lpN (F := F_plane_take_plane_side_1) (S := fun x => S_plane_take_plane_side_1_l1 a0 a2 a3 y4 x0 x.1 x.2) (S' := E_plane_take_plane_side_1_l1 a0 a2 a3 y4 x0) (t_plane_take_plane_side_1_l1 a0 a2 a3 y4 x0 x0_ x1_) (fun x => f x.1 x.2) (fun x r h => IH x.1 x.2 r h) (by kernel_rfl) (by kernel_rfl)
def S_plane_take_plane_side_1_l0 (a0 : Int) (a2 : List Int) (a3 : Int) (y4 : List Int) (x0 : Int) (x1 : List Int) : St := ⟨[(56, nI x0), (55, nI (y4.length : Int)), (13, sU (.h 0) x1), (0, nI a0), (2, lY a2), (3, .d (.clo (.func 152) [] [.cp [.int .i64 a3] 0]))], []⟩
def E_plane_take_plane_side_1_l0 (a0 : Int) (a2 : List Int) (a3 : Int) (y4 : List Int) (x : (List Int)) : St := ⟨[(13, sU (.h 1) x)], []⟩
noncomputable def t_plane_take_plane_side_1_l0 (a0 : Int) (a2 : List Int) (a3 : Int) (y4 : List Int) (x0 : Int) (x1 : List Int) : Tr F_plane_take_plane_side_1 (Int × (List Int)) (List Int) :=
 .ite 6 57 (x0 < (y4.length : Int))
 (.loop 16 ⟨_, _, _, _, _, ok_plane_take_plane_side_1_l1 a0 a2 a3 y4 x0 0 x1⟩ fun j9 => .again 6 (IntKind.i64.wrap (x0 + 1), j9))
 (.ret 4 x1)
theorem ok_plane_take_plane_side_1_l0 (a0 : Int) (a2 : List Int) (a3 : Int) (y4 : List Int) (x0 : Int) (x1 : List Int) : Ok (M_plane_take_plane_side_1_l0 a0 a2 a3 y4 x0 x1) fun v => go Tryz.prog F_plane_take_plane_side_1.N (PostN (.exit 1) (E_plane_take_plane_side_1_l0 a0 a2 a3 y4) v) [.l (lpA Tryz.prog 115 0)] .norm (S_plane_take_plane_side_1_l0 a0 a2 a3 y4 x0 x1) := by
 refine M_plane_take_plane_side_1_l0.partial_correctness a0 a2 a3 y4 (fun x0 x1 v => go Tryz.prog F_plane_take_plane_side_1.N (PostN (.exit 1) (E_plane_take_plane_side_1_l0 a0 a2 a3 y4) v) [.l (lpA Tryz.prog 115 0)] .norm (S_plane_take_plane_side_1_l0 a0 a2 a3 y4 x0 x1)) ?_ x0 x1
 clear x0 x1
 intro f IH x0 x1
 exact Tr.lpN (F := F_plane_take_plane_side_1) (S := fun x => S_plane_take_plane_side_1_l0 a0 a2 a3 y4 x.1 x.2) (S' := E_plane_take_plane_side_1_l0 a0 a2 a3 y4) (t_plane_take_plane_side_1_l0 a0 a2 a3 y4 x0 x1) (fun x => f x.1 x.2) (fun x r h => IH x.1 x.2 r h) (by kernel_rfl) (by kernel_rfl)
def S_plane_take_plane_side_1_l3 (a0 : Int) (a2 : List Int) (a3 : Int) (y11 : List Int) (x0 : Int) (x0_ : Int) (x1_ : List Int) : St := ⟨[(60, nI x0_), (59, nI a0), (14, nI x0), (56, nI x0), (55, nI (y11.length : Int)), (13, sU (.h 1) x1_), (0, nI a0), (2, lY a2), (3, .d (.clo (.func 152) [] [.cp [.int .i64 a3] 0]))], []⟩
def E_plane_take_plane_side_1_l3 (a0 : Int) (a2 : List Int) (a3 : Int) (y11 : List Int) (x0 : Int) (x : (List Int)) : St := ⟨[(56, nI x0), (55, nI (y11.length : Int)), (13, sU (.h 2) x), (0, nI a0), (2, lY a2), (3, .d (.clo (.func 152) [] [.cp [.int .i64 a3] 0]))], []⟩
noncomputable def t_plane_take_plane_side_1_l3 (a0 : Int) (a2 : List Int) (a3 : Int) (y11 : List Int) (x0 : Int) (x0_ : Int) (x1_ : List Int) : Tr F_plane_take_plane_side_1 (Int × (List Int)) (List Int) :=
 .ite 6 61 (x0_ < a0)
 (.call 14 (ok_plane_side_1_c x0 x0_ a3) nl_plane_side_1_c fun r13 => .idx 7 eU x1_ x0 <| .idx 5 eY a2 (sShr .i64 r13 3) <| .rd 4 (0 ≤ IntKind.i64.wrap (7 - (bAnd .i64 r13 7))) (nY (sShr .u8 (at' a2 (sShr .i64 r13 3)) (IntKind.i64.wrap (7 - (bAnd .i64 r13 7))))) <| .idx 3 eU x1_ x0 <| .sto 0 [69, 67, 13] eU x1_ x0 (bOr .u64 (sShl .u64 (at' x1_ x0) 1) (IntKind.u64.wrap (bAnd .u8 (sShr .u8 (at' a2 (sShr .i64 r13 3)) (IntKind.i64.wrap (7 - (bAnd .i64 r13 7)))) 1))) <| .let_ (x1_.set (Int.toNat x0) (bOr .u64 (sShl .u64 (at' x1_ x0) 1) (IntKind.u64.wrap (bAnd .u8 (sShr .u8 (at' a2 (sShr .i64 r13 3)) (IntKind.i64.wrap (7 - (bAnd .i64 r13 7)))) 1))) : List Int) fun y14 => .again 6 (IntKind.i64.wrap (x0_ + 1), y14))
 (.ret 4 x1_)
theorem ok_plane_take_plane_side_1_l3 (a0 : Int) (a2 : List Int) (a3 : Int) (y11 : List Int) (x0 : Int) (x0_ : Int) (x1_ : List Int) : Ok (M_plane_take_plane_side_1_l3 a0 a2 a3 y11 x0 x0_ x1_) fun v => go Tryz.prog F_plane_take_plane_side_1.N (PostN (.exit 3) (E_plane_take_plane_side_1_l3 a0 a2 a3 y11 x0) v) [.l (lpA Tryz.prog 115 1)] .norm (S_plane_take_plane_side_1_l3 a0 a2 a3 y11 x0 x0_ x1_) := by
 refine M_plane_take_plane_side_1_l3.partial_correctness a0 a2 a3 y11 x0 (fun x0_ x1_ v => go Tryz.prog F_plane_take_plane_side_1.N (PostN (.exit 3) (E_plane_take_plane_side_1_l3 a0 a2 a3 y11 x0) v) [.l (lpA Tryz.prog 115 1)] .norm (S_plane_take_plane_side_1_l3 a0 a2 a3 y11 x0 x0_ x1_)) ?_ x0_ x1_
 clear x0_ x1_
 intro f IH x0_ x1_
 exact Tr.lpN (F := F_plane_take_plane_side_1) (S := fun x => S_plane_take_plane_side_1_l3 a0 a2 a3 y11 x0 x.1 x.2) (S' := E_plane_take_plane_side_1_l3 a0 a2 a3 y11 x0) (t_plane_take_plane_side_1_l3 a0 a2 a3 y11 x0 x0_ x1_) (fun x => f x.1 x.2) (fun x r h => IH x.1 x.2 r h) (by kernel_rfl) (by kernel_rfl)
def S_plane_take_plane_side_1_l2 (a0 : Int) (a2 : List Int) (a3 : Int) (y11 : List Int) (x0 : Int) (x1 : List Int) : St := ⟨[(56, nI x0), (55, nI (y11.length : Int)), (13, sU (.h 0) x1), (0, nI a0), (2, lY a2), (3, .d (.clo (.func 152) [] [.cp [.int .i64 a3] 0]))], []⟩
def E_plane_take_plane_side_1_l2 (a0 : Int) (a2 : List Int) (a3 : Int) (y11 : List Int) (x : (List Int)) : St := ⟨[(13, sU (.h 1) x)], []⟩
noncomputable def t_plane_take_plane_side_1_l2 (a0 : Int) (a2 : List Int) (a3 : Int) (y11 : List Int) (x0 : Int) (x1 : List Int) : Tr F_plane_take_plane_side_1 (Int × (List Int)) (List Int) :=
 .ite 6 57 (x0 < (y11.length : Int))
 (.loop 16 ⟨_, _, _, _, _, ok_plane_take_plane_side_1_l3 a0 a2 a3 y11 x0 0 x1⟩ fun j16 => .again 6 (IntKind.i64.wrap (x0 + 1), j16))
 (.ret 4 x1)
theorem ok_plane_take_plane_side_1_l2 (a0 : Int) (a2 : List Int) (a3 : Int) (y11 : List Int) (x0 : Int) (x1 : List Int) : Ok (M_plane_take_plane_side_1_l2 a0 a2 a3 y11 x0 x1) fun v => go Tryz.prog F_plane_take_plane_side_1.N (PostN (.exit 1) (E_plane_take_plane_side_1_l2 a0 a2 a3 y11) v) [.l (lpA Tryz.prog 115 0)] .norm (S_plane_take_plane_side_1_l2 a0 a2 a3 y11 x0 x1) := by
 refine M_plane_take_plane_side_1_l2.partial_correctness a0 a2 a3 y11 (fun x0 x1 v => go Tryz.prog F_plane_take_plane_side_1.N (PostN (.exit 1) (E_plane_take_plane_side_1_l2 a0 a2 a3 y11) v) [.l (lpA Tryz.prog 115 0)] .norm (S_plane_take_plane_side_1_l2 a0 a2 a3 y11 x0 x1)) ?_ x0 x1
 clear x0 x1
 intro f IH x0 x1
 exact Tr.lpN (F := F_plane_take_plane_side_1) (S := fun x => S_plane_take_plane_side_1_l2 a0 a2 a3 y11 x.1 x.2) (S' := E_plane_take_plane_side_1_l2 a0 a2 a3 y11) (t_plane_take_plane_side_1_l2 a0 a2 a3 y11 x0 x1) (fun x => f x.1 x.2) (fun x r h => IH x.1 x.2 r h) (by kernel_rfl) (by kernel_rfl)
theorem nl_plane_take_plane_side_1 : ∀ v, (en_plane_take_plane_side_1 v).noLst := fun _ => ⟨(flat_map_of fun _ => trivial), trivial, trivial⟩
noncomputable def t_plane_take_plane_side_1 (a0 : Int) (a1 : Int) (a2 : List Int) (a3 : Int) : Tr F_plane_take_plane_side_1 Empty ((List Int) × Int) :=
 .call 9 (ok_plane_Bytes a0 a1) nl_plane_Bytes fun r1 => .iteN 14 23 (r1.2 = 0)
 (.ret 10 ([], r1.2))
 (.len 4 eY a2 <| .iteN 4 27 ((a2.length : Int) = r1.1)
 (.ret 9 ([], 4))
 (.let_ (IntKind.i64.wrap ((IntKind.i64.wrap (8 * r1.1)) - (IntKind.i64.wrap (a0 * a1))) : Int) fun y2 => .ite 19 40 (y2 > 0)
 (.idx 3 eY a2 (IntKind.i64.wrap (r1.1 - 1)) <| .rd 2 (0 ≤ y2) (nY (sShl .u8 1 y2)) <| .iteN 5 51 ((bAnd .u8 (at' a2 (IntKind.i64.wrap (r1.1 - 1))) (IntKind.u8.wrap ((sShl .u8 1 y2) - 1))) = 0)
 (.ret 8 ([], 6))
 (.mk 5 eU 8 0 a1 a1 <| .let_ (List.replicate (Int.toNat a1) 0 : List Int) fun y4 => .len 6 eU y4 <| .loop 4 ⟨_, _, _, _, _, ok_plane_take_plane_side_1_l0 a0 a2 a3 y4 0 y4⟩ fun j10 => .ret 8 (j10, 0)))
 (.mk 17 eU 8 0 a1 a1 <| .let_ (List.replicate (Int.toNat a1) 0 : List Int) fun y11 => .len 6 eU y11 <| .loop 4 ⟨_, _, _, _, _, ok_plane_take_plane_side_1_l2 a0 a2 a3 y11 0 y11⟩ fun j17 => .ret 8 (j17, 0))))
noncomputable def s_plane_take_plane_side_1 (a0 : Int) (a1 : Int) (a2 : List Int) (a3 : Int) : Sg Tryz.prog ((List Int) × Int) := ⟨115, M_plane_take_plane_side_1 a0 a1 a2 a3, [.int .i64 a0, .int .i64 a1, .lst (List.map (D.int .u8) a2), .clo (.func 152) [] [.cp [.int .i64 a3] 0]], en_plane_take_plane_side_1⟩
theorem ok_plane_take_plane_side_1 (a0 : Int) (a1 : Int) (a2 : List Int) (a3 : Int) : (s_plane_take_plane_side_1 a0 a1 a2 a3).Holds := Tr.fn (F := F_plane_take_plane_side_1) (t_plane_take_plane_side_1 a0 a1 a2 a3) (by kernel_rfl) (by kernel_rfl) (by kernel_rfl) (by kernel_rfl)
/-- thrum/plane.Unpack. -/
def en_plane_Unpack (v : (List Int) × Int) : PV := .tup [sU (.s 0) v.1, nI v.2]
noncomputable abbrev F_plane_Unpack : Fe := .of Tryz.prog 140 en_plane_Unpack
theorem nl_plane_Unpack : ∀ v, (en_plane_Unpack v).noLst := fun _ => ⟨(flat_map_of fun _ => trivial), trivial, trivial⟩
noncomputable def t_plane_Unpack (a0 : Int) (a1 : Int) (a2 : List Int) : Tr F_plane_Unpack Empty ((List Int) × Int) :=
 .callZ 11 (ok_plane_side a0) fun r1 => .call 0 (ok_plane_take_plane_side_1 a0 a1 a2 r1) nl_plane_take_plane_side_1 fun r2 => .ret 6 (r2.1, r2.2)
noncomputable def s_plane_Unpack (a0 : Int) (a1 : Int) (a2 : List Int) : Sg Tryz.prog ((List Int) × Int) := ⟨140, M_plane_Unpack a0 a1 a2, [.int .i64 a0, .int .i64 a1, .lst (List.map (D.int .u8) a2)], en_plane_Unpack⟩
theorem ok_plane_Unpack (a0 : Int) (a1 : Int) (a2 : List Int) : (s_plane_Unpack a0 a1 a2).Holds := Tr.fn (F := F_plane_Unpack) (t_plane_Unpack a0 a1 a2) (by kernel_rfl) (by kernel_rfl) (by kernel_rfl) (by kernel_rfl)
/-- thrum/plane.Read. -/
def en_plane_Read (v : (List Bool) × Int) : PV := .tup [sB (.s 0) v.1, nI v.2]
noncomputable abbrev F_plane_Read : Fe := .of Tryz.prog 117 en_plane_Read
def S_plane_Read_l0 (r1 : (List Int) × Int) (x0 : Int) (x1 : List Bool) : St := ⟨[(25, nI x0), (24, nI (r1.1.length : Int)), (23, sU (.s 1632) r1.1), (8, sB (.h 0) x1)], []⟩
def E_plane_Read_l0 (r1 : (List Int) × Int) (x : (List Bool)) : St := ⟨[(8, sB (.h 1) x)], []⟩
noncomputable def t_plane_Read_l0 (r1 : (List Int) × Int) (x0 : Int) (x1 : List Bool) : Tr F_plane_Read (Int × (List Bool)) (List Bool) :=
 .ite 6 26 (x0 < (r1.1.length : Int))
 (.idx 7 eU r1.1 x0 <| .idx 9 eB x1 x0 <| .sto 0 [8] eB x1 x0 ((at' r1.1 x0) == 1) <| .let_ (x1.set (Int.toNat x0) ((at' r1.1 x0) == 1) : List Bool) fun y4 => .again 6 (IntKind.i64.wrap (x0 + 1), y4))
 (.ret 4 x1)
theorem ok_plane_Read_l0 (r1 : (List Int) × Int) (x0 : Int) (x1 : List Bool) : Ok (M_plane_Read_l0 r1 x0 x1) fun v => go Tryz.prog F_plane_Read.N (PostN (.exit 0) (E_plane_Read_l0 r1) v) [.l (lpA Tryz.prog 117 0)] .norm (S_plane_Read_l0 r1 x0 x1) := by
 refine M_plane_Read_l0.partial_correctness r1 (fun x0 x1 v => go Tryz.prog F_plane_Read.N (PostN (.exit 0) (E_plane_Read_l0 r1) v) [.l (lpA Tryz.prog 117 0)] .norm (S_plane_Read_l0 r1 x0 x1)) ?_ x0 x1
 clear x0 x1
 intro f IH x0 x1
 exact Tr.lpN (F := F_plane_Read) (S := fun x => S_plane_Read_l0 r1 x.1 x.2) (S' := E_plane_Read_l0 r1) (t_plane_Read_l0 r1 x0 x1) (fun x => f x.1 x.2) (fun x r h => IH x.1 x.2 r h) (by kernel_rfl) (by kernel_rfl)
theorem nl_plane_Read : ∀ v, (en_plane_Read v).noLst := fun _ => ⟨(flat_map_of fun _ => trivial), trivial, trivial⟩
noncomputable def t_plane_Read (a0 : Int) (a1 : List Int) : Tr F_plane_Read Empty ((List Bool) × Int) :=
 .call 9 (ok_plane_Unpack 1 a0 a1) nl_plane_Unpack fun r1 => .iteN 12 18 (r1.2 = 0)
 (.ret 9 ([], r1.2))
 (.len 5 eU r1.1 <| .mk 0 eB 1 false (r1.1.length : Int) (r1.1.length : Int) <| .let_ (List.replicate (Int.toNat (r1.1.length : Int)) false : List Bool) fun y2 => .len 6 eU r1.1 <| .loop 4 ⟨_, _, _, _, _, ok_plane_Read_l0 r1 0 y2⟩ fun j6 => .ret 8 (j6, 0))
noncomputable def s_plane_Read (a0 : Int) (a1 : List Int) : Sg Tryz.prog ((List Bool) × Int) := ⟨117, M_plane_Read a0 a1, [.int .i64 a0, .lst (List.map (D.int .u8) a1)], en_plane_Read⟩
theorem ok_plane_Read (a0 : Int) (a1 : List Int) : (s_plane_Read a0 a1).Holds := Tr.fn (F := F_plane_Read) (t_plane_Read a0 a1) (by kernel_rfl) (by kernel_rfl) (by kernel_rfl) (by kernel_rfl)
/-- (*thrum/frame.reader).signs. -/
def en_thrum_frame_reader_signs (v : (List Bool) × (List Int) × Int × Bool) : PV := sB (.s 0) v.1
def bx_thrum_frame_reader_signs (v : (List Bool) × (List Int) × Int × Bool) : List (Tg × List PV) := [(.up (.s 0), [lY v.2.1, nI v.2.2.1, bB v.2.2.2])]
noncomputable abbrev F_thrum_frame_reader_signs : Fe := .of Tryz.prog 81 en_thrum_frame_reader_signs bx_thrum_frame_reader_signs
noncomputable def t_thrum_frame_reader_signs (a0 : T_frame_reader) (a1 : Int) : Tr F_thrum_frame_reader_signs Empty ((List Bool) × (List Int) × Int × Bool) :=
 .callG 11 [(.up (.s 0), .up (.s 0))] [] (ok_thrum_frame_reader_part a0 (IntKind.i64.wrap (Int.tdiv (IntKind.i64.wrap (a1 + 7)) 8))) fun r1 => .call 0 (ok_plane_Read a1 r1.1) nl_plane_Read fun r2 => .callG 11 [(.up (.s 0), .up (.s 0))] [] (ok_thrum_frame_reader_must (⟨(⟨r1.2.1, r1.2.2.1⟩ : T_frame_text), r1.2.2.2⟩ : T_frame_reader) (r2.2 == 0)) fun r3 => .ret 7 (r2.1, r3.1, r3.2.1, r3.2.2)
noncomputable def s_thrum_frame_reader_signs (a0 : T_frame_reader) (a1 : Int) : SgG Tryz.prog ((List Bool) × (List Int) × Int × Bool) := ⟨81, M_thrum_frame_reader_signs a0 a1, [.ptr (.up (.s 0)) 0, nI a1], [(.up (.s 0), [lY a0.F_text.F_b, nI a0.F_text.F_at, bB a0.F_bad])], en_thrum_frame_reader_signs, bx_thrum_frame_reader_signs⟩
theorem ok_thrum_frame_reader_signs (a0 : T_frame_reader) (a1 : Int) : (s_thrum_frame_reader_signs a0 a1).Holds := Tr.fnG (F := F_thrum_frame_reader_signs) (t_thrum_frame_reader_signs a0 a1) (by kernel_rfl) (by kernel_rfl) (by kernel_rfl) (by kernel_rfl)
/-- (*thrum/frame.reader).sent. -/
def en_thrum_frame_reader_sent (v : Int × Int × (List Int) × (List Int) × Int × Int × (List Int) × (List Bool) × (List Int) × Int × Bool) : PV := .d (.agg [.int .i64 v.1, .int .i64 v.2.1, .lst (List.map (D.int .i64) v.2.2.1), .lst (List.map (D.int .i64) v.2.2.2.1), .int .i64 v.2.2.2.2.1, .int .i64 v.2.2.2.2.2.1, .lst (List.map (D.int .u64) v.2.2.2.2.2.2.1), .lst (List.map D.bool v.2.2.2.2.2.2.2.1)])
def bx_thrum_frame_reader_sent (v : Int × Int × (List Int) × (List Int) × Int × Int × (List Int) × (List Bool) × (List Int) × Int × Bool) : List (Tg × List PV) := [(.up (.s 0), [lY v.2.2.2.2.2.2.2.2.1, nI v.2.2.2.2.2.2.2.2.2.1, bB v.2.2.2.2.2.2.2.2.2.2])]
noncomputable abbrev F_thrum_frame_reader_sent : Fe := .of Tryz.prog 39 en_thrum_frame_reader_sent bx_thrum_frame_reader_sent
noncomputable def t_thrum_frame_reader_sent (a0 : T_frame_reader) : Tr F_thrum_frame_reader_sent Empty (Int × Int × (List Int) × (List Int) × Int × Int × (List Int) × (List Bool) × (List Int) × Int × Bool) :=
 .callG 7 [(.up (.s 0), .up (.s 0))] [] (ok_thrum_frame_reader_small a0) fun r1 => .callG 6 [(.up (.s 0), .up (.s 0))] [] (ok_thrum_frame_reader_number (⟨(⟨r1.2.1, r1.2.2.1⟩ : T_frame_text), r1.2.2.2⟩ : T_frame_reader) 4096) fun r2 => .callG 10 [(.up (.s 0), .up (.s 0))] [] (ok_thrum_frame_reader_must (⟨(⟨r2.2.1, r2.2.2.1⟩ : T_frame_text), r2.2.2.2⟩ : T_frame_reader) (decide ((IntKind.i64.wrap r2.1) > 0))) fun r3 => .iteB 9 20 (r3.2.2)
 (.ret 8 (r1.1, IntKind.i64.wrap r2.1, [], [], 0, 0, [], [], r3.1, r3.2.1, r3.2.2))
 (.ite 14 27 (r1.1 = 0)
 (.callG 5 [(.up (.s 0), .up (.s 0))] [] (ok_thrum_frame_reader_signed (⟨(⟨r3.1, r3.2.1⟩ : T_frame_text), r3.2.2⟩ : T_frame_reader) (IntKind.i64.wrap r2.1)) fun r4 => .ret 10 (r1.1, IntKind.i64.wrap r2.1, [], r4.1, 0, 0, [], [], r4.2.1, r4.2.2.1, r4.2.2.2))
 (.ite 6 34 (r1.1 = 1)
 (.callG 6 [(.up (.s 0), .up (.s 0))] [] (ok_thrum_frame_reader_places (⟨(⟨r3.1, r3.2.1⟩ : T_frame_text), r3.2.2⟩ : T_frame_reader) (IntKind.i64.wrap r2.1)) fun r5 => .len 7 eI r5.1 <| .callG 0 [(.up (.s 0), .up (.s 0))] [] (ok_thrum_frame_reader_signed (⟨(⟨r5.2.1, r5.2.2.1⟩ : T_frame_text), r5.2.2.2⟩ : T_frame_reader) (r5.1.length : Int)) fun r6 => .ret 10 (r1.1, IntKind.i64.wrap r2.1, r5.1, r6.1, 0, 0, [], [], r6.2.1, r6.2.2.1, r6.2.2.2))
 (.ite 6 47 (r1.1 = 2)
 (.callG 4 [(.up (.s 0), .up (.s 0))] [] (ok_thrum_frame_reader_number (⟨(⟨r3.1, r3.2.1⟩ : T_frame_text), r3.2.2⟩ : T_frame_reader) 9223372036854775807) fun r7 => .callG 7 [(.up (.s 0), .up (.s 0))] [] (ok_thrum_frame_reader_small (⟨(⟨r7.2.1, r7.2.2.1⟩ : T_frame_text), r7.2.2.2⟩ : T_frame_reader)) fun r8 => .join 10 4 (γ := Bool) ⟨fun x => [(64, bB x)], [56, 2, 0], fun _ => [], [.s 15, .up (.s 0)]⟩
 (.ite 0 60 (r8.1 > 0)
 (.ret 5 (decide (r8.1 ≤ 8)))
 (.ret 5 false))
 fun j9 => .callG 0 [(.up (.s 0), .up (.s 0))] [] (ok_thrum_frame_reader_must (⟨(⟨r8.2.1, r8.2.2.1⟩ : T_frame_text), r8.2.2.2⟩ : T_frame_reader) j9) fun r10 => .iteB 9 69 (r10.2.2)
 (.ret 10 (r1.1, IntKind.i64.wrap r2.1, [], [], IntKind.i64.wrap r7.1, r8.1, [], [], r10.1, r10.2.1, r10.2.2))
 (.call 8 (ok_plane_Bytes r8.1 (IntKind.i64.wrap r2.1)) nl_plane_Bytes fun r11 => .callG 11 [(.up (.s 0), .up (.s 0))] [] (ok_thrum_frame_reader_must (⟨(⟨r10.1, r10.2.1⟩ : T_frame_text), r10.2.2⟩ : T_frame_reader) (r11.2 == 0)) fun r12 => .callG 9 [(.up (.s 0), .up (.s 0))] [] (ok_thrum_frame_reader_part (⟨(⟨r12.1, r12.2.1⟩ : T_frame_text), r12.2.2⟩ : T_frame_reader) r11.1) fun r13 => .hold 1 [] <| .call 0 (ok_plane_Unweave r8.1 (IntKind.i64.wrap r2.1) r13.1) nl_plane_Unweave fun r14 => .hold 6 [] <| .callG 8 [(.up (.s 0), .up (.s 0))] [] (ok_thrum_frame_reader_must (⟨(⟨r13.2.1, r13.2.2.1⟩ : T_frame_text), r13.2.2.2⟩ : T_frame_reader) (r14.2 == 0)) fun r15 => .callG 5 [(.up (.s 0), .up (.s 0))] [] (ok_thrum_frame_reader_signs (⟨(⟨r15.1, r15.2.1⟩ : T_frame_text), r15.2.2⟩ : T_frame_reader) (IntKind.i64.wrap r2.1)) fun r16 => .ret 10 (r1.1, IntKind.i64.wrap r2.1, [], [], IntKind.i64.wrap r7.1, r8.1, r14.1, r16.1, r16.2.1, r16.2.2.1, r16.2.2.2)))
 (.ite 6 104 (r1.1 = 3)
 (.callG 4 [(.up (.s 0), .up (.s 0))] [] (ok_thrum_frame_reader_number (⟨(⟨r3.1, r3.2.1⟩ : T_frame_text), r3.2.2⟩ : T_frame_reader) 9223372036854775807) fun r17 => .callG 8 [(.up (.s 0), .up (.s 0))] [] (ok_thrum_frame_reader_signs (⟨(⟨r17.2.1, r17.2.2.1⟩ : T_frame_text), r17.2.2.2⟩ : T_frame_reader) (IntKind.i64.wrap r2.1)) fun r18 => .ret 10 (r1.1, IntKind.i64.wrap r2.1, [], [], IntKind.i64.wrap r17.1, 0, [], r18.1, r18.2.1, r18.2.2.1, r18.2.2.2))
 (.ret 14 (r1.1, IntKind.i64.wrap r2.1, [], [], 0, 0, [], [], r3.1, r3.2.1, true))))))
noncomputable def s_thrum_frame_reader_sent (a0 : T_frame_reader) : SgG Tryz.prog (Int × Int × (List Int) × (List Int) × Int × Int × (List Int) × (List Bool) × (List Int) × Int × Bool) := ⟨39, M_thrum_frame_reader_sent a0, [.ptr (.up (.s 0)) 0], [(.up (.s 0), [lY a0.F_text.F_b, nI a0.F_text.F_at, bB a0.F_bad])], en_thrum_frame_reader_sent, bx_thrum_frame_reader_sent⟩
theorem ok_thrum_frame_reader_sent (a0 : T_frame_reader) : (s_thrum_frame_reader_sent a0).Holds := Tr.fnG (F := F_thrum_frame_reader_sent) (t_thrum_frame_reader_sent a0) (by kernel_rfl) (by kernel_rfl) (by kernel_rfl) (by kernel_rfl)
/-- thrum/frame.Read. -/
def en_frame_Read (v : Int × Int × Int × Int × Int × (List Int) × (List Int) × Int × Int × (List Int) × (List Bool) × Int) : PV := .tup [.d (.agg [.int .i64 v.1, .int .i64 v.2.1, .int .i64 v.2.2.1, .int .i64 v.2.2.2.1, .int .i64 v.2.2.2.2.1, .lst (List.map (D.int .i64) v.2.2.2.2.2.1), .lst (List.map (D.int .i64) v.2.2.2.2.2.2.1), .int .i64 v.2.2.2.2.2.2.2.1, .int .i64 v.2.2.2.2.2.2.2.2.1, .lst (List.map (D.int .u64) v.2.2.2.2.2.2.2.2.2.1), .lst (List.map D.bool v.2.2.2.2.2.2.2.2.2.2.1)]), nI v.2.2.2.2.2.2.2.2.2.2.2]
noncomputable abbrev F_frame_Read : Fe := .of Tryz.prog 10 en_frame_Read
noncomputable def t_frame_Read (a0 : List Int) : Tr F_frame_Read Empty (Int × Int × Int × Int × Int × (List Int) × (List Int) × Int × Int × (List Int) × (List Bool) × Int) :=
 .call 8 (ok_crc_Open a0) nl_crc_Open fun r1 => .iteN 12 12 (r1.2 = 0)
 (.ret 10 (0, 0, 0, 0, 0, [], [], 0, 0, [], [], r1.2))
 (.callG 14 [(.up (.s 0), .s 6463)] [.s 1616] (ok_thrum_frame_reader_small (⟨(⟨r1.1, 0⟩ : T_frame_text), false⟩ : T_frame_reader)) fun r2 => .callG 1 [(.up (.s 0), .s 6463)] [] (ok_thrum_frame_reader_must (⟨(⟨r2.2.1, r2.2.2.1⟩ : T_frame_text), r2.2.2.2⟩ : T_frame_reader) (r2.1 == 1)) fun r3 => .callG 4 [(.up (.s 0), .s 6463)] [] (ok_thrum_frame_reader_small (⟨(⟨r3.1, r3.2.1⟩ : T_frame_text), r3.2.2⟩ : T_frame_reader)) fun r4 => .callG 6 [(.up (.s 0), .s 6463)] [] (ok_thrum_frame_reader_number (⟨(⟨r4.2.1, r4.2.2.1⟩ : T_frame_text), r4.2.2.2⟩ : T_frame_reader) 63) fun r5 => .callG 7 [(.up (.s 0), .s 6463)] [] (ok_thrum_frame_reader_number (⟨(⟨r5.2.1, r5.2.2.1⟩ : T_frame_text), r5.2.2.2⟩ : T_frame_reader) 1073741824) fun r6 => .join 11 6 (γ := Bool) ⟨fun x => [(44, bB x)], [5, 2], fun _ => [], [.s 15, .s 6463]⟩
 (.ite 0 38 (r4.1 = 1)
 (.ret 7 (!r6.2.2.2))
 (.ret 7 false))
 fun j7 => .join 1 0 (γ := Int × Int × (List Int) × (List Int) × Int × Int × (List Int) × (List Bool) × (List Int) × Int × Bool) ⟨fun _ => [], [5, 2], fun x => [(.s 15, [nI r4.1, nI (IntKind.i64.wrap r5.1), nI (IntKind.i64.wrap r6.1), nI x.1, nI x.2.1, lI x.2.2.1, lI x.2.2.2.1, nI x.2.2.2.2.1, nI x.2.2.2.2.2.1, lU x.2.2.2.2.2.2.1, lB x.2.2.2.2.2.2.2.1]), (.s 6463, [lY x.2.2.2.2.2.2.2.2.1, nI x.2.2.2.2.2.2.2.2.2.1, bB x.2.2.2.2.2.2.2.2.2.2])], []⟩
 (.iteB 0 44 (j7)
 (.callG 3 [(.up (.s 0), .s 6463)] [] (ok_thrum_frame_reader_sent (⟨(⟨r6.2.1, r6.2.2.1⟩ : T_frame_text), r6.2.2.2⟩ : T_frame_reader)) fun r8 => .ret 3 (r8.1, r8.2.1, r8.2.2.1, r8.2.2.2.1, r8.2.2.2.2.1, r8.2.2.2.2.2.1, r8.2.2.2.2.2.2.1, r8.2.2.2.2.2.2.2.1, r8.2.2.2.2.2.2.2.2.1, r8.2.2.2.2.2.2.2.2.2.1, r8.2.2.2.2.2.2.2.2.2.2))
 (.ret 2 (0, 0, [], [], 0, 0, [], [], r6.2.1, r6.2.2.1, r6.2.2.2)))
 fun j9 => .iteB 8 52 (j9.2.2.2.2.2.2.2.2.2.2)
 (.ret 28 (0, 0, 0, 0, 0, [], [], 0, 0, [], [], 6))
 (.len 10 eY j9.2.2.2.2.2.2.2.2.1 <| .ite 3 66 (j9.2.2.2.2.2.2.2.2.2.1 < (j9.2.2.2.2.2.2.2.2.1.length : Int))
 (.ret 14 (0, 0, 0, 0, 0, [], [], 0, 0, [], [], 6))
 (.call 1 (ok_frame_Check (⟨r4.1, IntKind.i64.wrap r5.1, IntKind.i64.wrap r6.1, (⟨j9.1, j9.2.1, j9.2.2.1, j9.2.2.2.1, j9.2.2.2.2.1, j9.2.2.2.2.2.1, j9.2.2.2.2.2.2.1, j9.2.2.2.2.2.2.2.1⟩ : T_api_Sent)⟩ : T_api_Frame)) nl_frame_Check fun r10 => .iteN 3 70 (r10 = 0)
 (.ret 9 (0, 0, 0, 0, 0, [], [], 0, 0, [], [], 6))
 (.ret 9 (r4.1, IntKind.i64.wrap r5.1, IntKind.i64.wrap r6.1, j9.1, j9.2.1, j9.2.2.1, j9.2.2.2.1, j9.2.2.2.2.1, j9.2.2.2.2.2.1, j9.2.2.2.2.2.2.1, j9.2.2.2.2.2.2.2.1, 0)))))
noncomputable def s_frame_Read (a0 : List Int) : Sg Tryz.prog (Int × Int × Int × Int × Int × (List Int) × (List Int) × Int × Int × (List Int) × (List Bool) × Int) := ⟨10, M_frame_Read a0, [.lst (List.map (D.int .u8) a0)], en_frame_Read⟩
theorem ok_frame_Read (a0 : List Int) : (s_frame_Read a0).Holds := Tr.fn (F := F_frame_Read) (t_frame_Read a0) (by kernel_rfl) (by kernel_rfl) (by kernel_rfl) (by kernel_rfl)
end Go.Proofs.YtelobmiooldoaaaGreat.Abs
