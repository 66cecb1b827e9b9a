/- Walks of functions, printed by a program. Conditions: none. -/
import Derived.Test.YthhcgcaefjmekaaProg
import Derived.Test.YthhcgcaefjmekaaSW
namespace Go.Proofs.Ythhcgcaefjmekaa.Abs
open Go Go.RowKit
set_option linter.unusedVariables false
set_option maxRecDepth 100000
open Z
/-- slices.ContainsFunc[[][]int64,[]int64]. -/
def en_slices_ContainsFunc_int64_int64_store_Lay_1 (v : Bool) : PV := bB v
def o89_0 : List AOper := [mb 4 0 false]
def o89_1 : List AOper := [mv 5 100 0, mv 6 101 1, cl' 7 102 140 [.t 5, .t 6], bc 8 103 .geq 7 0, mv 4 104 8]
def c89_4 : AC := .seq (.reg o89_0) (.seq (.reg o89_1) .ret)
theorem fn89 : fnA Try.prog 89 = some (9, [.t 4], c89_4) := by kernel_rfl
theorem ok_slices_ContainsFunc_int64_int64_store_Lay_1 (a0 : List (List Int)) : ∀ v, M_slices_ContainsFunc_int64_int64_store_Lay_1 a0 = some v → EvF Try.prog 89 [.lst (List.map (enL (D.int .i64)) a0), .clo (.func 90) [] []] (en_slices_ContainsFunc_int64_int64_store_Lay_1 v) := by
  intro v hv
  refine EvF_go fn89 (Nat.le_of_ble_eq_true rfl) ?_
  suffices h : Ok (M_slices_ContainsFunc_int64_int64_store_Lay_1 a0) fun v => go Try.prog 9 (Fnl [.t 4] (en_slices_ContainsFunc_int64_int64_store_Lay_1 v) []) [.c c89_4] .norm (initSt (List.map PV.d [.lst (List.map (enL (D.int .i64)) a0), .clo (.func 90) [] []]) []) from h v hv
  unfold M_slices_ContainsFunc_int64_int64_store_Lay_1
  refine Av 8 [.o false (o89_1.drop 2), .c .ret] ⟨[(6, .d (.clo (.func 90) [] [])), (5, .d (.lst (List.map (enL (D.int .i64)) a0)))], []⟩ ?_
  refine L_call (ok_slices_IndexFunc_int64_int64_store_Lay_1 a0) trivial rfl (fun _ => rfl) (fun _ => trivial) (fun r1 => ?_)
  refine Avk 4 [] .ret ⟨[(4, bB (decide (r1 ≥ 0)))], []⟩ ?_
  exact L_ret
/-- thrum/leb.Zig. -/
def en_leb_Zig (v : Int) : PV := nU v
def o141_0 : List AOper := [⟨some 2, none, 0, .mov (.c (.d (.int .u64 0)))⟩]
def o141_1 : List AOper := [mv 3 100 0, ⟨some 4, none, 101, .bin .shl .int (.t 3) (.c (.d (.int .u64 1)))⟩, ⟨some 5, none, 102, .convI .u64 (.t 4)⟩, mv 6 103 0, ⟨some 7, none, 104, .bin .shr .int (.t 6) (.c (.d (.int .u64 63)))⟩, ⟨some 8, none, 105, .convI .u64 (.t 7)⟩, bi 9 106 .xor 5 8, mv 2 107 9]
def c141_4 : AC := .seq (.reg o141_0) (.seq (.reg o141_1) .ret)
theorem fn141 : fnA Try.prog 141 = some (10, [.t 2], c141_4) := by kernel_rfl
theorem ok_leb_Zig (a0 : Int) : ∀ v, M_leb_Zig a0 = some v → EvF Try.prog 141 [.int .i64 a0] (en_leb_Zig v) := by
  intro v hv
  refine EvF_go fn141 (Nat.le_of_ble_eq_true rfl) ?_
  suffices h : Ok (M_leb_Zig a0) fun v => go Try.prog 10 (Fnl [.t 2] (en_leb_Zig v) []) [.c c141_4] .norm (initSt (List.map PV.d [.int .i64 a0]) []) from h v hv
  unfold M_leb_Zig
  refine Avk 16 [] .ret ⟨[(2, nU (bXor .u64 (IntKind.u64.wrap (sShl .i64 a0 1)) (IntKind.u64.wrap (sShr .i64 a0 63))))], []⟩ ?_
  exact L_ret
/-- thrum/leb.Signed. -/
def en_leb_Signed (v : (List Int)) : PV := sY (.s 0) v
def o91_0 : List AOper := [⟨some 4, none, 0, .mov (.c .nils)⟩]
def o91_1 : List AOper := [mv 7 100 0, cl' 8 101 76 [.t 7], mv 0 102 8]
def o91_2 : List AOper := [mv 9 200 1, ln 10 201 9, mi 11 202 0]
def o91_3 : List AOper := [bi 12 300 .lss 11 10]
def o91_4 : List AOper := [⟨some 13, none, 400, .idxA 1 (.t 9) (.t 11)⟩, ld 14 401 13, mv 6 402 14]
def o91_5 : List AOper := [mv 15 500 0, mv 16 501 6, cl' 17 502 141 [.t 16], cl' 18 503 126 [.t 15, .t 17], mv 0 504 18]
def o91_6 : List AOper := [bc 19 600 .add 11 1, mv 11 601 19]
def o91_7 : List AOper := [mv 20 700 0, mv 4 701 20]
def c91_6 : AC := .cond (.t 12) .skip (.exit 0)
def c91_8 : AC := .reg o91_5
def c91_11 : AC := .reg o91_6
def c91_12 : AC := .seq (.block 1 (.seq (.reg o91_4) c91_8)) c91_11
def c91_14 : AC := .seq (.reg o91_3) (.seq c91_6 c91_12)
def c91_16 : AC := .block 0 (.loop c91_14)
def c91_20 : AC := .seq (.reg o91_7) .ret
def c91_21 : AC := .seq (.seq (.reg o91_2) c91_16) c91_20
def c91_23 : AC := .seq (.reg o91_0) (.seq (.reg o91_1) c91_21)
theorem fn91 : fnA Try.prog 91 = some (21, [.t 4], c91_23) := by kernel_rfl
def q_ok_leb_Signed_l0_ok (a1 : List Int) (x0 : Int) (x1 : List Int) (v : (List Int)) : Prop := (fun v => go Try.prog 21 (PostN (.exit 0) (fun x : (List Int) => ⟨[(0, sY (.h 1) x)], []⟩) v) [.l c91_14] .norm ⟨[(11, nI x0), (10, nI (a1.length : Int)), (9, lI a1), (0, sY (.h 0) x1)], []⟩) v
theorem ok_leb_Signed_l0_ok (a1 : List Int) (x0 : Int) (x1 : List Int) : Ok (M_leb_Signed_l0 a1 x0 x1) (q_ok_leb_Signed_l0_ok a1 x0 x1) := by
  refine M_leb_Signed_l0.partial_correctness a1 (q_ok_leb_Signed_l0_ok a1) ?_ x0 x1
  clear x0 x1
  intro f' IH x0 x1
  refine okI ?_
  unfold q_ok_leb_Signed_l0_ok at *
  refine Av 1 [.c c91_14, .l c91_14] ⟨[(11, nI x0), (10, nI (a1.length : Int)), (9, lI a1), (0, sY (.h 0) x1)], []⟩ ?_
  refine Av 5 [.c c91_6, .c c91_12, .l c91_14] ⟨[(12, bB (decide (x0 < (a1.length : Int)))), (11, nI x0), (10, nI (a1.length : Int)), (9, lI a1), (0, sY (.h 0) x1)], []⟩ ?_
  refine L_split 12 rfl (fun _ => ?_) (fun _ => ?_)
  · refine Av 6 [.o false o91_4, .c c91_8, .b 1, .c c91_11, .l c91_14] ⟨[(11, nI x0), (10, nI (a1.length : Int)), (9, lI a1), (0, sY (.h 0) x1)], []⟩ ?_
    refine L_idxD (enc := D.int .i64) (l := a1) (iv := x0) trivial rfl rfl (fun _ => rfl) (fun hc400 => ?_)
    refine Av 6 [.o false (o91_5.drop 2), .b 1, .c c91_11, .l c91_14] ⟨[(16, nI (at' a1 x0)), (15, sY (.h 0) x1), (11, nI x0), (10, nI (a1.length : Int)), (9, lI a1)], []⟩ ?_
    refine L_call (ok_leb_Zig (at' a1 x0)) trivial rfl (fun _ => rfl) (fun _ => trivial) (fun r2 => ?_)
    refine Av 0 [.o false (o91_5.drop 3), .b 1, .c c91_11, .l c91_14] ⟨[(17, nU r2), (15, sY (.h 0) x1), (11, nI x0), (10, nI (a1.length : Int)), (9, lI a1)], []⟩ ?_
    refine L_callB (enR := en_leb_put) (bx' := bx_leb_put) (ps := [sY (.h 0) x1, nU r2]) (bx := []) [(.h 0, .h 0)] (ok_leb_put x1 r2) trivial rfl rfl (fun _ => rfl) (fun _ => rfl) (fun _ => by kernel_rfl) (fun _ => by kernel_rfl) (fun _ => (flat_map_of fun _ => trivial)) (fun _ => trivial) (fun r3 => ?_)
    refine Av 7 [.l c91_14] ⟨[(11, nI (IntKind.i64.wrap (x0 + 1))), (0, sY (.s 8048) r3), (10, nI (a1.length : Int)), (9, lI a1)], []⟩ ?_
    exact L_again (IH (IntKind.i64.wrap (x0 + 1)) r3)
  · refine Avk 4 [] (.exit 0) ⟨[(0, sY (.h 0) x1)], []⟩ ?_
    exact L_end
theorem ok_leb_Signed (a0 : List Int) (a1 : List Int) : ∀ v, M_leb_Signed a0 a1 = some v → EvF Try.prog 91 [.lst (List.map (D.int .u8) a0), .lst (List.map (D.int .i64) a1)] (en_leb_Signed v) := by
  intro v hv
  refine EvF_go fn91 (Nat.le_of_ble_eq_true rfl) ?_
  suffices h : Ok (M_leb_Signed a0 a1) fun v => go Try.prog 21 (Fnl [.t 4] (en_leb_Signed v) []) [.c c91_23] .norm (initSt (List.map PV.d [.lst (List.map (D.int .u8) a0), .lst (List.map (D.int .i64) a1)]) []) from h v hv
  unfold M_leb_Signed
  refine Av 7 [.o false (o91_1.drop 1), .c c91_21] ⟨[(7, lY a0), (1, lI a1)], []⟩ ?_
  refine L_call (ok_slices_Clone_byte_byte a0) trivial rfl (fun _ => rfl) (fun _ => (flat_map_of fun _ => trivial)) (fun r1 => ?_)
  refine Av 6 [.o false (o91_2.drop 1), .c c91_16, .c c91_20] ⟨[(9, lI a1), (0, sY (.s 1616) r1)], []⟩ ?_
  refine L_len (enc := D.int .i64) (l := a1) trivial rfl ?_
  refine Av 4 [.l c91_14, .b 0, .c c91_20] ⟨[(11, nI 0), (10, nI (a1.length : Int)), (9, lI a1), (0, sY (.s 1616) r1)], []⟩ ?_
  refine L_piece (fs := [.l c91_14]) (ks := [.b 0, .c c91_20]) (ok_leb_Signed_l0_ok a1 0 r1) (fun j4 => ?_)
  refine Avk 7 [] .ret ⟨[(4, sY (.h 1) j4)], []⟩ ?_
  exact L_ret
/-- thrum/store.Lay. -/
def en_store_Lay (v : (List Int) × Int) : PV := .tup [sY (.s 0) v.1, nI v.2]
def o45_0 : List AOper := [⟨some 4, none, 0, .mov (.c .nils)⟩, mi 5 1 0]
def o45_1 : List AOper := [mv 10 100 0, bc 11 101 .lss 10 0, mv 9 102 11]
def o45_2 : List AOper := [⟨some 4, none, 200, .mov (.c .nils)⟩, mi 5 201 1]
def o45_3 : List AOper := [mv 13 300 1, ln 14 301 13, bc 15 302 .gtr 14 8, mv 16 303 15, gv 17 16 false 304 1, ⟨some 18, some (16, false), 305, .call 89 [.t 17, .c (.d (.clo (.func 90) [] []))]⟩, pz 19 306 16 18 true, mv 12 307 19]
def o45_4 : List AOper := [⟨some 4, none, 400, .mov (.c .nils)⟩, mi 5 401 3]
def o45_5 : List AOper := [mv 20 500 0, ⟨some 21, none, 501, .convI .u64 (.t 20)⟩, mv 22 502 1, ln 23 503 22, ⟨some 24, none, 504, .convI .u64 (.t 23)⟩, ⟨some 25, none, 505, .bslice 82 1 [.t 21, .t 24]⟩, cl' 26 506 78 [.c (.nils), .t 25], mv 6 507 26]
def o45_6 : List AOper := [mv 27 600 1, ln 28 601 27, mi 29 602 0]
def o45_7 : List AOper := [bi 30 700 .lss 29 28]
def o45_8 : List AOper := [⟨some 31, none, 800, .idxA 1 (.t 27) (.t 29)⟩, ld 32 801 31, mv 8 802 32]
def o45_9 : List AOper := [mv 33 900 6, mv 34 901 8, ln 35 902 34, ⟨some 36, none, 903, .convI .u64 (.t 35)⟩, ⟨some 37, none, 904, .bslice 82 1 [.t 36]⟩, cl' 38 905 78 [.t 33, .t 37], mv 39 906 8, cl' 40 907 91 [.t 38, .t 39], mv 6 908 40]
def o45_10 : List AOper := [bc 41 1000 .add 29 1, mv 29 1001 41]
def o45_11 : List AOper := [mv 42 1100 6, mv 4 1101 42, mi 5 1102 0]
def o45_3t4_7 : List AOper := (o45_3.drop 4).take 3
def c45_10 : AC := .cond (.t 12) (.seq (.reg o45_4) .ret) .skip
def c45_12 : AC := .cond (.t 9) (.seq (.reg o45_2) .ret) (.seq (.reg o45_3) c45_10)
def c45_20 : AC := .cond (.t 30) .skip (.exit 1)
def c45_22 : AC := .reg o45_9
def c45_25 : AC := .reg o45_10
def c45_26 : AC := .seq (.block 2 (.seq (.reg o45_8) c45_22)) c45_25
def c45_28 : AC := .seq (.reg o45_7) (.seq c45_20 c45_26)
def c45_30 : AC := .block 1 (.loop c45_28)
def c45_34 : AC := .seq (.reg o45_11) .ret
def c45_35 : AC := .seq (.seq (.reg o45_6) c45_30) c45_34
def c45_36 : AC := .seq (.reg o45_5) c45_35
def c45_38 : AC := .seq (.reg o45_0) (.seq (.block 0 (.seq (.reg o45_1) c45_12)) c45_36)
theorem fn45 : fnA Try.prog 45 = some (43, [.t 4, .t 5], c45_38) := by kernel_rfl
def q_ok_store_Lay_l0_ok (a1 : List (List Int)) (x0 : Int) (x1 : List Int) (v : (List Int)) : Prop := (fun v => go Try.prog 43 (PostN (.exit 1) (fun x : (List Int) => ⟨[(6, sY (.h 1) x)], []⟩) v) [.l c45_28] .norm ⟨[(29, nI x0), (28, nI (a1.length : Int)), (27, .d (.lst (List.map (enL (D.int .i64)) a1))), (6, sY (.h 0) x1)], []⟩) v
theorem ok_store_Lay_l0_ok (a1 : List (List Int)) (x0 : Int) (x1 : List Int) : Ok (M_store_Lay_l0 a1 x0 x1) (q_ok_store_Lay_l0_ok a1 x0 x1) := by
  refine M_store_Lay_l0.partial_correctness a1 (q_ok_store_Lay_l0_ok a1) ?_ x0 x1
  clear x0 x1
  intro f' IH x0 x1
  refine okI ?_
  unfold q_ok_store_Lay_l0_ok at *
  refine Av 1 [.c c45_28, .l c45_28] ⟨[(29, nI x0), (28, nI (a1.length : Int)), (27, .d (.lst (List.map (enL (D.int .i64)) a1))), (6, sY (.h 0) x1)], []⟩ ?_
  refine Av 5 [.c c45_20, .c c45_26, .l c45_28] ⟨[(30, bB (decide (x0 < (a1.length : Int)))), (29, nI x0), (28, nI (a1.length : Int)), (27, .d (.lst (List.map (enL (D.int .i64)) a1))), (6, sY (.h 0) x1)], []⟩ ?_
  refine L_split 30 rfl (fun _ => ?_) (fun _ => ?_)
  · refine Av 6 [.o false o45_8, .c c45_22, .b 2, .c c45_25, .l c45_28] ⟨[(29, nI x0), (28, nI (a1.length : Int)), (27, .d (.lst (List.map (enL (D.int .i64)) a1))), (6, sY (.h 0) x1)], []⟩ ?_
    refine L_idxD (enc := enL (D.int .i64)) (l := a1) (iv := x0) trivial rfl rfl (fun _ => rfl) (fun hc800 => ?_)
    refine Av 6 [.o false (o45_9.drop 2), .b 2, .c c45_25, .l c45_28] ⟨[(34, lI (at' a1 x0)), (33, sY (.h 0) x1), (8, lI (at' a1 x0)), (29, nI x0), (28, nI (a1.length : Int)), (27, .d (.lst (List.map (enL (D.int .i64)) a1)))], []⟩ ?_
    refine L_len (enc := D.int .i64) (l := at' a1 x0) trivial rfl ?_
    refine Av 2 [.o false (o45_9.drop 5), .b 2, .c c45_25, .l c45_28] ⟨[(37, sU (.s 14479) [IntKind.u64.wrap ((at' a1 x0).length : Int)]), (33, sY (.h 0) x1), (8, lI (at' a1 x0)), (29, nI x0), (28, nI (a1.length : Int)), (27, .d (.lst (List.map (enL (D.int .i64)) a1)))], []⟩ ?_
    refine L_call (ok_leb_Put x1 [IntKind.u64.wrap ((at' a1 x0).length : Int)]) trivial rfl (fun _ => rfl) (fun _ => (flat_map_of fun _ => trivial)) (fun r4 => ?_)
    refine Av 1 [.o false (o45_9.drop 7), .b 2, .c c45_25, .l c45_28] ⟨[(39, lI (at' a1 x0)), (38, sY (.s 14480) r4), (29, nI x0), (28, nI (a1.length : Int)), (27, .d (.lst (List.map (enL (D.int .i64)) a1)))], []⟩ ?_
    refine L_call (ok_leb_Signed r4 (at' a1 x0)) trivial rfl (fun _ => rfl) (fun _ => (flat_map_of fun _ => trivial)) (fun r5 => ?_)
    refine Av 7 [.l c45_28] ⟨[(29, nI (IntKind.i64.wrap (x0 + 1))), (6, sY (.s 14512) r5), (28, nI (a1.length : Int)), (27, .d (.lst (List.map (enL (D.int .i64)) a1)))], []⟩ ?_
    exact L_again (IH (IntKind.i64.wrap (x0 + 1)) r5)
  · refine Avk 4 [] (.exit 1) ⟨[(6, sY (.h 0) x1)], []⟩ ?_
    exact L_end
theorem ok_store_Lay (a0 : Int) (a1 : List (List Int)) : ∀ v, M_store_Lay a0 a1 = some v → EvF Try.prog 45 [.int .i64 a0, .lst (List.map (enL (D.int .i64)) a1)] (en_store_Lay v) := by
  intro v hv
  refine EvF_go fn45 (Nat.le_of_ble_eq_true rfl) ?_
  suffices h : Ok (M_store_Lay a0 a1) fun v => go Try.prog 43 (Fnl [.t 4, .t 5] (en_store_Lay v) []) [.c c45_38] .norm (initSt (List.map PV.d [.int .i64 a0, .lst (List.map (enL (D.int .i64)) a1)]) []) from h v hv
  unfold M_store_Lay
  refine Av 13 [.c c45_12, .b 0, .c c45_36] ⟨[(9, bB (decide (a0 < 0))), (0, nI a0), (1, .d (.lst (List.map (enL (D.int .i64)) a1)))], []⟩ ?_
  refine L_split 9 rfl (fun _ => ?_) (fun _ => ?_)
  · refine Avk 9 [] .ret ⟨[(5, nI 1), (4, .nils)], []⟩ ?_
    exact L_ret
  · refine Av 4 [.o false (o45_3.drop 1), .c c45_10, .b 0, .c c45_36] ⟨[(13, .d (.lst (List.map (enL (D.int .i64)) a1))), (0, nI a0), (1, .d (.lst (List.map (enL (D.int .i64)) a1)))], []⟩ ?_
    refine L_len (enc := enL (D.int .i64)) (l := a1) trivial rfl ?_
    refine Av 2 [.o false (o45_3.drop 4), .c c45_10, .b 0, .c c45_36] ⟨[(16, bB (decide ((a1.length : Int) > 8))), (0, nI a0), (1, .d (.lst (List.map (enL (D.int .i64)) a1)))], []⟩ ?_
    refine L_take 3 o45_3t4_7 (o45_3.drop 7) ?_
    refine L_join [.o false o45_3t4_7] [.o false (o45_3.drop 7), .c c45_10, .b 0, .c c45_36] (fun x : Bool => ⟨[(19, bB x), (0, nI a0), (1, .d (.lst (List.map (enL (D.int .i64)) a1)))], []⟩) ?_ (fun j2 => ?_)
    · refine L_split 16 rfl (fun _ => ?_) (fun _ => ?_)
      · refine Av 4 [] ⟨[(19, bB true), (0, nI a0), (1, .d (.lst (List.map (enL (D.int .i64)) a1)))], []⟩ ?_
        exact L_end
      · refine Av 1 [.o false (o45_3t4_7.drop 1)] ⟨[(17, .d (.lst (List.map (enL (D.int .i64)) a1))), (16, bB false), (0, nI a0), (1, .d (.lst (List.map (enL (D.int .i64)) a1)))], []⟩ ?_
        refine L_call (ok_slices_ContainsFunc_int64_int64_store_Lay_1 a1) rfl rfl (fun _ => rfl) (fun _ => trivial) (fun r1 => ?_)
        refine Av 2 [] ⟨[(19, bB r1), (0, nI a0), (1, .d (.lst (List.map (enL (D.int .i64)) a1)))], []⟩ ?_
        exact L_end
    · refine Av 2 [.c c45_10, .b 0, .c c45_36] ⟨[(12, bB j2), (0, nI a0), (1, .d (.lst (List.map (enL (D.int .i64)) a1)))], []⟩ ?_
      refine L_split 12 decT (fun _ => ?_) (fun _ => ?_)
      · refine Avk 9 [] .ret ⟨[(5, nI 3), (4, .nils)], []⟩ ?_
        exact L_ret
      · refine Av 8 [.o false (o45_5.drop 3), .c c45_35] ⟨[(22, .d (.lst (List.map (enL (D.int .i64)) a1))), (21, nU (IntKind.u64.wrap a0)), (1, .d (.lst (List.map (enL (D.int .i64)) a1)))], []⟩ ?_
        refine L_len (enc := enL (D.int .i64)) (l := a1) trivial rfl ?_
        refine Av 2 [.o false (o45_5.drop 6), .c c45_35] ⟨[(25, sU (.s 8095) [IntKind.u64.wrap a0, IntKind.u64.wrap (a1.length : Int)]), (1, .d (.lst (List.map (enL (D.int .i64)) a1)))], []⟩ ?_
        refine L_call (ok_leb_Put [] [IntKind.u64.wrap a0, IntKind.u64.wrap (a1.length : Int)]) trivial rfl (fun _ => rfl) (fun _ => (flat_map_of fun _ => trivial)) (fun r3 => ?_)
        refine Av 6 [.o false (o45_6.drop 1), .c c45_30, .c c45_34] ⟨[(27, .d (.lst (List.map (enL (D.int .i64)) a1))), (6, sY (.s 8096) r3)], []⟩ ?_
        refine L_len (enc := enL (D.int .i64)) (l := a1) trivial rfl ?_
        refine Av 4 [.l c45_28, .b 1, .c c45_34] ⟨[(29, nI 0), (28, nI (a1.length : Int)), (27, .d (.lst (List.map (enL (D.int .i64)) a1))), (6, sY (.s 8096) r3)], []⟩ ?_
        refine L_piece (fs := [.l c45_28]) (ks := [.b 1, .c c45_34]) (ok_store_Lay_l0_ok a1 0 r3) (fun j6 => ?_)
        refine Avk 8 [] .ret ⟨[(5, nI 0), (4, sY (.h 1) j6)], []⟩ ?_
        exact L_ret
/-- thrum/thrumref03.code. -/
def en_thrumref03_code (v : (List Int)) : PV := sY (.s 0) v
def o113_0 : List AOper := [⟨some 2, none, 0, .mov (.c .nils)⟩]
def o113_1 : List AOper := [mv 3 100 0, ⟨some 4, none, 101, .bin .lss .int (.t 3) (.c (.d (.int .u64 128)))⟩]
def o113_2 : List AOper := [mv 5 200 0, ⟨some 6, none, 201, .convI .u8 (.t 5)⟩, ⟨some 7, none, 202, .bslice 5 1 [.t 6]⟩, mv 2 203 7]
def o113_3 : List AOper := [mv 8 300 0, ⟨some 9, none, 301, .bin .rem .int (.t 8) (.c (.d (.int .u64 128)))⟩, ⟨some 10, none, 302, .convI .u8 (.t 9)⟩, ⟨some 11, none, 303, .bin .add .int (.t 10) (.c (.d (.int .u8 128)))⟩, ⟨some 12, none, 304, .bslice 5 1 [.t 11]⟩, mv 13 305 0, ⟨some 14, none, 306, .bin .quo .int (.t 13) (.c (.d (.int .u64 128)))⟩, cl' 15 307 113 [.t 14], ⟨some 16, none, 308, .app 5 1 1 (.t 12) (.t 15)⟩, mv 2 309 16]
def c113_6 : AC := .cond (.t 4) (.seq (.reg o113_2) .ret) .skip
def c113_10 : AC := .seq (.reg o113_3) .ret
def c113_12 : AC := .seq (.reg o113_0) (.seq (.seq (.reg o113_1) c113_6) c113_10)
theorem fn113 : fnA Try.prog 113 = some (17, [.t 2], c113_12) := by kernel_rfl
theorem ok_thrumref03_code (a0 : Int) : ∀ v, M_thrumref03_code a0 = some v → EvF Try.prog 113 [.int .u64 a0] (en_thrumref03_code v) := by
  refine M_thrumref03_code.partial_correctness (fun a0 v => EvF Try.prog 113 [.int .u64 a0] (en_thrumref03_code v)) ?_ a0
  clear a0
  intro f' IH a0 v hv
  refine EvF_go fn113 (Nat.le_of_ble_eq_true rfl) ?_
  suffices h : Ok _ fun v => go Try.prog 17 (Fnl [.t 2] (en_thrumref03_code v) []) [.c c113_12] .norm (initSt (List.map PV.d [.int .u64 a0]) []) from h v hv
  clear hv v
  refine Av 10 [.c c113_6, .c c113_10] ⟨[(4, bB (decide (a0 < 128))), (0, nU a0)], []⟩ ?_
  refine L_split 4 rfl (fun _ => ?_) (fun _ => ?_)
  · refine Avk 10 [] .ret ⟨[(2, sY (.s 3247) [IntKind.u8.wrap a0])], []⟩ ?_
    exact L_ret
  · refine Av 11 [.o false (o113_3.drop 7), .c .ret] ⟨[(14, nU (IntKind.u64.wrap (Int.tdiv a0 128))), (12, sY (.s 4879) [IntKind.u8.wrap ((IntKind.u8.wrap (Int.tmod a0 128)) + 128)])], []⟩ ?_
    refine L_call (fun v hv => IH (IntKind.u64.wrap (Int.tdiv a0 128)) v hv) trivial rfl (fun _ => rfl) (fun _ => (flat_map_of fun _ => trivial)) (fun r1 => ?_)
    refine Av 0 [.o false (o113_3.drop 8), .c .ret] ⟨[(15, sY (.s 4912) r1), (12, sY (.s 4879) [IntKind.u8.wrap ((IntKind.u8.wrap (Int.tmod a0 128)) + 128)])], []⟩ ?_
    refine L_app (enc := D.int .u8) (l := [IntKind.u8.wrap ((IntKind.u8.wrap (Int.tmod a0 128)) + 128)]) (l2 := r1) trivial rfl rfl (fun _ => rfl) (fun _ => ?_)
    refine Avk 3 [] .ret ⟨[(2, sY (.s 4943) ([IntKind.u8.wrap ((IntKind.u8.wrap (Int.tmod a0 128)) + 128)] ++ r1))], []⟩ ?_
    exact L_ret
/-- thrum/thrumref03.Put. -/
def en_thrumref03_Put (v : (List Int)) : PV := sY (.s 0) v
def o61_0 : List AOper := [⟨some 4, none, 0, .mov (.c .nils)⟩]
def o61_1 : List AOper := [mv 8 100 0, ⟨some 9, none, 101, .app 5 1 1 (.c .nils) (.t 8)⟩, mv 5 102 9]
def o61_2 : List AOper := [mv 10 200 1, ln 11 201 10, mi 12 202 0]
def o61_3 : List AOper := [bi 13 300 .lss 12 11]
def o61_4 : List AOper := [⟨some 14, none, 400, .idxA 1 (.t 10) (.t 12)⟩, ld 15 401 14, mv 7 402 15]
def o61_5 : List AOper := [mv 16 500 5, mv 17 501 7, cl' 18 502 113 [.t 17], ⟨some 19, none, 503, .app 5 1 1 (.t 16) (.t 18)⟩, mv 5 504 19]
def o61_6 : List AOper := [bc 20 600 .add 12 1, mv 12 601 20]
def o61_7 : List AOper := [mv 21 700 5, mv 4 701 21]
def c61_6 : AC := .cond (.t 13) .skip (.exit 0)
def c61_8 : AC := .reg o61_5
def c61_11 : AC := .reg o61_6
def c61_12 : AC := .seq (.block 1 (.seq (.reg o61_4) c61_8)) c61_11
def c61_14 : AC := .seq (.reg o61_3) (.seq c61_6 c61_12)
def c61_16 : AC := .block 0 (.loop c61_14)
def c61_20 : AC := .seq (.reg o61_7) .ret
def c61_21 : AC := .seq (.seq (.reg o61_2) c61_16) c61_20
def c61_23 : AC := .seq (.reg o61_0) (.seq (.reg o61_1) c61_21)
theorem fn61 : fnA Try.prog 61 = some (22, [.t 4], c61_23) := by kernel_rfl
def q_ok_thrumref03_Put_l0_ok (a1 : List Int) (x0 : Int) (x1 : List Int) (v : (List Int)) : Prop := (fun v => go Try.prog 22 (PostN (.exit 0) (fun x : (List Int) => ⟨[(5, sY (.h 1) x)], []⟩) v) [.l c61_14] .norm ⟨[(12, nI x0), (11, nI (a1.length : Int)), (10, lU a1), (5, sY (.h 0) x1)], []⟩) v
theorem ok_thrumref03_Put_l0_ok (a1 : List Int) (x0 : Int) (x1 : List Int) : Ok (M_thrumref03_Put_l0 a1 x0 x1) (q_ok_thrumref03_Put_l0_ok a1 x0 x1) := by
  refine M_thrumref03_Put_l0.partial_correctness a1 (q_ok_thrumref03_Put_l0_ok a1) ?_ x0 x1
  clear x0 x1
  intro f' IH x0 x1
  refine okI ?_
  unfold q_ok_thrumref03_Put_l0_ok at *
  refine Av 1 [.c c61_14, .l c61_14] ⟨[(12, nI x0), (11, nI (a1.length : Int)), (10, lU a1), (5, sY (.h 0) x1)], []⟩ ?_
  refine Av 5 [.c c61_6, .c c61_12, .l c61_14] ⟨[(13, bB (decide (x0 < (a1.length : Int)))), (12, nI x0), (11, nI (a1.length : Int)), (10, lU a1), (5, sY (.h 0) x1)], []⟩ ?_
  refine L_split 13 rfl (fun _ => ?_) (fun _ => ?_)
  · refine Av 6 [.o false o61_4, .c c61_8, .b 1, .c c61_11, .l c61_14] ⟨[(12, nI x0), (11, nI (a1.length : Int)), (10, lU a1), (5, sY (.h 0) x1)], []⟩ ?_
    refine L_idxD (enc := D.int .u64) (l := a1) (iv := x0) trivial rfl rfl (fun _ => rfl) (fun hc400 => ?_)
    refine Av 6 [.o false (o61_5.drop 2), .b 1, .c c61_11, .l c61_14] ⟨[(17, nU (at' a1 x0)), (16, sY (.h 0) x1), (12, nI x0), (11, nI (a1.length : Int)), (10, lU a1)], []⟩ ?_
    refine L_call (ok_thrumref03_code (at' a1 x0)) trivial rfl (fun _ => rfl) (fun _ => (flat_map_of fun _ => trivial)) (fun r1 => ?_)
    refine Av 0 [.o false (o61_5.drop 3), .b 1, .c c61_11, .l c61_14] ⟨[(18, sY (.s 8032) r1), (16, sY (.h 0) x1), (12, nI x0), (11, nI (a1.length : Int)), (10, lU a1)], []⟩ ?_
    refine L_app (enc := D.int .u8) (l := x1) (l2 := r1) trivial rfl rfl (fun _ => rfl) (fun _ => ?_)
    refine Av 7 [.l c61_14] ⟨[(12, nI (IntKind.i64.wrap (x0 + 1))), (5, sY (.s 8063) (x1 ++ r1)), (11, nI (a1.length : Int)), (10, lU a1)], []⟩ ?_
    exact L_again (IH (IntKind.i64.wrap (x0 + 1)) (x1 ++ r1))
  · refine Avk 4 [] (.exit 0) ⟨[(5, sY (.h 0) x1)], []⟩ ?_
    exact L_end
theorem ok_thrumref03_Put (a0 : List Int) (a1 : List Int) : ∀ v, M_thrumref03_Put a0 a1 = some v → EvF Try.prog 61 [.lst (List.map (D.int .u8) a0), .lst (List.map (D.int .u64) a1)] (en_thrumref03_Put v) := by
  intro v hv
  refine EvF_go fn61 (Nat.le_of_ble_eq_true rfl) ?_
  suffices h : Ok (M_thrumref03_Put a0 a1) fun v => go Try.prog 22 (Fnl [.t 4] (en_thrumref03_Put v) []) [.c c61_23] .norm (initSt (List.map PV.d [.lst (List.map (D.int .u8) a0), .lst (List.map (D.int .u64) a1)]) []) from h v hv
  unfold M_thrumref03_Put
  refine Av 7 [.o false (o61_1.drop 1), .c c61_21] ⟨[(8, lY a0), (1, lU a1)], []⟩ ?_
  refine L_appN (enc := D.int .u8) (l2 := a0) trivial rfl rfl (fun _ => rfl) (fun _ => ?_)
  refine Av 6 [.o false (o61_2.drop 1), .c c61_16, .c c61_20] ⟨[(10, lU a1), (5, sY (.s 1631) a0)], []⟩ ?_
  refine L_len (enc := D.int .u64) (l := a1) trivial rfl ?_
  refine Av 4 [.l c61_14, .b 0, .c c61_20] ⟨[(12, nI 0), (11, nI (a1.length : Int)), (10, lU a1), (5, sY (.s 1631) a0)], []⟩ ?_
  refine L_piece (fs := [.l c61_14]) (ks := [.b 0, .c c61_20]) (ok_thrumref03_Put_l0_ok a1 0 a0) (fun j2 => ?_)
  refine Avk 7 [] .ret ⟨[(4, sY (.h 1) j2)], []⟩ ?_
  exact L_ret
/-- thrum/thrumref03.Zig. -/
def en_thrumref03_Zig (v : Int) : PV := nU v
def o142_0 : List AOper := [⟨some 2, none, 0, .mov (.c (.d (.int .u64 0)))⟩]
def o142_1 : List AOper := [mv 3 100 0, bc 4 101 .lss 3 0]
def o142_2 : List AOper := [mv 5 200 0, bc 6 201 .add 5 1, ⟨some 7, none, 202, .un .neg (.t 6)⟩, ⟨some 8, none, 203, .convI .u64 (.t 7)⟩, ⟨some 9, none, 204, .bin .mul .int (.c (.d (.int .u64 2))) (.t 8)⟩, ⟨some 10, none, 205, .bin .add .int (.t 9) (.c (.d (.int .u64 1)))⟩, mv 2 206 10]
def o142_3 : List AOper := [mv 11 300 0, ⟨some 12, none, 301, .convI .u64 (.t 11)⟩, ⟨some 13, none, 302, .bin .mul .int (.c (.d (.int .u64 2))) (.t 12)⟩, mv 2 303 13]
def c142_6 : AC := .cond (.t 4) (.seq (.reg o142_2) .ret) .skip
def c142_10 : AC := .seq (.reg o142_3) .ret
def c142_12 : AC := .seq (.reg o142_0) (.seq (.seq (.reg o142_1) c142_6) c142_10)
theorem fn142 : fnA Try.prog 142 = some (14, [.t 2], c142_12) := by kernel_rfl
theorem ok_thrumref03_Zig (a0 : Int) : ∀ v, M_thrumref03_Zig a0 = some v → EvF Try.prog 142 [.int .i64 a0] (en_thrumref03_Zig v) := by
  intro v hv
  refine EvF_go fn142 (Nat.le_of_ble_eq_true rfl) ?_
  suffices h : Ok (M_thrumref03_Zig a0) fun v => go Try.prog 14 (Fnl [.t 2] (en_thrumref03_Zig v) []) [.c c142_12] .norm (initSt (List.map PV.d [.int .i64 a0]) []) from h v hv
  unfold M_thrumref03_Zig
  refine Av 10 [.c c142_6, .c c142_10] ⟨[(4, bB (decide (a0 < 0))), (0, nI a0)], []⟩ ?_
  refine L_split 4 rfl (fun _ => ?_) (fun _ => ?_)
  · refine Avk 13 [] .ret ⟨[(2, nU (IntKind.u64.wrap ((IntKind.u64.wrap (2 * (IntKind.u64.wrap (IntKind.i64.wrap (0 - (IntKind.i64.wrap (a0 + 1))))))) + 1)))], []⟩ ?_
    exact L_ret
  · refine Avk 10 [] .ret ⟨[(2, nU (IntKind.u64.wrap (2 * (IntKind.u64.wrap a0))))], []⟩ ?_
    exact L_ret
/-- thrum/thrumref03.Signed. -/
def en_thrumref03_Signed (v : (List Int)) : PV := sY (.s 0) v
def o92_0 : List AOper := [⟨some 4, none, 0, .mov (.c .nils)⟩]
def o92_1 : List AOper := [mv 8 100 0, ⟨some 9, none, 101, .app 5 1 1 (.c .nils) (.t 8)⟩, mv 5 102 9]
def o92_2 : List AOper := [mv 10 200 1, ln 11 201 10, mi 12 202 0]
def o92_3 : List AOper := [bi 13 300 .lss 12 11]
def o92_4 : List AOper := [⟨some 14, none, 400, .idxA 1 (.t 10) (.t 12)⟩, ld 15 401 14, mv 7 402 15]
def o92_5 : List AOper := [mv 16 500 5, mv 17 501 7, cl' 18 502 142 [.t 17], cl' 19 503 113 [.t 18], ⟨some 20, none, 504, .app 5 1 1 (.t 16) (.t 19)⟩, mv 5 505 20]
def o92_6 : List AOper := [bc 21 600 .add 12 1, mv 12 601 21]
def o92_7 : List AOper := [mv 22 700 5, mv 4 701 22]
def c92_6 : AC := .cond (.t 13) .skip (.exit 0)
def c92_8 : AC := .reg o92_5
def c92_11 : AC := .reg o92_6
def c92_12 : AC := .seq (.block 1 (.seq (.reg o92_4) c92_8)) c92_11
def c92_14 : AC := .seq (.reg o92_3) (.seq c92_6 c92_12)
def c92_16 : AC := .block 0 (.loop c92_14)
def c92_20 : AC := .seq (.reg o92_7) .ret
def c92_21 : AC := .seq (.seq (.reg o92_2) c92_16) c92_20
def c92_23 : AC := .seq (.reg o92_0) (.seq (.reg o92_1) c92_21)
theorem fn92 : fnA Try.prog 92 = some (23, [.t 4], c92_23) := by kernel_rfl
def q_ok_thrumref03_Signed_l0_ok (a1 : List Int) (x0 : Int) (x1 : List Int) (v : (List Int)) : Prop := (fun v => go Try.prog 23 (PostN (.exit 0) (fun x : (List Int) => ⟨[(5, sY (.h 1) x)], []⟩) v) [.l c92_14] .norm ⟨[(12, nI x0), (11, nI (a1.length : Int)), (10, lI a1), (5, sY (.h 0) x1)], []⟩) v
theorem ok_thrumref03_Signed_l0_ok (a1 : List Int) (x0 : Int) (x1 : List Int) : Ok (M_thrumref03_Signed_l0 a1 x0 x1) (q_ok_thrumref03_Signed_l0_ok a1 x0 x1) := by
  refine M_thrumref03_Signed_l0.partial_correctness a1 (q_ok_thrumref03_Signed_l0_ok a1) ?_ x0 x1
  clear x0 x1
  intro f' IH x0 x1
  refine okI ?_
  unfold q_ok_thrumref03_Signed_l0_ok at *
  refine Av 1 [.c c92_14, .l c92_14] ⟨[(12, nI x0), (11, nI (a1.length : Int)), (10, lI a1), (5, sY (.h 0) x1)], []⟩ ?_
  refine Av 5 [.c c92_6, .c c92_12, .l c92_14] ⟨[(13, bB (decide (x0 < (a1.length : Int)))), (12, nI x0), (11, nI (a1.length : Int)), (10, lI a1), (5, sY (.h 0) x1)], []⟩ ?_
  refine L_split 13 rfl (fun _ => ?_) (fun _ => ?_)
  · refine Av 6 [.o false o92_4, .c c92_8, .b 1, .c c92_11, .l c92_14] ⟨[(12, nI x0), (11, nI (a1.length : Int)), (10, lI a1), (5, sY (.h 0) x1)], []⟩ ?_
    refine L_idxD (enc := D.int .i64) (l := a1) (iv := x0) trivial rfl rfl (fun _ => rfl) (fun hc400 => ?_)
    refine Av 6 [.o false (o92_5.drop 2), .b 1, .c c92_11, .l c92_14] ⟨[(17, nI (at' a1 x0)), (16, sY (.h 0) x1), (12, nI x0), (11, nI (a1.length : Int)), (10, lI a1)], []⟩ ?_
    refine L_call (ok_thrumref03_Zig (at' a1 x0)) trivial rfl (fun _ => rfl) (fun _ => trivial) (fun r1 => ?_)
    refine Av 0 [.o false (o92_5.drop 3), .b 1, .c c92_11, .l c92_14] ⟨[(18, nU r1), (16, sY (.h 0) x1), (12, nI x0), (11, nI (a1.length : Int)), (10, lI a1)], []⟩ ?_
    refine L_call (ok_thrumref03_code r1) trivial rfl (fun _ => rfl) (fun _ => (flat_map_of fun _ => trivial)) (fun r2 => ?_)
    refine Av 0 [.o false (o92_5.drop 4), .b 1, .c c92_11, .l c92_14] ⟨[(19, sY (.s 8048) r2), (16, sY (.h 0) x1), (12, nI x0), (11, nI (a1.length : Int)), (10, lI a1)], []⟩ ?_
    refine L_app (enc := D.int .u8) (l := x1) (l2 := r2) trivial rfl rfl (fun _ => rfl) (fun _ => ?_)
    refine Av 7 [.l c92_14] ⟨[(12, nI (IntKind.i64.wrap (x0 + 1))), (5, sY (.s 8079) (x1 ++ r2)), (11, nI (a1.length : Int)), (10, lI a1)], []⟩ ?_
    exact L_again (IH (IntKind.i64.wrap (x0 + 1)) (x1 ++ r2))
  · refine Avk 4 [] (.exit 0) ⟨[(5, sY (.h 0) x1)], []⟩ ?_
    exact L_end
theorem ok_thrumref03_Signed (a0 : List Int) (a1 : List Int) : ∀ v, M_thrumref03_Signed a0 a1 = some v → EvF Try.prog 92 [.lst (List.map (D.int .u8) a0), .lst (List.map (D.int .i64) a1)] (en_thrumref03_Signed v) := by
  intro v hv
  refine EvF_go fn92 (Nat.le_of_ble_eq_true rfl) ?_
  suffices h : Ok (M_thrumref03_Signed a0 a1) fun v => go Try.prog 23 (Fnl [.t 4] (en_thrumref03_Signed v) []) [.c c92_23] .norm (initSt (List.map PV.d [.lst (List.map (D.int .u8) a0), .lst (List.map (D.int .i64) a1)]) []) from h v hv
  unfold M_thrumref03_Signed
  refine Av 7 [.o false (o92_1.drop 1), .c c92_21] ⟨[(8, lY a0), (1, lI a1)], []⟩ ?_
  refine L_appN (enc := D.int .u8) (l2 := a0) trivial rfl rfl (fun _ => rfl) (fun _ => ?_)
  refine Av 6 [.o false (o92_2.drop 1), .c c92_16, .c c92_20] ⟨[(10, lI a1), (5, sY (.s 1631) a0)], []⟩ ?_
  refine L_len (enc := D.int .i64) (l := a1) trivial rfl ?_
  refine Av 4 [.l c92_14, .b 0, .c c92_20] ⟨[(12, nI 0), (11, nI (a1.length : Int)), (10, lI a1), (5, sY (.s 1631) a0)], []⟩ ?_
  refine L_piece (fs := [.l c92_14]) (ks := [.b 0, .c c92_20]) (ok_thrumref03_Signed_l0_ok a1 0 a0) (fun j3 => ?_)
  refine Avk 7 [] .ret ⟨[(4, sY (.h 1) j3)], []⟩ ?_
  exact L_ret
/-- thrum/thrumref20.Lay. -/
def en_thrumref20_Lay (v : (List Int) × Int) : PV := .tup [sY (.s 0) v.1, nI v.2]
def o46_0 : List AOper := [⟨some 4, none, 0, .mov (.c .nils)⟩, mi 5 1 0]
def o46_1 : List AOper := [mv 9 100 0, bc 10 101 .lss 9 0]
def o46_2 : List AOper := [⟨some 4, none, 200, .mov (.c .nils)⟩, mi 5 201 1]
def o46_3 : List AOper := [mv 11 300 1, ln 12 301 11, bc 13 302 .gtr 12 8]
def o46_4 : List AOper := [⟨some 4, none, 400, .mov (.c .nils)⟩, mi 5 401 3]
def o46_5 : List AOper := [mv 14 500 0, ⟨some 15, none, 501, .convI .u64 (.t 14)⟩, mv 16 502 1, ln 17 503 16, ⟨some 18, none, 504, .convI .u64 (.t 17)⟩, ⟨some 19, none, 505, .bslice 82 1 [.t 15, .t 18]⟩, cl' 20 506 61 [.c (.nils), .t 19], mv 6 507 20]
def o46_6 : List AOper := [mv 21 600 1, ln 22 601 21, mi 23 602 0]
def o46_7 : List AOper := [bi 24 700 .lss 23 22]
def o46_8 : List AOper := [⟨some 25, none, 800, .idxA 1 (.t 21) (.t 23)⟩, ld 26 801 25, mv 8 802 26]
def o46_9 : List AOper := [mv 27 900 8, ln 28 901 27, bc 29 902 .gtr 28 4096]
def o46_10 : List AOper := [⟨some 4, none, 1000, .mov (.c .nils)⟩, mi 5 1001 3]
def o46_11 : List AOper := [mv 30 1100 6, mv 31 1101 8, ln 32 1102 31, ⟨some 33, none, 1103, .convI .u64 (.t 32)⟩, ⟨some 34, none, 1104, .bslice 82 1 [.t 33]⟩, cl' 35 1105 61 [.t 30, .t 34], mv 36 1106 8, cl' 37 1107 92 [.t 35, .t 36], mv 6 1108 37]
def o46_12 : List AOper := [bc 38 1200 .add 23 1, mv 23 1201 38]
def o46_13 : List AOper := [mv 39 1300 6, mv 4 1301 39, mi 5 1302 0]
def c46_6 : AC := .cond (.t 10) (.seq (.reg o46_2) .ret) .skip
def c46_13 : AC := .cond (.t 13) (.seq (.reg o46_4) .ret) .skip
def c46_20 : AC := .cond (.t 24) .skip (.exit 0)
def c46_27 : AC := .cond (.t 29) (.seq (.reg o46_10) .ret) .skip
def c46_29 : AC := .reg o46_11
def c46_30 : AC := .seq (.seq (.reg o46_9) c46_27) c46_29
def c46_33 : AC := .reg o46_12
def c46_34 : AC := .seq (.block 1 (.seq (.reg o46_8) c46_30)) c46_33
def c46_36 : AC := .seq (.reg o46_7) (.seq c46_20 c46_34)
def c46_38 : AC := .block 0 (.loop c46_36)
def c46_42 : AC := .seq (.reg o46_13) .ret
def c46_43 : AC := .seq (.seq (.reg o46_6) c46_38) c46_42
def c46_44 : AC := .seq (.reg o46_5) c46_43
def c46_45 : AC := .seq (.seq (.reg o46_3) c46_13) c46_44
def c46_47 : AC := .seq (.reg o46_0) (.seq (.seq (.reg o46_1) c46_6) c46_45)
theorem fn46 : fnA Try.prog 46 = some (40, [.t 4, .t 5], c46_47) := by kernel_rfl
def q_ok_thrumref20_Lay_l0_ok (a1 : List (List Int)) (x0 : Int) (x1 : List Int) (v : (Sum ((List Int) × Int) (List Int))) : Prop := (fun v => go Try.prog 40 (PostR (fun r => Fnl [.t 4, .t 5] (en_thrumref20_Lay r) []) (.exit 0) (fun x : (List Int) => ⟨[(6, sY (.h 1) x)], []⟩) v) [.l c46_36] .norm ⟨[(23, nI x0), (22, nI (a1.length : Int)), (21, .d (.lst (List.map (enL (D.int .i64)) a1))), (6, sY (.h 0) x1)], []⟩) v
theorem ok_thrumref20_Lay_l0_ok (a1 : List (List Int)) (x0 : Int) (x1 : List Int) : Ok (M_thrumref20_Lay_l0 a1 x0 x1) (q_ok_thrumref20_Lay_l0_ok a1 x0 x1) := by
  refine M_thrumref20_Lay_l0.partial_correctness a1 (q_ok_thrumref20_Lay_l0_ok a1) ?_ x0 x1
  clear x0 x1
  intro f' IH x0 x1
  refine okI ?_
  unfold q_ok_thrumref20_Lay_l0_ok at *
  refine Av 1 [.c c46_36, .l c46_36] ⟨[(23, nI x0), (22, nI (a1.length : Int)), (21, .d (.lst (List.map (enL (D.int .i64)) a1))), (6, sY (.h 0) x1)], []⟩ ?_
  refine Av 5 [.c c46_20, .c c46_34, .l c46_36] ⟨[(24, bB (decide (x0 < (a1.length : Int)))), (23, nI x0), (22, nI (a1.length : Int)), (21, .d (.lst (List.map (enL (D.int .i64)) a1))), (6, sY (.h 0) x1)], []⟩ ?_
  refine L_split 24 rfl (fun _ => ?_) (fun _ => ?_)
  · refine Av 6 [.o false o46_8, .c c46_30, .b 1, .c c46_33, .l c46_36] ⟨[(23, nI x0), (22, nI (a1.length : Int)), (21, .d (.lst (List.map (enL (D.int .i64)) a1))), (6, sY (.h 0) x1)], []⟩ ?_
    refine L_idxD (enc := enL (D.int .i64)) (l := a1) (iv := x0) trivial rfl rfl (fun _ => rfl) (fun hc800 => ?_)
    refine Av 7 [.o false (o46_9.drop 1), .c c46_27, .c c46_29, .b 1, .c c46_33, .l c46_36] ⟨[(27, lI (at' a1 x0)), (8, lI (at' a1 x0)), (23, nI x0), (22, nI (a1.length : Int)), (21, .d (.lst (List.map (enL (D.int .i64)) a1))), (6, sY (.h 0) x1)], []⟩ ?_
    refine L_len (enc := D.int .i64) (l := at' a1 x0) trivial rfl ?_
    refine Av 2 [.c c46_27, .c c46_29, .b 1, .c c46_33, .l c46_36] ⟨[(29, bB (decide (((at' a1 x0).length : Int) > 4096))), (8, lI (at' a1 x0)), (23, nI x0), (22, nI (a1.length : Int)), (21, .d (.lst (List.map (enL (D.int .i64)) a1))), (6, sY (.h 0) x1)], []⟩ ?_
    refine L_split 29 rfl (fun _ => ?_) (fun _ => ?_)
    · refine Avk 11 [] .ret ⟨[(5, nI 3), (4, .nils)], []⟩ ?_
      exact L_retR
    · refine Av 5 [.o false (o46_11.drop 2), .b 1, .c c46_33, .l c46_36] ⟨[(31, lI (at' a1 x0)), (30, sY (.h 0) x1), (8, lI (at' a1 x0)), (23, nI x0), (22, nI (a1.length : Int)), (21, .d (.lst (List.map (enL (D.int .i64)) a1)))], []⟩ ?_
      refine L_len (enc := D.int .i64) (l := at' a1 x0) trivial rfl ?_
      refine Av 2 [.o false (o46_11.drop 5), .b 1, .c c46_33, .l c46_36] ⟨[(34, sU (.s 17679) [IntKind.u64.wrap ((at' a1 x0).length : Int)]), (30, sY (.h 0) x1), (8, lI (at' a1 x0)), (23, nI x0), (22, nI (a1.length : Int)), (21, .d (.lst (List.map (enL (D.int .i64)) a1)))], []⟩ ?_
      refine L_call (ok_thrumref03_Put x1 [IntKind.u64.wrap ((at' a1 x0).length : Int)]) trivial rfl (fun _ => rfl) (fun _ => (flat_map_of fun _ => trivial)) (fun r2 => ?_)
      refine Av 1 [.o false (o46_11.drop 7), .b 1, .c c46_33, .l c46_36] ⟨[(36, lI (at' a1 x0)), (35, sY (.s 17680) r2), (23, nI x0), (22, nI (a1.length : Int)), (21, .d (.lst (List.map (enL (D.int .i64)) a1)))], []⟩ ?_
      refine L_call (ok_thrumref03_Signed r2 (at' a1 x0)) trivial rfl (fun _ => rfl) (fun _ => (flat_map_of fun _ => trivial)) (fun r3 => ?_)
      refine Av 7 [.l c46_36] ⟨[(23, nI (IntKind.i64.wrap (x0 + 1))), (6, sY (.s 17712) r3), (22, nI (a1.length : Int)), (21, .d (.lst (List.map (enL (D.int .i64)) a1)))], []⟩ ?_
      exact L_again (IH (IntKind.i64.wrap (x0 + 1)) r3)
  · refine Avk 4 [] (.exit 0) ⟨[(6, sY (.h 0) x1)], []⟩ ?_
    exact L_endR
theorem ok_thrumref20_Lay (a0 : Int) (a1 : List (List Int)) : ∀ v, M_thrumref20_Lay a0 a1 = some v → EvF Try.prog 46 [.int .i64 a0, .lst (List.map (enL (D.int .i64)) a1)] (en_thrumref20_Lay v) := by
  intro v hv
  refine EvF_go fn46 (Nat.le_of_ble_eq_true rfl) ?_
  suffices h : Ok (M_thrumref20_Lay a0 a1) fun v => go Try.prog 40 (Fnl [.t 4, .t 5] (en_thrumref20_Lay v) []) [.c c46_47] .norm (initSt (List.map PV.d [.int .i64 a0, .lst (List.map (enL (D.int .i64)) a1)]) []) from h v hv
  unfold M_thrumref20_Lay
  refine Av 11 [.c c46_6, .c c46_45] ⟨[(10, bB (decide (a0 < 0))), (0, nI a0), (1, .d (.lst (List.map (enL (D.int .i64)) a1)))], []⟩ ?_
  refine L_split 10 rfl (fun _ => ?_) (fun _ => ?_)
  · refine Avk 8 [] .ret ⟨[(5, nI 1), (4, .nils)], []⟩ ?_
    exact L_ret
  · refine Av 6 [.o false (o46_3.drop 1), .c c46_13, .c c46_44] ⟨[(11, .d (.lst (List.map (enL (D.int .i64)) a1))), (0, nI a0), (1, .d (.lst (List.map (enL (D.int .i64)) a1)))], []⟩ ?_
    refine L_len (enc := enL (D.int .i64)) (l := a1) trivial rfl ?_
    refine Av 2 [.c c46_13, .c c46_44] ⟨[(13, bB (decide ((a1.length : Int) > 8))), (0, nI a0), (1, .d (.lst (List.map (enL (D.int .i64)) a1)))], []⟩ ?_
    refine L_split 13 rfl (fun _ => ?_) (fun _ => ?_)
    · refine Avk 8 [] .ret ⟨[(5, nI 3), (4, .nils)], []⟩ ?_
      exact L_ret
    · refine Av 7 [.o false (o46_5.drop 3), .c c46_43] ⟨[(16, .d (.lst (List.map (enL (D.int .i64)) a1))), (15, nU (IntKind.u64.wrap a0)), (1, .d (.lst (List.map (enL (D.int .i64)) a1)))], []⟩ ?_
      refine L_len (enc := enL (D.int .i64)) (l := a1) trivial rfl ?_
      refine Av 2 [.o false (o46_5.drop 6), .c c46_43] ⟨[(19, sU (.s 8095) [IntKind.u64.wrap a0, IntKind.u64.wrap (a1.length : Int)]), (1, .d (.lst (List.map (enL (D.int .i64)) a1)))], []⟩ ?_
      refine L_call (ok_thrumref03_Put [] [IntKind.u64.wrap a0, IntKind.u64.wrap (a1.length : Int)]) trivial rfl (fun _ => rfl) (fun _ => (flat_map_of fun _ => trivial)) (fun r1 => ?_)
      refine Av 6 [.o false (o46_6.drop 1), .c c46_38, .c c46_42] ⟨[(21, .d (.lst (List.map (enL (D.int .i64)) a1))), (6, sY (.s 8096) r1)], []⟩ ?_
      refine L_len (enc := enL (D.int .i64)) (l := a1) trivial rfl ?_
      refine Av 4 [.l c46_36, .b 0, .c c46_42] ⟨[(23, nI 0), (22, nI (a1.length : Int)), (21, .d (.lst (List.map (enL (D.int .i64)) a1))), (6, sY (.s 8096) r1)], []⟩ ?_
      refine L_pieceR (fs := [.l c46_36]) (ks := [.b 0, .c c46_42]) (ok_thrumref20_Lay_l0_ok a1 0 r1) L_thru (fun j4 => ?_)
      refine Avk 8 [] .ret ⟨[(5, nI 0), (4, sY (.h 1) j4)], []⟩ ?_
      exact L_ret
/-- (*thrum/store.text).number. -/
def en_thrum_store_text_number (v : Int × (List Int) × Int × Bool) : PV := nI v.1
def bx_thrum_store_text_number (v : Int × (List Int) × Int × Bool) : List (Tg × List PV) := [(.up (.s 0), [lY v.2.1, nI v.2.2.1, bB v.2.2.2])]
def o93_0 : List AOper := [mi 4 0 0]
def o93_1 : List AOper := [mv 9 100 0, ⟨some 10, none, 101, .nilck (.t 9)⟩, ⟨some 11, none, 102, .fieldA 0 (.t 10)⟩, ld 12 103 11, mv 13 104 0, ⟨some 14, none, 105, .nilck (.t 13)⟩, ⟨some 15, none, 106, .fieldA 1 (.t 14)⟩, ld 16 107 15, cl' 17 108 143 [.t 12, .t 16], mv 8 109 17, xt 18 110 8 0, xt 19 111 8 1, xt 20 112 8 2, mv 5 113 18, mv 6 114 19, mv 7 115 20]
def o93_2 : List AOper := [mv 21 200 0, ⟨some 22, none, 201, .nilck (.t 21)⟩, ⟨some 23, none, 202, .fieldA 2 (.t 22)⟩, ld 24 203 23, mv 25 204 24, gv 26 25 false 205 7, ⟨some 27, some (25, false), 206, .bin .neq .int (.t 26) (.c (.d (.int .i64 0)))⟩, pz 28 207 25 27 true, mv 29 208 28, gv 30 29 false 209 5, gv 31 29 false 210 1, ⟨some 32, some (29, false), 211, .bin .gtr .int (.t 30) (.t 31)⟩, pz 33 212 29 32 true]
def o93_3 : List AOper := [mv 34 300 0, ⟨some 35, none, 301, .nilck (.t 34)⟩, ⟨some 36, none, 302, .fieldA 2 (.t 35)⟩, ⟨none, none, 303, .store 1 (.t 36) (.c (.d (.bool true)))⟩]
def o93_4 : List AOper := [mi 4 400 0]
def o93_5 : List AOper := [mv 37 500 0, mv 38 501 6, ⟨some 39, none, 502, .nilck (.t 37)⟩, ⟨some 40, none, 503, .fieldA 1 (.t 39)⟩, ⟨none, none, 504, .store 1 (.t 40) (.t 38)⟩]
def o93_6 : List AOper := [mv 41 600 5, ⟨some 42, none, 601, .convI .i64 (.t 41)⟩, mv 4 602 42]
def o93_2t5_8 : List AOper := (o93_2.drop 5).take 3
def o93_2t9_13 : List AOper := (o93_2.drop 9).take 4
def c93_1 : AC := .draw [⟨mv 9 100 0, false, []⟩, ⟨⟨some 10, none, 101, .nilck (.t 9)⟩, false, []⟩, ⟨⟨some 11, none, 102, .fieldA 0 (.t 10)⟩, false, []⟩, ⟨ld 12 103 11, false, []⟩, ⟨mv 13 104 0, false, []⟩, ⟨⟨some 14, none, 105, .nilck (.t 13)⟩, false, []⟩, ⟨⟨some 15, none, 106, .fieldA 1 (.t 14)⟩, false, []⟩, ⟨ld 16 107 15, false, []⟩, ⟨cl' 17 108 143 [.t 12, .t 16], true, []⟩, ⟨mv 8 109 17, false, []⟩, ⟨xt 18 110 8 0, false, []⟩, ⟨xt 19 111 8 1, false, []⟩, ⟨xt 20 112 8 2, false, []⟩, ⟨mv 5 113 18, false, []⟩, ⟨mv 6 114 19, false, []⟩, ⟨mv 7 115 20, false, []⟩]
def c93_9 : AC := .cond (.t 33) (.seq (.reg o93_3) (.seq (.reg o93_4) .ret)) .skip
def c93_15 : AC := .seq (.reg o93_5) (.seq (.reg o93_6) .ret)
def c93_16 : AC := .seq (.seq (.reg o93_2) c93_9) c93_15
def c93_18 : AC := .seq (.reg o93_0) (.seq c93_1 c93_16)
theorem fn93 : fnA Try.prog 93 = some (43, [.t 4], c93_18) := by kernel_rfl
theorem ok_thrum_store_text_number (a0 : T_store_text) (a1 : Int) : ∀ v, M_thrum_store_text_number a0 a1 = some v → EvG Try.prog 93 [.ptr (.up (.s 0)) 0, nU a1] [(.up (.s 0), [lY a0.F_b, nI a0.F_at, bB a0.F_bad])] (en_thrum_store_text_number v) (bx_thrum_store_text_number v) := by
  intro v hv
  refine EvG_go fn93 (Nat.le_of_ble_eq_true rfl) ?_
  suffices h : Ok (M_thrum_store_text_number a0 a1) fun v => go Try.prog 43 (Fnl [.t 4] (en_thrum_store_text_number v) (bx_thrum_store_text_number v)) [.c c93_18] .norm (initSt [.ptr (.up (.s 0)) 0, nU a1] [(.up (.s 0), [lY a0.F_b, nI a0.F_at, bB a0.F_bad])]) from h v hv
  unfold M_thrum_store_text_number
  refine Av 5 [.c c93_1, .c c93_16] ⟨[(0, .ptr (.up (.s 0)) 0), (1, nU a1)], [(.up (.s 0), [lY a0.F_b, nI a0.F_at, bB a0.F_bad])]⟩ ?_
  refine Ae 9 [.o true (o93_1.drop 8), .c c93_16] ⟨[(16, nI a0.F_at), (15, .ptr (.up (.s 0)) 1), (14, .ptr (.up (.s 0)) 0), (13, .ptr (.up (.s 0)) 0), (12, lY a0.F_b), (11, .ptr (.up (.s 0)) 0), (10, .ptr (.up (.s 0)) 0), (9, .ptr (.up (.s 0)) 0), (0, .ptr (.up (.s 0)) 0), (1, nU a1)], [(.up (.s 0), [lY a0.F_b, nI a0.F_at, bB a0.F_bad])]⟩ ?_
  refine L_call (ok_leb_Get a0.F_b a0.F_at) trivial rfl (fun _ => rfl) (fun _ => ⟨trivial, trivial, trivial, trivial⟩) (fun r1 => ?_)
  refine Av 16 [.o false (o93_2.drop 5), .c c93_9, .c c93_15] ⟨[(25, bB a0.F_bad), (7, nI r1.2.2), (6, nI r1.2.1), (5, nU r1.1), (0, .ptr (.up (.s 0)) 0), (1, nU a1)], [(.up (.s 0), [lY a0.F_b, nI a0.F_at, bB a0.F_bad])]⟩ ?_
  refine L_take 3 o93_2t5_8 (o93_2.drop 8) ?_
  refine L_join [.o false o93_2t5_8] [.o false (o93_2.drop 8), .c c93_9, .c c93_15] (fun x : Bool => ⟨[(28, bB x), (6, nI r1.2.1), (5, nU r1.1), (0, .ptr (.up (.s 0)) 0), (1, nU a1)], [(.up (.s 0), [lY a0.F_b, nI a0.F_at, bB a0.F_bad])]⟩) ?_ (fun j2 => ?_)
  · refine L_split 25 decT (fun _ => ?_) (fun _ => ?_)
    · refine Av 4 [] ⟨[(28, bB true), (6, nI r1.2.1), (5, nU r1.1), (0, .ptr (.up (.s 0)) 0), (1, nU a1)], [(.up (.s 0), [lY a0.F_b, nI a0.F_at, bB a0.F_bad])]⟩ ?_
      exact L_end
    · refine Av 4 [] ⟨[(28, bB (r1.2.2 != 0)), (6, nI r1.2.1), (5, nU r1.1), (0, .ptr (.up (.s 0)) 0), (1, nU a1)], [(.up (.s 0), [lY a0.F_b, nI a0.F_at, bB a0.F_bad])]⟩ ?_
      exact L_end
  · refine Av 1 [.o false (o93_2.drop 9), .c c93_9, .c c93_15] ⟨[(29, bB j2), (6, nI r1.2.1), (5, nU r1.1), (0, .ptr (.up (.s 0)) 0), (1, nU a1)], [(.up (.s 0), [lY a0.F_b, nI a0.F_at, bB a0.F_bad])]⟩ ?_
    refine L_take 4 o93_2t9_13 (o93_2.drop 13) ?_
    refine L_join [.o false o93_2t9_13] [.o false (o93_2.drop 13), .c c93_9, .c c93_15] (fun x : Bool => ⟨[(33, bB x), (6, nI r1.2.1), (5, nU r1.1), (0, .ptr (.up (.s 0)) 0)], [(.up (.s 0), [lY a0.F_b, nI a0.F_at, bB a0.F_bad])]⟩) ?_ (fun j3 => ?_)
    · refine L_split 29 decT (fun _ => ?_) (fun _ => ?_)
      · refine Av 5 [] ⟨[(33, bB true), (6, nI r1.2.1), (5, nU r1.1), (0, .ptr (.up (.s 0)) 0)], [(.up (.s 0), [lY a0.F_b, nI a0.F_at, bB a0.F_bad])]⟩ ?_
        exact L_end
      · refine Av 5 [] ⟨[(33, bB (decide (r1.1 > a1))), (6, nI r1.2.1), (5, nU r1.1), (0, .ptr (.up (.s 0)) 0)], [(.up (.s 0), [lY a0.F_b, nI a0.F_at, bB a0.F_bad])]⟩ ?_
        exact L_end
    · refine Av 1 [.c c93_9, .c c93_15] ⟨[(33, bB j3), (6, nI r1.2.1), (5, nU r1.1), (0, .ptr (.up (.s 0)) 0)], [(.up (.s 0), [lY a0.F_b, nI a0.F_at, bB a0.F_bad])]⟩ ?_
      refine L_split 33 decT (fun _ => ?_) (fun _ => ?_)
      · refine Avk 14 [] .ret ⟨[(4, nI 0)], [(.up (.s 0), [lY a0.F_b, nI a0.F_at, bB true])]⟩ ?_
        exact L_ret
      · refine Avk 17 [] .ret ⟨[(4, nI (IntKind.i64.wrap r1.1))], [(.up (.s 0), [lY a0.F_b, nI r1.2.1, bB a0.F_bad])]⟩ ?_
        exact L_ret
/-- thrum/leb.Zag. -/
def en_leb_Zag (v : Int) : PV := nI v
def o177_0 : List AOper := [mi 2 0 0]
def o177_1 : List AOper := [mv 3 100 0, ⟨some 4, none, 101, .bin .shr .int (.t 3) (.c (.d (.int .u64 1)))⟩, ⟨some 5, none, 102, .convI .i64 (.t 4)⟩, mv 6 103 0, ⟨some 7, none, 104, .bin .and .int (.t 6) (.c (.d (.int .u64 1)))⟩, ⟨some 8, none, 105, .convI .i64 (.t 7)⟩, ⟨some 9, none, 106, .un .neg (.t 8)⟩, bi 10 107 .xor 5 9, mv 2 108 10]
def c177_4 : AC := .seq (.reg o177_0) (.seq (.reg o177_1) .ret)
theorem fn177 : fnA Try.prog 177 = some (11, [.t 2], c177_4) := by kernel_rfl
theorem ok_leb_Zag (a0 : Int) : ∀ v, M_leb_Zag a0 = some v → EvF Try.prog 177 [.int .u64 a0] (en_leb_Zag v) := by
  intro v hv
  refine EvF_go fn177 (Nat.le_of_ble_eq_true rfl) ?_
  suffices h : Ok (M_leb_Zag a0) fun v => go Try.prog 11 (Fnl [.t 2] (en_leb_Zag v) []) [.c c177_4] .norm (initSt (List.map PV.d [.int .u64 a0]) []) from h v hv
  unfold M_leb_Zag
  refine Avk 17 [] .ret ⟨[(2, nI (bXor .i64 (IntKind.i64.wrap (sShr .u64 a0 1)) (IntKind.i64.wrap (0 - (IntKind.i64.wrap (bAnd .u64 a0 1))))))], []⟩ ?_
  exact L_ret
/-- thrum/leb.Take. -/
def en_leb_Take (v : Int × Int × Int) : PV := .tup [nI v.1, nI v.2.1, nI v.2.2]
def o144_0 : List AOper := [mi 4 0 0, mi 5 1 0, mi 6 2 0]
def o144_1 : List AOper := [mv 11 100 0, mv 12 101 1, cl' 13 102 143 [.t 11, .t 12], mv 10 103 13, xt 14 104 10 0, xt 15 105 10 1, xt 16 106 10 2, mv 7 107 14, mv 8 108 15, mv 9 109 16]
def o144_2 : List AOper := [mv 17 200 9, bc 18 201 .neq 17 0]
def o144_3 : List AOper := [mv 19 300 9, mi 4 301 0, mi 5 302 0, mv 6 303 19]
def o144_4 : List AOper := [mv 20 400 7, cl' 21 401 177 [.t 20], mv 22 402 8, mv 4 403 21, mv 5 404 22, mi 6 405 0]
def c144_7 : AC := .cond (.t 18) (.seq (.reg o144_3) .ret) .skip
def c144_11 : AC := .seq (.reg o144_4) .ret
def c144_12 : AC := .seq (.seq (.reg o144_2) c144_7) c144_11
def c144_14 : AC := .seq (.reg o144_0) (.seq (.reg o144_1) c144_12)
theorem fn144 : fnA Try.prog 144 = some (23, [.t 4, .t 5, .t 6], c144_14) := by kernel_rfl
theorem ok_leb_Take (a0 : List Int) (a1 : Int) : ∀ v, M_leb_Take a0 a1 = some v → EvF Try.prog 144 [.lst (List.map (D.int .u8) a0), .int .i64 a1] (en_leb_Take v) := by
  intro v hv
  refine EvF_go fn144 (Nat.le_of_ble_eq_true rfl) ?_
  suffices h : Ok (M_leb_Take a0 a1) fun v => go Try.prog 23 (Fnl [.t 4, .t 5, .t 6] (en_leb_Take v) []) [.c c144_14] .norm (initSt (List.map PV.d [.lst (List.map (D.int .u8) a0), .int .i64 a1]) []) from h v hv
  unfold M_leb_Take
  refine Av 10 [.o false (o144_1.drop 2), .c c144_12] ⟨[(12, nI a1), (11, lY a0)], []⟩ ?_
  refine L_call (ok_leb_Get a0 a1) trivial rfl (fun _ => rfl) (fun _ => ⟨trivial, trivial, trivial, trivial⟩) (fun r1 => ?_)
  refine Av 14 [.c c144_7, .c c144_11] ⟨[(18, bB (r1.2.2 != 0)), (9, nI r1.2.2), (8, nI r1.2.1), (7, nU r1.1)], []⟩ ?_
  refine L_split 18 decNe (fun _ => ?_) (fun _ => ?_)
  · refine Avk 10 [] .ret ⟨[(6, nI r1.2.2), (5, nI 0), (4, nI 0)], []⟩ ?_
    exact L_ret
  · refine Av 5 [.o false (o144_4.drop 1), .c .ret] ⟨[(20, nU r1.1), (8, nI r1.2.1)], []⟩ ?_
    refine L_call (ok_leb_Zag r1.1) trivial rfl (fun _ => rfl) (fun _ => trivial) (fun r2 => ?_)
    refine Avk 6 [] .ret ⟨[(6, nI 0), (5, nI r1.2.1), (4, nI r2)], []⟩ ?_
    exact L_ret
/-- (*thrum/store.text).list. -/
def en_thrum_store_text_list (v : (List Int) × (List Int) × Int × Bool) : PV := sI (.s 0) v.1
def bx_thrum_store_text_list (v : (List Int) × (List Int) × Int × Bool) : List (Tg × List PV) := [(.up (.s 0), [lY v.2.1, nI v.2.2.1, bB v.2.2.2])]
def o94_0 : List AOper := [⟨some 2, none, 0, .mov (.c .nils)⟩]
def o94_1 : List AOper := [⟨some 8, none, 100, .mkS 2 1 8 (.int .i64 0) (.c (.d (.int .i64 0))) (.c (.d (.int .i64 0)))⟩, mv 3 101 8]
def o94_2 : List AOper := [mv 9 200 0, cl' 10 201 93 [.t 9, .c (.d (.int .u64 4096))], mv 4 202 10]
def o94_3 : List AOper := [mv 11 300 4, bc 12 301 .gtr 11 0, mv 13 302 12, gv 14 13 true 303 0, ⟨some 15, some (13, true), 304, .nilck (.t 14)⟩, ⟨some 16, some (13, true), 305, .fieldA 2 (.t 15)⟩, ⟨some 17, some (13, true), 306, .load false 1 (.t 16)⟩, ⟨some 18, some (13, true), 307, .un .not (.t 17)⟩, pk 19 308 13 18 false]
def o94_4 : List AOper := [mv 23 500 0, ⟨some 24, none, 501, .nilck (.t 23)⟩, ⟨some 25, none, 502, .fieldA 0 (.t 24)⟩, ld 26 503 25, mv 27 504 0, ⟨some 28, none, 505, .nilck (.t 27)⟩, ⟨some 29, none, 506, .fieldA 1 (.t 28)⟩, ld 30 507 29, cl' 31 508 144 [.t 26, .t 30], mv 22 509 31, xt 32 510 22 0, xt 33 511 22 1, xt 34 512 22 2, mv 5 513 32, mv 6 514 33, mv 7 515 34]
def o94_5 : List AOper := [mv 35 600 0, mv 36 601 0, mv 37 602 6, mv 38 603 7, bc 39 604 .neq 38 0, ⟨some 40, none, 605, .nilck (.t 35)⟩, ⟨some 41, none, 606, .fieldA 1 (.t 40)⟩, ⟨none, none, 607, .store 1 (.t 41) (.t 37)⟩, ⟨some 42, none, 608, .nilck (.t 36)⟩, ⟨some 43, none, 609, .fieldA 2 (.t 42)⟩, ⟨none, none, 610, .store 1 (.t 43) (.t 39)⟩]
def o94_6 : List AOper := [mv 44 700 3, mv 45 701 5, ⟨some 46, none, 702, .bslice 2 1 [.t 45]⟩, ⟨some 47, none, 703, .app 2 1 8 (.t 44) (.t 46)⟩, mv 3 704 47]
def o94_7 : List AOper := [mv 20 400 4, bc 21 401 .sub 20 1, mv 4 402 21]
def o94_8 : List AOper := [mv 48 800 3, mv 2 801 48]
def o94_3t3_9 : List AOper := (o94_3.drop 3).take 6
def c94_6 : AC := .cond (.t 19) .skip (.exit 0)
def c94_8 : AC := .draw [⟨mv 23 500 0, false, []⟩, ⟨⟨some 24, none, 501, .nilck (.t 23)⟩, false, []⟩, ⟨⟨some 25, none, 502, .fieldA 0 (.t 24)⟩, false, []⟩, ⟨ld 26 503 25, false, []⟩, ⟨mv 27 504 0, false, []⟩, ⟨⟨some 28, none, 505, .nilck (.t 27)⟩, false, []⟩, ⟨⟨some 29, none, 506, .fieldA 1 (.t 28)⟩, false, []⟩, ⟨ld 30 507 29, false, []⟩, ⟨cl' 31 508 144 [.t 26, .t 30], true, []⟩, ⟨mv 22 509 31, false, []⟩, ⟨xt 32 510 22 0, false, []⟩, ⟨xt 33 511 22 1, false, []⟩, ⟨xt 34 512 22 2, false, []⟩, ⟨mv 5 513 32, false, []⟩, ⟨mv 6 514 33, false, []⟩, ⟨mv 7 515 34, false, []⟩]
def c94_11 : AC := .seq (.reg o94_5) (.reg o94_6)
def c94_14 : AC := .reg o94_7
def c94_15 : AC := .seq (.block 1 (.seq c94_8 c94_11)) c94_14
def c94_16 : AC := .seq (.seq (.reg o94_3) c94_6) c94_15
def c94_18 : AC := .block 0 (.loop c94_16)
def c94_22 : AC := .seq (.reg o94_8) .ret
def c94_23 : AC := .seq (.seq (.reg o94_2) c94_18) c94_22
def c94_25 : AC := .seq (.reg o94_0) (.seq (.reg o94_1) c94_23)
theorem fn94 : fnA Try.prog 94 = some (49, [.t 2], c94_25) := by kernel_rfl
def q_ok_thrum_store_text_list_l0_ok (r3 : Int × (List Int) × Int × Bool) (x0 : Int) (x1 : List Int) (x2 : Int) (x3 : Bool) (v : ((List Int) × Int × Bool)) : Prop := (fun v => go Try.prog 49 (PostN (.exit 0) (fun x : (List Int) × Int × Bool => ⟨[(3, sI (.h 1) x.1)], [(.up (.s 0), [lY r3.2.1, nI x.2.1, bB x.2.2])]⟩) v) [.l c94_16] .norm ⟨[(4, nI x0), (3, sI (.h 0) x1), (0, .ptr (.up (.s 0)) 0)], [(.up (.s 0), [lY r3.2.1, nI x2, bB x3])]⟩) v
theorem ok_thrum_store_text_list_l0_ok (r3 : Int × (List Int) × Int × Bool) (x0 : Int) (x1 : List Int) (x2 : Int) (x3 : Bool) : Ok (M_thrum_store_text_list_l0 r3 x0 x1 x2 x3) (q_ok_thrum_store_text_list_l0_ok r3 x0 x1 x2 x3) := by
  refine M_thrum_store_text_list_l0.partial_correctness r3 (q_ok_thrum_store_text_list_l0_ok r3) ?_ x0 x1 x2 x3
  clear x0 x1 x2 x3
  intro f' IH x0 x1 x2 x3
  refine okI ?_
  unfold q_ok_thrum_store_text_list_l0_ok at *
  refine Av 1 [.c c94_16, .l c94_16] ⟨[(4, nI x0), (3, sI (.h 0) x1), (0, .ptr (.up (.s 0)) 0)], [(.up (.s 0), [lY r3.2.1, nI x2, bB x3])]⟩ ?_
  refine Av 6 [.o false (o94_3.drop 3), .c c94_6, .c c94_15, .l c94_16] ⟨[(13, bB (decide (x0 > 0))), (4, nI x0), (3, sI (.h 0) x1), (0, .ptr (.up (.s 0)) 0)], [(.up (.s 0), [lY r3.2.1, nI x2, bB x3])]⟩ ?_
  refine L_take 6 o94_3t3_9 (o94_3.drop 9) ?_
  refine L_join [.o false o94_3t3_9] [.o false (o94_3.drop 9), .c c94_6, .c c94_15, .l c94_16] (fun x : Bool => ⟨[(19, bB x), (4, nI x0), (3, sI (.h 0) x1), (0, .ptr (.up (.s 0)) 0)], [(.up (.s 0), [lY r3.2.1, nI x2, bB x3])]⟩) ?_ (fun j4 => ?_)
  · refine L_split 13 rfl (fun _ => ?_) (fun _ => ?_)
    · refine Av 7 [] ⟨[(19, bB (!x3)), (4, nI x0), (3, sI (.h 0) x1), (0, .ptr (.up (.s 0)) 0)], [(.up (.s 0), [lY r3.2.1, nI x2, bB x3])]⟩ ?_
      exact L_end
    · refine Av 7 [] ⟨[(19, bB false), (4, nI x0), (3, sI (.h 0) x1), (0, .ptr (.up (.s 0)) 0)], [(.up (.s 0), [lY r3.2.1, nI x2, bB x3])]⟩ ?_
      exact L_end
  · refine Av 1 [.c c94_6, .c c94_15, .l c94_16] ⟨[(19, bB j4), (4, nI x0), (3, sI (.h 0) x1), (0, .ptr (.up (.s 0)) 0)], [(.up (.s 0), [lY r3.2.1, nI x2, bB x3])]⟩ ?_
    refine L_split 19 decT (fun _ => ?_) (fun _ => ?_)
    · refine Av 5 [.c c94_8, .c c94_11, .b 1, .c c94_14, .l c94_16] ⟨[(4, nI x0), (3, sI (.h 0) x1), (0, .ptr (.up (.s 0)) 0)], [(.up (.s 0), [lY r3.2.1, nI x2, bB x3])]⟩ ?_
      refine Ae 9 [.o true (o94_4.drop 8), .c c94_11, .b 1, .c c94_14, .l c94_16] ⟨[(30, nI x2), (29, .ptr (.up (.s 0)) 1), (28, .ptr (.up (.s 0)) 0), (27, .ptr (.up (.s 0)) 0), (26, lY r3.2.1), (25, .ptr (.up (.s 0)) 0), (24, .ptr (.up (.s 0)) 0), (23, .ptr (.up (.s 0)) 0), (4, nI x0), (3, sI (.h 0) x1), (0, .ptr (.up (.s 0)) 0)], [(.up (.s 0), [lY r3.2.1, nI x2, bB x3])]⟩ ?_
      refine L_call (ok_leb_Take r3.2.1 x2) trivial rfl (fun _ => rfl) (fun _ => ⟨trivial, trivial, trivial, trivial⟩) (fun r5 => ?_)
      refine Av 26 [.o false (o94_6.drop 3), .b 1, .c c94_14, .l c94_16] ⟨[(46, sI (.s 11247) [r5.1]), (44, sI (.h 0) x1), (4, nI x0), (0, .ptr (.up (.s 0)) 0)], [(.up (.s 0), [lY r3.2.1, nI r5.2.1, bB (r5.2.2 != 0)])]⟩ ?_
      refine L_app (enc := D.int .i64) (l := x1) (l2 := [r5.1]) trivial rfl rfl (fun _ => rfl) (fun _ => ?_)
      refine Av 8 [.l c94_16] ⟨[(4, nI (IntKind.i64.wrap (x0 - 1))), (3, sI (.s 11263) (x1 ++ [r5.1])), (0, .ptr (.up (.s 0)) 0)], [(.up (.s 0), [lY r3.2.1, nI r5.2.1, bB (r5.2.2 != 0)])]⟩ ?_
      exact L_again (IH (IntKind.i64.wrap (x0 - 1)) (x1 ++ [r5.1]) r5.2.1 (r5.2.2 != 0))
    · refine Avk 4 [] (.exit 0) ⟨[(3, sI (.h 0) x1)], [(.up (.s 0), [lY r3.2.1, nI x2, bB x3])]⟩ ?_
      exact L_end
theorem ok_thrum_store_text_list (a0 : T_store_text) : ∀ v, M_thrum_store_text_list a0 = some v → EvG Try.prog 94 [.ptr (.up (.s 0)) 0] [(.up (.s 0), [lY a0.F_b, nI a0.F_at, bB a0.F_bad])] (en_thrum_store_text_list v) (bx_thrum_store_text_list v) := by
  intro v hv
  refine EvG_go fn94 (Nat.le_of_ble_eq_true rfl) ?_
  suffices h : Ok (M_thrum_store_text_list a0) fun v => go Try.prog 49 (Fnl [.t 2] (en_thrum_store_text_list v) (bx_thrum_store_text_list v)) [.c c94_25] .norm (initSt [.ptr (.up (.s 0)) 0] [(.up (.s 0), [lY a0.F_b, nI a0.F_at, bB a0.F_bad])]) from h v hv
  unfold M_thrum_store_text_list
  refine Av 6 [.o false o94_1, .c c94_23] ⟨[(0, .ptr (.up (.s 0)) 0)], [(.up (.s 0), [lY a0.F_b, nI a0.F_at, bB a0.F_bad])]⟩ ?_
  refine L_mk (enc := D.int .i64) (z0 := 0) (a := 0) (b := 0) trivial rfl rfl rfl (fun _ => ?_)
  refine Al 6 [.o false (o94_2.drop 1), .c c94_18, .c c94_22] .norm (fun y1 : List Int => ⟨[(9, .ptr (.up (.s 0)) 0), (3, sI (.s 1615) y1), (0, .ptr (.up (.s 0)) 0)], [(.up (.s 0), [lY a0.F_b, nI a0.F_at, bB a0.F_bad])]⟩) (fun y1 => ?_)
  refine L_callG (enR := en_thrum_store_text_number) (bx' := bx_thrum_store_text_number) (ps := [.ptr (.up (.s 0)) 0, nU 4096]) (bx := [(.up (.s 0), [lY a0.F_b, nI a0.F_at, bB a0.F_bad])]) [(.up (.s 0), .up (.s 0))] [] (ok_thrum_store_text_number a0 4096) trivial rfl rfl (fun _ => rfl) (fun _ => rfl) (fun _ => by kernel_rfl) (fun _ => by kernel_rfl) (fun r3 => ?_)
  refine Av 4 [.l c94_16, .b 0, .c c94_22] ⟨[(4, nI r3.1), (3, sI (.s 1615) y1), (0, .ptr (.up (.s 0)) 0)], [(.up (.s 0), [lY r3.2.1, nI r3.2.2.1, bB r3.2.2.2])]⟩ ?_
  refine L_piece (fs := [.l c94_16]) (ks := [.b 0, .c c94_22]) (ok_thrum_store_text_list_l0_ok r3 r3.1 y1 r3.2.2.1 r3.2.2.2) (fun j6 => ?_)
  refine Avk 7 [] .ret ⟨[(2, sI (.h 1) j6.1)], [(.up (.s 0), [lY r3.2.1, nI j6.2.1, bB j6.2.2])]⟩ ?_
  exact L_ret
/-- thrum/store.Take. -/
def en_store_Take (v : Int × (List (List Int)) × Int) : PV := .tup [nI v.1, .sl (.s 0) 1 0 (List.map (enL (D.int .i64)) v.2.1), nI v.2.2]
def o47_0 : List AOper := [mi 2 0 0, ⟨some 3, none, 1, .mov (.c .nils)⟩, mi 4 2 0]
def o47_1 : List AOper := [mv 9 100 0, ⟨some 10, none, 101, .build [.lst [], .int .i64 0, .bool false] [(0, 1, .t 9)]⟩, ⟨some 11, none, 102, .box 127 (.t 10)⟩, mv 5 103 11]
def o47_2 : List AOper := [mv 12 200 5, cl' 13 201 93 [.t 12, .c (.d (.int .u64 1073741824))], mv 6 202 13]
def o47_3 : List AOper := [mv 14 300 5, cl' 15 301 93 [.t 14, .c (.d (.int .u64 8))], mv 7 302 15]
def o47_4 : List AOper := [⟨some 8, none, 400, .mov (.c .nils)⟩]
def o47_5 : List AOper := [mv 16 500 8, ln 17 501 16, mv 18 502 7, bi 19 503 .lss 17 18, mv 20 504 19, gv 21 20 true 505 5, ⟨some 22, some (20, true), 506, .nilck (.t 21)⟩, ⟨some 23, some (20, true), 507, .fieldA 2 (.t 22)⟩, ⟨some 24, some (20, true), 508, .load false 1 (.t 23)⟩, ⟨some 25, some (20, true), 509, .un .not (.t 24)⟩, pk 26 510 20 25 false]
def o47_6 : List AOper := [mv 27 600 8, mv 28 601 5, cl' 29 602 94 [.t 28], ⟨some 30, none, 603, .bslice 47 1 [.t 29]⟩, ⟨some 31, none, 604, .app 47 1 24 (.t 27) (.t 30)⟩, mv 8 605 31]
def o47_7 : List AOper := [mv 32 700 5, ⟨some 33, none, 701, .nilck (.t 32)⟩, ⟨some 34, none, 702, .fieldA 2 (.t 33)⟩, ld 35 703 34, mv 36 704 35, gv 37 36 false 705 5, ⟨some 38, some (36, false), 706, .nilck (.t 37)⟩, ⟨some 39, some (36, false), 707, .fieldA 1 (.t 38)⟩, ⟨some 40, some (36, false), 708, .load false 1 (.t 39)⟩, gv 41 36 false 709 0, ⟨some 42, some (36, false), 710, .len (.t 41)⟩, ⟨some 43, some (36, false), 711, .bin .lss .int (.t 40) (.t 42)⟩, pz 44 712 36 43 true]
def o47_8 : List AOper := [mi 2 800 0, ⟨some 3, none, 801, .mov (.c .nils)⟩, mi 4 802 6]
def o47_9 : List AOper := [mv 45 900 6, mv 46 901 8, mv 2 902 45, mv 3 903 46, mi 4 904 0]
def o47_5t5_11 : List AOper := (o47_5.drop 5).take 6
def o47_7t5_13 : List AOper := (o47_7.drop 5).take 8
def c47_8 : AC := .cond (.t 26) .skip (.exit 0)
def c47_11 : AC := .block 1 (.reg o47_6)
def c47_12 : AC := .seq (.seq (.reg o47_5) c47_8) c47_11
def c47_20 : AC := .cond (.t 44) (.seq (.reg o47_8) .ret) .skip
def c47_24 : AC := .seq (.reg o47_9) .ret
def c47_25 : AC := .seq (.seq (.reg o47_7) c47_20) c47_24
def c47_27 : AC := .seq (.reg o47_4) (.seq (.block 0 (.loop c47_12)) c47_25)
def c47_28 : AC := .seq (.reg o47_3) c47_27
def c47_31 : AC := .seq (.reg o47_0) (.seq (.reg o47_1) (.seq (.reg o47_2) c47_28))
theorem fn47 : fnA Try.prog 47 = some (47, [.t 2, .t 3, .t 4], c47_31) := by kernel_rfl
def q_ok_store_Take_l0_ok (a0 : List Int) (r1 : Int × (List Int) × Int × Bool) (r2 : Int × (List Int) × Int × Bool) (x0 : List (List Int)) (x1 : List Int) (x2 : Int) (x3 : Bool) (v : ((List (List Int)) × (List Int) × Int × Bool)) : Prop := (fun v => go Try.prog 47 (PostN (.exit 0) (fun x : (List (List Int)) × (List Int) × Int × Bool => ⟨[(8, .sl (.h 1) 1 0 (List.map (enL (D.int .i64)) x.1)), (6, nI r1.1), (5, .ptr (.s 1647) 0), (0, lY a0)], [(.s 1647, [lY x.2.1, nI x.2.2.1, bB x.2.2.2])]⟩) v) [.l c47_12] .norm ⟨[(8, .sl (.h 0) 1 0 (List.map (enL (D.int .i64)) x0)), (7, nI r2.1), (6, nI r1.1), (5, .ptr (.s 1647) 0), (0, lY a0)], [(.s 1647, [lY x1, nI x2, bB x3])]⟩) v
theorem ok_store_Take_l0_ok (a0 : List Int) (r1 : Int × (List Int) × Int × Bool) (r2 : Int × (List Int) × Int × Bool) (x0 : List (List Int)) (x1 : List Int) (x2 : Int) (x3 : Bool) : Ok (M_store_Take_l0 a0 r1 r2 x0 x1 x2 x3) (q_ok_store_Take_l0_ok a0 r1 r2 x0 x1 x2 x3) := by
  refine M_store_Take_l0.partial_correctness a0 r1 r2 (q_ok_store_Take_l0_ok a0 r1 r2) ?_ x0 x1 x2 x3
  clear x0 x1 x2 x3
  intro f' IH x0 x1 x2 x3
  refine okI ?_
  unfold q_ok_store_Take_l0_ok at *
  refine Av 1 [.c c47_12, .l c47_12] ⟨[(8, .sl (.h 0) 1 0 (List.map (enL (D.int .i64)) x0)), (7, nI r2.1), (6, nI r1.1), (5, .ptr (.s 1647) 0), (0, lY a0)], [(.s 1647, [lY x1, nI x2, bB x3])]⟩ ?_
  refine Av 4 [.o false (o47_5.drop 1), .c c47_8, .c c47_11, .l c47_12] ⟨[(16, .sl (.h 0) 1 0 (List.map (enL (D.int .i64)) x0)), (8, .sl (.h 0) 1 0 (List.map (enL (D.int .i64)) x0)), (7, nI r2.1), (6, nI r1.1), (5, .ptr (.s 1647) 0), (0, lY a0)], [(.s 1647, [lY x1, nI x2, bB x3])]⟩ ?_
  refine L_len (enc := enL (D.int .i64)) (l := x0) trivial rfl ?_
  refine Av 3 [.o false (o47_5.drop 5), .c c47_8, .c c47_11, .l c47_12] ⟨[(20, bB (decide ((x0.length : Int) < r2.1))), (8, .sl (.h 0) 1 0 (List.map (enL (D.int .i64)) x0)), (7, nI r2.1), (6, nI r1.1), (5, .ptr (.s 1647) 0), (0, lY a0)], [(.s 1647, [lY x1, nI x2, bB x3])]⟩ ?_
  refine L_take 6 o47_5t5_11 (o47_5.drop 11) ?_
  refine L_join [.o false o47_5t5_11] [.o false (o47_5.drop 11), .c c47_8, .c c47_11, .l c47_12] (fun x : Bool => ⟨[(26, bB x), (8, .sl (.h 0) 1 0 (List.map (enL (D.int .i64)) x0)), (7, nI r2.1), (6, nI r1.1), (5, .ptr (.s 1647) 0), (0, lY a0)], [(.s 1647, [lY x1, nI x2, bB x3])]⟩) ?_ (fun j3 => ?_)
  · refine L_split 20 rfl (fun _ => ?_) (fun _ => ?_)
    · refine Av 7 [] ⟨[(26, bB (!x3)), (8, .sl (.h 0) 1 0 (List.map (enL (D.int .i64)) x0)), (7, nI r2.1), (6, nI r1.1), (5, .ptr (.s 1647) 0), (0, lY a0)], [(.s 1647, [lY x1, nI x2, bB x3])]⟩ ?_
      exact L_end
    · refine Av 7 [] ⟨[(26, bB false), (8, .sl (.h 0) 1 0 (List.map (enL (D.int .i64)) x0)), (7, nI r2.1), (6, nI r1.1), (5, .ptr (.s 1647) 0), (0, lY a0)], [(.s 1647, [lY x1, nI x2, bB x3])]⟩ ?_
      exact L_end
  · refine Av 1 [.c c47_8, .c c47_11, .l c47_12] ⟨[(26, bB j3), (8, .sl (.h 0) 1 0 (List.map (enL (D.int .i64)) x0)), (7, nI r2.1), (6, nI r1.1), (5, .ptr (.s 1647) 0), (0, lY a0)], [(.s 1647, [lY x1, nI x2, bB x3])]⟩ ?_
    refine L_split 26 decT (fun _ => ?_) (fun _ => ?_)
    · refine Av 6 [.o false (o47_6.drop 2), .b 1, .l c47_12] ⟨[(28, .ptr (.s 1647) 0), (27, .sl (.h 0) 1 0 (List.map (enL (D.int .i64)) x0)), (7, nI r2.1), (6, nI r1.1), (5, .ptr (.s 1647) 0), (0, lY a0)], [(.s 1647, [lY x1, nI x2, bB x3])]⟩ ?_
      refine L_callG (enR := en_thrum_store_text_list) (bx' := bx_thrum_store_text_list) (ps := [.ptr (.up (.s 0)) 0]) (bx := [(.up (.s 0), [lY ((⟨x1, x2, x3⟩ : T_store_text).F_b), nI ((⟨x1, x2, x3⟩ : T_store_text).F_at), bB ((⟨x1, x2, x3⟩ : T_store_text).F_bad)])]) [(.up (.s 0), .s 1647)] [] (ok_thrum_store_text_list (⟨x1, x2, x3⟩ : T_store_text)) trivial rfl rfl (fun _ => rfl) (fun _ => rfl) (fun _ => by kernel_rfl) (fun _ => by kernel_rfl) (fun r4 => ?_)
      refine Av 1 [.o false (o47_6.drop 4), .b 1, .l c47_12] ⟨[(30, .sl (.s 9663) 1 0 (List.map (enL (D.int .i64)) [r4.1])), (27, .sl (.h 0) 1 0 (List.map (enL (D.int .i64)) x0)), (7, nI r2.1), (6, nI r1.1), (5, .ptr (.s 1647) 0), (0, lY a0)], [(.s 1647, [lY r4.2.1, nI r4.2.2.1, bB r4.2.2.2])]⟩ ?_
      refine L_app (enc := enL (D.int .i64)) (l := x0) (l2 := [r4.1]) trivial rfl rfl (fun _ => rfl) (fun _ => ?_)
      refine Av 3 [.l c47_12] ⟨[(8, .sl (.s 9679) 1 0 (List.map (enL (D.int .i64)) (x0 ++ [r4.1]))), (7, nI r2.1), (6, nI r1.1), (5, .ptr (.s 1647) 0), (0, lY a0)], [(.s 1647, [lY r4.2.1, nI r4.2.2.1, bB r4.2.2.2])]⟩ ?_
      exact L_again (IH (x0 ++ [r4.1]) r4.2.1 r4.2.2.1 r4.2.2.2)
    · refine Avk 4 [] (.exit 0) ⟨[(8, .sl (.h 0) 1 0 (List.map (enL (D.int .i64)) x0)), (6, nI r1.1), (5, .ptr (.s 1647) 0), (0, lY a0)], [(.s 1647, [lY x1, nI x2, bB x3])]⟩ ?_
      exact L_end
theorem ok_store_Take (a0 : List Int) : ∀ v, M_store_Take a0 = some v → EvF Try.prog 47 [.lst (List.map (D.int .u8) a0)] (en_store_Take v) := by
  intro v hv
  refine EvF_go fn47 (Nat.le_of_ble_eq_true rfl) ?_
  suffices h : Ok (M_store_Take a0) fun v => go Try.prog 47 (Fnl [.t 2, .t 3, .t 4] (en_store_Take v) []) [.c c47_31] .norm (initSt (List.map PV.d [.lst (List.map (D.int .u8) a0)]) []) from h v hv
  unfold M_store_Take
  refine Av 16 [.o false (o47_2.drop 1), .c c47_28] ⟨[(12, .ptr (.s 1647) 0), (5, .ptr (.s 1647) 0), (0, lY a0)], [(.s 1647, [lY a0, nI 0, bB false])]⟩ ?_
  refine L_callG (enR := en_thrum_store_text_number) (bx' := bx_thrum_store_text_number) (ps := [.ptr (.up (.s 0)) 0, nU 1073741824]) (bx := [(.up (.s 0), [lY ((⟨a0, 0, false⟩ : T_store_text).F_b), nI ((⟨a0, 0, false⟩ : T_store_text).F_at), bB ((⟨a0, 0, false⟩ : T_store_text).F_bad)])]) [(.up (.s 0), .s 1647)] [] (ok_thrum_store_text_number (⟨a0, 0, false⟩ : T_store_text) 1073741824) trivial rfl rfl (fun _ => rfl) (fun _ => rfl) (fun _ => by kernel_rfl) (fun _ => by kernel_rfl) (fun r1 => ?_)
  refine Av 5 [.o false (o47_3.drop 1), .c c47_27] ⟨[(14, .ptr (.s 1647) 0), (6, nI r1.1), (5, .ptr (.s 1647) 0), (0, lY a0)], [(.s 1647, [lY r1.2.1, nI r1.2.2.1, bB r1.2.2.2])]⟩ ?_
  refine L_callG (enR := en_thrum_store_text_number) (bx' := bx_thrum_store_text_number) (ps := [.ptr (.up (.s 0)) 0, nU 8]) (bx := [(.up (.s 0), [lY ((⟨r1.2.1, r1.2.2.1, r1.2.2.2⟩ : T_store_text).F_b), nI ((⟨r1.2.1, r1.2.2.1, r1.2.2.2⟩ : T_store_text).F_at), bB ((⟨r1.2.1, r1.2.2.1, r1.2.2.2⟩ : T_store_text).F_bad)])]) [(.up (.s 0), .s 1647)] [] (ok_thrum_store_text_number (⟨r1.2.1, r1.2.2.1, r1.2.2.2⟩ : T_store_text) 8) trivial rfl rfl (fun _ => rfl) (fun _ => rfl) (fun _ => by kernel_rfl) (fun _ => by kernel_rfl) (fun r2 => ?_)
  refine Av 9 [.l c47_12, .b 0, .c c47_25] ⟨[(8, .nils), (7, nI r2.1), (6, nI r1.1), (5, .ptr (.s 1647) 0), (0, lY a0)], [(.s 1647, [lY r2.2.1, nI r2.2.2.1, bB r2.2.2.2])]⟩ ?_
  refine L_piece (fs := [.l c47_12]) (ks := [.b 0, .c c47_25]) (ok_store_Take_l0_ok a0 r1 r2 [] r2.2.1 r2.2.2.1 r2.2.2.2) (fun j5 => ?_)
  refine Av 9 [.o false (o47_7.drop 5), .c c47_20, .c c47_24] ⟨[(36, bB j5.2.2.2), (8, .sl (.h 1) 1 0 (List.map (enL (D.int .i64)) j5.1)), (6, nI r1.1), (5, .ptr (.s 1647) 0), (0, lY a0)], [(.s 1647, [lY j5.2.1, nI j5.2.2.1, bB j5.2.2.2])]⟩ ?_
  refine L_take 8 o47_7t5_13 (o47_7.drop 13) ?_
  refine L_join [.o false o47_7t5_13] [.o false (o47_7.drop 13), .c c47_20, .c c47_24] (fun x : Bool => ⟨[(44, bB x), (8, .sl (.h 1) 1 0 (List.map (enL (D.int .i64)) j5.1)), (6, nI r1.1)], []⟩) ?_ (fun j6 => ?_)
  · refine L_split 36 decT (fun _ => ?_) (fun _ => ?_)
    · refine Av 9 [] ⟨[(44, bB true), (8, .sl (.h 1) 1 0 (List.map (enL (D.int .i64)) j5.1)), (6, nI r1.1)], []⟩ ?_
      exact L_end
    · refine Av 5 [.o false (o47_7t5_13.drop 5)] ⟨[(41, lY a0), (36, bB false), (40, nI j5.2.2.1), (8, .sl (.h 1) 1 0 (List.map (enL (D.int .i64)) j5.1)), (6, nI r1.1)], []⟩ ?_
      refine L_len (enc := D.int .u8) (l := a0) rfl rfl ?_
      refine Av 3 [] ⟨[(44, bB (decide (j5.2.2.1 < (a0.length : Int)))), (8, .sl (.h 1) 1 0 (List.map (enL (D.int .i64)) j5.1)), (6, nI r1.1)], []⟩ ?_
      exact L_end
  · refine Av 1 [.c c47_20, .c c47_24] ⟨[(44, bB j6), (8, .sl (.h 1) 1 0 (List.map (enL (D.int .i64)) j5.1)), (6, nI r1.1)], []⟩ ?_
    refine L_split 44 decT (fun _ => ?_) (fun _ => ?_)
    · refine Avk 9 [] .ret ⟨[(4, nI 6), (3, .nils), (2, nI 0)], []⟩ ?_
      exact L_ret
    · refine Avk 11 [] .ret ⟨[(4, nI 0), (3, .sl (.h 1) 1 0 (List.map (enL (D.int .i64)) j5.1)), (2, nI r1.1)], []⟩ ?_
      exact L_ret
/-- thrum/thrumref03.Get. -/
def en_thrumref03_Get (v : Int × Int × Int) : PV := .tup [nU v.1, nI v.2.1, nI v.2.2]
def o96_0 : List AOper := [⟨some 4, none, 0, .mov (.c (.d (.int .u64 0)))⟩, mi 5 1 0, mi 6 2 0]
def o96_1 : List AOper := [mv 10 100 1, bc 11 101 .lss 10 0]
def o96_2 : List AOper := [⟨some 4, none, 200, .mov (.c (.d (.int .u64 0)))⟩, mi 5 201 0, mi 6 202 1]
def o96_3 : List AOper := [⟨some 7, none, 300, .mov (.c (.d (.int .u64 0)))⟩]
def o96_4 : List AOper := [mi 12 400 0]
def o96_5 : List AOper := [bc 13 500 .lss 12 10]
def o96_6 : List AOper := [mv 14 600 12, mv 8 601 14]
def o96_7 : List AOper := [mv 15 700 1, mv 16 701 0, ln 17 702 16, bi 18 703 .geq 15 17, mv 19 704 18, gv 20 19 false 705 8, gv 21 19 false 706 0, ⟨some 22, some (19, false), 707, .len (.t 21)⟩, gv 23 19 false 708 1, ⟨some 24, some (19, false), 709, .bin .sub .int (.t 22) (.t 23)⟩, ⟨some 25, some (19, false), 710, .bin .geq .int (.t 20) (.t 24)⟩, pz 26 711 19 25 true]
def o96_8 : List AOper := [⟨some 4, none, 800, .mov (.c (.d (.int .u64 0)))⟩, mi 5 801 0, mi 6 802 5]
def o96_9 : List AOper := [mv 27 900 0, mv 28 901 1, mv 29 902 8, bi 30 903 .add 28 29, ⟨some 31, none, 904, .idxA 1 (.t 27) (.t 30)⟩, ld 32 905 31, mv 9 906 32]
def o96_10 : List AOper := [mv 33 1000 8, bc 34 1001 .eql 33 9, mv 35 1002 34, gv 36 35 true 1003 9, ⟨some 37, some (35, true), 1004, .bin .gtr .int (.t 36) (.c (.d (.int .u8 1)))⟩, pk 38 1005 35 37 false]
def o96_11 : List AOper := [⟨some 4, none, 1100, .mov (.c (.d (.int .u64 0)))⟩, mi 5 1101 0, mi 6 1102 6]
def o96_12 : List AOper := [mv 39 1200 7, mv 40 1201 9, ⟨some 41, none, 1202, .bin .rem .int (.t 40) (.c (.d (.int .u8 128)))⟩, ⟨some 42, none, 1203, .convI .u64 (.t 41)⟩, mv 43 1204 8, ⟨some 44, none, 1205, .bin .mul .int (.c (.d (.int .i64 7))) (.t 43)⟩, bi 45 1206 .shl 42 44, bi 46 1207 .or 39 45, mv 7 1208 46]
def o96_13 : List AOper := [mv 47 1300 9, ⟨some 48, none, 1301, .bin .lss .int (.t 47) (.c (.d (.int .u8 128)))⟩]
def o96_14 : List AOper := [mv 49 1400 8, bc 50 1401 .gtr 49 0, mv 51 1402 50, gv 52 51 true 1403 9, ⟨some 53, some (51, true), 1404, .bin .eql .int (.t 52) (.c (.d (.int .u8 0)))⟩, pk 54 1405 51 53 false]
def o96_15 : List AOper := [⟨some 4, none, 1500, .mov (.c (.d (.int .u64 0)))⟩, mi 5 1501 0, mi 6 1502 6]
def o96_16 : List AOper := [mv 55 1600 7, mv 56 1601 1, mv 57 1602 8, bi 58 1603 .add 56 57, bc 59 1604 .add 58 1, mv 4 1605 55, mv 5 1606 59, mi 6 1607 0]
def o96_17 : List AOper := [bc 60 1700 .add 12 1, mv 12 1701 60]
def o96_18 : List AOper := [⟨some 4, none, 1800, .mov (.c (.d (.int .u64 0)))⟩, mi 5 1801 0, mi 6 1802 6]
def o96_7t5_12 : List AOper := (o96_7.drop 5).take 7
def o96_10t3_6 : List AOper := (o96_10.drop 3).take 3
def o96_14t3_6 : List AOper := (o96_14.drop 3).take 3
def c96_6 : AC := .cond (.t 11) (.seq (.reg o96_2) .ret) .skip
def c96_13 : AC := .cond (.t 13) .skip (.exit 0)
def c96_20 : AC := .cond (.t 26) (.seq (.reg o96_8) .ret) .skip
def c96_28 : AC := .cond (.t 38) (.seq (.reg o96_11) .ret) .skip
def c96_37 : AC := .cond (.t 54) (.seq (.reg o96_15) .ret) .skip
def c96_41 : AC := .seq (.reg o96_16) .ret
def c96_44 : AC := .cond (.t 48) (.seq (.seq (.reg o96_14) c96_37) c96_41) .skip
def c96_45 : AC := .seq (.reg o96_13) c96_44
def c96_46 : AC := .seq (.reg o96_12) c96_45
def c96_47 : AC := .seq (.seq (.reg o96_10) c96_28) c96_46
def c96_48 : AC := .seq (.reg o96_9) c96_47
def c96_52 : AC := .reg o96_17
def c96_53 : AC := .seq (.block 1 (.seq (.reg o96_6) (.seq (.seq (.reg o96_7) c96_20) c96_48))) c96_52
def c96_55 : AC := .seq (.reg o96_5) (.seq c96_13 c96_53)
def c96_61 : AC := .seq (.reg o96_18) .ret
def c96_63 : AC := .seq (.reg o96_3) (.seq (.seq (.reg o96_4) (.block 0 (.loop c96_55))) c96_61)
def c96_65 : AC := .seq (.reg o96_0) (.seq (.seq (.reg o96_1) c96_6) c96_63)
theorem fn96 : fnA Try.prog 96 = some (61, [.t 4, .t 5, .t 6], c96_65) := by kernel_rfl
def q_ok_thrumref03_Get_l0_ok (a0 : List Int) (a1 : Int) (x0 : Int) (x1 : Int) (v : (Sum (Int × Int × Int) Unit)) : Prop := (fun v => go Try.prog 61 (PostR (fun r => Fnl [.t 4, .t 5, .t 6] (en_thrumref03_Get r) []) (.exit 0) (fun x : Unit => ⟨[], []⟩) v) [.l c96_55] .norm ⟨[(12, nI x0), (7, nU x1), (0, lY a0), (1, nI a1)], []⟩) v
theorem ok_thrumref03_Get_l0_ok (a0 : List Int) (a1 : Int) (x0 : Int) (x1 : Int) : Ok (M_thrumref03_Get_l0 a0 a1 x0 x1) (q_ok_thrumref03_Get_l0_ok a0 a1 x0 x1) := by
  refine M_thrumref03_Get_l0.partial_correctness a0 a1 (q_ok_thrumref03_Get_l0_ok a0 a1) ?_ x0 x1
  clear x0 x1
  intro f' IH x0 x1
  refine okI ?_
  unfold q_ok_thrumref03_Get_l0_ok at *
  refine Av 1 [.c c96_55, .l c96_55] ⟨[(12, nI x0), (7, nU x1), (0, lY a0), (1, nI a1)], []⟩ ?_
  refine Av 5 [.c c96_13, .c c96_53, .l c96_55] ⟨[(13, bB (decide (x0 < 10))), (12, nI x0), (7, nU x1), (0, lY a0), (1, nI a1)], []⟩ ?_
  refine L_split 13 rfl (fun _ => ?_) (fun _ => ?_)
  · refine Av 14 [.o false (o96_7.drop 2), .c c96_20, .c c96_48, .b 1, .c c96_52, .l c96_55] ⟨[(16, lY a0), (15, nI a1), (8, nI x0), (12, nI x0), (7, nU x1), (0, lY a0), (1, nI a1)], []⟩ ?_
    refine L_len (enc := D.int .u8) (l := a0) trivial rfl ?_
    refine Av 2 [.o false (o96_7.drop 5), .c c96_20, .c c96_48, .b 1, .c c96_52, .l c96_55] ⟨[(19, bB (decide (a1 ≥ (a0.length : Int)))), (8, nI x0), (12, nI x0), (7, nU x1), (0, lY a0), (1, nI a1)], []⟩ ?_
    refine L_take 7 o96_7t5_12 (o96_7.drop 12) ?_
    refine L_join [.o false o96_7t5_12] [.o false (o96_7.drop 12), .c c96_20, .c c96_48, .b 1, .c c96_52, .l c96_55] (fun x : Bool => ⟨[(26, bB x), (8, nI x0), (12, nI x0), (7, nU x1), (0, lY a0), (1, nI a1)], []⟩) ?_ (fun j1 => ?_)
    · refine L_split 19 rfl (fun _ => ?_) (fun _ => ?_)
      · refine Av 8 [] ⟨[(26, bB true), (8, nI x0), (12, nI x0), (7, nU x1), (0, lY a0), (1, nI a1)], []⟩ ?_
        exact L_end
      · refine Av 2 [.o false (o96_7t5_12.drop 2)] ⟨[(21, lY a0), (19, bB false), (20, nI x0), (8, nI x0), (12, nI x0), (7, nU x1), (0, lY a0), (1, nI a1)], []⟩ ?_
        refine L_len (enc := D.int .u8) (l := a0) rfl rfl ?_
        refine Av 5 [] ⟨[(26, bB (decide (x0 ≥ (IntKind.i64.wrap ((a0.length : Int) - a1))))), (8, nI x0), (12, nI x0), (7, nU x1), (0, lY a0), (1, nI a1)], []⟩ ?_
        exact L_end
    · refine Av 1 [.c c96_20, .c c96_48, .b 1, .c c96_52, .l c96_55] ⟨[(26, bB j1), (8, nI x0), (12, nI x0), (7, nU x1), (0, lY a0), (1, nI a1)], []⟩ ?_
      refine L_split 26 decT (fun _ => ?_) (fun _ => ?_)
      · refine Avk 12 [] .ret ⟨[(6, nI 5), (5, nI 0), (4, nU 0)], []⟩ ?_
        exact L_retR
      · refine Av 8 [.o false (o96_9.drop 4), .c c96_47, .b 1, .c c96_52, .l c96_55] ⟨[(30, nI (IntKind.i64.wrap (a1 + x0))), (27, lY a0), (8, nI x0), (12, nI x0), (7, nU x1), (0, lY a0), (1, nI a1)], []⟩ ?_
        refine L_idxD (enc := D.int .u8) (l := a0) (iv := IntKind.i64.wrap (a1 + x0)) trivial rfl rfl (fun _ => rfl) (fun hc904 => ?_)
        refine Av 9 [.o false (o96_10.drop 3), .c c96_28, .c c96_46, .b 1, .c c96_52, .l c96_55] ⟨[(35, bB (x0 == 9)), (9, nY (at' a0 (IntKind.i64.wrap (a1 + x0)))), (8, nI x0), (12, nI x0), (7, nU x1), (0, lY a0), (1, nI a1)], []⟩ ?_
        refine L_take 3 o96_10t3_6 (o96_10.drop 6) ?_
        refine L_join [.o false o96_10t3_6] [.o false (o96_10.drop 6), .c c96_28, .c c96_46, .b 1, .c c96_52, .l c96_55] (fun x : Bool => ⟨[(38, bB x), (9, nY (at' a0 (IntKind.i64.wrap (a1 + x0)))), (8, nI x0), (12, nI x0), (7, nU x1), (0, lY a0), (1, nI a1)], []⟩) ?_ (fun j2 => ?_)
        · refine L_split 35 decE (fun _ => ?_) (fun _ => ?_)
          · refine Av 4 [] ⟨[(38, bB (decide ((at' a0 (IntKind.i64.wrap (a1 + x0))) > 1))), (9, nY (at' a0 (IntKind.i64.wrap (a1 + x0)))), (8, nI x0), (12, nI x0), (7, nU x1), (0, lY a0), (1, nI a1)], []⟩ ?_
            exact L_end
          · refine Av 4 [] ⟨[(38, bB false), (9, nY (at' a0 (IntKind.i64.wrap (a1 + x0)))), (8, nI x0), (12, nI x0), (7, nU x1), (0, lY a0), (1, nI a1)], []⟩ ?_
            exact L_end
        · refine Av 1 [.c c96_28, .c c96_46, .b 1, .c c96_52, .l c96_55] ⟨[(38, bB j2), (9, nY (at' a0 (IntKind.i64.wrap (a1 + x0)))), (8, nI x0), (12, nI x0), (7, nU x1), (0, lY a0), (1, nI a1)], []⟩ ?_
          refine L_split 38 decT (fun _ => ?_) (fun _ => ?_)
          · refine Avk 12 [] .ret ⟨[(6, nI 6), (5, nI 0), (4, nU 0)], []⟩ ?_
            exact L_retR
          · refine Al 10 [.o false (o96_12.drop 6), .c c96_45, .b 1, .c c96_52, .l c96_55] .norm (fun y3 : Int => ⟨[(44, nI (IntKind.i64.wrap (7 * x0))), (42, nU y3), (39, nU x1), (9, nY (at' a0 (IntKind.i64.wrap (a1 + x0)))), (8, nI x0), (12, nI x0), (0, lY a0), (1, nI a1)], []⟩) (fun y3 => ?_)
            refine L_rd (c := 0 ≤ IntKind.i64.wrap (7 * x0)) (v := nU (sShl .u64 y3 (IntKind.i64.wrap (7 * x0)))) trivial rfl (fun _ => ?_)
            refine Av 8 [.c c96_44, .b 1, .c c96_52, .l c96_55] ⟨[(48, bB (decide ((at' a0 (IntKind.i64.wrap (a1 + x0))) < 128))), (7, nU (bOr .u64 x1 (sShl .u64 y3 (IntKind.i64.wrap (7 * x0))))), (9, nY (at' a0 (IntKind.i64.wrap (a1 + x0)))), (8, nI x0), (12, nI x0), (0, lY a0), (1, nI a1)], []⟩ ?_
            refine L_split 48 rfl (fun _ => ?_) (fun _ => ?_)
            · refine Av 7 [.o false (o96_14.drop 3), .c c96_37, .c c96_41, .b 1, .c c96_52, .l c96_55] ⟨[(51, bB (decide (x0 > 0))), (7, nU (bOr .u64 x1 (sShl .u64 y3 (IntKind.i64.wrap (7 * x0))))), (9, nY (at' a0 (IntKind.i64.wrap (a1 + x0)))), (8, nI x0), (1, nI a1)], []⟩ ?_
              refine L_take 3 o96_14t3_6 (o96_14.drop 6) ?_
              refine L_join [.o false o96_14t3_6] [.o false (o96_14.drop 6), .c c96_37, .c c96_41, .b 1, .c c96_52, .l c96_55] (fun x : Bool => ⟨[(54, bB x), (7, nU (bOr .u64 x1 (sShl .u64 y3 (IntKind.i64.wrap (7 * x0))))), (8, nI x0), (1, nI a1)], []⟩) ?_ (fun j5 => ?_)
              · refine L_split 51 rfl (fun _ => ?_) (fun _ => ?_)
                · refine Av 4 [] ⟨[(54, bB ((at' a0 (IntKind.i64.wrap (a1 + x0))) == 0)), (7, nU (bOr .u64 x1 (sShl .u64 y3 (IntKind.i64.wrap (7 * x0))))), (8, nI x0), (1, nI a1)], []⟩ ?_
                  exact L_end
                · refine Av 4 [] ⟨[(54, bB false), (7, nU (bOr .u64 x1 (sShl .u64 y3 (IntKind.i64.wrap (7 * x0))))), (8, nI x0), (1, nI a1)], []⟩ ?_
                  exact L_end
              · refine Av 1 [.c c96_37, .c c96_41, .b 1, .c c96_52, .l c96_55] ⟨[(54, bB j5), (7, nU (bOr .u64 x1 (sShl .u64 y3 (IntKind.i64.wrap (7 * x0))))), (8, nI x0), (1, nI a1)], []⟩ ?_
                refine L_split 54 decT (fun _ => ?_) (fun _ => ?_)
                · refine Avk 12 [] .ret ⟨[(6, nI 6), (5, nI 0), (4, nU 0)], []⟩ ?_
                  exact L_retR
                · refine Avk 17 [] .ret ⟨[(6, nI 0), (5, nI (IntKind.i64.wrap ((IntKind.i64.wrap (a1 + x0)) + 1))), (4, nU (bOr .u64 x1 (sShl .u64 y3 (IntKind.i64.wrap (7 * x0)))))], []⟩ ?_
                  exact L_retR
            · refine Av 7 [.l c96_55] ⟨[(12, nI (IntKind.i64.wrap (x0 + 1))), (7, nU (bOr .u64 x1 (sShl .u64 y3 (IntKind.i64.wrap (7 * x0))))), (0, lY a0), (1, nI a1)], []⟩ ?_
              exact L_again (IH (IntKind.i64.wrap (x0 + 1)) (bOr .u64 x1 (sShl .u64 y3 (IntKind.i64.wrap (7 * x0)))))
  · refine Avk 4 [] (.exit 0) ⟨[], []⟩ ?_
    exact L_endR
theorem ok_thrumref03_Get (a0 : List Int) (a1 : Int) : ∀ v, M_thrumref03_Get a0 a1 = some v → EvF Try.prog 96 [.lst (List.map (D.int .u8) a0), .int .i64 a1] (en_thrumref03_Get v) := by
  intro v hv
  refine EvF_go fn96 (Nat.le_of_ble_eq_true rfl) ?_
  suffices h : Ok (M_thrumref03_Get a0 a1) fun v => go Try.prog 61 (Fnl [.t 4, .t 5, .t 6] (en_thrumref03_Get v) []) [.c c96_65] .norm (initSt (List.map PV.d [.lst (List.map (D.int .u8) a0), .int .i64 a1]) []) from h v hv
  unfold M_thrumref03_Get
  refine Av 12 [.c c96_6, .c c96_63] ⟨[(11, bB (decide (a1 < 0))), (0, lY a0), (1, nI a1)], []⟩ ?_
  refine L_split 11 rfl (fun _ => ?_) (fun _ => ?_)
  · refine Avk 9 [] .ret ⟨[(6, nI 1), (5, nI 0), (4, nU 0)], []⟩ ?_
    exact L_ret
  · refine Av 13 [.l c96_55, .b 0, .c c96_61] ⟨[(12, nI 0), (7, nU 0), (0, lY a0), (1, nI a1)], []⟩ ?_
    refine L_pieceR (fs := [.l c96_55]) (ks := [.b 0, .c c96_61]) (ok_thrumref03_Get_l0_ok a0 a1 0 0) L_thru (fun j6 => ?_)
    refine Avk 8 [] .ret ⟨[(6, nI 6), (5, nI 0), (4, nU 0)], []⟩ ?_
    exact L_ret
/-- thrum/thrumref03.Many. -/
def en_thrumref03_Many (v : (List Int) × Int × Int) : PV := .tup [sU (.s 0) v.1, nI v.2.1, nI v.2.2]
def o95_0 : List AOper := [⟨some 6, none, 0, .mov (.c .nils)⟩, mi 7 1 0, mi 8 2 0]
def o95_1 : List AOper := [mv 13 100 2, bc 14 101 .lss 13 0]
def o95_2 : List AOper := [⟨some 6, none, 200, .mov (.c .nils)⟩, mi 7 201 0, mi 8 202 1]
def o95_3 : List AOper := [⟨some 9, none, 300, .mov (.c .nils)⟩]
def o95_4 : List AOper := [mv 15 400 2, mi 16 401 0]
def o95_5 : List AOper := [bi 17 500 .lss 16 15]
def o95_6 : List AOper := [mv 19 600 0, mv 20 601 1, cl' 21 602 96 [.t 19, .t 20], mv 18 603 21, xt 22 604 18 0, xt 23 605 18 1, xt 24 606 18 2, mv 10 607 22, mv 11 608 23, mv 12 609 24]
def o95_7 : List AOper := [mv 25 700 12, bc 26 701 .neq 25 0]
def o95_8 : List AOper := [mv 27 800 12, ⟨some 6, none, 801, .mov (.c .nils)⟩, mi 7 802 0, mv 8 803 27]
def o95_9 : List AOper := [mv 28 900 9, mv 29 901 10, ⟨some 30, none, 902, .bslice 82 1 [.t 29]⟩, ⟨some 31, none, 903, .app 82 1 8 (.t 28) (.t 30)⟩, mv 9 904 31]
def o95_10 : List AOper := [mv 32 1000 11, mv 1 1001 32]
def o95_11 : List AOper := [bc 33 1100 .add 16 1, mv 16 1101 33]
def o95_12 : List AOper := [mv 34 1200 9, mv 35 1201 1, mv 6 1202 34, mv 7 1203 35, mi 8 1204 0]
def c95_6 : AC := .cond (.t 14) (.seq (.reg o95_2) .ret) .skip
def c95_13 : AC := .cond (.t 17) .skip (.exit 0)
def c95_20 : AC := .cond (.t 26) (.seq (.reg o95_8) .ret) .skip
def c95_23 : AC := .reg o95_10
def c95_24 : AC := .seq (.reg o95_9) c95_23
def c95_25 : AC := .seq (.seq (.reg o95_7) c95_20) c95_24
def c95_28 : AC := .reg o95_11
def c95_29 : AC := .seq (.block 1 (.seq (.reg o95_6) c95_25)) c95_28
def c95_31 : AC := .seq (.reg o95_5) (.seq c95_13 c95_29)
def c95_37 : AC := .seq (.reg o95_12) .ret
def c95_39 : AC := .seq (.reg o95_3) (.seq (.seq (.reg o95_4) (.block 0 (.loop c95_31))) c95_37)
def c95_41 : AC := .seq (.reg o95_0) (.seq (.seq (.reg o95_1) c95_6) c95_39)
theorem fn95 : fnA Try.prog 95 = some (36, [.t 6, .t 7, .t 8], c95_41) := by kernel_rfl
def q_ok_thrumref03_Many_l0_ok (a0 : List Int) (a2 : Int) (x0 : Int) (x1 : List Int) (x2 : Int) (v : (Sum ((List Int) × Int × Int) ((List Int) × Int))) : Prop := (fun v => go Try.prog 36 (PostR (fun r => Fnl [.t 6, .t 7, .t 8] (en_thrumref03_Many r) []) (.exit 0) (fun x : (List Int) × Int => ⟨[(9, sU (.h 1) x.1), (1, nI x.2)], []⟩) v) [.l c95_31] .norm ⟨[(16, nI x0), (15, nI a2), (9, sU (.h 0) x1), (0, lY a0), (1, nI x2)], []⟩) v
theorem ok_thrumref03_Many_l0_ok (a0 : List Int) (a2 : Int) (x0 : Int) (x1 : List Int) (x2 : Int) : Ok (M_thrumref03_Many_l0 a0 a2 x0 x1 x2) (q_ok_thrumref03_Many_l0_ok a0 a2 x0 x1 x2) := by
  refine M_thrumref03_Many_l0.partial_correctness a0 a2 (q_ok_thrumref03_Many_l0_ok a0 a2) ?_ x0 x1 x2
  clear x0 x1 x2
  intro f' IH x0 x1 x2
  refine okI ?_
  unfold q_ok_thrumref03_Many_l0_ok at *
  refine Av 1 [.c c95_31, .l c95_31] ⟨[(16, nI x0), (15, nI a2), (9, sU (.h 0) x1), (0, lY a0), (1, nI x2)], []⟩ ?_
  refine Av 5 [.c c95_13, .c c95_29, .l c95_31] ⟨[(17, bB (decide (x0 < a2))), (16, nI x0), (15, nI a2), (9, sU (.h 0) x1), (0, lY a0), (1, nI x2)], []⟩ ?_
  refine L_split 17 rfl (fun _ => ?_) (fun _ => ?_)
  · refine Av 8 [.o false (o95_6.drop 2), .c c95_25, .b 1, .c c95_28, .l c95_31] ⟨[(20, nI x2), (19, lY a0), (16, nI x0), (15, nI a2), (9, sU (.h 0) x1), (0, lY a0)], []⟩ ?_
    refine L_call (ok_thrumref03_Get a0 x2) trivial rfl (fun _ => rfl) (fun _ => ⟨trivial, trivial, trivial, trivial⟩) (fun r1 => ?_)
    refine Av 14 [.c c95_20, .c c95_24, .b 1, .c c95_28, .l c95_31] ⟨[(26, bB (r1.2.2 != 0)), (12, nI r1.2.2), (11, nI r1.2.1), (10, nU r1.1), (16, nI x0), (15, nI a2), (9, sU (.h 0) x1), (0, lY a0)], []⟩ ?_
    refine L_split 26 decNe (fun _ => ?_) (fun _ => ?_)
    · refine Avk 13 [] .ret ⟨[(8, nI r1.2.2), (7, nI 0), (6, .nils)], []⟩ ?_
      exact L_retR
    · refine Av 7 [.o false (o95_9.drop 3), .c c95_23, .b 1, .c c95_28, .l c95_31] ⟨[(30, sU (.s 14447) [r1.1]), (28, sU (.h 0) x1), (11, nI r1.2.1), (16, nI x0), (15, nI a2), (0, lY a0)], []⟩ ?_
      refine L_app (enc := D.int .u64) (l := x1) (l2 := [r1.1]) trivial rfl rfl (fun _ => rfl) (fun _ => ?_)
      refine Av 11 [.l c95_31] ⟨[(16, nI (IntKind.i64.wrap (x0 + 1))), (1, nI r1.2.1), (9, sU (.s 14463) (x1 ++ [r1.1])), (15, nI a2), (0, lY a0)], []⟩ ?_
      exact L_again (IH (IntKind.i64.wrap (x0 + 1)) (x1 ++ [r1.1]) r1.2.1)
  · refine Avk 4 [] (.exit 0) ⟨[(9, sU (.h 0) x1), (1, nI x2)], []⟩ ?_
    exact L_endR
theorem ok_thrumref03_Many (a0 : List Int) (a1 : Int) (a2 : Int) : ∀ v, M_thrumref03_Many a0 a1 a2 = some v → EvF Try.prog 95 [.lst (List.map (D.int .u8) a0), .int .i64 a1, .int .i64 a2] (en_thrumref03_Many v) := by
  intro v hv
  refine EvF_go fn95 (Nat.le_of_ble_eq_true rfl) ?_
  suffices h : Ok (M_thrumref03_Many a0 a1 a2) fun v => go Try.prog 36 (Fnl [.t 6, .t 7, .t 8] (en_thrumref03_Many v) []) [.c c95_41] .norm (initSt (List.map PV.d [.lst (List.map (D.int .u8) a0), .int .i64 a1, .int .i64 a2]) []) from h v hv
  unfold M_thrumref03_Many
  refine Av 12 [.c c95_6, .c c95_39] ⟨[(14, bB (decide (a2 < 0))), (0, lY a0), (1, nI a1), (2, nI a2)], []⟩ ?_
  refine L_split 14 rfl (fun _ => ?_) (fun _ => ?_)
  · refine Avk 9 [] .ret ⟨[(8, nI 1), (7, nI 0), (6, .nils)], []⟩ ?_
    exact L_ret
  · refine Av 14 [.l c95_31, .b 0, .c c95_37] ⟨[(16, nI 0), (15, nI a2), (9, .nils), (0, lY a0), (1, nI a1)], []⟩ ?_
    refine L_pieceR (fs := [.l c95_31]) (ks := [.b 0, .c c95_37]) (ok_thrumref03_Many_l0_ok a0 a2 0 [] a1) L_thru (fun j2 => ?_)
    refine Avk 10 [] .ret ⟨[(8, nI 0), (7, nI j2.2), (6, sU (.h 1) j2.1)], []⟩ ?_
    exact L_ret
/-- thrum/thrumref03.Zag. -/
def en_thrumref03_Zag (v : Int) : PV := nI v
def o145_0 : List AOper := [mi 2 0 0]
def o145_1 : List AOper := [mv 3 100 0, ⟨some 4, none, 101, .bin .rem .int (.t 3) (.c (.d (.int .u64 2)))⟩, ⟨some 5, none, 102, .bin .eql .int (.t 4) (.c (.d (.int .u64 1)))⟩]
def o145_2 : List AOper := [mv 6 200 0, ⟨some 7, none, 201, .bin .quo .int (.t 6) (.c (.d (.int .u64 2)))⟩, ⟨some 8, none, 202, .convI .i64 (.t 7)⟩, ⟨some 9, none, 203, .un .neg (.t 8)⟩, bc 10 204 .sub 9 1, mv 2 205 10]
def o145_3 : List AOper := [mv 11 300 0, ⟨some 12, none, 301, .bin .quo .int (.t 11) (.c (.d (.int .u64 2)))⟩, ⟨some 13, none, 302, .convI .i64 (.t 12)⟩, mv 2 303 13]
def c145_6 : AC := .cond (.t 5) (.seq (.reg o145_2) .ret) .skip
def c145_10 : AC := .seq (.reg o145_3) .ret
def c145_12 : AC := .seq (.reg o145_0) (.seq (.seq (.reg o145_1) c145_6) c145_10)
theorem fn145 : fnA Try.prog 145 = some (14, [.t 2], c145_12) := by kernel_rfl
theorem ok_thrumref03_Zag (a0 : Int) : ∀ v, M_thrumref03_Zag a0 = some v → EvF Try.prog 145 [.int .u64 a0] (en_thrumref03_Zag v) := by
  intro v hv
  refine EvF_go fn145 (Nat.le_of_ble_eq_true rfl) ?_
  suffices h : Ok (M_thrumref03_Zag a0) fun v => go Try.prog 14 (Fnl [.t 2] (en_thrumref03_Zag v) []) [.c c145_12] .norm (initSt (List.map PV.d [.int .u64 a0]) []) from h v hv
  unfold M_thrumref03_Zag
  refine Av 11 [.c c145_6, .c c145_10] ⟨[(5, bB ((Int.tmod a0 2) == 1)), (0, nU a0)], []⟩ ?_
  refine L_split 5 decE (fun _ => ?_) (fun _ => ?_)
  · refine Avk 12 [] .ret ⟨[(2, nI (IntKind.i64.wrap ((IntKind.i64.wrap (0 - (IntKind.i64.wrap (IntKind.u64.wrap (Int.tdiv a0 2))))) - 1)))], []⟩ ?_
    exact L_ret
  · refine Avk 10 [] .ret ⟨[(2, nI (IntKind.i64.wrap (IntKind.u64.wrap (Int.tdiv a0 2))))], []⟩ ?_
    exact L_ret
/-- thrum/thrumref03.Take. -/
def en_thrumref03_Take (v : Int × Int × Int) : PV := .tup [nI v.1, nI v.2.1, nI v.2.2]
def o97_0 : List AOper := [mi 4 0 0, mi 5 1 0, mi 6 2 0]
def o97_1 : List AOper := [mv 11 100 0, mv 12 101 1, cl' 13 102 96 [.t 11, .t 12], mv 10 103 13, xt 14 104 10 0, xt 15 105 10 1, xt 16 106 10 2, mv 7 107 14, mv 8 108 15, mv 9 109 16]
def o97_2 : List AOper := [mv 17 200 9, bc 18 201 .neq 17 0]
def o97_3 : List AOper := [mv 19 300 9, mi 4 301 0, mi 5 302 0, mv 6 303 19]
def o97_4 : List AOper := [mv 20 400 7, cl' 21 401 145 [.t 20], mv 22 402 8, mv 4 403 21, mv 5 404 22, mi 6 405 0]
def c97_7 : AC := .cond (.t 18) (.seq (.reg o97_3) .ret) .skip
def c97_11 : AC := .seq (.reg o97_4) .ret
def c97_12 : AC := .seq (.seq (.reg o97_2) c97_7) c97_11
def c97_14 : AC := .seq (.reg o97_0) (.seq (.reg o97_1) c97_12)
theorem fn97 : fnA Try.prog 97 = some (23, [.t 4, .t 5, .t 6], c97_14) := by kernel_rfl
theorem ok_thrumref03_Take (a0 : List Int) (a1 : Int) : ∀ v, M_thrumref03_Take a0 a1 = some v → EvF Try.prog 97 [.lst (List.map (D.int .u8) a0), .int .i64 a1] (en_thrumref03_Take v) := by
  intro v hv
  refine EvF_go fn97 (Nat.le_of_ble_eq_true rfl) ?_
  suffices h : Ok (M_thrumref03_Take a0 a1) fun v => go Try.prog 23 (Fnl [.t 4, .t 5, .t 6] (en_thrumref03_Take v) []) [.c c97_14] .norm (initSt (List.map PV.d [.lst (List.map (D.int .u8) a0), .int .i64 a1]) []) from h v hv
  unfold M_thrumref03_Take
  refine Av 10 [.o false (o97_1.drop 2), .c c97_12] ⟨[(12, nI a1), (11, lY a0)], []⟩ ?_
  refine L_call (ok_thrumref03_Get a0 a1) trivial rfl (fun _ => rfl) (fun _ => ⟨trivial, trivial, trivial, trivial⟩) (fun r1 => ?_)
  refine Av 14 [.c c97_7, .c c97_11] ⟨[(18, bB (r1.2.2 != 0)), (9, nI r1.2.2), (8, nI r1.2.1), (7, nU r1.1)], []⟩ ?_
  refine L_split 18 decNe (fun _ => ?_) (fun _ => ?_)
  · refine Avk 10 [] .ret ⟨[(6, nI r1.2.2), (5, nI 0), (4, nI 0)], []⟩ ?_
    exact L_ret
  · refine Av 5 [.o false (o97_4.drop 1), .c .ret] ⟨[(20, nU r1.1), (8, nI r1.2.1)], []⟩ ?_
    refine L_call (ok_thrumref03_Zag r1.1) trivial rfl (fun _ => rfl) (fun _ => trivial) (fun r2 => ?_)
    refine Avk 6 [] .ret ⟨[(6, nI 0), (5, nI r1.2.1), (4, nI r2)], []⟩ ?_
    exact L_ret
/-- thrum/thrumref20.Take. -/
def en_thrumref20_Take (v : Int × (List (List Int)) × Int) : PV := .tup [nI v.1, .sl (.s 0) 1 0 (List.map (enL (D.int .i64)) v.2.1), nI v.2.2]
def o48_0 : List AOper := [mi 2 0 0, ⟨some 3, none, 1, .mov (.c .nils)⟩, mi 4 2 0]
def o48_1 : List AOper := [mv 17 100 0, cl' 18 101 95 [.t 17, .c (.d (.int .i64 0)), .c (.d (.int .i64 2))], mv 16 102 18, xt 19 103 16 0, xt 20 104 16 1, xt 21 105 16 2, mv 5 106 19, mv 6 107 20, mv 7 108 21]
def o48_2 : List AOper := [mv 22 200 7, bc 23 201 .neq 22 0, mv 24 202 23, gv 25 24 false 203 5, ⟨some 26, some (24, false), 204, .idxA 1 (.t 25) (.c (.d (.int .i64 0)))⟩, ⟨some 27, some (24, false), 205, .load false 1 (.t 26)⟩, ⟨some 28, some (24, false), 206, .bin .gtr .int (.t 27) (.c (.d (.int .u64 1073741824)))⟩, pz 29 207 24 28 true, mv 30 208 29, gv 31 30 false 209 5, ⟨some 32, some (30, false), 210, .idxA 1 (.t 31) (.c (.d (.int .i64 1)))⟩, ⟨some 33, some (30, false), 211, .load false 1 (.t 32)⟩, ⟨some 34, some (30, false), 212, .bin .gtr .int (.t 33) (.c (.d (.int .u64 8)))⟩, pz 35 213 30 34 true]
def o48_3 : List AOper := [mi 2 300 0, ⟨some 3, none, 301, .mov (.c .nils)⟩, mi 4 302 6]
def o48_4 : List AOper := [⟨some 8, none, 400, .mov (.c .nils)⟩]
def o48_5 : List AOper := [mv 36 500 5, ⟨some 37, none, 501, .idxA 1 (.t 36) (.c (.d (.int .i64 1)))⟩, ld 38 502 37, ⟨some 39, none, 503, .mov (.c (.d (.int .u64 0)))⟩]
def o48_6 : List AOper := [bi 40 600 .lss 39 38]
def o48_7 : List AOper := [mv 42 700 0, mv 43 701 6, cl' 44 702 96 [.t 42, .t 43], mv 41 703 44, xt 45 704 41 0, xt 46 705 41 1, xt 47 706 41 2, mv 9 707 45, mv 10 708 46, mv 11 709 47]
def o48_8 : List AOper := [mv 48 800 11, bc 49 801 .neq 48 0, mv 50 802 49, gv 51 50 false 803 9, ⟨some 52, some (50, false), 804, .bin .gtr .int (.t 51) (.c (.d (.int .u64 4096)))⟩, pz 53 805 50 52 true]
def o48_9 : List AOper := [mi 2 900 0, ⟨some 3, none, 901, .mov (.c .nils)⟩, mi 4 902 6]
def o48_10 : List AOper := [mv 54 1000 10, mv 6 1001 54]
def o48_11 : List AOper := [⟨some 55, none, 1100, .bslice 2 1 []⟩, mv 12 1101 55]
def o48_12 : List AOper := [mv 56 1200 9, ⟨some 57, none, 1201, .mov (.c (.d (.int .u64 0)))⟩]
def o48_13 : List AOper := [bi 58 1300 .lss 57 56]
def o48_14 : List AOper := [mv 60 1400 0, mv 61 1401 6, cl' 62 1402 97 [.t 60, .t 61], mv 59 1403 62, xt 63 1404 59 0, xt 64 1405 59 1, xt 65 1406 59 2, mv 13 1407 63, mv 14 1408 64, mv 15 1409 65]
def o48_15 : List AOper := [mv 66 1500 15, bc 67 1501 .neq 66 0]
def o48_16 : List AOper := [mi 2 1600 0, ⟨some 3, none, 1601, .mov (.c .nils)⟩, mi 4 1602 6]
def o48_17 : List AOper := [mv 68 1700 12, mv 69 1701 13, ⟨some 70, none, 1702, .bslice 2 1 [.t 69]⟩, ⟨some 71, none, 1703, .app 2 1 8 (.t 68) (.t 70)⟩, mv 12 1704 71]
def o48_18 : List AOper := [mv 72 1800 14, mv 6 1801 72]
def o48_19 : List AOper := [⟨some 73, none, 1900, .bin .add .int (.t 57) (.c (.d (.int .u64 1)))⟩, mv 57 1901 73]
def o48_20 : List AOper := [mv 74 2000 8, mv 75 2001 12, ⟨some 76, none, 2002, .bslice 47 1 [.t 75]⟩, ⟨some 77, none, 2003, .app 47 1 24 (.t 74) (.t 76)⟩, mv 8 2004 77]
def o48_21 : List AOper := [⟨some 78, none, 2100, .bin .add .int (.t 39) (.c (.d (.int .u64 1)))⟩, mv 39 2101 78]
def o48_22 : List AOper := [mv 79 2200 6, mv 80 2201 0, ln 81 2202 80, bi 82 2203 .neq 79 81]
def o48_23 : List AOper := [mi 2 2300 0, ⟨some 3, none, 2301, .mov (.c .nils)⟩, mi 4 2302 6]
def o48_24 : List AOper := [mv 83 2400 5, ⟨some 84, none, 2401, .idxA 1 (.t 83) (.c (.d (.int .i64 0)))⟩, ld 85 2402 84, ⟨some 86, none, 2403, .convI .i64 (.t 85)⟩, mv 87 2404 8, mv 2 2405 86, mv 3 2406 87, mi 4 2407 0]
def o48_2t3_8 : List AOper := (o48_2.drop 3).take 5
def o48_2t9_14 : List AOper := (o48_2.drop 9).take 5
def o48_8t3_6 : List AOper := (o48_8.drop 3).take 3
def c48_7 : AC := .cond (.t 35) (.seq (.reg o48_3) .ret) .skip
def c48_14 : AC := .cond (.t 40) .skip (.exit 0)
def c48_21 : AC := .cond (.t 53) (.seq (.reg o48_9) .ret) .skip
def c48_29 : AC := .cond (.t 58) .skip (.exit 2)
def c48_36 : AC := .cond (.t 67) (.seq (.reg o48_16) .ret) .skip
def c48_39 : AC := .reg o48_18
def c48_40 : AC := .seq (.reg o48_17) c48_39
def c48_41 : AC := .seq (.seq (.reg o48_15) c48_36) c48_40
def c48_44 : AC := .reg o48_19
def c48_45 : AC := .seq (.block 3 (.seq (.reg o48_14) c48_41)) c48_44
def c48_47 : AC := .seq (.reg o48_13) (.seq c48_29 c48_45)
def c48_51 : AC := .reg o48_20
def c48_54 : AC := .seq (.reg o48_10) (.seq (.reg o48_11) (.seq (.seq (.reg o48_12) (.block 2 (.loop c48_47))) c48_51))
def c48_55 : AC := .seq (.seq (.reg o48_8) c48_21) c48_54
def c48_58 : AC := .reg o48_21
def c48_59 : AC := .seq (.block 1 (.seq (.reg o48_7) c48_55)) c48_58
def c48_61 : AC := .seq (.reg o48_6) (.seq c48_14 c48_59)
def c48_63 : AC := .block 0 (.loop c48_61)
def c48_70 : AC := .cond (.t 82) (.seq (.reg o48_23) .ret) .skip
def c48_74 : AC := .seq (.reg o48_24) .ret
def c48_75 : AC := .seq (.seq (.reg o48_22) c48_70) c48_74
def c48_77 : AC := .seq (.reg o48_4) (.seq (.seq (.reg o48_5) c48_63) c48_75)
def c48_78 : AC := .seq (.seq (.reg o48_2) c48_7) c48_77
def c48_80 : AC := .seq (.reg o48_0) (.seq (.reg o48_1) c48_78)
theorem fn48 : fnA Try.prog 48 = some (88, [.t 2, .t 3, .t 4], c48_80) := by kernel_rfl
def q_ok_thrumref20_Take_l1_ok (a0 : List Int) (r1 : (List Int) × Int × Int) (x0 : Int) (x1 : List (List Int)) (r4 : Int × Int × Int) (x0_ : Int) (x1_ : List Int) (x2_ : Int) (v : (Sum (Int × (List (List Int)) × Int) ((List Int) × Int))) : Prop := (fun v => go Try.prog 88 (PostR (fun r => Fnl [.t 2, .t 3, .t 4] (en_thrumref20_Take r) []) (.exit 2) (fun x : (List Int) × Int => ⟨[(12, sI (.h 2) x.1), (6, nI x.2), (39, nU x0), (38, nU (at' r1.1 1)), (8, .sl (.h 0) 1 0 (List.map (enL (D.int .i64)) x1)), (5, sU (.s 1616) r1.1), (0, lY a0)], []⟩) v) [.l c48_47] .norm ⟨[(57, nU x0_), (56, nU r4.1), (12, sI (.h 1) x1_), (6, nI x2_), (39, nU x0), (38, nU (at' r1.1 1)), (8, .sl (.h 0) 1 0 (List.map (enL (D.int .i64)) x1)), (5, sU (.s 1616) r1.1), (0, lY a0)], []⟩) v
theorem ok_thrumref20_Take_l1_ok (a0 : List Int) (r1 : (List Int) × Int × Int) (x0 : Int) (x1 : List (List Int)) (r4 : Int × Int × Int) (x0_ : Int) (x1_ : List Int) (x2_ : Int) : Ok (M_thrumref20_Take_l1 a0 r1 x0 x1 r4 x0_ x1_ x2_) (q_ok_thrumref20_Take_l1_ok a0 r1 x0 x1 r4 x0_ x1_ x2_) := by
  refine M_thrumref20_Take_l1.partial_correctness a0 r1 x0 x1 r4 (q_ok_thrumref20_Take_l1_ok a0 r1 x0 x1 r4) ?_ x0_ x1_ x2_
  clear x0_ x1_ x2_
  intro f' IH x0_ x1_ x2_
  refine okI ?_
  unfold q_ok_thrumref20_Take_l1_ok at *
  refine Av 1 [.c c48_47, .l c48_47] ⟨[(57, nU x0_), (56, nU r4.1), (12, sI (.h 1) x1_), (6, nI x2_), (39, nU x0), (38, nU (at' r1.1 1)), (8, .sl (.h 0) 1 0 (List.map (enL (D.int .i64)) x1)), (5, sU (.s 1616) r1.1), (0, lY a0)], []⟩ ?_
  refine Av 5 [.c c48_29, .c c48_45, .l c48_47] ⟨[(58, bB (decide (x0_ < r4.1))), (57, nU x0_), (56, nU r4.1), (12, sI (.h 1) x1_), (6, nI x2_), (39, nU x0), (38, nU (at' r1.1 1)), (8, .sl (.h 0) 1 0 (List.map (enL (D.int .i64)) x1)), (5, sU (.s 1616) r1.1), (0, lY a0)], []⟩ ?_
  refine L_split 58 rfl (fun _ => ?_) (fun _ => ?_)
  · refine Av 8 [.o false (o48_14.drop 2), .c c48_41, .b 3, .c c48_44, .l c48_47] ⟨[(61, nI x2_), (60, lY a0), (57, nU x0_), (56, nU r4.1), (12, sI (.h 1) x1_), (39, nU x0), (38, nU (at' r1.1 1)), (8, .sl (.h 0) 1 0 (List.map (enL (D.int .i64)) x1)), (5, sU (.s 1616) r1.1), (0, lY a0)], []⟩ ?_
    refine L_call (ok_thrumref03_Take a0 x2_) trivial rfl (fun _ => rfl) (fun _ => ⟨trivial, trivial, trivial, trivial⟩) (fun r6 => ?_)
    refine Av 14 [.c c48_36, .c c48_40, .b 3, .c c48_44, .l c48_47] ⟨[(67, bB (r6.2.2 != 0)), (14, nI r6.2.1), (13, nI r6.1), (57, nU x0_), (56, nU r4.1), (12, sI (.h 1) x1_), (39, nU x0), (38, nU (at' r1.1 1)), (8, .sl (.h 0) 1 0 (List.map (enL (D.int .i64)) x1)), (5, sU (.s 1616) r1.1), (0, lY a0)], []⟩ ?_
    refine L_split 67 decNe (fun _ => ?_) (fun _ => ?_)
    · refine Avk 12 [] .ret ⟨[(4, nI 6), (3, .nils), (2, nI 0)], []⟩ ?_
      exact L_retR
    · refine Av 7 [.o false (o48_17.drop 3), .c c48_39, .b 3, .c c48_44, .l c48_47] ⟨[(70, sI (.s 27247) [r6.1]), (68, sI (.h 1) x1_), (14, nI r6.2.1), (57, nU x0_), (56, nU r4.1), (39, nU x0), (38, nU (at' r1.1 1)), (8, .sl (.h 0) 1 0 (List.map (enL (D.int .i64)) x1)), (5, sU (.s 1616) r1.1), (0, lY a0)], []⟩ ?_
      refine L_app (enc := D.int .i64) (l := x1_) (l2 := [r6.1]) trivial rfl rfl (fun _ => rfl) (fun _ => ?_)
      refine Av 11 [.l c48_47] ⟨[(57, nU (IntKind.u64.wrap (x0_ + 1))), (6, nI r6.2.1), (12, sI (.s 27263) (x1_ ++ [r6.1])), (56, nU r4.1), (39, nU x0), (38, nU (at' r1.1 1)), (8, .sl (.h 0) 1 0 (List.map (enL (D.int .i64)) x1)), (5, sU (.s 1616) r1.1), (0, lY a0)], []⟩ ?_
      exact L_again (IH (IntKind.u64.wrap (x0_ + 1)) (x1_ ++ [r6.1]) r6.2.1)
  · refine Avk 4 [] (.exit 2) ⟨[(12, sI (.h 1) x1_), (6, nI x2_), (39, nU x0), (38, nU (at' r1.1 1)), (8, .sl (.h 0) 1 0 (List.map (enL (D.int .i64)) x1)), (5, sU (.s 1616) r1.1), (0, lY a0)], []⟩ ?_
    exact L_endR
def q_ok_thrumref20_Take_l0_ok (a0 : List Int) (r1 : (List Int) × Int × Int) (x0 : Int) (x1 : List (List Int)) (x2 : Int) (v : (Sum (Int × (List (List Int)) × Int) ((List (List Int)) × Int))) : Prop := (fun v => go Try.prog 88 (PostR (fun r => Fnl [.t 2, .t 3, .t 4] (en_thrumref20_Take r) []) (.exit 0) (fun x : (List (List Int)) × Int => ⟨[(8, .sl (.h 1) 1 0 (List.map (enL (D.int .i64)) x.1)), (6, nI x.2), (5, sU (.s 1616) r1.1), (0, lY a0)], []⟩) v) [.l c48_61] .norm ⟨[(39, nU x0), (38, nU (at' r1.1 1)), (8, .sl (.h 0) 1 0 (List.map (enL (D.int .i64)) x1)), (6, nI x2), (5, sU (.s 1616) r1.1), (0, lY a0)], []⟩) v
theorem ok_thrumref20_Take_l0_ok (a0 : List Int) (r1 : (List Int) × Int × Int) (x0 : Int) (x1 : List (List Int)) (x2 : Int) : Ok (M_thrumref20_Take_l0 a0 r1 x0 x1 x2) (q_ok_thrumref20_Take_l0_ok a0 r1 x0 x1 x2) := by
  refine M_thrumref20_Take_l0.partial_correctness a0 r1 (q_ok_thrumref20_Take_l0_ok a0 r1) ?_ x0 x1 x2
  clear x0 x1 x2
  intro f' IH x0 x1 x2
  refine okI ?_
  unfold q_ok_thrumref20_Take_l0_ok at *
  refine Av 1 [.c c48_61, .l c48_61] ⟨[(39, nU x0), (38, nU (at' r1.1 1)), (8, .sl (.h 0) 1 0 (List.map (enL (D.int .i64)) x1)), (6, nI x2), (5, sU (.s 1616) r1.1), (0, lY a0)], []⟩ ?_
  refine Av 5 [.c c48_14, .c c48_59, .l c48_61] ⟨[(40, bB (decide (x0 < (at' r1.1 1)))), (39, nU x0), (38, nU (at' r1.1 1)), (8, .sl (.h 0) 1 0 (List.map (enL (D.int .i64)) x1)), (6, nI x2), (5, sU (.s 1616) r1.1), (0, lY a0)], []⟩ ?_
  refine L_split 40 rfl (fun _ => ?_) (fun _ => ?_)
  · refine Av 8 [.o false (o48_7.drop 2), .c c48_55, .b 1, .c c48_58, .l c48_61] ⟨[(43, nI x2), (42, lY a0), (39, nU x0), (38, nU (at' r1.1 1)), (8, .sl (.h 0) 1 0 (List.map (enL (D.int .i64)) x1)), (5, sU (.s 1616) r1.1), (0, lY a0)], []⟩ ?_
    refine L_call (ok_thrumref03_Get a0 x2) trivial rfl (fun _ => rfl) (fun _ => ⟨trivial, trivial, trivial, trivial⟩) (fun r4 => ?_)
    refine Av 14 [.o false (o48_8.drop 3), .c c48_21, .c c48_54, .b 1, .c c48_58, .l c48_61] ⟨[(50, bB (r4.2.2 != 0)), (10, nI r4.2.1), (9, nU r4.1), (39, nU x0), (38, nU (at' r1.1 1)), (8, .sl (.h 0) 1 0 (List.map (enL (D.int .i64)) x1)), (5, sU (.s 1616) r1.1), (0, lY a0)], []⟩ ?_
    refine L_take 3 o48_8t3_6 (o48_8.drop 6) ?_
    refine L_join [.o false o48_8t3_6] [.o false (o48_8.drop 6), .c c48_21, .c c48_54, .b 1, .c c48_58, .l c48_61] (fun x : Bool => ⟨[(53, bB x), (10, nI r4.2.1), (9, nU r4.1), (39, nU x0), (38, nU (at' r1.1 1)), (8, .sl (.h 0) 1 0 (List.map (enL (D.int .i64)) x1)), (5, sU (.s 1616) r1.1), (0, lY a0)], []⟩) ?_ (fun j5 => ?_)
    · refine L_split 50 decNe (fun _ => ?_) (fun _ => ?_)
      · refine Av 4 [] ⟨[(53, bB true), (10, nI r4.2.1), (9, nU r4.1), (39, nU x0), (38, nU (at' r1.1 1)), (8, .sl (.h 0) 1 0 (List.map (enL (D.int .i64)) x1)), (5, sU (.s 1616) r1.1), (0, lY a0)], []⟩ ?_
        exact L_end
      · refine Av 4 [] ⟨[(53, bB (decide (r4.1 > 4096))), (10, nI r4.2.1), (9, nU r4.1), (39, nU x0), (38, nU (at' r1.1 1)), (8, .sl (.h 0) 1 0 (List.map (enL (D.int .i64)) x1)), (5, sU (.s 1616) r1.1), (0, lY a0)], []⟩ ?_
        exact L_end
    · refine Av 1 [.c c48_21, .c c48_54, .b 1, .c c48_58, .l c48_61] ⟨[(53, bB j5), (10, nI r4.2.1), (9, nU r4.1), (39, nU x0), (38, nU (at' r1.1 1)), (8, .sl (.h 0) 1 0 (List.map (enL (D.int .i64)) x1)), (5, sU (.s 1616) r1.1), (0, lY a0)], []⟩ ?_
      refine L_split 53 decT (fun _ => ?_) (fun _ => ?_)
      · refine Avk 12 [] .ret ⟨[(4, nI 6), (3, .nils), (2, nI 0)], []⟩ ?_
        exact L_retR
      · refine Av 20 [.l c48_47, .b 2, .c c48_51, .b 1, .c c48_58, .l c48_61] ⟨[(57, nU 0), (56, nU r4.1), (12, sI (.s 17615) []), (6, nI r4.2.1), (39, nU x0), (38, nU (at' r1.1 1)), (8, .sl (.h 0) 1 0 (List.map (enL (D.int .i64)) x1)), (5, sU (.s 1616) r1.1), (0, lY a0)], []⟩ ?_
        refine L_pieceR (fs := [.l c48_47]) (ks := [.b 2, .c c48_51, .b 1, .c c48_58, .l c48_61]) (ok_thrumref20_Take_l1_ok a0 r1 x0 x1 r4 0 [] r4.2.1) L_thruR (fun j7 => ?_)
        refine Av 5 [.o false (o48_20.drop 3), .b 1, .c c48_58, .l c48_61] ⟨[(76, .sl (.s 32047) 1 0 (List.map (enL (D.int .i64)) [j7.1])), (74, .sl (.h 0) 1 0 (List.map (enL (D.int .i64)) x1)), (6, nI j7.2), (39, nU x0), (38, nU (at' r1.1 1)), (5, sU (.s 1616) r1.1), (0, lY a0)], []⟩ ?_
        refine L_app (enc := enL (D.int .i64)) (l := x1) (l2 := [j7.1]) trivial rfl rfl (fun _ => rfl) (fun _ => ?_)
        refine Av 7 [.l c48_61] ⟨[(39, nU (IntKind.u64.wrap (x0 + 1))), (8, .sl (.s 32063) 1 0 (List.map (enL (D.int .i64)) (x1 ++ [j7.1]))), (6, nI j7.2), (38, nU (at' r1.1 1)), (5, sU (.s 1616) r1.1), (0, lY a0)], []⟩ ?_
        exact L_again (IH (IntKind.u64.wrap (x0 + 1)) (x1 ++ [j7.1]) j7.2)
  · refine Avk 4 [] (.exit 0) ⟨[(8, .sl (.h 0) 1 0 (List.map (enL (D.int .i64)) x1)), (6, nI x2), (5, sU (.s 1616) r1.1), (0, lY a0)], []⟩ ?_
    exact L_endR
theorem ok_thrumref20_Take (a0 : List Int) : ∀ v, M_thrumref20_Take a0 = some v → EvF Try.prog 48 [.lst (List.map (D.int .u8) a0)] (en_thrumref20_Take v) := by
  intro v hv
  refine EvF_go fn48 (Nat.le_of_ble_eq_true rfl) ?_
  suffices h : Ok (M_thrumref20_Take a0) fun v => go Try.prog 88 (Fnl [.t 2, .t 3, .t 4] (en_thrumref20_Take v) []) [.c c48_80] .norm (initSt (List.map PV.d [.lst (List.map (D.int .u8) a0)]) []) from h v hv
  unfold M_thrumref20_Take
  refine Av 9 [.o false (o48_1.drop 1), .c c48_78] ⟨[(17, lY a0), (0, lY a0)], []⟩ ?_
  refine L_call (ok_thrumref03_Many a0 0 2) trivial rfl (fun _ => rfl) (fun _ => ⟨(flat_map_of fun _ => trivial), trivial, trivial, trivial⟩) (fun r1 => ?_)
  refine Av 14 [.o false (o48_2.drop 3), .c c48_7, .c c48_77] ⟨[(24, bB (r1.2.2 != 0)), (6, nI r1.2.1), (5, sU (.s 1616) r1.1), (0, lY a0)], []⟩ ?_
  refine L_take 5 o48_2t3_8 (o48_2.drop 8) ?_
  refine L_join [.o false o48_2t3_8] [.o false (o48_2.drop 8), .c c48_7, .c c48_77] (fun x : Bool => ⟨[(29, bB x), (6, nI r1.2.1), (5, sU (.s 1616) r1.1), (0, lY a0)], []⟩) ?_ (fun j2 => ?_)
  · refine L_split 24 decNe (fun _ => ?_) (fun _ => ?_)
    · refine Av 6 [] ⟨[(29, bB true), (6, nI r1.2.1), (5, sU (.s 1616) r1.1), (0, lY a0)], []⟩ ?_
      exact L_end
    · refine Av 1 [.o false (o48_2t3_8.drop 1)] ⟨[(25, sU (.s 1616) r1.1), (24, bB false), (6, nI r1.2.1), (5, sU (.s 1616) r1.1), (0, lY a0)], []⟩ ?_
      refine L_idxO (enc := D.int .u64) (l := r1.1) (iv := 0) rfl rfl rfl (fun hc204 => ?_)
      refine Av 4 [] ⟨[(29, bB (decide ((at' r1.1 0) > 1073741824))), (6, nI r1.2.1), (5, sU (.s 1616) r1.1), (0, lY a0)], []⟩ ?_
      exact L_end
  · refine Av 1 [.o false (o48_2.drop 9), .c c48_7, .c c48_77] ⟨[(30, bB j2), (6, nI r1.2.1), (5, sU (.s 1616) r1.1), (0, lY a0)], []⟩ ?_
    refine L_take 5 o48_2t9_14 (o48_2.drop 14) ?_
    refine L_join [.o false o48_2t9_14] [.o false (o48_2.drop 14), .c c48_7, .c c48_77] (fun x : Bool => ⟨[(35, bB x), (6, nI r1.2.1), (5, sU (.s 1616) r1.1), (0, lY a0)], []⟩) ?_ (fun j3 => ?_)
    · refine L_split 30 decT (fun _ => ?_) (fun _ => ?_)
      · refine Av 6 [] ⟨[(35, bB true), (6, nI r1.2.1), (5, sU (.s 1616) r1.1), (0, lY a0)], []⟩ ?_
        exact L_end
      · refine Av 1 [.o false (o48_2t9_14.drop 1)] ⟨[(31, sU (.s 1616) r1.1), (30, bB false), (6, nI r1.2.1), (5, sU (.s 1616) r1.1), (0, lY a0)], []⟩ ?_
        refine L_idxO (enc := D.int .u64) (l := r1.1) (iv := 1) rfl rfl rfl (fun hc210 => ?_)
        refine Av 4 [] ⟨[(35, bB (decide ((at' r1.1 1) > 8))), (6, nI r1.2.1), (5, sU (.s 1616) r1.1), (0, lY a0)], []⟩ ?_
        exact L_end
    · refine Av 1 [.c c48_7, .c c48_77] ⟨[(35, bB j3), (6, nI r1.2.1), (5, sU (.s 1616) r1.1), (0, lY a0)], []⟩ ?_
      refine L_split 35 decT (fun _ => ?_) (fun _ => ?_)
      · refine Avk 9 [] .ret ⟨[(4, nI 6), (3, .nils), (2, nI 0)], []⟩ ?_
        exact L_ret
      · refine Av 10 [.o false (o48_5.drop 1), .c c48_63, .c c48_75] ⟨[(36, sU (.s 1616) r1.1), (8, .nils), (6, nI r1.2.1), (5, sU (.s 1616) r1.1), (0, lY a0)], []⟩ ?_
        refine L_idxO (enc := D.int .u64) (l := r1.1) (iv := 1) trivial rfl rfl (fun hc501 => ?_)
        refine Av 5 [.l c48_61, .b 0, .c c48_75] ⟨[(39, nU 0), (38, nU (at' r1.1 1)), (8, .nils), (6, nI r1.2.1), (5, sU (.s 1616) r1.1), (0, lY a0)], []⟩ ?_
        refine L_pieceR (fs := [.l c48_61]) (ks := [.b 0, .c c48_75]) (ok_thrumref20_Take_l0_ok a0 r1 0 [] r1.2.1) L_thru (fun j8 => ?_)
        refine Av 6 [.o false (o48_22.drop 2), .c c48_70, .c c48_74] ⟨[(80, lY a0), (79, nI j8.2), (8, .sl (.h 1) 1 0 (List.map (enL (D.int .i64)) j8.1)), (5, sU (.s 1616) r1.1)], []⟩ ?_
        refine L_len (enc := D.int .u8) (l := a0) trivial rfl ?_
        refine Av 2 [.c c48_70, .c c48_74] ⟨[(82, bB (j8.2 != (a0.length : Int))), (8, .sl (.h 1) 1 0 (List.map (enL (D.int .i64)) j8.1)), (5, sU (.s 1616) r1.1)], []⟩ ?_
        refine L_split 82 decNe (fun _ => ?_) (fun _ => ?_)
        · refine Avk 9 [] .ret ⟨[(4, nI 6), (3, .nils), (2, nI 0)], []⟩ ?_
          exact L_ret
        · refine Av 5 [.o false (o48_24.drop 1), .c .ret] ⟨[(83, sU (.s 1616) r1.1), (8, .sl (.h 1) 1 0 (List.map (enL (D.int .i64)) j8.1))], []⟩ ?_
          refine L_idxO (enc := D.int .u64) (l := r1.1) (iv := 0) trivial rfl rfl (fun hc2401 => ?_)
          refine Avk 8 [] .ret ⟨[(4, nI 0), (3, .sl (.h 1) 1 0 (List.map (enL (D.int .i64)) j8.1)), (2, nI (IntKind.i64.wrap (at' r1.1 0)))], []⟩ ?_
          exact L_ret
/-- thrum/thrumref02.Same. -/
def en_thrumref02_Same (v : Bool) : PV := bB v
def o98_0 : List AOper := [mb 4 0 false]
def o98_1 : List AOper := [mv 6 100 0, ln 7 101 6, mv 8 102 1, ln 9 103 8, bi 10 104 .neq 7 9]
def o98_2 : List AOper := [mb 4 200 false]
def o98_3 : List AOper := [mv 11 300 0, ln 12 301 11, mi 13 302 0]
def o98_4 : List AOper := [bi 14 400 .lss 13 12]
def o98_5 : List AOper := [mv 15 500 13, mv 5 501 15]
def o98_6 : List AOper := [mv 16 600 0, mv 17 601 5, ⟨some 18, none, 602, .idxA 1 (.t 16) (.t 17)⟩, ld 19 603 18, mv 20 604 1, mv 21 605 5, ⟨some 22, none, 606, .idxA 1 (.t 20) (.t 21)⟩, ld 23 607 22, bi 24 608 .neq 19 23]
def o98_7 : List AOper := [mb 4 700 false]
def o98_8 : List AOper := [bc 25 800 .add 13 1, mv 13 801 25]
def o98_9 : List AOper := [mb 4 900 true]
def c98_6 : AC := .cond (.t 10) (.seq (.reg o98_2) .ret) .skip
def c98_12 : AC := .cond (.t 14) .skip (.exit 0)
def c98_14 : AC := .draw [⟨mv 16 600 0, false, []⟩, ⟨mv 17 601 5, false, []⟩, ⟨⟨some 18, none, 602, .idxA 1 (.t 16) (.t 17)⟩, false, []⟩, ⟨ld 19 603 18, false, []⟩, ⟨mv 20 604 1, false, []⟩, ⟨mv 21 605 5, false, []⟩, ⟨⟨some 22, none, 606, .idxA 1 (.t 20) (.t 21)⟩, false, []⟩, ⟨ld 23 607 22, false, []⟩, ⟨bi 24 608 .neq 19 23, false, []⟩]
def c98_19 : AC := .cond (.t 24) (.seq (.reg o98_7) .ret) .skip
def c98_23 : AC := .reg o98_8
def c98_24 : AC := .seq (.block 1 (.seq (.reg o98_5) (.seq c98_14 c98_19))) c98_23
def c98_26 : AC := .seq (.reg o98_4) (.seq c98_12 c98_24)
def c98_28 : AC := .block 0 (.loop c98_26)
def c98_32 : AC := .seq (.reg o98_9) .ret
def c98_33 : AC := .seq (.seq (.reg o98_3) c98_28) c98_32
def c98_35 : AC := .seq (.reg o98_0) (.seq (.seq (.reg o98_1) c98_6) c98_33)
theorem fn98 : fnA Try.prog 98 = some (26, [.t 4], c98_35) := by kernel_rfl
def q_ok_thrumref02_Same_l0_ok (a0 : List Int) (a1 : List Int) (x0 : Int) (v : (Sum Bool Unit)) : Prop := (fun v => go Try.prog 26 (PostR (fun r => Fnl [.t 4] (en_thrumref02_Same r) []) (.exit 0) (fun x : Unit => ⟨[], []⟩) v) [.l c98_26] .norm ⟨[(13, nI x0), (12, nI (a0.length : Int)), (0, lI a0), (1, lI a1)], []⟩) v
theorem ok_thrumref02_Same_l0_ok (a0 : List Int) (a1 : List Int) (x0 : Int) : Ok (M_thrumref02_Same_l0 a0 a1 x0) (q_ok_thrumref02_Same_l0_ok a0 a1 x0) := by
  refine M_thrumref02_Same_l0.partial_correctness a0 a1 (q_ok_thrumref02_Same_l0_ok a0 a1) ?_ x0
  clear x0
  intro f' IH x0
  refine okI ?_
  unfold q_ok_thrumref02_Same_l0_ok at *
  refine Av 1 [.c c98_26, .l c98_26] ⟨[(13, nI x0), (12, nI (a0.length : Int)), (0, lI a0), (1, lI a1)], []⟩ ?_
  refine Av 5 [.c c98_12, .c c98_24, .l c98_26] ⟨[(14, bB (decide (x0 < (a0.length : Int)))), (13, nI x0), (12, nI (a0.length : Int)), (0, lI a0), (1, lI a1)], []⟩ ?_
  refine L_split 14 rfl (fun _ => ?_) (fun _ => ?_)
  · refine Av 10 [.c c98_14, .c c98_19, .b 1, .c c98_23, .l c98_26] ⟨[(5, nI x0), (13, nI x0), (12, nI (a0.length : Int)), (0, lI a0), (1, lI a1)], []⟩ ?_
    refine Ae 3 [.o true (o98_6.drop 2), .c c98_19, .b 1, .c c98_23, .l c98_26] ⟨[(17, nI x0), (16, lI a0), (5, nI x0), (13, nI x0), (12, nI (a0.length : Int)), (0, lI a0), (1, lI a1)], []⟩ ?_
    refine L_idxD (enc := D.int .i64) (l := a0) (iv := x0) trivial rfl rfl (fun _ => rfl) (fun hc602 => ?_)
    refine Ae 3 [.o true (o98_6.drop 6), .c c98_19, .b 1, .c c98_23, .l c98_26] ⟨[(21, nI x0), (20, lI a1), (19, nI (at' a0 x0)), (18, .d (.cp [.int .i64 (at' a0 x0)] 0)), (17, nI x0), (16, lI a0), (5, nI x0), (13, nI x0), (12, nI (a0.length : Int)), (0, lI a0), (1, lI a1)], []⟩ ?_
    refine L_idxD (enc := D.int .i64) (l := a1) (iv := x0) trivial rfl rfl (fun _ => rfl) (fun hc606 => ?_)
    refine Av 3 [.c c98_19, .b 1, .c c98_23, .l c98_26] ⟨[(24, bB ((at' a0 x0) != (at' a1 x0))), (13, nI x0), (12, nI (a0.length : Int)), (0, lI a0), (1, lI a1)], []⟩ ?_
    refine L_split 24 decNe (fun _ => ?_) (fun _ => ?_)
    · refine Avk 9 [] .ret ⟨[(4, bB false)], []⟩ ?_
      exact L_retR
    · refine Av 7 [.l c98_26] ⟨[(13, nI (IntKind.i64.wrap (x0 + 1))), (12, nI (a0.length : Int)), (0, lI a0), (1, lI a1)], []⟩ ?_
      exact L_again (IH (IntKind.i64.wrap (x0 + 1)))
  · refine Avk 4 [] (.exit 0) ⟨[], []⟩ ?_
    exact L_endR
theorem ok_thrumref02_Same (a0 : List Int) (a1 : List Int) : ∀ v, M_thrumref02_Same a0 a1 = some v → EvF Try.prog 98 [.lst (List.map (D.int .i64) a0), .lst (List.map (D.int .i64) a1)] (en_thrumref02_Same v) := by
  intro v hv
  refine EvF_go fn98 (Nat.le_of_ble_eq_true rfl) ?_
  suffices h : Ok (M_thrumref02_Same a0 a1) fun v => go Try.prog 26 (Fnl [.t 4] (en_thrumref02_Same v) []) [.c c98_35] .norm (initSt (List.map PV.d [.lst (List.map (D.int .i64) a0), .lst (List.map (D.int .i64) a1)]) []) from h v hv
  unfold M_thrumref02_Same
  refine Av 8 [.o false (o98_1.drop 1), .c c98_6, .c c98_33] ⟨[(6, lI a0), (0, lI a0), (1, lI a1)], []⟩ ?_
  refine L_len (enc := D.int .i64) (l := a0) trivial rfl ?_
  refine Av 1 [.o false (o98_1.drop 3), .c c98_6, .c c98_33] ⟨[(8, lI a1), (7, nI (a0.length : Int)), (0, lI a0), (1, lI a1)], []⟩ ?_
  refine L_len (enc := D.int .i64) (l := a1) trivial rfl ?_
  refine Av 2 [.c c98_6, .c c98_33] ⟨[(10, bB ((a0.length : Int) != (a1.length : Int))), (0, lI a0), (1, lI a1)], []⟩ ?_
  refine L_split 10 decNe (fun _ => ?_) (fun _ => ?_)
  · refine Avk 7 [] .ret ⟨[(4, bB false)], []⟩ ?_
    exact L_ret
  · refine Av 6 [.o false (o98_3.drop 1), .c c98_28, .c c98_32] ⟨[(11, lI a0), (0, lI a0), (1, lI a1)], []⟩ ?_
    refine L_len (enc := D.int .i64) (l := a0) trivial rfl ?_
    refine Av 4 [.l c98_26, .b 0, .c c98_32] ⟨[(13, nI 0), (12, nI (a0.length : Int)), (0, lI a0), (1, lI a1)], []⟩ ?_
    refine L_pieceR (fs := [.l c98_26]) (ks := [.b 0, .c c98_32]) (ok_thrumref02_Same_l0_ok a0 a1 0) L_thru (fun j1 => ?_)
    refine Avk 6 [] .ret ⟨[(4, bB true)], []⟩ ?_
    exact L_ret
/-- thrum/thrumref15.SameLists. -/
def en_thrumref15_SameLists (v : Bool) : PV := bB v
def o49_0 : List AOper := [mb 4 0 false]
def o49_1 : List AOper := [mv 6 100 0, ln 7 101 6, mv 8 102 1, ln 9 103 8, bi 10 104 .neq 7 9]
def o49_2 : List AOper := [mb 4 200 false]
def o49_3 : List AOper := [mv 11 300 0, ln 12 301 11, mi 13 302 0]
def o49_4 : List AOper := [bi 14 400 .lss 13 12]
def o49_5 : List AOper := [mv 15 500 13, mv 5 501 15]
def o49_6 : List AOper := [mv 16 600 0, mv 17 601 5, ⟨some 18, none, 602, .idxA 1 (.t 16) (.t 17)⟩, ld 19 603 18, mv 20 604 1, mv 21 605 5, ⟨some 22, none, 606, .idxA 1 (.t 20) (.t 21)⟩, ld 23 607 22, cl' 24 608 98 [.t 19, .t 23], ⟨some 25, none, 609, .un .not (.t 24)⟩]
def o49_7 : List AOper := [mb 4 700 false]
def o49_8 : List AOper := [bc 26 800 .add 13 1, mv 13 801 26]
def o49_9 : List AOper := [mb 4 900 true]
def c49_6 : AC := .cond (.t 10) (.seq (.reg o49_2) .ret) .skip
def c49_12 : AC := .cond (.t 14) .skip (.exit 0)
def c49_14 : AC := .draw [⟨mv 16 600 0, false, []⟩, ⟨mv 17 601 5, false, []⟩, ⟨⟨some 18, none, 602, .idxA 1 (.t 16) (.t 17)⟩, false, []⟩, ⟨ld 19 603 18, false, []⟩, ⟨mv 20 604 1, false, []⟩, ⟨mv 21 605 5, false, []⟩, ⟨⟨some 22, none, 606, .idxA 1 (.t 20) (.t 21)⟩, false, []⟩, ⟨ld 23 607 22, false, []⟩, ⟨cl' 24 608 98 [.t 19, .t 23], true, []⟩, ⟨⟨some 25, none, 609, .un .not (.t 24)⟩, false, []⟩]
def c49_19 : AC := .cond (.t 25) (.seq (.reg o49_7) .ret) .skip
def c49_23 : AC := .reg o49_8
def c49_24 : AC := .seq (.block 1 (.seq (.reg o49_5) (.seq c49_14 c49_19))) c49_23
def c49_26 : AC := .seq (.reg o49_4) (.seq c49_12 c49_24)
def c49_28 : AC := .block 0 (.loop c49_26)
def c49_32 : AC := .seq (.reg o49_9) .ret
def c49_33 : AC := .seq (.seq (.reg o49_3) c49_28) c49_32
def c49_35 : AC := .seq (.reg o49_0) (.seq (.seq (.reg o49_1) c49_6) c49_33)
theorem fn49 : fnA Try.prog 49 = some (27, [.t 4], c49_35) := by kernel_rfl
def q_ok_thrumref15_SameLists_l0_ok (a0 : List (List Int)) (a1 : List (List Int)) (x0 : Int) (v : (Sum Bool Unit)) : Prop := (fun v => go Try.prog 27 (PostR (fun r => Fnl [.t 4] (en_thrumref15_SameLists r) []) (.exit 0) (fun x : Unit => ⟨[], []⟩) v) [.l c49_26] .norm ⟨[(13, nI x0), (12, nI (a0.length : Int)), (0, .d (.lst (List.map (enL (D.int .i64)) a0))), (1, .d (.lst (List.map (enL (D.int .i64)) a1)))], []⟩) v
theorem ok_thrumref15_SameLists_l0_ok (a0 : List (List Int)) (a1 : List (List Int)) (x0 : Int) : Ok (M_thrumref15_SameLists_l0 a0 a1 x0) (q_ok_thrumref15_SameLists_l0_ok a0 a1 x0) := by
  refine M_thrumref15_SameLists_l0.partial_correctness a0 a1 (q_ok_thrumref15_SameLists_l0_ok a0 a1) ?_ x0
  clear x0
  intro f' IH x0
  refine okI ?_
  unfold q_ok_thrumref15_SameLists_l0_ok at *
  refine Av 1 [.c c49_26, .l c49_26] ⟨[(13, nI x0), (12, nI (a0.length : Int)), (0, .d (.lst (List.map (enL (D.int .i64)) a0))), (1, .d (.lst (List.map (enL (D.int .i64)) a1)))], []⟩ ?_
  refine Av 5 [.c c49_12, .c c49_24, .l c49_26] ⟨[(14, bB (decide (x0 < (a0.length : Int)))), (13, nI x0), (12, nI (a0.length : Int)), (0, .d (.lst (List.map (enL (D.int .i64)) a0))), (1, .d (.lst (List.map (enL (D.int .i64)) a1)))], []⟩ ?_
  refine L_split 14 rfl (fun _ => ?_) (fun _ => ?_)
  · refine Av 10 [.c c49_14, .c c49_19, .b 1, .c c49_23, .l c49_26] ⟨[(5, nI x0), (13, nI x0), (12, nI (a0.length : Int)), (0, .d (.lst (List.map (enL (D.int .i64)) a0))), (1, .d (.lst (List.map (enL (D.int .i64)) a1)))], []⟩ ?_
    refine Ae 3 [.o true (o49_6.drop 2), .c c49_19, .b 1, .c c49_23, .l c49_26] ⟨[(17, nI x0), (16, .d (.lst (List.map (enL (D.int .i64)) a0))), (5, nI x0), (13, nI x0), (12, nI (a0.length : Int)), (0, .d (.lst (List.map (enL (D.int .i64)) a0))), (1, .d (.lst (List.map (enL (D.int .i64)) a1)))], []⟩ ?_
    refine L_idxD (enc := enL (D.int .i64)) (l := a0) (iv := x0) trivial rfl rfl (fun _ => rfl) (fun hc602 => ?_)
    refine Ae 3 [.o true (o49_6.drop 6), .c c49_19, .b 1, .c c49_23, .l c49_26] ⟨[(21, nI x0), (20, .d (.lst (List.map (enL (D.int .i64)) a1))), (19, lI (at' a0 x0)), (18, .d (.cp [.lst (List.map (D.int .i64) (at' a0 x0))] 0)), (17, nI x0), (16, .d (.lst (List.map (enL (D.int .i64)) a0))), (5, nI x0), (13, nI x0), (12, nI (a0.length : Int)), (0, .d (.lst (List.map (enL (D.int .i64)) a0))), (1, .d (.lst (List.map (enL (D.int .i64)) a1)))], []⟩ ?_
    refine L_idxD (enc := enL (D.int .i64)) (l := a1) (iv := x0) trivial rfl rfl (fun _ => rfl) (fun hc606 => ?_)
    refine Ae 1 [.o true (o49_6.drop 8), .c c49_19, .b 1, .c c49_23, .l c49_26] ⟨[(23, lI (at' a1 x0)), (22, .d (.cp [.lst (List.map (D.int .i64) (at' a1 x0))] 0)), (21, nI x0), (20, .d (.lst (List.map (enL (D.int .i64)) a1))), (19, lI (at' a0 x0)), (18, .d (.cp [.lst (List.map (D.int .i64) (at' a0 x0))] 0)), (17, nI x0), (16, .d (.lst (List.map (enL (D.int .i64)) a0))), (5, nI x0), (13, nI x0), (12, nI (a0.length : Int)), (0, .d (.lst (List.map (enL (D.int .i64)) a0))), (1, .d (.lst (List.map (enL (D.int .i64)) a1)))], []⟩ ?_
    refine L_call (ok_thrumref02_Same (at' a0 x0) (at' a1 x0)) trivial rfl (fun _ => rfl) (fun _ => trivial) (fun r1 => ?_)
    refine Av 2 [.c c49_19, .b 1, .c c49_23, .l c49_26] ⟨[(25, bB (!r1)), (13, nI x0), (12, nI (a0.length : Int)), (0, .d (.lst (List.map (enL (D.int .i64)) a0))), (1, .d (.lst (List.map (enL (D.int .i64)) a1)))], []⟩ ?_
    refine L_split 25 decF (fun _ => ?_) (fun _ => ?_)
    · refine Avk 9 [] .ret ⟨[(4, bB false)], []⟩ ?_
      exact L_retR
    · refine Av 7 [.l c49_26] ⟨[(13, nI (IntKind.i64.wrap (x0 + 1))), (12, nI (a0.length : Int)), (0, .d (.lst (List.map (enL (D.int .i64)) a0))), (1, .d (.lst (List.map (enL (D.int .i64)) a1)))], []⟩ ?_
      exact L_again (IH (IntKind.i64.wrap (x0 + 1)))
  · refine Avk 4 [] (.exit 0) ⟨[], []⟩ ?_
    exact L_endR
theorem ok_thrumref15_SameLists (a0 : List (List Int)) (a1 : List (List Int)) : ∀ v, M_thrumref15_SameLists a0 a1 = some v → EvF Try.prog 49 [.lst (List.map (enL (D.int .i64)) a0), .lst (List.map (enL (D.int .i64)) a1)] (en_thrumref15_SameLists v) := by
  intro v hv
  refine EvF_go fn49 (Nat.le_of_ble_eq_true rfl) ?_
  suffices h : Ok (M_thrumref15_SameLists a0 a1) fun v => go Try.prog 27 (Fnl [.t 4] (en_thrumref15_SameLists v) []) [.c c49_35] .norm (initSt (List.map PV.d [.lst (List.map (enL (D.int .i64)) a0), .lst (List.map (enL (D.int .i64)) a1)]) []) from h v hv
  unfold M_thrumref15_SameLists
  refine Av 8 [.o false (o49_1.drop 1), .c c49_6, .c c49_33] ⟨[(6, .d (.lst (List.map (enL (D.int .i64)) a0))), (0, .d (.lst (List.map (enL (D.int .i64)) a0))), (1, .d (.lst (List.map (enL (D.int .i64)) a1)))], []⟩ ?_
  refine L_len (enc := enL (D.int .i64)) (l := a0) trivial rfl ?_
  refine Av 1 [.o false (o49_1.drop 3), .c c49_6, .c c49_33] ⟨[(8, .d (.lst (List.map (enL (D.int .i64)) a1))), (7, nI (a0.length : Int)), (0, .d (.lst (List.map (enL (D.int .i64)) a0))), (1, .d (.lst (List.map (enL (D.int .i64)) a1)))], []⟩ ?_
  refine L_len (enc := enL (D.int .i64)) (l := a1) trivial rfl ?_
  refine Av 2 [.c c49_6, .c c49_33] ⟨[(10, bB ((a0.length : Int) != (a1.length : Int))), (0, .d (.lst (List.map (enL (D.int .i64)) a0))), (1, .d (.lst (List.map (enL (D.int .i64)) a1)))], []⟩ ?_
  refine L_split 10 decNe (fun _ => ?_) (fun _ => ?_)
  · refine Avk 7 [] .ret ⟨[(4, bB false)], []⟩ ?_
    exact L_ret
  · refine Av 6 [.o false (o49_3.drop 1), .c c49_28, .c c49_32] ⟨[(11, .d (.lst (List.map (enL (D.int .i64)) a0))), (0, .d (.lst (List.map (enL (D.int .i64)) a0))), (1, .d (.lst (List.map (enL (D.int .i64)) a1)))], []⟩ ?_
    refine L_len (enc := enL (D.int .i64)) (l := a0) trivial rfl ?_
    refine Av 4 [.l c49_26, .b 0, .c c49_32] ⟨[(13, nI 0), (12, nI (a0.length : Int)), (0, .d (.lst (List.map (enL (D.int .i64)) a0))), (1, .d (.lst (List.map (enL (D.int .i64)) a1)))], []⟩ ?_
    refine L_pieceR (fs := [.l c49_26]) (ks := [.b 0, .c c49_32]) (ok_thrumref15_SameLists_l0_ok a0 a1 0) L_thru (fun j2 => ?_)
    refine Avk 6 [] .ret ⟨[(4, bB true)], []⟩ ?_
    exact L_ret
/-- thrum/thrumlaw20.StoreLays. -/
def en_thrumlaw20_StoreLays (v : Bool) : PV := bB v
def o9_0 : List AOper := [mb 6 0 false]
def o9_1 : List AOper := [cl' 20 100 19 [], mv 7 101 20]
def o9_2 : List AOper := [mv 21 200 7, ⟨some 22, none, 201, .un .not (.t 21)⟩]
def o9_3 : List AOper := [mb 6 300 false]
def o9_4 : List AOper := [mv 23 400 1, ln 24 401 23, bc 25 402 .gtr 24 20, mv 26 403 25, gv 27 26 false 404 2, ⟨some 28, some (26, false), 405, .len (.t 27)⟩, ⟨some 29, some (26, false), 406, .bin .gtr .int (.t 28) (.c (.d (.int .i64 5000)))⟩, pz 30 407 26 29 true]
def o9_5 : List AOper := [mv 31 500 7, mv 6 501 31]
def o9_6 : List AOper := [mv 32 600 1, ln 33 601 32, mi 34 602 0]
def o9_7 : List AOper := [bi 35 700 .lss 34 33]
def o9_8 : List AOper := [⟨some 36, none, 800, .idxA 1 (.t 32) (.t 34)⟩, ld 37 801 36, mv 9 802 37]
def o9_9 : List AOper := [mv 38 900 9, ln 39 901 38, bc 40 902 .gtr 39 5000]
def o9_10 : List AOper := [mv 41 1000 7, mv 6 1001 41]
def o9_11 : List AOper := [bc 42 1100 .add 34 1, mv 34 1101 42]
def o9_12 : List AOper := [mv 44 1200 0, mv 45 1201 1, cl' 46 1202 45 [.t 44, .t 45], mv 43 1203 46, xt 47 1204 43 0, xt 48 1205 43 1, mv 10 1206 47, mv 11 1207 48]
def o9_13 : List AOper := [mv 50 1300 0, mv 51 1301 1, cl' 52 1302 46 [.t 50, .t 51], mv 49 1303 52, xt 53 1304 49 0, xt 54 1305 49 1, mv 12 1306 53, mv 13 1307 54]
def o9_14 : List AOper := [mv 56 1400 2, cl' 57 1401 47 [.t 56], mv 55 1402 57, xt 58 1403 55 0, xt 59 1404 55 1, xt 60 1405 55 2, mv 14 1406 58, mv 15 1407 59, mv 16 1408 60]
def o9_15 : List AOper := [mv 62 1500 2, cl' 63 1501 48 [.t 62], mv 61 1502 63, xt 64 1503 61 0, xt 65 1504 61 1, xt 66 1505 61 2, mv 17 1506 64, mv 18 1507 65, mv 19 1508 66]
def o9_16 : List AOper := [mv 67 1600 7, mv 68 1601 67, gv 69 68 true 1602 10, gv 70 68 true 1603 12, ⟨some 71, some (68, true), 1604, .call 24 [.t 69, .t 70]⟩, pk 72 1605 68 71 false, mv 73 1606 72, gv 74 73 true 1607 11, gv 75 73 true 1608 13, ⟨some 76, some (73, true), 1609, .bin .eql .int (.t 74) (.t 75)⟩, pk 77 1610 73 76 false, mv 78 1611 77, gv 79 78 true 1612 14, gv 80 78 true 1613 17, ⟨some 81, some (78, true), 1614, .bin .eql .int (.t 79) (.t 80)⟩, pk 82 1615 78 81 false, mv 83 1616 82, gv 84 83 true 1617 15, gv 85 83 true 1618 18, ⟨some 86, some (83, true), 1619, .call 49 [.t 84, .t 85]⟩, pk 87 1620 83 86 false, mv 88 1621 87, gv 89 88 true 1622 16, gv 90 88 true 1623 19, ⟨some 91, some (88, true), 1624, .bin .eql .int (.t 89) (.t 90)⟩, pk 92 1625 88 91 false, mv 6 1626 92]
def o9_4t4_8 : List AOper := (o9_4.drop 4).take 4
def o9_16t2_6 : List AOper := (o9_16.drop 2).take 4
def o9_16t7_11 : List AOper := (o9_16.drop 7).take 4
def o9_16t12_16 : List AOper := (o9_16.drop 12).take 4
def o9_16t17_21 : List AOper := (o9_16.drop 17).take 4
def o9_16t22_26 : List AOper := (o9_16.drop 22).take 4
def c9_7 : AC := .cond (.t 22) (.seq (.reg o9_3) .ret) .skip
def c9_14 : AC := .cond (.t 30) (.seq (.reg o9_5) .ret) .skip
def c9_20 : AC := .cond (.t 35) .skip (.exit 0)
def c9_27 : AC := .cond (.t 40) (.seq (.reg o9_10) .ret) .skip
def c9_28 : AC := .seq (.reg o9_9) c9_27
def c9_31 : AC := .reg o9_11
def c9_32 : AC := .seq (.block 1 (.seq (.reg o9_8) c9_28)) c9_31
def c9_34 : AC := .seq (.reg o9_7) (.seq c9_20 c9_32)
def c9_36 : AC := .block 0 (.loop c9_34)
def c9_44 : AC := .seq (.reg o9_16) .ret
def c9_45 : AC := .seq (.reg o9_15) c9_44
def c9_46 : AC := .seq (.reg o9_14) c9_45
def c9_47 : AC := .seq (.reg o9_13) c9_46
def c9_48 : AC := .seq (.reg o9_12) c9_47
def c9_49 : AC := .seq (.seq (.reg o9_6) c9_36) c9_48
def c9_50 : AC := .seq (.seq (.reg o9_4) c9_14) c9_49
def c9_51 : AC := .seq (.seq (.reg o9_2) c9_7) c9_50
def c9_53 : AC := .seq (.reg o9_0) (.seq (.reg o9_1) c9_51)
theorem fn9 : fnA Try.prog 9 = some (93, [.t 6], c9_53) := by kernel_rfl
def q_ok_thrumlaw20_StoreLays_l0_ok (a0 : Int) (a1 : List (List Int)) (a2 : List Int) (r1 : Bool) (x0 : Int) (v : (Sum Bool Unit)) : Prop := (fun v => go Try.prog 93 (PostR (fun r => Fnl [.t 6] (en_thrumlaw20_StoreLays r) []) (.exit 0) (fun x : Unit => ⟨[(7, bB r1), (0, nI a0), (1, .d (.lst (List.map (enL (D.int .i64)) a1))), (2, lY a2)], []⟩) v) [.l c9_34] .norm ⟨[(34, nI x0), (33, nI (a1.length : Int)), (32, .d (.lst (List.map (enL (D.int .i64)) a1))), (7, bB r1), (0, nI a0), (1, .d (.lst (List.map (enL (D.int .i64)) a1))), (2, lY a2)], []⟩) v
theorem ok_thrumlaw20_StoreLays_l0_ok (a0 : Int) (a1 : List (List Int)) (a2 : List Int) (r1 : Bool) (x0 : Int) : Ok (M_thrumlaw20_StoreLays_l0 a0 a1 a2 r1 x0) (q_ok_thrumlaw20_StoreLays_l0_ok a0 a1 a2 r1 x0) := by
  refine M_thrumlaw20_StoreLays_l0.partial_correctness a0 a1 a2 r1 (q_ok_thrumlaw20_StoreLays_l0_ok a0 a1 a2 r1) ?_ x0
  clear x0
  intro f' IH x0
  refine okI ?_
  unfold q_ok_thrumlaw20_StoreLays_l0_ok at *
  refine Av 1 [.c c9_34, .l c9_34] ⟨[(34, nI x0), (33, nI (a1.length : Int)), (32, .d (.lst (List.map (enL (D.int .i64)) a1))), (7, bB r1), (0, nI a0), (1, .d (.lst (List.map (enL (D.int .i64)) a1))), (2, lY a2)], []⟩ ?_
  refine Av 5 [.c c9_20, .c c9_32, .l c9_34] ⟨[(35, bB (decide (x0 < (a1.length : Int)))), (34, nI x0), (33, nI (a1.length : Int)), (32, .d (.lst (List.map (enL (D.int .i64)) a1))), (7, bB r1), (0, nI a0), (1, .d (.lst (List.map (enL (D.int .i64)) a1))), (2, lY a2)], []⟩ ?_
  refine L_split 35 rfl (fun _ => ?_) (fun _ => ?_)
  · refine Av 6 [.o false o9_8, .c c9_28, .b 1, .c c9_31, .l c9_34] ⟨[(34, nI x0), (33, nI (a1.length : Int)), (32, .d (.lst (List.map (enL (D.int .i64)) a1))), (7, bB r1), (0, nI a0), (1, .d (.lst (List.map (enL (D.int .i64)) a1))), (2, lY a2)], []⟩ ?_
    refine L_idxD (enc := enL (D.int .i64)) (l := a1) (iv := x0) trivial rfl rfl (fun _ => rfl) (fun hc800 => ?_)
    refine Av 6 [.o false (o9_9.drop 1), .c c9_27, .b 1, .c c9_31, .l c9_34] ⟨[(38, lI (at' a1 x0)), (34, nI x0), (33, nI (a1.length : Int)), (32, .d (.lst (List.map (enL (D.int .i64)) a1))), (7, bB r1), (0, nI a0), (1, .d (.lst (List.map (enL (D.int .i64)) a1))), (2, lY a2)], []⟩ ?_
    refine L_len (enc := D.int .i64) (l := at' a1 x0) trivial rfl ?_
    refine Av 2 [.c c9_27, .b 1, .c c9_31, .l c9_34] ⟨[(40, bB (decide (((at' a1 x0).length : Int) > 5000))), (34, nI x0), (33, nI (a1.length : Int)), (32, .d (.lst (List.map (enL (D.int .i64)) a1))), (7, bB r1), (0, nI a0), (1, .d (.lst (List.map (enL (D.int .i64)) a1))), (2, lY a2)], []⟩ ?_
    refine L_split 40 rfl (fun _ => ?_) (fun _ => ?_)
    · refine Avk 10 [] .ret ⟨[(6, bB r1)], []⟩ ?_
      exact L_retR
    · refine Av 7 [.l c9_34] ⟨[(34, nI (IntKind.i64.wrap (x0 + 1))), (33, nI (a1.length : Int)), (32, .d (.lst (List.map (enL (D.int .i64)) a1))), (7, bB r1), (0, nI a0), (1, .d (.lst (List.map (enL (D.int .i64)) a1))), (2, lY a2)], []⟩ ?_
      exact L_again (IH (IntKind.i64.wrap (x0 + 1)))
  · refine Avk 4 [] (.exit 0) ⟨[(7, bB r1), (0, nI a0), (1, .d (.lst (List.map (enL (D.int .i64)) a1))), (2, lY a2)], []⟩ ?_
    exact L_endR
theorem ok_thrumlaw20_StoreLays (a0 : Int) (a1 : List (List Int)) (a2 : List Int) : ∀ v, M_thrumlaw20_StoreLays a0 a1 a2 = some v → EvF Try.prog 9 [.int .i64 a0, .lst (List.map (enL (D.int .i64)) a1), .lst (List.map (D.int .u8) a2)] (en_thrumlaw20_StoreLays v) := by
  intro v hv
  refine EvF_go fn9 (Nat.le_of_ble_eq_true rfl) ?_
  suffices h : Ok (M_thrumlaw20_StoreLays a0 a1 a2) fun v => go Try.prog 93 (Fnl [.t 6] (en_thrumlaw20_StoreLays v) []) [.c c9_53] .norm (initSt (List.map PV.d [.int .i64 a0, .lst (List.map (enL (D.int .i64)) a1), .lst (List.map (D.int .u8) a2)]) []) from h v hv
  unfold M_thrumlaw20_StoreLays
  refine Av 6 [.o false o9_1, .c c9_51] ⟨[(0, nI a0), (1, .d (.lst (List.map (enL (D.int .i64)) a1))), (2, lY a2)], []⟩ ?_
  refine L_call (ok_thrumlaw20_live) trivial rfl (fun _ => rfl) (fun _ => trivial) (fun r1 => ?_)
  refine Av 8 [.c c9_7, .c c9_50] ⟨[(22, bB (!r1)), (7, bB r1), (0, nI a0), (1, .d (.lst (List.map (enL (D.int .i64)) a1))), (2, lY a2)], []⟩ ?_
  refine L_split 22 decF (fun _ => ?_) (fun _ => ?_)
  · refine Avk 7 [] .ret ⟨[(6, bB false)], []⟩ ?_
    exact L_ret
  · refine Av 6 [.o false (o9_4.drop 1), .c c9_14, .c c9_49] ⟨[(23, .d (.lst (List.map (enL (D.int .i64)) a1))), (7, bB r1), (0, nI a0), (1, .d (.lst (List.map (enL (D.int .i64)) a1))), (2, lY a2)], []⟩ ?_
    refine L_len (enc := enL (D.int .i64)) (l := a1) trivial rfl ?_
    refine Av 2 [.o false (o9_4.drop 4), .c c9_14, .c c9_49] ⟨[(26, bB (decide ((a1.length : Int) > 20))), (7, bB r1), (0, nI a0), (1, .d (.lst (List.map (enL (D.int .i64)) a1))), (2, lY a2)], []⟩ ?_
    refine L_take 4 o9_4t4_8 (o9_4.drop 8) ?_
    refine L_join [.o false o9_4t4_8] [.o false (o9_4.drop 8), .c c9_14, .c c9_49] (fun x : Bool => ⟨[(30, bB x), (7, bB r1), (0, nI a0), (1, .d (.lst (List.map (enL (D.int .i64)) a1))), (2, lY a2)], []⟩) ?_ (fun j2 => ?_)
    · refine L_split 26 rfl (fun _ => ?_) (fun _ => ?_)
      · refine Av 5 [] ⟨[(30, bB true), (7, bB r1), (0, nI a0), (1, .d (.lst (List.map (enL (D.int .i64)) a1))), (2, lY a2)], []⟩ ?_
        exact L_end
      · refine Av 1 [.o false (o9_4t4_8.drop 1)] ⟨[(27, lY a2), (26, bB false), (7, bB r1), (0, nI a0), (1, .d (.lst (List.map (enL (D.int .i64)) a1))), (2, lY a2)], []⟩ ?_
        refine L_len (enc := D.int .u8) (l := a2) rfl rfl ?_
        refine Av 3 [] ⟨[(30, bB (decide ((a2.length : Int) > 5000))), (7, bB r1), (0, nI a0), (1, .d (.lst (List.map (enL (D.int .i64)) a1))), (2, lY a2)], []⟩ ?_
        exact L_end
    · refine Av 1 [.c c9_14, .c c9_49] ⟨[(30, bB j2), (7, bB r1), (0, nI a0), (1, .d (.lst (List.map (enL (D.int .i64)) a1))), (2, lY a2)], []⟩ ?_
      refine L_split 30 decT (fun _ => ?_) (fun _ => ?_)
      · refine Avk 8 [] .ret ⟨[(6, bB r1)], []⟩ ?_
        exact L_ret
      · refine Av 6 [.o false (o9_6.drop 1), .c c9_36, .c c9_48] ⟨[(32, .d (.lst (List.map (enL (D.int .i64)) a1))), (7, bB r1), (0, nI a0), (1, .d (.lst (List.map (enL (D.int .i64)) a1))), (2, lY a2)], []⟩ ?_
        refine L_len (enc := enL (D.int .i64)) (l := a1) trivial rfl ?_
        refine Av 4 [.l c9_34, .b 0, .c c9_48] ⟨[(34, nI 0), (33, nI (a1.length : Int)), (32, .d (.lst (List.map (enL (D.int .i64)) a1))), (7, bB r1), (0, nI a0), (1, .d (.lst (List.map (enL (D.int .i64)) a1))), (2, lY a2)], []⟩ ?_
        refine L_pieceR (fs := [.l c9_34]) (ks := [.b 0, .c c9_48]) (ok_thrumlaw20_StoreLays_l0_ok a0 a1 a2 r1 0) L_thru (fun j3 => ?_)
        refine Av 5 [.o false (o9_12.drop 2), .c c9_47] ⟨[(45, .d (.lst (List.map (enL (D.int .i64)) a1))), (44, nI a0), (7, bB r1), (0, nI a0), (1, .d (.lst (List.map (enL (D.int .i64)) a1))), (2, lY a2)], []⟩ ?_
        refine L_call (ok_store_Lay a0 a1) trivial rfl (fun _ => rfl) (fun _ => ⟨(flat_map_of fun _ => trivial), trivial, trivial⟩) (fun r4 => ?_)
        refine Av 10 [.o false (o9_13.drop 2), .c c9_46] ⟨[(51, .d (.lst (List.map (enL (D.int .i64)) a1))), (50, nI a0), (11, nI r4.2), (10, sY (.s 19232) r4.1), (7, bB r1), (2, lY a2)], []⟩ ?_
        refine L_call (ok_thrumref20_Lay a0 a1) trivial rfl (fun _ => rfl) (fun _ => ⟨(flat_map_of fun _ => trivial), trivial, trivial⟩) (fun r5 => ?_)
        refine Av 9 [.o false (o9_14.drop 1), .c c9_45] ⟨[(56, lY a2), (13, nI r5.2), (12, sY (.s 20832) r5.1), (11, nI r4.2), (10, sY (.s 19232) r4.1), (7, bB r1), (2, lY a2)], []⟩ ?_
        refine L_callZ [] (ok_store_Take a2) trivial rfl rfl (fun _ => rfl) (fun r6 => ?_)
        refine Av 11 [.o false (o9_15.drop 1), .c c9_44] ⟨[(62, lY a2), (16, nI r6.2.2), (15, .sl (.s 22416) 1 0 (List.map (enL (D.int .i64)) r6.2.1)), (14, nI r6.1), (13, nI r5.2), (12, sY (.s 20832) r5.1), (11, nI r4.2), (10, sY (.s 19232) r4.1), (7, bB r1)], []⟩ ?_
        refine L_callZ [] (ok_thrumref20_Take a2) trivial rfl rfl (fun _ => rfl) (fun r7 => ?_)
        refine Av 12 [.o false (o9_16.drop 2), .c .ret] ⟨[(68, bB r1), (19, nI r7.2.2), (18, .sl (.s 24016) 1 0 (List.map (enL (D.int .i64)) r7.2.1)), (17, nI r7.1), (16, nI r6.2.2), (15, .sl (.s 22416) 1 0 (List.map (enL (D.int .i64)) r6.2.1)), (14, nI r6.1), (13, nI r5.2), (12, sY (.s 20832) r5.1), (11, nI r4.2), (10, sY (.s 19232) r4.1)], []⟩ ?_
        refine L_take 4 o9_16t2_6 (o9_16.drop 6) ?_
        refine L_join [.o false o9_16t2_6] [.o false (o9_16.drop 6), .c .ret] (fun x : Bool => ⟨[(72, bB x), (19, nI r7.2.2), (18, .sl (.s 24016) 1 0 (List.map (enL (D.int .i64)) r7.2.1)), (17, nI r7.1), (16, nI r6.2.2), (15, .sl (.s 22416) 1 0 (List.map (enL (D.int .i64)) r6.2.1)), (14, nI r6.1), (13, nI r5.2), (11, nI r4.2)], []⟩) ?_ (fun j9 => ?_)
        · refine L_split 68 decT (fun _ => ?_) (fun _ => ?_)
          · refine Av 2 [.o false (o9_16t2_6.drop 2)] ⟨[(70, sY (.s 20832) r5.1), (68, bB true), (69, sY (.s 19232) r4.1), (19, nI r7.2.2), (18, .sl (.s 24016) 1 0 (List.map (enL (D.int .i64)) r7.2.1)), (17, nI r7.1), (16, nI r6.2.2), (15, .sl (.s 22416) 1 0 (List.map (enL (D.int .i64)) r6.2.1)), (14, nI r6.1), (13, nI r5.2), (11, nI r4.2)], []⟩ ?_
            refine L_call (ok_thrumref03_Same r4.1 r5.1) rfl rfl (fun _ => rfl) (fun _ => trivial) (fun r8 => ?_)
            refine Av 2 [] ⟨[(72, bB r8), (19, nI r7.2.2), (18, .sl (.s 24016) 1 0 (List.map (enL (D.int .i64)) r7.2.1)), (17, nI r7.1), (16, nI r6.2.2), (15, .sl (.s 22416) 1 0 (List.map (enL (D.int .i64)) r6.2.1)), (14, nI r6.1), (13, nI r5.2), (11, nI r4.2)], []⟩ ?_
            exact L_end
          · refine Av 5 [] ⟨[(72, bB false), (19, nI r7.2.2), (18, .sl (.s 24016) 1 0 (List.map (enL (D.int .i64)) r7.2.1)), (17, nI r7.1), (16, nI r6.2.2), (15, .sl (.s 22416) 1 0 (List.map (enL (D.int .i64)) r6.2.1)), (14, nI r6.1), (13, nI r5.2), (11, nI r4.2)], []⟩ ?_
            exact L_end
        · refine Av 1 [.o false (o9_16.drop 7), .c .ret] ⟨[(73, bB j9), (19, nI r7.2.2), (18, .sl (.s 24016) 1 0 (List.map (enL (D.int .i64)) r7.2.1)), (17, nI r7.1), (16, nI r6.2.2), (15, .sl (.s 22416) 1 0 (List.map (enL (D.int .i64)) r6.2.1)), (14, nI r6.1), (13, nI r5.2), (11, nI r4.2)], []⟩ ?_
          refine L_take 4 o9_16t7_11 (o9_16.drop 11) ?_
          refine L_join [.o false o9_16t7_11] [.o false (o9_16.drop 11), .c .ret] (fun x : Bool => ⟨[(77, bB x), (19, nI r7.2.2), (18, .sl (.s 24016) 1 0 (List.map (enL (D.int .i64)) r7.2.1)), (17, nI r7.1), (16, nI r6.2.2), (15, .sl (.s 22416) 1 0 (List.map (enL (D.int .i64)) r6.2.1)), (14, nI r6.1)], []⟩) ?_ (fun j10 => ?_)
          · refine L_split 73 decT (fun _ => ?_) (fun _ => ?_)
            · refine Av 5 [] ⟨[(77, bB (r4.2 == r5.2)), (19, nI r7.2.2), (18, .sl (.s 24016) 1 0 (List.map (enL (D.int .i64)) r7.2.1)), (17, nI r7.1), (16, nI r6.2.2), (15, .sl (.s 22416) 1 0 (List.map (enL (D.int .i64)) r6.2.1)), (14, nI r6.1)], []⟩ ?_
              exact L_end
            · refine Av 5 [] ⟨[(77, bB false), (19, nI r7.2.2), (18, .sl (.s 24016) 1 0 (List.map (enL (D.int .i64)) r7.2.1)), (17, nI r7.1), (16, nI r6.2.2), (15, .sl (.s 22416) 1 0 (List.map (enL (D.int .i64)) r6.2.1)), (14, nI r6.1)], []⟩ ?_
              exact L_end
          · refine Av 1 [.o false (o9_16.drop 12), .c .ret] ⟨[(78, bB j10), (19, nI r7.2.2), (18, .sl (.s 24016) 1 0 (List.map (enL (D.int .i64)) r7.2.1)), (17, nI r7.1), (16, nI r6.2.2), (15, .sl (.s 22416) 1 0 (List.map (enL (D.int .i64)) r6.2.1)), (14, nI r6.1)], []⟩ ?_
            refine L_take 4 o9_16t12_16 (o9_16.drop 16) ?_
            refine L_join [.o false o9_16t12_16] [.o false (o9_16.drop 16), .c .ret] (fun x : Bool => ⟨[(82, bB x), (19, nI r7.2.2), (18, .sl (.s 24016) 1 0 (List.map (enL (D.int .i64)) r7.2.1)), (16, nI r6.2.2), (15, .sl (.s 22416) 1 0 (List.map (enL (D.int .i64)) r6.2.1))], []⟩) ?_ (fun j11 => ?_)
            · refine L_split 78 decT (fun _ => ?_) (fun _ => ?_)
              · refine Av 5 [] ⟨[(82, bB (r6.1 == r7.1)), (19, nI r7.2.2), (18, .sl (.s 24016) 1 0 (List.map (enL (D.int .i64)) r7.2.1)), (16, nI r6.2.2), (15, .sl (.s 22416) 1 0 (List.map (enL (D.int .i64)) r6.2.1))], []⟩ ?_
                exact L_end
              · refine Av 5 [] ⟨[(82, bB false), (19, nI r7.2.2), (18, .sl (.s 24016) 1 0 (List.map (enL (D.int .i64)) r7.2.1)), (16, nI r6.2.2), (15, .sl (.s 22416) 1 0 (List.map (enL (D.int .i64)) r6.2.1))], []⟩ ?_
                exact L_end
            · refine Av 1 [.o false (o9_16.drop 17), .c .ret] ⟨[(83, bB j11), (19, nI r7.2.2), (18, .sl (.s 24016) 1 0 (List.map (enL (D.int .i64)) r7.2.1)), (16, nI r6.2.2), (15, .sl (.s 22416) 1 0 (List.map (enL (D.int .i64)) r6.2.1))], []⟩ ?_
              refine L_take 4 o9_16t17_21 (o9_16.drop 21) ?_
              refine L_join [.o false o9_16t17_21] [.o false (o9_16.drop 21), .c .ret] (fun x : Bool => ⟨[(87, bB x), (19, nI r7.2.2), (16, nI r6.2.2)], []⟩) ?_ (fun j13 => ?_)
              · refine L_split 83 decT (fun _ => ?_) (fun _ => ?_)
                · refine Av 2 [.o false (o9_16t17_21.drop 2)] ⟨[(85, .sl (.s 24016) 1 0 (List.map (enL (D.int .i64)) r7.2.1)), (83, bB true), (84, .sl (.s 22416) 1 0 (List.map (enL (D.int .i64)) r6.2.1)), (19, nI r7.2.2), (16, nI r6.2.2)], []⟩ ?_
                  refine L_call (ok_thrumref15_SameLists r6.2.1 r7.2.1) rfl rfl (fun _ => rfl) (fun _ => trivial) (fun r12 => ?_)
                  refine Av 2 [] ⟨[(87, bB r12), (19, nI r7.2.2), (16, nI r6.2.2)], []⟩ ?_
                  exact L_end
                · refine Av 5 [] ⟨[(87, bB false), (19, nI r7.2.2), (16, nI r6.2.2)], []⟩ ?_
                  exact L_end
              · refine Av 1 [.o false (o9_16.drop 22), .c .ret] ⟨[(88, bB j13), (19, nI r7.2.2), (16, nI r6.2.2)], []⟩ ?_
                refine L_take 4 o9_16t22_26 (o9_16.drop 26) ?_
                refine L_join [.o false o9_16t22_26] [.o false (o9_16.drop 26), .c .ret] (fun x : Bool => ⟨[(92, bB x)], []⟩) ?_ (fun j14 => ?_)
                · refine L_split 88 decT (fun _ => ?_) (fun _ => ?_)
                  · refine Av 5 [] ⟨[(92, bB (r6.2.2 == r7.2.2))], []⟩ ?_
                    exact L_end
                  · refine Av 5 [] ⟨[(92, bB false)], []⟩ ?_
                    exact L_end
                · refine Avk 3 [] .ret ⟨[(6, bB j14)], []⟩ ?_
                  exact L_ret
/-- thrum/thrumref20.Few. -/
def en_thrumref20_Few (v : Bool) : PV := bB v
def o26_0 : List AOper := [⟨some 1, none, 0, .box 26 (.t 0)⟩, mb 2 1 false]
def o26_1 : List AOper := [⟨some 5, none, 100, .fieldA 0 (.t 1)⟩, ld 6 101 5, ln 7 102 6, mi 8 103 0]
def o26_2 : List AOper := [bi 9 200 .lss 8 7]
def o26_3 : List AOper := [⟨some 10, none, 300, .idxA 1 (.t 6) (.t 8)⟩, ld 11 301 10, mv 4 302 11]
def o26_4 : List AOper := [mv 12 400 4, ln 13 401 12, bc 14 402 .gtr 13 600]
def o26_5 : List AOper := [mb 2 500 false]
def o26_6 : List AOper := [bc 15 600 .add 8 1, mv 8 601 15]
def o26_7 : List AOper := [⟨some 16, none, 700, .fieldA 0 (.t 1)⟩, ld 17 701 16, ln 18 702 17, bc 19 703 .leq 18 140, mv 2 704 19]
def c26_5 : AC := .cond (.t 9) .skip (.exit 0)
def c26_12 : AC := .cond (.t 14) (.seq (.reg o26_5) .ret) .skip
def c26_13 : AC := .seq (.reg o26_4) c26_12
def c26_16 : AC := .reg o26_6
def c26_17 : AC := .seq (.block 1 (.seq (.reg o26_3) c26_13)) c26_16
def c26_19 : AC := .seq (.reg o26_2) (.seq c26_5 c26_17)
def c26_21 : AC := .block 0 (.loop c26_19)
def c26_25 : AC := .seq (.reg o26_7) .ret
def c26_27 : AC := .seq (.reg o26_0) (.seq (.seq (.reg o26_1) c26_21) c26_25)
theorem fn26 : fnA Try.prog 26 = some (20, [.t 2], c26_27) := by kernel_rfl
def q_ok_thrumref20_Few_l0_ok (a0 : T_api_Store) (x0 : Int) (v : (Sum Bool Unit)) : Prop := (fun v => go Try.prog 20 (PostR (fun r => Fnl [.t 2] (en_thrumref20_Few r) []) (.exit 0) (fun x : Unit => ⟨[(1, .ptr (.s 15) 0)], [(.s 15, [.d (.lst (List.map (enL (D.int .u8)) a0.F_Cells))])]⟩) v) [.l c26_19] .norm ⟨[(8, nI x0), (7, nI (a0.F_Cells.length : Int)), (6, .d (.lst (List.map (enL (D.int .u8)) a0.F_Cells))), (1, .ptr (.s 15) 0)], [(.s 15, [.d (.lst (List.map (enL (D.int .u8)) a0.F_Cells))])]⟩) v
theorem ok_thrumref20_Few_l0_ok (a0 : T_api_Store) (x0 : Int) : Ok (M_thrumref20_Few_l0 a0 x0) (q_ok_thrumref20_Few_l0_ok a0 x0) := by
  refine M_thrumref20_Few_l0.partial_correctness a0 (q_ok_thrumref20_Few_l0_ok a0) ?_ x0
  clear x0
  intro f' IH x0
  refine okI ?_
  unfold q_ok_thrumref20_Few_l0_ok at *
  refine Av 1 [.c c26_19, .l c26_19] ⟨[(8, nI x0), (7, nI (a0.F_Cells.length : Int)), (6, .d (.lst (List.map (enL (D.int .u8)) a0.F_Cells))), (1, .ptr (.s 15) 0)], [(.s 15, [.d (.lst (List.map (enL (D.int .u8)) a0.F_Cells))])]⟩ ?_
  refine Av 5 [.c c26_5, .c c26_17, .l c26_19] ⟨[(9, bB (decide (x0 < (a0.F_Cells.length : Int)))), (8, nI x0), (7, nI (a0.F_Cells.length : Int)), (6, .d (.lst (List.map (enL (D.int .u8)) a0.F_Cells))), (1, .ptr (.s 15) 0)], [(.s 15, [.d (.lst (List.map (enL (D.int .u8)) a0.F_Cells))])]⟩ ?_
  refine L_split 9 rfl (fun _ => ?_) (fun _ => ?_)
  · refine Av 6 [.o false o26_3, .c c26_13, .b 1, .c c26_16, .l c26_19] ⟨[(8, nI x0), (7, nI (a0.F_Cells.length : Int)), (6, .d (.lst (List.map (enL (D.int .u8)) a0.F_Cells))), (1, .ptr (.s 15) 0)], [(.s 15, [.d (.lst (List.map (enL (D.int .u8)) a0.F_Cells))])]⟩ ?_
    refine L_idxD (enc := enL (D.int .u8)) (l := a0.F_Cells) (iv := x0) trivial rfl rfl (fun _ => rfl) (fun hc300 => ?_)
    refine Av 6 [.o false (o26_4.drop 1), .c c26_12, .b 1, .c c26_16, .l c26_19] ⟨[(12, lY (at' a0.F_Cells x0)), (8, nI x0), (7, nI (a0.F_Cells.length : Int)), (6, .d (.lst (List.map (enL (D.int .u8)) a0.F_Cells))), (1, .ptr (.s 15) 0)], [(.s 15, [.d (.lst (List.map (enL (D.int .u8)) a0.F_Cells))])]⟩ ?_
    refine L_len (enc := D.int .u8) (l := at' a0.F_Cells x0) trivial rfl ?_
    refine Av 2 [.c c26_12, .b 1, .c c26_16, .l c26_19] ⟨[(14, bB (decide (((at' a0.F_Cells x0).length : Int) > 600))), (8, nI x0), (7, nI (a0.F_Cells.length : Int)), (6, .d (.lst (List.map (enL (D.int .u8)) a0.F_Cells))), (1, .ptr (.s 15) 0)], [(.s 15, [.d (.lst (List.map (enL (D.int .u8)) a0.F_Cells))])]⟩ ?_
    refine L_split 14 rfl (fun _ => ?_) (fun _ => ?_)
    · refine Avk 9 [] .ret ⟨[(2, bB false)], []⟩ ?_
      exact L_retR
    · refine Av 7 [.l c26_19] ⟨[(8, nI (IntKind.i64.wrap (x0 + 1))), (7, nI (a0.F_Cells.length : Int)), (6, .d (.lst (List.map (enL (D.int .u8)) a0.F_Cells))), (1, .ptr (.s 15) 0)], [(.s 15, [.d (.lst (List.map (enL (D.int .u8)) a0.F_Cells))])]⟩ ?_
      exact L_again (IH (IntKind.i64.wrap (x0 + 1)))
  · refine Avk 4 [] (.exit 0) ⟨[(1, .ptr (.s 15) 0)], [(.s 15, [.d (.lst (List.map (enL (D.int .u8)) a0.F_Cells))])]⟩ ?_
    exact L_endR
theorem ok_thrumref20_Few (a0 : T_api_Store) : ∀ v, M_thrumref20_Few a0 = some v → EvF Try.prog 26 [.agg [.lst (List.map (enL (D.int .u8)) a0.F_Cells)]] (en_thrumref20_Few v) := by
  intro v hv
  refine EvF_go fn26 (Nat.le_of_ble_eq_true rfl) ?_
  suffices h : Ok (M_thrumref20_Few a0) fun v => go Try.prog 20 (Fnl [.t 2] (en_thrumref20_Few v) []) [.c c26_27] .norm (initSt (List.map PV.d [.agg [.lst (List.map (enL (D.int .u8)) a0.F_Cells)]]) []) from h v hv
  unfold M_thrumref20_Few
  refine Av 10 [.o false (o26_1.drop 2), .c c26_21, .c c26_25] ⟨[(6, .d (.lst (List.map (enL (D.int .u8)) a0.F_Cells))), (1, .ptr (.s 15) 0)], [(.s 15, [.d (.lst (List.map (enL (D.int .u8)) a0.F_Cells))])]⟩ ?_
  refine L_len (enc := enL (D.int .u8)) (l := a0.F_Cells) trivial rfl ?_
  refine Av 4 [.l c26_19, .b 0, .c c26_25] ⟨[(8, nI 0), (7, nI (a0.F_Cells.length : Int)), (6, .d (.lst (List.map (enL (D.int .u8)) a0.F_Cells))), (1, .ptr (.s 15) 0)], [(.s 15, [.d (.lst (List.map (enL (D.int .u8)) a0.F_Cells))])]⟩ ?_
  refine L_pieceR (fs := [.l c26_19]) (ks := [.b 0, .c c26_25]) (ok_thrumref20_Few_l0_ok a0 0) L_thru (fun j1 => ?_)
  refine Av 5 [.o false (o26_7.drop 2), .c .ret] ⟨[(17, .d (.lst (List.map (enL (D.int .u8)) a0.F_Cells)))], []⟩ ?_
  refine L_len (enc := enL (D.int .u8)) (l := a0.F_Cells) trivial rfl ?_
  refine Avk 4 [] .ret ⟨[(2, bB (decide ((a0.F_Cells.length : Int) ≤ 140)))], []⟩ ?_
  exact L_ret
/-- thrum/thrumlaw20.StoreBack. -/
def en_thrumlaw20_StoreBack (v : Bool) : PV := bB v
def o10_0 : List AOper := [⟨some 7, none, 0, .box 26 (.t 3)⟩, mb 8 1 false]
def o10_1 : List AOper := [cl' 30 100 19 [], mv 9 101 30]
def o10_2 : List AOper := [mv 31 200 9, ⟨some 32, none, 201, .un .not (.t 31)⟩]
def o10_3 : List AOper := [mb 8 300 false]
def o10_4 : List AOper := [mv 33 400 1, ln 34 401 33, bc 35 402 .gtr 34 20, mv 36 403 35, gv 37 36 false 404 2, ⟨some 38, some (36, false), 405, .len (.t 37)⟩, ⟨some 39, some (36, false), 406, .bin .gtr .int (.t 38) (.c (.d (.int .i64 5000)))⟩, pz 40 407 36 39 true, mv 41 408 40, ⟨some 42, some (41, false), 409, .load true 1 (.t 7)⟩, ⟨some 43, some (41, false), 410, .call 26 [.t 42]⟩, ⟨some 44, some (41, false), 411, .un .not (.t 43)⟩, pz 45 412 41 44 true]
def o10_5 : List AOper := [mv 46 500 9, mv 8 501 46]
def o10_6 : List AOper := [mv 47 600 1, ln 48 601 47, mi 49 602 0]
def o10_7 : List AOper := [bi 50 700 .lss 49 48]
def o10_8 : List AOper := [⟨some 51, none, 800, .idxA 1 (.t 47) (.t 49)⟩, ld 52 801 51, mv 11 802 52]
def o10_9 : List AOper := [mv 53 900 11, ln 54 901 53, bc 55 902 .gtr 54 5000]
def o10_10 : List AOper := [mv 56 1000 9, mv 8 1001 56]
def o10_11 : List AOper := [bc 57 1100 .add 49 1, mv 49 1101 57]
def o10_12 : List AOper := [mv 59 1200 0, mv 60 1201 1, cl' 61 1202 45 [.t 59, .t 60], mv 58 1203 61, xt 62 1204 58 0, xt 63 1205 58 1, mv 12 1206 62, mv 13 1207 63]
def o10_13 : List AOper := [mv 64 1300 13, bc 65 1301 .eql 64 0, mv 66 1302 65, gv 67 66 true 1303 0, ⟨some 68, some (66, true), 1304, .bin .leq .int (.t 67) (.c (.d (.int .i64 1073741824)))⟩, pk 69 1305 66 68 false]
def o10_14 : List AOper := [mv 71 1400 12, cl' 72 1401 47 [.t 71], mv 70 1402 72, xt 73 1403 70 0, xt 74 1404 70 1, xt 75 1405 70 2, mv 14 1406 73, mv 15 1407 74, mv 16 1408 75]
def o10_15 : List AOper := [mv 76 1500 14, mv 77 1501 0, bi 78 1502 .neq 76 77, mv 79 1503 78, gv 80 79 false 1504 15, gv 81 79 false 1505 1, ⟨some 82, some (79, false), 1506, .call 49 [.t 80, .t 81]⟩, ⟨some 83, some (79, false), 1507, .un .not (.t 82)⟩, pz 84 1508 79 83 true, mv 85 1509 84, gv 86 85 false 1510 16, ⟨some 87, some (85, false), 1511, .bin .neq .int (.t 86) (.c (.d (.int .i64 0)))⟩, pz 88 1512 85 87 true]
def o10_16 : List AOper := [mb 8 1600 false]
def o10_17 : List AOper := [mv 90 1700 2, cl' 91 1701 47 [.t 90], mv 89 1702 91, xt 92 1703 89 0, xt 93 1704 89 1, xt 94 1705 89 2, mv 17 1706 92, mv 18 1707 93, mv 19 1708 94]
def o10_18 : List AOper := [mv 95 1800 19, bc 96 1801 .eql 95 0]
def o10_19 : List AOper := [mv 98 1900 17, mv 99 1901 18, cl' 100 1902 45 [.t 98, .t 99], mv 97 1903 100, xt 101 1904 97 0, xt 102 1905 97 1, mv 20 1906 101, mv 21 1907 102]
def o10_20 : List AOper := [mv 103 2000 21, bc 104 2001 .neq 103 0, mv 105 2002 104, gv 106 105 false 2003 20, gv 107 105 false 2004 2, ⟨some 108, some (105, false), 2005, .call 24 [.t 106, .t 107]⟩, ⟨some 109, some (105, false), 2006, .un .not (.t 108)⟩, pz 110 2007 105 109 true]
def o10_21 : List AOper := [mb 8 2100 false]
def o10_22 : List AOper := [⟨some 112, none, 2200, .load true 1 (.t 7)⟩, cl' 113 2201 23 [.t 112], mv 111 2202 113, xt 114 2203 111 0, xt 115 2204 111 1, xt 116 2205 111 2, mv 22 2206 114, mv 23 2207 115, mv 24 2208 116]
def o10_23 : List AOper := [⟨some 118, none, 2300, .load true 1 (.t 7)⟩, mv 119 2301 2, cl' 120 2302 27 [.t 118, .t 119], mv 117 2303 120, xt 121 2304 117 0, xt 122 2305 117 1, ⟨some 25, none, 2306, .alloc 26 1 [.lst []]⟩, ⟨none, none, 2307, .store 1 (.t 25) (.t 121)⟩, mv 26 2308 122]
def o10_24 : List AOper := [mv 123 2400 26, bc 124 2401 .neq 123 0]
def o10_25 : List AOper := [mv 125 2500 9, mv 126 2501 125, ⟨some 127, some (126, true), 2502, .fieldA 0 (.t 25)⟩, ⟨some 128, some (126, true), 2503, .load false 1 (.t 127)⟩, ⟨some 129, some (126, true), 2504, .len (.t 128)⟩, ⟨some 130, some (126, true), 2505, .bin .eql .int (.t 129) (.c (.d (.int .i64 0)))⟩, pk 131 2506 126 130 false, mv 8 2507 131]
def o10_26 : List AOper := [⟨some 133, none, 2600, .load true 1 (.t 25)⟩, cl' 134 2601 23 [.t 133], mv 132 2602 134, xt 135 2603 132 0, xt 136 2604 132 1, xt 137 2605 132 2, mv 27 2606 135, mv 28 2607 136, mv 29 2608 137]
def o10_27 : List AOper := [mv 138 2700 9, mv 139 2701 138, gv 140 139 true 2702 24, ⟨some 141, some (139, true), 2703, .bin .eql .int (.t 140) (.c (.d (.int .i64 0)))⟩, gv 142 139 true 2704 141, gv 143 142 false 2705 24, ⟨some 144, some (142, false), 2706, .bin .eql .int (.t 143) (.c (.d (.int .i64 8)))⟩, ⟨some 145, some (139, true), 2707, .pick (.t 142) (.c (.d (.bool true))) (.t 144)⟩, pk 146 2708 139 145 false, mv 147 2709 146, gv 148 147 true 2710 29, ⟨some 149, some (147, true), 2711, .bin .eql .int (.t 148) (.c (.d (.int .i64 0)))⟩, pk 150 2712 147 149 false, mv 151 2713 150, gv 152 151 true 2714 27, gv 153 151 true 2715 2, ⟨some 154, some (151, true), 2716, .call 24 [.t 152, .t 153]⟩, pk 155 2717 151 154 false, mv 156 2718 155, gv 157 156 true 2719 28, gv 158 156 true 2720 23, ⟨some 159, some (156, true), 2721, .bin .add .int (.t 158) (.c (.d (.int .i64 1)))⟩, ⟨some 160, some (156, true), 2722, .bin .eql .int (.t 157) (.t 159)⟩, pk 161 2723 156 160 false, mv 8 2724 161]
def o10_4t4_8 : List AOper := (o10_4.drop 4).take 4
def o10_4t9_13 : List AOper := (o10_4.drop 9).take 4
def o10_13t3_6 : List AOper := (o10_13.drop 3).take 3
def o10_15t4_9 : List AOper := (o10_15.drop 4).take 5
def o10_15t10_13 : List AOper := (o10_15.drop 10).take 3
def o10_20t3_8 : List AOper := (o10_20.drop 3).take 5
def o10_25t2_7 : List AOper := (o10_25.drop 2).take 5
def o10_27t14_18 : List AOper := (o10_27.drop 14).take 4
def o10_27t19_24 : List AOper := (o10_27.drop 19).take 5
def o10_27t10_13 : List AOper := (o10_27.drop 10).take 3
def c10_7 : AC := .cond (.t 32) (.seq (.reg o10_3) .ret) .skip
def c10_14 : AC := .cond (.t 45) (.seq (.reg o10_5) .ret) .skip
def c10_20 : AC := .cond (.t 50) .skip (.exit 0)
def c10_27 : AC := .cond (.t 55) (.seq (.reg o10_10) .ret) .skip
def c10_28 : AC := .seq (.reg o10_9) c10_27
def c10_31 : AC := .reg o10_11
def c10_32 : AC := .seq (.block 1 (.seq (.reg o10_8) c10_28)) c10_31
def c10_34 : AC := .seq (.reg o10_7) (.seq c10_20 c10_32)
def c10_36 : AC := .block 0 (.loop c10_34)
def c10_46 : AC := .cond (.t 88) (.seq (.reg o10_16) .ret) .skip
def c10_47 : AC := .seq (.reg o10_15) c10_46
def c10_50 : AC := .cond (.t 69) (.seq (.reg o10_14) c10_47) .skip
def c10_51 : AC := .seq (.reg o10_13) c10_50
def c10_61 : AC := .cond (.t 110) (.seq (.reg o10_21) .ret) .skip
def c10_62 : AC := .seq (.reg o10_20) c10_61
def c10_65 : AC := .cond (.t 96) (.seq (.reg o10_19) c10_62) .skip
def c10_66 : AC := .seq (.reg o10_18) c10_65
def c10_75 : AC := .cond (.t 124) (.seq (.reg o10_25) .ret) .skip
def c10_80 : AC := .seq (.reg o10_27) .ret
def c10_81 : AC := .seq (.reg o10_26) c10_80
def c10_82 : AC := .seq (.seq (.reg o10_24) c10_75) c10_81
def c10_83 : AC := .seq (.reg o10_23) c10_82
def c10_84 : AC := .seq (.reg o10_22) c10_83
def c10_85 : AC := .seq (.seq (.reg o10_17) c10_66) c10_84
def c10_86 : AC := .seq (.seq (.reg o10_12) c10_51) c10_85
def c10_87 : AC := .seq (.seq (.reg o10_6) c10_36) c10_86
def c10_88 : AC := .seq (.seq (.reg o10_4) c10_14) c10_87
def c10_89 : AC := .seq (.seq (.reg o10_2) c10_7) c10_88
def c10_91 : AC := .seq (.reg o10_0) (.seq (.reg o10_1) c10_89)
theorem fn10 : fnA Try.prog 10 = some (162, [.t 8], c10_91) := by kernel_rfl
def q_ok_thrumlaw20_StoreBack_l0_ok (a0 : Int) (a1 : List (List Int)) (a2 : List Int) (a3 : T_api_Store) (r1 : Bool) (x0 : Int) (v : (Sum Bool Unit)) : Prop := (fun v => go Try.prog 162 (PostR (fun r => Fnl [.t 8] (en_thrumlaw20_StoreBack r) []) (.exit 0) (fun x : Unit => ⟨[(9, bB r1), (7, .ptr (.s 15) 0), (0, nI a0), (1, .d (.lst (List.map (enL (D.int .i64)) a1))), (2, lY a2)], [(.s 15, [.d (.lst (List.map (enL (D.int .u8)) a3.F_Cells))])]⟩) v) [.l c10_34] .norm ⟨[(49, nI x0), (48, nI (a1.length : Int)), (47, .d (.lst (List.map (enL (D.int .i64)) a1))), (9, bB r1), (7, .ptr (.s 15) 0), (0, nI a0), (1, .d (.lst (List.map (enL (D.int .i64)) a1))), (2, lY a2)], [(.s 15, [.d (.lst (List.map (enL (D.int .u8)) a3.F_Cells))])]⟩) v
theorem ok_thrumlaw20_StoreBack_l0_ok (a0 : Int) (a1 : List (List Int)) (a2 : List Int) (a3 : T_api_Store) (r1 : Bool) (x0 : Int) : Ok (M_thrumlaw20_StoreBack_l0 a0 a1 a2 a3 r1 x0) (q_ok_thrumlaw20_StoreBack_l0_ok a0 a1 a2 a3 r1 x0) := by
  refine M_thrumlaw20_StoreBack_l0.partial_correctness a0 a1 a2 a3 r1 (q_ok_thrumlaw20_StoreBack_l0_ok a0 a1 a2 a3 r1) ?_ x0
  clear x0
  intro f' IH x0
  refine okI ?_
  unfold q_ok_thrumlaw20_StoreBack_l0_ok at *
  refine Av 1 [.c c10_34, .l c10_34] ⟨[(49, nI x0), (48, nI (a1.length : Int)), (47, .d (.lst (List.map (enL (D.int .i64)) a1))), (9, bB r1), (7, .ptr (.s 15) 0), (0, nI a0), (1, .d (.lst (List.map (enL (D.int .i64)) a1))), (2, lY a2)], [(.s 15, [.d (.lst (List.map (enL (D.int .u8)) a3.F_Cells))])]⟩ ?_
  refine Av 5 [.c c10_20, .c c10_32, .l c10_34] ⟨[(50, bB (decide (x0 < (a1.length : Int)))), (49, nI x0), (48, nI (a1.length : Int)), (47, .d (.lst (List.map (enL (D.int .i64)) a1))), (9, bB r1), (7, .ptr (.s 15) 0), (0, nI a0), (1, .d (.lst (List.map (enL (D.int .i64)) a1))), (2, lY a2)], [(.s 15, [.d (.lst (List.map (enL (D.int .u8)) a3.F_Cells))])]⟩ ?_
  refine L_split 50 rfl (fun _ => ?_) (fun _ => ?_)
  · refine Av 6 [.o false o10_8, .c c10_28, .b 1, .c c10_31, .l c10_34] ⟨[(49, nI x0), (48, nI (a1.length : Int)), (47, .d (.lst (List.map (enL (D.int .i64)) a1))), (9, bB r1), (7, .ptr (.s 15) 0), (0, nI a0), (1, .d (.lst (List.map (enL (D.int .i64)) a1))), (2, lY a2)], [(.s 15, [.d (.lst (List.map (enL (D.int .u8)) a3.F_Cells))])]⟩ ?_
    refine L_idxD (enc := enL (D.int .i64)) (l := a1) (iv := x0) trivial rfl rfl (fun _ => rfl) (fun hc800 => ?_)
    refine Av 6 [.o false (o10_9.drop 1), .c c10_27, .b 1, .c c10_31, .l c10_34] ⟨[(53, lI (at' a1 x0)), (49, nI x0), (48, nI (a1.length : Int)), (47, .d (.lst (List.map (enL (D.int .i64)) a1))), (9, bB r1), (7, .ptr (.s 15) 0), (0, nI a0), (1, .d (.lst (List.map (enL (D.int .i64)) a1))), (2, lY a2)], [(.s 15, [.d (.lst (List.map (enL (D.int .u8)) a3.F_Cells))])]⟩ ?_
    refine L_len (enc := D.int .i64) (l := at' a1 x0) trivial rfl ?_
    refine Av 2 [.c c10_27, .b 1, .c c10_31, .l c10_34] ⟨[(55, bB (decide (((at' a1 x0).length : Int) > 5000))), (49, nI x0), (48, nI (a1.length : Int)), (47, .d (.lst (List.map (enL (D.int .i64)) a1))), (9, bB r1), (7, .ptr (.s 15) 0), (0, nI a0), (1, .d (.lst (List.map (enL (D.int .i64)) a1))), (2, lY a2)], [(.s 15, [.d (.lst (List.map (enL (D.int .u8)) a3.F_Cells))])]⟩ ?_
    refine L_split 55 rfl (fun _ => ?_) (fun _ => ?_)
    · refine Avk 10 [] .ret ⟨[(8, bB r1)], []⟩ ?_
      exact L_retR
    · refine Av 7 [.l c10_34] ⟨[(49, nI (IntKind.i64.wrap (x0 + 1))), (48, nI (a1.length : Int)), (47, .d (.lst (List.map (enL (D.int .i64)) a1))), (9, bB r1), (7, .ptr (.s 15) 0), (0, nI a0), (1, .d (.lst (List.map (enL (D.int .i64)) a1))), (2, lY a2)], [(.s 15, [.d (.lst (List.map (enL (D.int .u8)) a3.F_Cells))])]⟩ ?_
      exact L_again (IH (IntKind.i64.wrap (x0 + 1)))
  · refine Avk 4 [] (.exit 0) ⟨[(9, bB r1), (7, .ptr (.s 15) 0), (0, nI a0), (1, .d (.lst (List.map (enL (D.int .i64)) a1))), (2, lY a2)], [(.s 15, [.d (.lst (List.map (enL (D.int .u8)) a3.F_Cells))])]⟩ ?_
    exact L_endR
theorem ok_thrumlaw20_StoreBack (a0 : Int) (a1 : List (List Int)) (a2 : List Int) (a3 : T_api_Store) : ∀ v, M_thrumlaw20_StoreBack a0 a1 a2 a3 = some v → EvF Try.prog 10 [.int .i64 a0, .lst (List.map (enL (D.int .i64)) a1), .lst (List.map (D.int .u8) a2), .agg [.lst (List.map (enL (D.int .u8)) a3.F_Cells)]] (en_thrumlaw20_StoreBack v) := by
  intro v hv
  refine EvF_go fn10 (Nat.le_of_ble_eq_true rfl) ?_
  suffices h : Ok (M_thrumlaw20_StoreBack a0 a1 a2 a3) fun v => go Try.prog 162 (Fnl [.t 8] (en_thrumlaw20_StoreBack v) []) [.c c10_91] .norm (initSt (List.map PV.d [.int .i64 a0, .lst (List.map (enL (D.int .i64)) a1), .lst (List.map (D.int .u8) a2), .agg [.lst (List.map (enL (D.int .u8)) a3.F_Cells)]]) []) from h v hv
  unfold M_thrumlaw20_StoreBack
  refine Av 7 [.o false o10_1, .c c10_89] ⟨[(7, .ptr (.s 15) 0), (0, nI a0), (1, .d (.lst (List.map (enL (D.int .i64)) a1))), (2, lY a2)], [(.s 15, [.d (.lst (List.map (enL (D.int .u8)) a3.F_Cells))])]⟩ ?_
  refine L_call (ok_thrumlaw20_live) trivial rfl (fun _ => rfl) (fun _ => trivial) (fun r1 => ?_)
  refine Av 8 [.c c10_7, .c c10_88] ⟨[(32, bB (!r1)), (9, bB r1), (7, .ptr (.s 15) 0), (0, nI a0), (1, .d (.lst (List.map (enL (D.int .i64)) a1))), (2, lY a2)], [(.s 15, [.d (.lst (List.map (enL (D.int .u8)) a3.F_Cells))])]⟩ ?_
  refine L_split 32 decF (fun _ => ?_) (fun _ => ?_)
  · refine Avk 7 [] .ret ⟨[(8, bB false)], []⟩ ?_
    exact L_ret
  · refine Av 6 [.o false (o10_4.drop 1), .c c10_14, .c c10_87] ⟨[(33, .d (.lst (List.map (enL (D.int .i64)) a1))), (9, bB r1), (7, .ptr (.s 15) 0), (0, nI a0), (1, .d (.lst (List.map (enL (D.int .i64)) a1))), (2, lY a2)], [(.s 15, [.d (.lst (List.map (enL (D.int .u8)) a3.F_Cells))])]⟩ ?_
    refine L_len (enc := enL (D.int .i64)) (l := a1) trivial rfl ?_
    refine Av 2 [.o false (o10_4.drop 4), .c c10_14, .c c10_87] ⟨[(36, bB (decide ((a1.length : Int) > 20))), (9, bB r1), (7, .ptr (.s 15) 0), (0, nI a0), (1, .d (.lst (List.map (enL (D.int .i64)) a1))), (2, lY a2)], [(.s 15, [.d (.lst (List.map (enL (D.int .u8)) a3.F_Cells))])]⟩ ?_
    refine L_take 4 o10_4t4_8 (o10_4.drop 8) ?_
    refine L_join [.o false o10_4t4_8] [.o false (o10_4.drop 8), .c c10_14, .c c10_87] (fun x : Bool => ⟨[(40, bB x), (9, bB r1), (7, .ptr (.s 15) 0), (0, nI a0), (1, .d (.lst (List.map (enL (D.int .i64)) a1))), (2, lY a2)], [(.s 15, [.d (.lst (List.map (enL (D.int .u8)) a3.F_Cells))])]⟩) ?_ (fun j2 => ?_)
    · refine L_split 36 rfl (fun _ => ?_) (fun _ => ?_)
      · refine Av 5 [] ⟨[(40, bB true), (9, bB r1), (7, .ptr (.s 15) 0), (0, nI a0), (1, .d (.lst (List.map (enL (D.int .i64)) a1))), (2, lY a2)], [(.s 15, [.d (.lst (List.map (enL (D.int .u8)) a3.F_Cells))])]⟩ ?_
        exact L_end
      · refine Av 1 [.o false (o10_4t4_8.drop 1)] ⟨[(37, lY a2), (36, bB false), (9, bB r1), (7, .ptr (.s 15) 0), (0, nI a0), (1, .d (.lst (List.map (enL (D.int .i64)) a1))), (2, lY a2)], [(.s 15, [.d (.lst (List.map (enL (D.int .u8)) a3.F_Cells))])]⟩ ?_
        refine L_len (enc := D.int .u8) (l := a2) rfl rfl ?_
        refine Av 3 [] ⟨[(40, bB (decide ((a2.length : Int) > 5000))), (9, bB r1), (7, .ptr (.s 15) 0), (0, nI a0), (1, .d (.lst (List.map (enL (D.int .i64)) a1))), (2, lY a2)], [(.s 15, [.d (.lst (List.map (enL (D.int .u8)) a3.F_Cells))])]⟩ ?_
        exact L_end
    · refine Av 1 [.o false (o10_4.drop 9), .c c10_14, .c c10_87] ⟨[(41, bB j2), (9, bB r1), (7, .ptr (.s 15) 0), (0, nI a0), (1, .d (.lst (List.map (enL (D.int .i64)) a1))), (2, lY a2)], [(.s 15, [.d (.lst (List.map (enL (D.int .u8)) a3.F_Cells))])]⟩ ?_
      refine L_take 4 o10_4t9_13 (o10_4.drop 13) ?_
      refine L_join [.o false o10_4t9_13] [.o false (o10_4.drop 13), .c c10_14, .c c10_87] (fun x : Bool => ⟨[(45, bB x), (9, bB r1), (7, .ptr (.s 15) 0), (0, nI a0), (1, .d (.lst (List.map (enL (D.int .i64)) a1))), (2, lY a2)], [(.s 15, [.d (.lst (List.map (enL (D.int .u8)) a3.F_Cells))])]⟩) ?_ (fun j4 => ?_)
      · refine L_split 41 decT (fun _ => ?_) (fun _ => ?_)
        · refine Av 5 [] ⟨[(45, bB true), (9, bB r1), (7, .ptr (.s 15) 0), (0, nI a0), (1, .d (.lst (List.map (enL (D.int .i64)) a1))), (2, lY a2)], [(.s 15, [.d (.lst (List.map (enL (D.int .u8)) a3.F_Cells))])]⟩ ?_
          exact L_end
        · refine Av 1 [.o false (o10_4t9_13.drop 1)] ⟨[(42, .agg [.d (.lst (List.map (enL (D.int .u8)) a3.F_Cells))]), (41, bB false), (9, bB r1), (7, .ptr (.s 15) 0), (0, nI a0), (1, .d (.lst (List.map (enL (D.int .i64)) a1))), (2, lY a2)], [(.s 15, [.d (.lst (List.map (enL (D.int .u8)) a3.F_Cells))])]⟩ ?_
          refine L_call (ok_thrumref20_Few a3) rfl rfl (fun _ => rfl) (fun _ => trivial) (fun r3 => ?_)
          refine Av 3 [] ⟨[(45, bB (!r3)), (9, bB r1), (7, .ptr (.s 15) 0), (0, nI a0), (1, .d (.lst (List.map (enL (D.int .i64)) a1))), (2, lY a2)], [(.s 15, [.d (.lst (List.map (enL (D.int .u8)) a3.F_Cells))])]⟩ ?_
          exact L_end
      · refine Av 1 [.c c10_14, .c c10_87] ⟨[(45, bB j4), (9, bB r1), (7, .ptr (.s 15) 0), (0, nI a0), (1, .d (.lst (List.map (enL (D.int .i64)) a1))), (2, lY a2)], [(.s 15, [.d (.lst (List.map (enL (D.int .u8)) a3.F_Cells))])]⟩ ?_
        refine L_split 45 decT (fun _ => ?_) (fun _ => ?_)
        · refine Avk 8 [] .ret ⟨[(8, bB r1)], []⟩ ?_
          exact L_ret
        · refine Av 6 [.o false (o10_6.drop 1), .c c10_36, .c c10_86] ⟨[(47, .d (.lst (List.map (enL (D.int .i64)) a1))), (9, bB r1), (7, .ptr (.s 15) 0), (0, nI a0), (1, .d (.lst (List.map (enL (D.int .i64)) a1))), (2, lY a2)], [(.s 15, [.d (.lst (List.map (enL (D.int .u8)) a3.F_Cells))])]⟩ ?_
          refine L_len (enc := enL (D.int .i64)) (l := a1) trivial rfl ?_
          refine Av 4 [.l c10_34, .b 0, .c c10_86] ⟨[(49, nI 0), (48, nI (a1.length : Int)), (47, .d (.lst (List.map (enL (D.int .i64)) a1))), (9, bB r1), (7, .ptr (.s 15) 0), (0, nI a0), (1, .d (.lst (List.map (enL (D.int .i64)) a1))), (2, lY a2)], [(.s 15, [.d (.lst (List.map (enL (D.int .u8)) a3.F_Cells))])]⟩ ?_
          refine L_pieceR (fs := [.l c10_34]) (ks := [.b 0, .c c10_86]) (ok_thrumlaw20_StoreBack_l0_ok a0 a1 a2 a3 r1 0) L_thru (fun j5 => ?_)
          refine Av 6 [.o false (o10_12.drop 2), .c c10_51, .c c10_85] ⟨[(60, .d (.lst (List.map (enL (D.int .i64)) a1))), (59, nI a0), (9, bB r1), (7, .ptr (.s 15) 0), (0, nI a0), (1, .d (.lst (List.map (enL (D.int .i64)) a1))), (2, lY a2)], [(.s 15, [.d (.lst (List.map (enL (D.int .u8)) a3.F_Cells))])]⟩ ?_
          refine L_call (ok_store_Lay a0 a1) trivial rfl (fun _ => rfl) (fun _ => ⟨(flat_map_of fun _ => trivial), trivial, trivial⟩) (fun r6 => ?_)
          refine Av 11 [.o false (o10_13.drop 3), .c c10_50, .c c10_85] ⟨[(66, bB (r6.2 == 0)), (12, sY (.s 19232) r6.1), (9, bB r1), (7, .ptr (.s 15) 0), (0, nI a0), (1, .d (.lst (List.map (enL (D.int .i64)) a1))), (2, lY a2)], [(.s 15, [.d (.lst (List.map (enL (D.int .u8)) a3.F_Cells))])]⟩ ?_
          refine L_take 3 o10_13t3_6 (o10_13.drop 6) ?_
          refine L_join [.o false o10_13t3_6] [.o false (o10_13.drop 6), .c c10_50, .c c10_85] (fun x : Bool => ⟨[(69, bB x), (12, sY (.s 19232) r6.1), (9, bB r1), (7, .ptr (.s 15) 0), (0, nI a0), (1, .d (.lst (List.map (enL (D.int .i64)) a1))), (2, lY a2)], [(.s 15, [.d (.lst (List.map (enL (D.int .u8)) a3.F_Cells))])]⟩) ?_ (fun j7 => ?_)
          · refine L_split 66 decE (fun _ => ?_) (fun _ => ?_)
            · refine Av 4 [] ⟨[(69, bB (decide (a0 ≤ 1073741824))), (12, sY (.s 19232) r6.1), (9, bB r1), (7, .ptr (.s 15) 0), (0, nI a0), (1, .d (.lst (List.map (enL (D.int .i64)) a1))), (2, lY a2)], [(.s 15, [.d (.lst (List.map (enL (D.int .u8)) a3.F_Cells))])]⟩ ?_
              exact L_end
            · refine Av 4 [] ⟨[(69, bB false), (12, sY (.s 19232) r6.1), (9, bB r1), (7, .ptr (.s 15) 0), (0, nI a0), (1, .d (.lst (List.map (enL (D.int .i64)) a1))), (2, lY a2)], [(.s 15, [.d (.lst (List.map (enL (D.int .u8)) a3.F_Cells))])]⟩ ?_
              exact L_end
          · refine Av 1 [.c c10_50, .c c10_85] ⟨[(69, bB j7), (12, sY (.s 19232) r6.1), (9, bB r1), (7, .ptr (.s 15) 0), (0, nI a0), (1, .d (.lst (List.map (enL (D.int .i64)) a1))), (2, lY a2)], [(.s 15, [.d (.lst (List.map (enL (D.int .u8)) a3.F_Cells))])]⟩ ?_
            refine L_joinR (QR := fun r => Fnl [.t 8] (en_thrumlaw20_StoreBack r) []) [.c c10_50] [.c c10_85] (fun x : Unit => ⟨[(9, bB r1), (7, .ptr (.s 15) 0), (2, lY a2)], [(.s 15, [.d (.lst (List.map (enL (D.int .u8)) a3.F_Cells))])]⟩) ?_ L_thru (fun j12 => ?_)
            · refine L_split 69 decT (fun _ => ?_) (fun _ => ?_)
              · refine Av 4 [.o false (o10_14.drop 1), .c c10_47] ⟨[(71, sY (.s 19232) r6.1), (9, bB r1), (7, .ptr (.s 15) 0), (0, nI a0), (1, .d (.lst (List.map (enL (D.int .i64)) a1))), (2, lY a2)], [(.s 15, [.d (.lst (List.map (enL (D.int .u8)) a3.F_Cells))])]⟩ ?_
                refine L_callZ [.s 19232] (ok_store_Take r6.1) trivial rfl rfl (fun _ => rfl) (fun r8 => ?_)
                refine Av 14 [.o false (o10_15.drop 4), .c c10_46] ⟨[(79, bB (r8.1 != a0)), (16, nI r8.2.2), (15, .sl (.s 22416) 1 0 (List.map (enL (D.int .i64)) r8.2.1)), (9, bB r1), (7, .ptr (.s 15) 0), (1, .d (.lst (List.map (enL (D.int .i64)) a1))), (2, lY a2)], [(.s 15, [.d (.lst (List.map (enL (D.int .u8)) a3.F_Cells))])]⟩ ?_
                refine L_take 5 o10_15t4_9 (o10_15.drop 9) ?_
                refine L_join [.o false o10_15t4_9] [.o false (o10_15.drop 9), .c c10_46] (fun x : Bool => ⟨[(84, bB x), (16, nI r8.2.2), (9, bB r1), (7, .ptr (.s 15) 0), (2, lY a2)], [(.s 15, [.d (.lst (List.map (enL (D.int .u8)) a3.F_Cells))])]⟩) ?_ (fun j10 => ?_)
                · refine L_split 79 decNe (fun _ => ?_) (fun _ => ?_)
                  · refine Av 6 [] ⟨[(84, bB true), (16, nI r8.2.2), (9, bB r1), (7, .ptr (.s 15) 0), (2, lY a2)], [(.s 15, [.d (.lst (List.map (enL (D.int .u8)) a3.F_Cells))])]⟩ ?_
                    exact L_end
                  · refine Av 2 [.o false (o10_15t4_9.drop 2)] ⟨[(81, .d (.lst (List.map (enL (D.int .i64)) a1))), (79, bB false), (80, .sl (.s 22416) 1 0 (List.map (enL (D.int .i64)) r8.2.1)), (16, nI r8.2.2), (9, bB r1), (7, .ptr (.s 15) 0), (2, lY a2)], [(.s 15, [.d (.lst (List.map (enL (D.int .u8)) a3.F_Cells))])]⟩ ?_
                    refine L_call (ok_thrumref15_SameLists r8.2.1 a1) rfl rfl (fun _ => rfl) (fun _ => trivial) (fun r9 => ?_)
                    refine Av 3 [] ⟨[(84, bB (!r9)), (16, nI r8.2.2), (9, bB r1), (7, .ptr (.s 15) 0), (2, lY a2)], [(.s 15, [.d (.lst (List.map (enL (D.int .u8)) a3.F_Cells))])]⟩ ?_
                    exact L_end
                · refine Av 1 [.o false (o10_15.drop 10), .c c10_46] ⟨[(85, bB j10), (16, nI r8.2.2), (9, bB r1), (7, .ptr (.s 15) 0), (2, lY a2)], [(.s 15, [.d (.lst (List.map (enL (D.int .u8)) a3.F_Cells))])]⟩ ?_
                  refine L_take 3 o10_15t10_13 (o10_15.drop 13) ?_
                  refine L_join [.o false o10_15t10_13] [.o false (o10_15.drop 13), .c c10_46] (fun x : Bool => ⟨[(88, bB x), (9, bB r1), (7, .ptr (.s 15) 0), (2, lY a2)], [(.s 15, [.d (.lst (List.map (enL (D.int .u8)) a3.F_Cells))])]⟩) ?_ (fun j11 => ?_)
                  · refine L_split 85 decT (fun _ => ?_) (fun _ => ?_)
                    · refine Av 4 [] ⟨[(88, bB true), (9, bB r1), (7, .ptr (.s 15) 0), (2, lY a2)], [(.s 15, [.d (.lst (List.map (enL (D.int .u8)) a3.F_Cells))])]⟩ ?_
                      exact L_end
                    · refine Av 4 [] ⟨[(88, bB (r8.2.2 != 0)), (9, bB r1), (7, .ptr (.s 15) 0), (2, lY a2)], [(.s 15, [.d (.lst (List.map (enL (D.int .u8)) a3.F_Cells))])]⟩ ?_
                      exact L_end
                  · refine Av 1 [.c c10_46] ⟨[(88, bB j11), (9, bB r1), (7, .ptr (.s 15) 0), (2, lY a2)], [(.s 15, [.d (.lst (List.map (enL (D.int .u8)) a3.F_Cells))])]⟩ ?_
                    refine L_split 88 decT (fun _ => ?_) (fun _ => ?_)
                    · refine Avk 6 [] .ret ⟨[(8, bB false)], []⟩ ?_
                      exact L_retR
                    · refine Av 2 [] ⟨[(9, bB r1), (7, .ptr (.s 15) 0), (2, lY a2)], [(.s 15, [.d (.lst (List.map (enL (D.int .u8)) a3.F_Cells))])]⟩ ?_
                      exact L_endR
              · refine Av 2 [] ⟨[(9, bB r1), (7, .ptr (.s 15) 0), (2, lY a2)], [(.s 15, [.d (.lst (List.map (enL (D.int .u8)) a3.F_Cells))])]⟩ ?_
                exact L_endR
            · refine Av 4 [.o false (o10_17.drop 1), .c c10_66, .c c10_84] ⟨[(90, lY a2), (9, bB r1), (7, .ptr (.s 15) 0), (2, lY a2)], [(.s 15, [.d (.lst (List.map (enL (D.int .u8)) a3.F_Cells))])]⟩ ?_
              refine L_callZ [] (ok_store_Take a2) trivial rfl rfl (fun _ => rfl) (fun r13 => ?_)
              refine Av 13 [.c c10_65, .c c10_84] ⟨[(96, bB (r13.2.2 == 0)), (18, .sl (.s 27216) 1 0 (List.map (enL (D.int .i64)) r13.2.1)), (17, nI r13.1), (9, bB r1), (7, .ptr (.s 15) 0), (2, lY a2)], [(.s 15, [.d (.lst (List.map (enL (D.int .u8)) a3.F_Cells))])]⟩ ?_
              refine L_joinR (QR := fun r => Fnl [.t 8] (en_thrumlaw20_StoreBack r) []) [.c c10_65] [.c c10_84] (fun x : Unit => ⟨[(9, bB r1), (7, .ptr (.s 15) 0), (2, lY a2)], [(.s 15, [.d (.lst (List.map (enL (D.int .u8)) a3.F_Cells))])]⟩) ?_ L_thru (fun j17 => ?_)
              · refine L_split 96 decE (fun _ => ?_) (fun _ => ?_)
                · refine Av 5 [.o false (o10_19.drop 2), .c c10_62] ⟨[(99, .sl (.s 27216) 1 0 (List.map (enL (D.int .i64)) r13.2.1)), (98, nI r13.1), (9, bB r1), (7, .ptr (.s 15) 0), (2, lY a2)], [(.s 15, [.d (.lst (List.map (enL (D.int .u8)) a3.F_Cells))])]⟩ ?_
                  refine L_call (ok_store_Lay r13.1 r13.2.1) trivial rfl (fun _ => rfl) (fun _ => ⟨(flat_map_of fun _ => trivial), trivial, trivial⟩) (fun r14 => ?_)
                  refine Av 11 [.o false (o10_20.drop 3), .c c10_61] ⟨[(105, bB (r14.2 != 0)), (20, sY (.s 30432) r14.1), (9, bB r1), (7, .ptr (.s 15) 0), (2, lY a2)], [(.s 15, [.d (.lst (List.map (enL (D.int .u8)) a3.F_Cells))])]⟩ ?_
                  refine L_take 5 o10_20t3_8 (o10_20.drop 8) ?_
                  refine L_join [.o false o10_20t3_8] [.o false (o10_20.drop 8), .c c10_61] (fun x : Bool => ⟨[(110, bB x), (9, bB r1), (7, .ptr (.s 15) 0), (2, lY a2)], [(.s 15, [.d (.lst (List.map (enL (D.int .u8)) a3.F_Cells))])]⟩) ?_ (fun j16 => ?_)
                  · refine L_split 105 decNe (fun _ => ?_) (fun _ => ?_)
                    · refine Av 6 [] ⟨[(110, bB true), (9, bB r1), (7, .ptr (.s 15) 0), (2, lY a2)], [(.s 15, [.d (.lst (List.map (enL (D.int .u8)) a3.F_Cells))])]⟩ ?_
                      exact L_end
                    · refine Av 2 [.o false (o10_20t3_8.drop 2)] ⟨[(107, lY a2), (105, bB false), (106, sY (.s 30432) r14.1), (9, bB r1), (7, .ptr (.s 15) 0), (2, lY a2)], [(.s 15, [.d (.lst (List.map (enL (D.int .u8)) a3.F_Cells))])]⟩ ?_
                      refine L_call (ok_thrumref03_Same r14.1 a2) rfl rfl (fun _ => rfl) (fun _ => trivial) (fun r15 => ?_)
                      refine Av 3 [] ⟨[(110, bB (!r15)), (9, bB r1), (7, .ptr (.s 15) 0), (2, lY a2)], [(.s 15, [.d (.lst (List.map (enL (D.int .u8)) a3.F_Cells))])]⟩ ?_
                      exact L_end
                  · refine Av 1 [.c c10_61] ⟨[(110, bB j16), (9, bB r1), (7, .ptr (.s 15) 0), (2, lY a2)], [(.s 15, [.d (.lst (List.map (enL (D.int .u8)) a3.F_Cells))])]⟩ ?_
                    refine L_split 110 decT (fun _ => ?_) (fun _ => ?_)
                    · refine Avk 6 [] .ret ⟨[(8, bB false)], []⟩ ?_
                      exact L_retR
                    · refine Av 2 [] ⟨[(9, bB r1), (7, .ptr (.s 15) 0), (2, lY a2)], [(.s 15, [.d (.lst (List.map (enL (D.int .u8)) a3.F_Cells))])]⟩ ?_
                      exact L_endR
                · refine Av 2 [] ⟨[(9, bB r1), (7, .ptr (.s 15) 0), (2, lY a2)], [(.s 15, [.d (.lst (List.map (enL (D.int .u8)) a3.F_Cells))])]⟩ ?_
                  exact L_endR
              · refine Av 3 [.o false (o10_22.drop 1), .c c10_83] ⟨[(112, .agg [.d (.lst (List.map (enL (D.int .u8)) a3.F_Cells))]), (9, bB r1), (7, .ptr (.s 15) 0), (2, lY a2)], [(.s 15, [.d (.lst (List.map (enL (D.int .u8)) a3.F_Cells))])]⟩ ?_
                refine L_call (ok_store_Load a3) trivial rfl (fun _ => rfl) (fun _ => ⟨(flat_map_of fun _ => trivial), trivial, trivial, trivial⟩) (fun r18 => ?_)
                refine Av 12 [.o false (o10_23.drop 2), .c c10_82] ⟨[(119, lY a2), (118, .agg [.d (.lst (List.map (enL (D.int .u8)) a3.F_Cells))]), (24, nI r18.2.2), (23, nI r18.2.1), (9, bB r1), (2, lY a2)], []⟩ ?_
                refine L_callZ [] (ok_store_Save a3 a2) trivial rfl rfl (fun _ => rfl) (fun r19 => ?_)
                refine Av 13 [.c c10_75, .c c10_81] ⟨[(124, bB (r19.2 != 0)), (25, .ptr (.s 36911) 0), (24, nI r18.2.2), (23, nI r18.2.1), (9, bB r1), (2, lY a2)], [(.s 36911, [.d (.lst (List.map (enL (D.int .u8)) r19.1))])]⟩ ?_
                refine L_split 124 decNe (fun _ => ?_) (fun _ => ?_)
                · refine Av 5 [.o false (o10_25.drop 2), .c .ret, .c c10_81] ⟨[(126, bB r1), (25, .ptr (.s 36911) 0)], [(.s 36911, [.d (.lst (List.map (enL (D.int .u8)) r19.1))])]⟩ ?_
                  refine L_take 5 o10_25t2_7 (o10_25.drop 7) ?_
                  refine L_join [.o false o10_25t2_7] [.o false (o10_25.drop 7), .c .ret, .c c10_81] (fun x : Bool => ⟨[(131, bB x)], []⟩) ?_ (fun j20 => ?_)
                  · refine L_split 126 decT (fun _ => ?_) (fun _ => ?_)
                    · refine Av 2 [.o false (o10_25t2_7.drop 2)] ⟨[(128, .d (.lst (List.map (enL (D.int .u8)) r19.1))), (126, bB true)], []⟩ ?_
                      refine L_len (enc := enL (D.int .u8)) (l := r19.1) rfl rfl ?_
                      refine Av 3 [] ⟨[(131, bB ((r19.1.length : Int) == 0))], []⟩ ?_
                      exact L_end
                    · refine Av 6 [] ⟨[(131, bB false)], []⟩ ?_
                      exact L_end
                  · refine Avk 4 [] .ret ⟨[(8, bB j20)], []⟩ ?_
                    exact L_ret
                · refine Av 5 [.o false (o10_26.drop 1), .c c10_80] ⟨[(133, .agg [.d (.lst (List.map (enL (D.int .u8)) r19.1))]), (24, nI r18.2.2), (23, nI r18.2.1), (9, bB r1), (2, lY a2)], []⟩ ?_
                  refine L_call (ok_store_Load (⟨r19.1⟩ : T_api_Store)) trivial rfl (fun _ => rfl) (fun _ => ⟨(flat_map_of fun _ => trivial), trivial, trivial, trivial⟩) (fun r21 => ?_)
                  refine Av 12 [.o false (o10_27.drop 2), .c .ret] ⟨[(139, bB r1), (29, nI r21.2.2), (28, nI r21.2.1), (27, sY (.s 41616) r21.1), (24, nI r18.2.2), (23, nI r18.2.1), (2, lY a2)], []⟩ ?_
                  refine L_split 139 decT (fun _ => ?_) (fun _ => ?_)
                  · refine Av 3 [.o false (o10_27.drop 5), .c .ret] ⟨[(142, bB (r18.2.2 == 0)), (139, bB true), (29, nI r21.2.2), (28, nI r21.2.1), (27, sY (.s 41616) r21.1), (24, nI r18.2.2), (23, nI r18.2.1), (2, lY a2)], []⟩ ?_
                    refine L_split 142 decE (fun _ => ?_) (fun _ => ?_)
                    · refine Av 9 [.o false (o10_27.drop 14), .c .ret] ⟨[(151, bB (r21.2.2 == 0)), (28, nI r21.2.1), (27, sY (.s 41616) r21.1), (23, nI r18.2.1), (2, lY a2)], []⟩ ?_
                      refine L_take 4 o10_27t14_18 (o10_27.drop 18) ?_
                      refine L_join [.o false o10_27t14_18] [.o false (o10_27.drop 18), .c .ret] (fun x : Bool => ⟨[(155, bB x), (28, nI r21.2.1), (23, nI r18.2.1)], []⟩) ?_ (fun j23 => ?_)
                      · refine L_split 151 decE (fun _ => ?_) (fun _ => ?_)
                        · refine Av 2 [.o false (o10_27t14_18.drop 2)] ⟨[(153, lY a2), (151, bB true), (152, sY (.s 41616) r21.1), (28, nI r21.2.1), (23, nI r18.2.1)], []⟩ ?_
                          refine L_call (ok_thrumref03_Same r21.1 a2) rfl rfl (fun _ => rfl) (fun _ => trivial) (fun r22 => ?_)
                          refine Av 2 [] ⟨[(155, bB r22), (28, nI r21.2.1), (23, nI r18.2.1)], []⟩ ?_
                          exact L_end
                        · refine Av 5 [] ⟨[(155, bB false), (28, nI r21.2.1), (23, nI r18.2.1)], []⟩ ?_
                          exact L_end
                      · refine Av 1 [.o false (o10_27.drop 19), .c .ret] ⟨[(156, bB j23), (28, nI r21.2.1), (23, nI r18.2.1)], []⟩ ?_
                        refine L_take 5 o10_27t19_24 (o10_27.drop 24) ?_
                        refine L_join [.o false o10_27t19_24] [.o false (o10_27.drop 24), .c .ret] (fun x : Bool => ⟨[(161, bB x)], []⟩) ?_ (fun j24 => ?_)
                        · refine L_split 156 decT (fun _ => ?_) (fun _ => ?_)
                          · refine Av 6 [] ⟨[(161, bB (r21.2.1 == (IntKind.i64.wrap (r18.2.1 + 1))))], []⟩ ?_
                            exact L_end
                          · refine Av 6 [] ⟨[(161, bB false)], []⟩ ?_
                            exact L_end
                        · refine Avk 3 [] .ret ⟨[(8, bB j24)], []⟩ ?_
                          exact L_ret
                    · refine Av 5 [.o false (o10_27.drop 10), .c .ret] ⟨[(147, bB (r18.2.2 == 8)), (29, nI r21.2.2), (28, nI r21.2.1), (27, sY (.s 41616) r21.1), (23, nI r18.2.1), (2, lY a2)], []⟩ ?_
                      refine L_take 3 o10_27t10_13 (o10_27.drop 13) ?_
                      refine L_join [.o false o10_27t10_13] [.o false (o10_27.drop 13), .c .ret] (fun x : Bool => ⟨[(150, bB x), (28, nI r21.2.1), (27, sY (.s 41616) r21.1), (23, nI r18.2.1), (2, lY a2)], []⟩) ?_ (fun j25 => ?_)
                      · refine L_split 147 decE (fun _ => ?_) (fun _ => ?_)
                        · refine Av 4 [] ⟨[(150, bB (r21.2.2 == 0)), (28, nI r21.2.1), (27, sY (.s 41616) r21.1), (23, nI r18.2.1), (2, lY a2)], []⟩ ?_
                          exact L_end
                        · refine Av 4 [] ⟨[(150, bB false), (28, nI r21.2.1), (27, sY (.s 41616) r21.1), (23, nI r18.2.1), (2, lY a2)], []⟩ ?_
                          exact L_end
                      · refine Av 1 [.o false (o10_27.drop 14), .c .ret] ⟨[(151, bB j25), (28, nI r21.2.1), (27, sY (.s 41616) r21.1), (23, nI r18.2.1), (2, lY a2)], []⟩ ?_
                        refine L_take 4 o10_27t14_18 (o10_27.drop 18) ?_
                        refine L_join [.o false o10_27t14_18] [.o false (o10_27.drop 18), .c .ret] (fun x : Bool => ⟨[(155, bB x), (28, nI r21.2.1), (23, nI r18.2.1)], []⟩) ?_ (fun j27 => ?_)
                        · refine L_split 151 decT (fun _ => ?_) (fun _ => ?_)
                          · refine Av 2 [.o false (o10_27t14_18.drop 2)] ⟨[(153, lY a2), (151, bB true), (152, sY (.s 41616) r21.1), (28, nI r21.2.1), (23, nI r18.2.1)], []⟩ ?_
                            refine L_call (ok_thrumref03_Same r21.1 a2) rfl rfl (fun _ => rfl) (fun _ => trivial) (fun r26 => ?_)
                            refine Av 2 [] ⟨[(155, bB r26), (28, nI r21.2.1), (23, nI r18.2.1)], []⟩ ?_
                            exact L_end
                          · refine Av 5 [] ⟨[(155, bB false), (28, nI r21.2.1), (23, nI r18.2.1)], []⟩ ?_
                            exact L_end
                        · refine Av 1 [.o false (o10_27.drop 19), .c .ret] ⟨[(156, bB j27), (28, nI r21.2.1), (23, nI r18.2.1)], []⟩ ?_
                          refine L_take 5 o10_27t19_24 (o10_27.drop 24) ?_
                          refine L_join [.o false o10_27t19_24] [.o false (o10_27.drop 24), .c .ret] (fun x : Bool => ⟨[(161, bB x)], []⟩) ?_ (fun j28 => ?_)
                          · refine L_split 156 decT (fun _ => ?_) (fun _ => ?_)
                            · refine Av 6 [] ⟨[(161, bB (r21.2.1 == (IntKind.i64.wrap (r18.2.1 + 1))))], []⟩ ?_
                              exact L_end
                            · refine Av 6 [] ⟨[(161, bB false)], []⟩ ?_
                              exact L_end
                          · refine Avk 3 [] .ret ⟨[(8, bB j28)], []⟩ ?_
                            exact L_ret
                  · refine Avk 25 [] .ret ⟨[(8, bB false)], []⟩ ?_
                    exact L_ret
end Go.Proofs.Ythhcgcaefjmekaa.Abs
