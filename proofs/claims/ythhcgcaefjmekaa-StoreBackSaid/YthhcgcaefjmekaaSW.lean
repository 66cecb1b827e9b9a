/- Walks of functions, printed by a program. Conditions: none. -/
import Derived.Test.YthhcgcaefjmekaaProg
import Derived.Test.YthhcgcaefjmekaaSM
namespace Go.Proofs.Ythhcgcaefjmekaa.Abs
open Go Go.RowKit
set_option linter.unusedVariables false
set_option maxRecDepth 100000
open Z
/-- thrum/store.New. -/
def en_store_New (v : (List (List Int)) × Int) : PV := .tup [.d (.agg [.lst (List.map (enL (D.int .u8)) v.1)]), nI v.2]
def o20_0 : List AOper := [⟨some 2, none, 0, .alloc 26 1 [.lst []]⟩, mi 3 1 0]
def o20_1 : List AOper := [mv 4 100 0, bc 5 101 .lss 4 1, mv 6 102 5, gv 7 6 false 103 0, ⟨some 8, some (6, false), 104, .bin .gtr .int (.t 7) (.c (.d (.int .i64 64)))⟩, pz 9 105 6 8 true]
def o20_2 : List AOper := [⟨some 10, none, 200, .build [.lst []] []⟩, ⟨none, none, 201, .store 1 (.t 2) (.t 10)⟩, mi 3 202 1]
def o20_3 : List AOper := [mv 11 300 0, ⟨some 12, none, 301, .bin .mul .int (.c (.d (.int .i64 2))) (.t 11)⟩, ⟨some 13, none, 302, .bin .add .int (.c (.d (.int .i64 2))) (.t 12)⟩, ⟨some 14, none, 303, .mkS 30 1 24 (.lst []) (.t 13) (.t 13)⟩, ⟨some 15, none, 304, .build [.lst []] [(0, 1, .t 14)]⟩, ⟨none, none, 305, .store 1 (.t 2) (.t 15)⟩, mi 3 306 0]
def o20_1t3_6 : List AOper := (o20_1.drop 3).take 3
def c20_6 : AC := .cond (.t 9) (.seq (.reg o20_2) .ret) .skip
def c20_10 : AC := .seq (.reg o20_3) .ret
def c20_12 : AC := .seq (.reg o20_0) (.seq (.seq (.reg o20_1) c20_6) c20_10)
theorem fn20 : fnA Try.prog 20 = some (16, [.c 2 true 1, .t 3], c20_12) := by kernel_rfl
theorem ok_store_New (a0 : Int) : ∀ v, M_store_New a0 = some v → EvF Try.prog 20 [.int .i64 a0] (en_store_New v) := by
  intro v hv
  refine EvF_go fn20 (Nat.le_of_ble_eq_true rfl) ?_
  suffices h : Ok (M_store_New a0) fun v => go Try.prog 16 (Fnl [.c 2 true 1, .t 3] (en_store_New v) []) [.c c20_12] .norm (initSt (List.map PV.d [.int .i64 a0]) []) from h v hv
  unfold M_store_New
  refine Av 11 [.o false (o20_1.drop 3), .c c20_6, .c c20_10] ⟨[(6, bB (decide (a0 < 1))), (2, .ptr (.s 15) 0), (0, nI a0)], [(.s 15, [.nils])]⟩ ?_
  refine L_take 3 o20_1t3_6 (o20_1.drop 6) ?_
  refine L_join [.o false o20_1t3_6] [.o false (o20_1.drop 6), .c c20_6, .c c20_10] (fun x : Bool => ⟨[(9, bB x), (2, .ptr (.s 15) 0), (0, nI a0)], [(.s 15, [.nils])]⟩) ?_ (fun j1 => ?_)
  · refine L_split 6 rfl (fun _ => ?_) (fun _ => ?_)
    · refine Av 4 [] ⟨[(9, bB true), (2, .ptr (.s 15) 0), (0, nI a0)], [(.s 15, [.nils])]⟩ ?_
      exact L_end
    · refine Av 4 [] ⟨[(9, bB (decide (a0 > 64))), (2, .ptr (.s 15) 0), (0, nI a0)], [(.s 15, [.nils])]⟩ ?_
      exact L_end
  · refine Av 1 [.c c20_6, .c c20_10] ⟨[(9, bB j1), (2, .ptr (.s 15) 0), (0, nI a0)], [(.s 15, [.nils])]⟩ ?_
    refine L_split 9 decT (fun _ => ?_) (fun _ => ?_)
    · refine Avk 9 [] .ret ⟨[(3, nI 1), (2, .ptr (.s 15) 0)], [(.s 15, [.nils])]⟩ ?_
      exact L_ret
    · refine Av 7 [.o false (o20_3.drop 3), .c .ret] ⟨[(13, nI (IntKind.i64.wrap (2 + (IntKind.i64.wrap (2 * a0))))), (2, .ptr (.s 15) 0)], [(.s 15, [.nils])]⟩ ?_
      refine L_mk (enc := enL (D.int .u8)) (z0 := []) (a := IntKind.i64.wrap (2 + (IntKind.i64.wrap (2 * a0)))) (b := IntKind.i64.wrap (2 + (IntKind.i64.wrap (2 * a0)))) trivial rfl rfl rfl (fun _ => ?_)
      refine Avk 5 [] .ret ⟨[(3, nI 0), (2, .ptr (.s 15) 0)], [(.s 15, [.sl (.s 4863) 1 0 (List.map (enL (D.int .u8)) (List.replicate (Int.toNat (IntKind.i64.wrap (2 + (IntKind.i64.wrap (2 * a0))))) []))])]⟩ ?_
      exact L_ret
/-- thrum/store.Check$1. -/
def en_store_Check_1 (v : Bool) : PV := bB v
def o81_0 : List AOper := [mb 2 0 false]
def o81_1 : List AOper := [mv 3 100 0, ln 4 101 3, bc 5 102 .gtr 4 256, mv 2 103 5]
def c81_4 : AC := .seq (.reg o81_0) (.seq (.reg o81_1) .ret)
theorem fn81 : fnA Try.prog 81 = some (6, [.t 2], c81_4) := by kernel_rfl
theorem ok_store_Check_1 (a0 : List Int) : ∀ v, M_store_Check_1 a0 = some v → EvF Try.prog 81 [.lst (List.map (D.int .u8) a0)] (en_store_Check_1 v) := by
  intro v hv
  refine EvF_go fn81 (Nat.le_of_ble_eq_true rfl) ?_
  suffices h : Ok (M_store_Check_1 a0) fun v => go Try.prog 6 (Fnl [.t 2] (en_store_Check_1 v) []) [.c c81_4] .norm (initSt (List.map PV.d [.lst (List.map (D.int .u8) a0)]) []) from h v hv
  unfold M_store_Check_1
  refine Av 7 [.o false (o81_1.drop 1), .c .ret] ⟨[(3, lY a0)], []⟩ ?_
  refine L_len (enc := D.int .u8) (l := a0) trivial rfl ?_
  refine Avk 4 [] .ret ⟨[(2, bB (decide ((a0.length : Int) > 256)))], []⟩ ?_
  exact L_ret
/-- slices.IndexFunc[[][]byte,[]byte]. -/
def en_slices_IndexFunc_byte_byte_store_Check_1 (v : Int) : PV := nI v
def o128_0 : List AOper := [mi 4 0 0]
def o128_1 : List AOper := [mv 6 100 0, ln 7 101 6, mi 8 102 0]
def o128_2 : List AOper := [bi 9 200 .lss 8 7]
def o128_3 : List AOper := [mv 10 300 8, mv 5 301 10]
def o128_4 : List AOper := [mv 11 400 1, mv 12 401 0, mv 13 402 5, ⟨some 14, none, 403, .idxA 1 (.t 12) (.t 13)⟩, ld 15 404 14, ⟨some 16, none, 405, .callv (.t 11) [.t 15]⟩]
def o128_5 : List AOper := [mv 17 500 5, mv 4 501 17]
def o128_6 : List AOper := [bc 18 600 .add 8 1, mv 8 601 18]
def o128_7 : List AOper := [mi 4 700 (-1)]
def c128_5 : AC := .cond (.t 9) .skip (.exit 0)
def c128_12 : AC := .cond (.t 16) (.seq (.reg o128_5) .ret) .skip
def c128_16 : AC := .reg o128_6
def c128_17 : AC := .seq (.block 1 (.seq (.reg o128_3) (.seq (.reg o128_4) c128_12))) c128_16
def c128_19 : AC := .seq (.reg o128_2) (.seq c128_5 c128_17)
def c128_21 : AC := .block 0 (.loop c128_19)
def c128_25 : AC := .seq (.reg o128_7) .ret
def c128_27 : AC := .seq (.reg o128_0) (.seq (.seq (.reg o128_1) c128_21) c128_25)
theorem fn128 : fnA Try.prog 128 = some (19, [.t 4], c128_27) := by kernel_rfl
def q_ok_slices_IndexFunc_byte_byte_store_Check_1_l0_ok (a0 : List (List Int)) (x0 : Int) (v : (Sum Int Unit)) : Prop := (fun v => go Try.prog 19 (PostR (fun r => Fnl [.t 4] (en_slices_IndexFunc_byte_byte_store_Check_1 r) []) (.exit 0) (fun x : Unit => ⟨[], []⟩) v) [.l c128_19] .norm ⟨[(8, nI x0), (7, nI (a0.length : Int)), (0, .d (.lst (List.map (enL (D.int .u8)) a0))), (1, .d (.clo (.func 81) [] []))], []⟩) v
theorem ok_slices_IndexFunc_byte_byte_store_Check_1_l0_ok (a0 : List (List Int)) (x0 : Int) : Ok (M_slices_IndexFunc_byte_byte_store_Check_1_l0 a0 x0) (q_ok_slices_IndexFunc_byte_byte_store_Check_1_l0_ok a0 x0) := by
  refine M_slices_IndexFunc_byte_byte_store_Check_1_l0.partial_correctness a0 (q_ok_slices_IndexFunc_byte_byte_store_Check_1_l0_ok a0) ?_ x0
  clear x0
  intro f' IH x0
  refine okI ?_
  unfold q_ok_slices_IndexFunc_byte_byte_store_Check_1_l0_ok at *
  refine Av 1 [.c c128_19, .l c128_19] ⟨[(8, nI x0), (7, nI (a0.length : Int)), (0, .d (.lst (List.map (enL (D.int .u8)) a0))), (1, .d (.clo (.func 81) [] []))], []⟩ ?_
  refine Av 5 [.c c128_5, .c c128_17, .l c128_19] ⟨[(9, bB (decide (x0 < (a0.length : Int)))), (8, nI x0), (7, nI (a0.length : Int)), (0, .d (.lst (List.map (enL (D.int .u8)) a0))), (1, .d (.clo (.func 81) [] []))], []⟩ ?_
  refine L_split 9 rfl (fun _ => ?_) (fun _ => ?_)
  · refine Av 14 [.o false (o128_4.drop 3), .c c128_12, .b 1, .c c128_16, .l c128_19] ⟨[(13, nI x0), (12, .d (.lst (List.map (enL (D.int .u8)) a0))), (11, .d (.clo (.func 81) [] [])), (5, nI x0), (8, nI x0), (7, nI (a0.length : Int)), (0, .d (.lst (List.map (enL (D.int .u8)) a0))), (1, .d (.clo (.func 81) [] []))], []⟩ ?_
    refine L_idxD (enc := enL (D.int .u8)) (l := a0) (iv := x0) trivial rfl rfl (fun _ => rfl) (fun hc403 => ?_)
    refine Av 1 [.o false (o128_4.drop 5), .c c128_12, .b 1, .c c128_16, .l c128_19] ⟨[(15, lY (at' a0 x0)), (11, .d (.clo (.func 81) [] [])), (5, nI x0), (8, nI x0), (7, nI (a0.length : Int)), (0, .d (.lst (List.map (enL (D.int .u8)) a0))), (1, .d (.clo (.func 81) [] []))], []⟩ ?_
    refine L_callv (ok_store_Check_1 (at' a0 x0)) trivial (.inr ⟨_, _, rfl, rfl, rfl⟩) rfl rfl (fun _ => rfl) (fun _ => trivial) (fun r1 => ?_)
    refine Av 1 [.c c128_12, .b 1, .c c128_16, .l c128_19] ⟨[(16, bB r1), (5, nI x0), (8, nI x0), (7, nI (a0.length : Int)), (0, .d (.lst (List.map (enL (D.int .u8)) a0))), (1, .d (.clo (.func 81) [] []))], []⟩ ?_
    refine L_split 16 decT (fun _ => ?_) (fun _ => ?_)
    · refine Avk 10 [] .ret ⟨[(4, nI x0)], []⟩ ?_
      exact L_retR
    · refine Av 7 [.l c128_19] ⟨[(8, nI (IntKind.i64.wrap (x0 + 1))), (7, nI (a0.length : Int)), (0, .d (.lst (List.map (enL (D.int .u8)) a0))), (1, .d (.clo (.func 81) [] []))], []⟩ ?_
      exact L_again (IH (IntKind.i64.wrap (x0 + 1)))
  · refine Avk 4 [] (.exit 0) ⟨[], []⟩ ?_
    exact L_endR
theorem ok_slices_IndexFunc_byte_byte_store_Check_1 (a0 : List (List Int)) : ∀ v, M_slices_IndexFunc_byte_byte_store_Check_1 a0 = some v → EvF Try.prog 128 [.lst (List.map (enL (D.int .u8)) a0), .clo (.func 81) [] []] (en_slices_IndexFunc_byte_byte_store_Check_1 v) := by
  intro v hv
  refine EvF_go fn128 (Nat.le_of_ble_eq_true rfl) ?_
  suffices h : Ok (M_slices_IndexFunc_byte_byte_store_Check_1 a0) fun v => go Try.prog 19 (Fnl [.t 4] (en_slices_IndexFunc_byte_byte_store_Check_1 v) []) [.c c128_27] .norm (initSt (List.map PV.d [.lst (List.map (enL (D.int .u8)) a0), .clo (.func 81) [] []]) []) from h v hv
  unfold M_slices_IndexFunc_byte_byte_store_Check_1
  refine Av 8 [.o false (o128_1.drop 1), .c c128_21, .c c128_25] ⟨[(6, .d (.lst (List.map (enL (D.int .u8)) a0))), (0, .d (.lst (List.map (enL (D.int .u8)) a0))), (1, .d (.clo (.func 81) [] []))], []⟩ ?_
  refine L_len (enc := enL (D.int .u8)) (l := a0) trivial rfl ?_
  refine Av 4 [.l c128_19, .b 0, .c c128_25] ⟨[(8, nI 0), (7, nI (a0.length : Int)), (0, .d (.lst (List.map (enL (D.int .u8)) a0))), (1, .d (.clo (.func 81) [] []))], []⟩ ?_
  refine L_pieceR (fs := [.l c128_19]) (ks := [.b 0, .c c128_25]) (ok_slices_IndexFunc_byte_byte_store_Check_1_l0_ok a0 0) L_thru (fun j2 => ?_)
  refine Avk 6 [] .ret ⟨[(4, nI (-1))], []⟩ ?_
  exact L_ret
/-- slices.ContainsFunc[[][]byte,[]byte]. -/
def en_slices_ContainsFunc_byte_byte_store_Check_1 (v : Bool) : PV := bB v
def o80_0 : List AOper := [mb 4 0 false]
def o80_1 : List AOper := [mv 5 100 0, mv 6 101 1, cl' 7 102 128 [.t 5, .t 6], bc 8 103 .geq 7 0, mv 4 104 8]
def c80_4 : AC := .seq (.reg o80_0) (.seq (.reg o80_1) .ret)
theorem fn80 : fnA Try.prog 80 = some (9, [.t 4], c80_4) := by kernel_rfl
theorem ok_slices_ContainsFunc_byte_byte_store_Check_1 (a0 : List (List Int)) : ∀ v, M_slices_ContainsFunc_byte_byte_store_Check_1 a0 = some v → EvF Try.prog 80 [.lst (List.map (enL (D.int .u8)) a0), .clo (.func 81) [] []] (en_slices_ContainsFunc_byte_byte_store_Check_1 v) := by
  intro v hv
  refine EvF_go fn80 (Nat.le_of_ble_eq_true rfl) ?_
  suffices h : Ok (M_slices_ContainsFunc_byte_byte_store_Check_1 a0) fun v => go Try.prog 9 (Fnl [.t 4] (en_slices_ContainsFunc_byte_byte_store_Check_1 v) []) [.c c80_4] .norm (initSt (List.map PV.d [.lst (List.map (enL (D.int .u8)) a0), .clo (.func 81) [] []]) []) from h v hv
  unfold M_slices_ContainsFunc_byte_byte_store_Check_1
  refine Av 8 [.o false (o80_1.drop 2), .c .ret] ⟨[(6, .d (.clo (.func 81) [] [])), (5, .d (.lst (List.map (enL (D.int .u8)) a0)))], []⟩ ?_
  refine L_call (ok_slices_IndexFunc_byte_byte_store_Check_1 a0) trivial rfl (fun _ => rfl) (fun _ => trivial) (fun r1 => ?_)
  refine Avk 4 [] .ret ⟨[(4, bB (decide (r1 ≥ 0)))], []⟩ ?_
  exact L_ret
/-- thrum/store.Check. -/
def en_store_Check (v : Int) : PV := nI v
def o25_0 : List AOper := [⟨some 1, none, 0, .box 26 (.t 0)⟩, mi 2 1 0]
def o25_1 : List AOper := [⟨some 4, none, 100, .fieldA 0 (.t 1)⟩, ld 5 101 4, ln 6 102 5, bc 7 103 .sub 6 2, mv 3 104 7]
def o25_2 : List AOper := [mv 8 200 3, bc 9 201 .lss 8 2, mv 10 202 9, gv 11 10 false 203 3, ⟨some 12, some (10, false), 204, .bin .gtr .int (.t 11) (.c (.d (.int .i64 128)))⟩, pz 13 205 10 12 true, mv 14 206 13, gv 15 14 false 207 3, ⟨some 16, some (14, false), 208, .bin .rem .int (.t 15) (.c (.d (.int .i64 2)))⟩, ⟨some 17, some (14, false), 209, .bin .eql .int (.t 16) (.c (.d (.int .i64 1)))⟩, pz 18 210 14 17 true, mv 19 211 18, ⟨some 20, some (19, false), 212, .fieldA 0 (.t 1)⟩, ⟨some 21, some (19, false), 213, .load false 1 (.t 20)⟩, ⟨some 22, some (19, false), 214, .call 80 [.t 21, .c (.d (.clo (.func 81) [] []))]⟩, pz 23 215 19 22 true]
def o25_3 : List AOper := [mi 2 300 1]
def o25_4 : List AOper := [mi 2 400 0]
def o25_2t3_6 : List AOper := (o25_2.drop 3).take 3
def o25_2t7_11 : List AOper := (o25_2.drop 7).take 4
def o25_2t12_16 : List AOper := (o25_2.drop 12).take 4
def c25_7 : AC := .cond (.t 23) (.seq (.reg o25_3) .ret) .skip
def c25_11 : AC := .seq (.reg o25_4) .ret
def c25_12 : AC := .seq (.seq (.reg o25_2) c25_7) c25_11
def c25_14 : AC := .seq (.reg o25_0) (.seq (.reg o25_1) c25_12)
theorem fn25 : fnA Try.prog 25 = some (24, [.t 2], c25_14) := by kernel_rfl
theorem ok_store_Check (a0 : T_api_Store) : ∀ v, M_store_Check a0 = some v → EvF Try.prog 25 [.agg [.lst (List.map (enL (D.int .u8)) a0.F_Cells)]] (en_store_Check v) := by
  intro v hv
  refine EvF_go fn25 (Nat.le_of_ble_eq_true rfl) ?_
  suffices h : Ok (M_store_Check a0) fun v => go Try.prog 24 (Fnl [.t 2] (en_store_Check v) []) [.c c25_14] .norm (initSt (List.map PV.d [.agg [.lst (List.map (enL (D.int .u8)) a0.F_Cells)]]) []) from h v hv
  unfold M_store_Check
  refine Av 9 [.o false (o25_1.drop 2), .c c25_12] ⟨[(5, .d (.lst (List.map (enL (D.int .u8)) a0.F_Cells))), (1, .ptr (.s 15) 0)], [(.s 15, [.d (.lst (List.map (enL (D.int .u8)) a0.F_Cells))])]⟩ ?_
  refine L_len (enc := enL (D.int .u8)) (l := a0.F_Cells) trivial rfl ?_
  refine Av 9 [.o false (o25_2.drop 3), .c c25_7, .c c25_11] ⟨[(10, bB (decide ((IntKind.i64.wrap ((a0.F_Cells.length : Int) - 2)) < 2))), (3, nI (IntKind.i64.wrap ((a0.F_Cells.length : Int) - 2))), (1, .ptr (.s 15) 0)], [(.s 15, [.d (.lst (List.map (enL (D.int .u8)) a0.F_Cells))])]⟩ ?_
  refine L_take 3 o25_2t3_6 (o25_2.drop 6) ?_
  refine L_join [.o false o25_2t3_6] [.o false (o25_2.drop 6), .c c25_7, .c c25_11] (fun x : Bool => ⟨[(13, bB x), (3, nI (IntKind.i64.wrap ((a0.F_Cells.length : Int) - 2))), (1, .ptr (.s 15) 0)], [(.s 15, [.d (.lst (List.map (enL (D.int .u8)) a0.F_Cells))])]⟩) ?_ (fun j1 => ?_)
  · refine L_split 10 rfl (fun _ => ?_) (fun _ => ?_)
    · refine Av 4 [] ⟨[(13, bB true), (3, nI (IntKind.i64.wrap ((a0.F_Cells.length : Int) - 2))), (1, .ptr (.s 15) 0)], [(.s 15, [.d (.lst (List.map (enL (D.int .u8)) a0.F_Cells))])]⟩ ?_
      exact L_end
    · refine Av 4 [] ⟨[(13, bB (decide ((IntKind.i64.wrap ((a0.F_Cells.length : Int) - 2)) > 128))), (3, nI (IntKind.i64.wrap ((a0.F_Cells.length : Int) - 2))), (1, .ptr (.s 15) 0)], [(.s 15, [.d (.lst (List.map (enL (D.int .u8)) a0.F_Cells))])]⟩ ?_
      exact L_end
  · refine Av 1 [.o false (o25_2.drop 7), .c c25_7, .c c25_11] ⟨[(14, bB j1), (3, nI (IntKind.i64.wrap ((a0.F_Cells.length : Int) - 2))), (1, .ptr (.s 15) 0)], [(.s 15, [.d (.lst (List.map (enL (D.int .u8)) a0.F_Cells))])]⟩ ?_
    refine L_take 4 o25_2t7_11 (o25_2.drop 11) ?_
    refine L_join [.o false o25_2t7_11] [.o false (o25_2.drop 11), .c c25_7, .c c25_11] (fun x : Bool => ⟨[(18, bB x), (1, .ptr (.s 15) 0)], [(.s 15, [.d (.lst (List.map (enL (D.int .u8)) a0.F_Cells))])]⟩) ?_ (fun j2 => ?_)
    · refine L_split 14 decT (fun _ => ?_) (fun _ => ?_)
      · refine Av 5 [] ⟨[(18, bB true), (1, .ptr (.s 15) 0)], [(.s 15, [.d (.lst (List.map (enL (D.int .u8)) a0.F_Cells))])]⟩ ?_
        exact L_end
      · refine Av 5 [] ⟨[(18, bB ((Int.tmod (IntKind.i64.wrap ((a0.F_Cells.length : Int) - 2)) 2) == 1)), (1, .ptr (.s 15) 0)], [(.s 15, [.d (.lst (List.map (enL (D.int .u8)) a0.F_Cells))])]⟩ ?_
        exact L_end
    · refine Av 1 [.o false (o25_2.drop 12), .c c25_7, .c c25_11] ⟨[(19, bB j2), (1, .ptr (.s 15) 0)], [(.s 15, [.d (.lst (List.map (enL (D.int .u8)) a0.F_Cells))])]⟩ ?_
      refine L_take 4 o25_2t12_16 (o25_2.drop 16) ?_
      refine L_join [.o false o25_2t12_16] [.o false (o25_2.drop 16), .c c25_7, .c c25_11] (fun x : Bool => ⟨[(23, bB x)], []⟩) ?_ (fun j4 => ?_)
      · refine L_split 19 decT (fun _ => ?_) (fun _ => ?_)
        · refine Av 5 [] ⟨[(23, bB true)], []⟩ ?_
          exact L_end
        · refine Av 2 [.o false (o25_2t12_16.drop 2)] ⟨[(21, .d (.lst (List.map (enL (D.int .u8)) a0.F_Cells))), (19, bB false)], []⟩ ?_
          refine L_call (ok_slices_ContainsFunc_byte_byte_store_Check_1 a0.F_Cells) rfl rfl (fun _ => rfl) (fun _ => trivial) (fun r3 => ?_)
          refine Av 2 [] ⟨[(23, bB r3)], []⟩ ?_
          exact L_end
      · refine Av 1 [.c c25_7, .c c25_11] ⟨[(23, bB j4)], []⟩ ?_
        refine L_split 23 decT (fun _ => ?_) (fun _ => ?_)
        · refine Avk 7 [] .ret ⟨[(2, nI 1)], []⟩ ?_
          exact L_ret
        · refine Avk 7 [] .ret ⟨[(2, nI 0)], []⟩ ?_
          exact L_ret
/-- slices.Clone[[]byte,byte]. -/
def en_slices_Clone_byte_byte (v : (List Int)) : PV := sY (.s 0) v
def o76_0 : List AOper := [⟨some 2, none, 0, .mov (.c .nils)⟩]
def o76_1 : List AOper := [mv 3 100 0, ⟨some 4, none, 101, .bin .eql .slice (.t 3) (.c .nils)⟩]
def o76_2 : List AOper := [⟨some 2, none, 200, .mov (.c .nils)⟩]
def o76_3 : List AOper := [⟨some 5, none, 300, .bslice 5 1 []⟩, mv 6 301 0, ⟨some 7, none, 302, .app 5 1 1 (.t 5) (.t 6)⟩, mv 2 303 7]
def c76_6 : AC := .cond (.t 4) (.seq (.reg o76_2) .ret) .skip
def c76_10 : AC := .seq (.reg o76_3) .ret
def c76_12 : AC := .seq (.reg o76_0) (.seq (.seq (.reg o76_1) c76_6) c76_10)
theorem fn76 : fnA Try.prog 76 = some (8, [.t 2], c76_12) := by kernel_rfl
theorem ok_slices_Clone_byte_byte (a0 : List Int) : ∀ v, M_slices_Clone_byte_byte a0 = some v → EvF Try.prog 76 [.lst (List.map (D.int .u8) a0)] (en_slices_Clone_byte_byte v) := by
  intro v hv
  refine EvF_go fn76 (Nat.le_of_ble_eq_true rfl) ?_
  suffices h : Ok (M_slices_Clone_byte_byte a0) fun v => go Try.prog 8 (Fnl [.t 2] (en_slices_Clone_byte_byte v) []) [.c c76_12] .norm (initSt (List.map PV.d [.lst (List.map (D.int .u8) a0)]) []) from h v hv
  unfold M_slices_Clone_byte_byte
  refine Av 8 [.o false (o76_1.drop 1), .c c76_6, .c c76_10] ⟨[(3, lY a0), (0, lY a0)], []⟩ ?_
  refine L_nil (enc := D.int .u8) (l := a0) (e := true) (m2 := some []) trivial rfl (fun h => by (try obtain rfl := List.eq_nil_of_length_eq_zero h); first | rfl | (simp [h]; done)) ?_ ?_
  · refine Av 7 [.o false (o76_3.drop 2), .c .ret] ⟨[(6, lY a0), (5, sY (.s 4815) [])], []⟩ ?_
    refine L_app (enc := D.int .u8) (l := []) (l2 := a0) trivial rfl rfl (fun _ => rfl) (fun _ => ?_)
    refine Avk 3 [] .ret ⟨[(2, sY (.s 4847) ([] ++ a0))], []⟩ ?_
    exact L_ret
  · refine Avk 8 [] .ret ⟨[(2, .nils)], []⟩ ?_
    exact L_ret
/-- thrum/crc.Sum. -/
def en_crc_Sum (v : Int) : PV := nW v
def o125_0 : List AOper := [⟨some 2, none, 0, .mov (.c (.d (.int .u32 0)))⟩]
def o125_1 : List AOper := [mv 3 100 0, cl' 4 101 169 [.c (.d (.int .u32 0)), .t 3], mv 2 102 4]
def c125_4 : AC := .seq (.reg o125_0) (.seq (.reg o125_1) .ret)
theorem fn125 : fnA Try.prog 125 = some (5, [.t 2], c125_4) := by kernel_rfl
theorem ok_crc_Sum (a0 : List Int) : ∀ v, M_crc_Sum a0 = some v → EvF Try.prog 125 [.lst (List.map (D.int .u8) a0)] (en_crc_Sum v) := by
  intro v hv
  refine EvF_go fn125 (Nat.le_of_ble_eq_true rfl) ?_
  suffices h : Ok (M_crc_Sum a0) fun v => go Try.prog 5 (Fnl [.t 2] (en_crc_Sum v) []) [.c c125_4] .norm (initSt (List.map PV.d [.lst (List.map (D.int .u8) a0)]) []) from h v hv
  unfold M_crc_Sum
  refine Av 7 [.o false (o125_1.drop 1), .c .ret] ⟨[(3, lY a0)], []⟩ ?_
  refine L_call (ok_crc_More 0 a0) trivial rfl (fun _ => rfl) (fun _ => trivial) (fun r1 => ?_)
  refine Avk 3 [] .ret ⟨[(2, nW r1)], []⟩ ?_
  exact L_ret
/-- thrum/crc.Seal. -/
def en_crc_Seal (v : (List Int) × Int) : PV := .tup [sY (.s 0) v.1, nI v.2]
def o77_0 : List AOper := [⟨some 2, none, 0, .mov (.c .nils)⟩, mi 3 1 0]
def o77_1 : List AOper := [mv 7 100 0, ln 8 101 7, bc 9 102 .gtr 8 65532]
def o77_2 : List AOper := [⟨some 2, none, 200, .mov (.c .nils)⟩, mi 3 201 3]
def o77_3 : List AOper := [mv 10 300 0, cl' 11 301 76 [.t 10], mv 4 302 11]
def o77_4 : List AOper := [mv 12 400 0, cl' 13 401 125 [.t 12], mv 5 402 13, mi 6 403 0]
def o77_5 : List AOper := [mv 14 500 6, bc 15 501 .lss 14 4]
def o77_6 : List AOper := [mv 20 700 4, mv 21 701 5, ⟨some 22, none, 702, .convI .u8 (.t 21)⟩, ⟨some 23, none, 703, .bslice 5 1 [.t 22]⟩, ⟨some 24, none, 704, .app 5 1 1 (.t 20) (.t 23)⟩, mv 4 705 24]
def o77_7 : List AOper := [mv 16 600 5, ⟨some 17, none, 601, .bin .shr .int (.t 16) (.c (.d (.int .u64 8)))⟩, mv 18 602 6, bc 19 603 .add 18 1, mv 5 604 17, mv 6 605 19]
def o77_8 : List AOper := [mv 25 800 4, mv 2 801 25, mi 3 802 0]
def c77_6 : AC := .cond (.t 9) (.seq (.reg o77_2) .ret) .skip
def c77_13 : AC := .cond (.t 15) .skip (.exit 0)
def c77_17 : AC := .reg o77_7
def c77_18 : AC := .seq (.block 1 (.reg o77_6)) c77_17
def c77_19 : AC := .seq (.seq (.reg o77_5) c77_13) c77_18
def c77_21 : AC := .block 0 (.loop c77_19)
def c77_25 : AC := .seq (.reg o77_8) .ret
def c77_26 : AC := .seq (.seq (.reg o77_4) c77_21) c77_25
def c77_27 : AC := .seq (.reg o77_3) c77_26
def c77_29 : AC := .seq (.reg o77_0) (.seq (.seq (.reg o77_1) c77_6) c77_27)
theorem fn77 : fnA Try.prog 77 = some (26, [.t 2, .t 3], c77_29) := by kernel_rfl
def q_ok_crc_Seal_l0_ok (x0 : Int) (x1 : Int) (x2 : List Int) (v : (List Int)) : Prop := (fun v => go Try.prog 26 (PostN (.exit 0) (fun x : (List Int) => ⟨[(4, sY (.h 1) x)], []⟩) v) [.l c77_19] .norm ⟨[(6, nI x0), (5, nW x1), (4, sY (.h 0) x2)], []⟩) v
theorem ok_crc_Seal_l0_ok (x0 : Int) (x1 : Int) (x2 : List Int) : Ok (M_crc_Seal_l0 x0 x1 x2) (q_ok_crc_Seal_l0_ok x0 x1 x2) := by
  refine M_crc_Seal_l0.partial_correctness (q_ok_crc_Seal_l0_ok) ?_ x0 x1 x2
  clear x0 x1 x2
  intro f' IH x0 x1 x2
  refine okI ?_
  unfold q_ok_crc_Seal_l0_ok at *
  refine Av 1 [.c c77_19, .l c77_19] ⟨[(6, nI x0), (5, nW x1), (4, sY (.h 0) x2)], []⟩ ?_
  refine Av 6 [.c c77_13, .c c77_18, .l c77_19] ⟨[(15, bB (decide (x0 < 4))), (6, nI x0), (5, nW x1), (4, sY (.h 0) x2)], []⟩ ?_
  refine L_split 15 rfl (fun _ => ?_) (fun _ => ?_)
  · refine Av 9 [.o false (o77_6.drop 4), .b 1, .c c77_17, .l c77_19] ⟨[(23, sY (.s 11263) [IntKind.u8.wrap x1]), (20, sY (.h 0) x2), (6, nI x0), (5, nW x1)], []⟩ ?_
    refine L_app (enc := D.int .u8) (l := x2) (l2 := [IntKind.u8.wrap x1]) trivial rfl rfl (fun _ => rfl) (fun _ => ?_)
    refine Al 11 [.l c77_19] .norm (fun y3 : List Int => ⟨[(6, nI (IntKind.i64.wrap (x0 + 1))), (5, nW (sShr .u32 x1 8)), (4, sY (.s 11279) y3)], []⟩) (fun y3 => ?_)
    exact L_again (IH (IntKind.i64.wrap (x0 + 1)) (sShr .u32 x1 8) y3)
  · refine Avk 4 [] (.exit 0) ⟨[(4, sY (.h 0) x2)], []⟩ ?_
    exact L_end
theorem ok_crc_Seal (a0 : List Int) : ∀ v, M_crc_Seal a0 = some v → EvF Try.prog 77 [.lst (List.map (D.int .u8) a0)] (en_crc_Seal v) := by
  intro v hv
  refine EvF_go fn77 (Nat.le_of_ble_eq_true rfl) ?_
  suffices h : Ok (M_crc_Seal a0) fun v => go Try.prog 26 (Fnl [.t 2, .t 3] (en_crc_Seal v) []) [.c c77_29] .norm (initSt (List.map PV.d [.lst (List.map (D.int .u8) a0)]) []) from h v hv
  unfold M_crc_Seal
  refine Av 9 [.o false (o77_1.drop 1), .c c77_6, .c c77_27] ⟨[(7, lY a0), (0, lY a0)], []⟩ ?_
  refine L_len (enc := D.int .u8) (l := a0) trivial rfl ?_
  refine Av 2 [.c c77_6, .c c77_27] ⟨[(9, bB (decide ((a0.length : Int) > 65532))), (0, lY a0)], []⟩ ?_
  refine L_split 9 rfl (fun _ => ?_) (fun _ => ?_)
  · refine Avk 8 [] .ret ⟨[(3, nI 3), (2, .nils)], []⟩ ?_
    exact L_ret
  · refine Av 5 [.o false (o77_3.drop 1), .c c77_26] ⟨[(10, lY a0), (0, lY a0)], []⟩ ?_
    refine L_call (ok_slices_Clone_byte_byte a0) trivial rfl (fun _ => rfl) (fun _ => (flat_map_of fun _ => trivial)) (fun r1 => ?_)
    refine Av 6 [.o false (o77_4.drop 1), .c c77_21, .c c77_25] ⟨[(12, lY a0), (4, sY (.s 4816) r1)], []⟩ ?_
    refine L_call (ok_crc_Sum a0) trivial rfl (fun _ => rfl) (fun _ => trivial) (fun r2 => ?_)
    refine Av 5 [.l c77_19, .b 0, .c c77_25] ⟨[(6, nI 0), (5, nW r2), (4, sY (.s 4816) r1)], []⟩ ?_
    refine L_piece (fs := [.l c77_19]) (ks := [.b 0, .c c77_25]) (ok_crc_Seal_l0_ok 0 r2 r1) (fun j5 => ?_)
    refine Avk 8 [] .ret ⟨[(3, nI 0), (2, sY (.h 1) j5)], []⟩ ?_
    exact L_ret
/-- slices.Equal[[]byte,byte]. -/
def en_slices_Equal_byte_byte (v : Bool) : PV := bB v
def o154_0 : List AOper := [mb 4 0 false]
def o154_1 : List AOper := [mv 6 100 0, ln 7 101 6, mv 8 102 1, ln 9 103 8, bi 10 104 .neq 7 9]
def o154_2 : List AOper := [mb 4 200 false]
def o154_3 : List AOper := [mv 11 300 0, ln 12 301 11, mi 13 302 0]
def o154_4 : List AOper := [bi 14 400 .lss 13 12]
def o154_5 : List AOper := [mv 15 500 13, mv 5 501 15]
def o154_6 : List AOper := [mv 16 600 0, mv 17 601 5, ⟨some 18, none, 602, .idxA 1 (.t 16) (.t 17)⟩, ld 19 603 18, mv 20 604 1, mv 21 605 5, ⟨some 22, none, 606, .idxA 1 (.t 20) (.t 21)⟩, ld 23 607 22, bi 24 608 .neq 19 23]
def o154_7 : List AOper := [mb 4 700 false]
def o154_8 : List AOper := [bc 25 800 .add 13 1, mv 13 801 25]
def o154_9 : List AOper := [mb 4 900 true]
def c154_6 : AC := .cond (.t 10) (.seq (.reg o154_2) .ret) .skip
def c154_12 : AC := .cond (.t 14) .skip (.exit 0)
def c154_14 : AC := .draw [⟨mv 16 600 0, false, []⟩, ⟨mv 17 601 5, false, []⟩, ⟨⟨some 18, none, 602, .idxA 1 (.t 16) (.t 17)⟩, false, []⟩, ⟨ld 19 603 18, false, []⟩, ⟨mv 20 604 1, false, []⟩, ⟨mv 21 605 5, false, []⟩, ⟨⟨some 22, none, 606, .idxA 1 (.t 20) (.t 21)⟩, false, []⟩, ⟨ld 23 607 22, false, []⟩, ⟨bi 24 608 .neq 19 23, false, []⟩]
def c154_19 : AC := .cond (.t 24) (.seq (.reg o154_7) .ret) .skip
def c154_23 : AC := .reg o154_8
def c154_24 : AC := .seq (.block 1 (.seq (.reg o154_5) (.seq c154_14 c154_19))) c154_23
def c154_26 : AC := .seq (.reg o154_4) (.seq c154_12 c154_24)
def c154_28 : AC := .block 0 (.loop c154_26)
def c154_32 : AC := .seq (.reg o154_9) .ret
def c154_33 : AC := .seq (.seq (.reg o154_3) c154_28) c154_32
def c154_35 : AC := .seq (.reg o154_0) (.seq (.seq (.reg o154_1) c154_6) c154_33)
theorem fn154 : fnA Try.prog 154 = some (26, [.t 4], c154_35) := by kernel_rfl
def q_ok_slices_Equal_byte_byte_l0_ok (a0 : List Int) (a1 : List Int) (x0 : Int) (v : (Sum Bool Unit)) : Prop := (fun v => go Try.prog 26 (PostR (fun r => Fnl [.t 4] (en_slices_Equal_byte_byte r) []) (.exit 0) (fun x : Unit => ⟨[], []⟩) v) [.l c154_26] .norm ⟨[(13, nI x0), (12, nI (a0.length : Int)), (0, lY a0), (1, lY a1)], []⟩) v
theorem ok_slices_Equal_byte_byte_l0_ok (a0 : List Int) (a1 : List Int) (x0 : Int) : Ok (M_slices_Equal_byte_byte_l0 a0 a1 x0) (q_ok_slices_Equal_byte_byte_l0_ok a0 a1 x0) := by
  refine M_slices_Equal_byte_byte_l0.partial_correctness a0 a1 (q_ok_slices_Equal_byte_byte_l0_ok a0 a1) ?_ x0
  clear x0
  intro f' IH x0
  refine okI ?_
  unfold q_ok_slices_Equal_byte_byte_l0_ok at *
  refine Av 1 [.c c154_26, .l c154_26] ⟨[(13, nI x0), (12, nI (a0.length : Int)), (0, lY a0), (1, lY a1)], []⟩ ?_
  refine Av 5 [.c c154_12, .c c154_24, .l c154_26] ⟨[(14, bB (decide (x0 < (a0.length : Int)))), (13, nI x0), (12, nI (a0.length : Int)), (0, lY a0), (1, lY a1)], []⟩ ?_
  refine L_split 14 rfl (fun _ => ?_) (fun _ => ?_)
  · refine Av 10 [.c c154_14, .c c154_19, .b 1, .c c154_23, .l c154_26] ⟨[(5, nI x0), (13, nI x0), (12, nI (a0.length : Int)), (0, lY a0), (1, lY a1)], []⟩ ?_
    refine Ae 3 [.o true (o154_6.drop 2), .c c154_19, .b 1, .c c154_23, .l c154_26] ⟨[(17, nI x0), (16, lY a0), (5, nI x0), (13, nI x0), (12, nI (a0.length : Int)), (0, lY a0), (1, lY a1)], []⟩ ?_
    refine L_idxD (enc := D.int .u8) (l := a0) (iv := x0) trivial rfl rfl (fun _ => rfl) (fun hc602 => ?_)
    refine Ae 3 [.o true (o154_6.drop 6), .c c154_19, .b 1, .c c154_23, .l c154_26] ⟨[(21, nI x0), (20, lY a1), (19, nY (at' a0 x0)), (18, .d (.cp [.int .u8 (at' a0 x0)] 0)), (17, nI x0), (16, lY a0), (5, nI x0), (13, nI x0), (12, nI (a0.length : Int)), (0, lY a0), (1, lY a1)], []⟩ ?_
    refine L_idxD (enc := D.int .u8) (l := a1) (iv := x0) trivial rfl rfl (fun _ => rfl) (fun hc606 => ?_)
    refine Av 3 [.c c154_19, .b 1, .c c154_23, .l c154_26] ⟨[(24, bB ((at' a0 x0) != (at' a1 x0))), (13, nI x0), (12, nI (a0.length : Int)), (0, lY a0), (1, lY a1)], []⟩ ?_
    refine L_split 24 decNe (fun _ => ?_) (fun _ => ?_)
    · refine Avk 9 [] .ret ⟨[(4, bB false)], []⟩ ?_
      exact L_retR
    · refine Av 7 [.l c154_26] ⟨[(13, nI (IntKind.i64.wrap (x0 + 1))), (12, nI (a0.length : Int)), (0, lY a0), (1, lY a1)], []⟩ ?_
      exact L_again (IH (IntKind.i64.wrap (x0 + 1)))
  · refine Avk 4 [] (.exit 0) ⟨[], []⟩ ?_
    exact L_endR
theorem ok_slices_Equal_byte_byte (a0 : List Int) (a1 : List Int) : ∀ v, M_slices_Equal_byte_byte a0 a1 = some v → EvF Try.prog 154 [.lst (List.map (D.int .u8) a0), .lst (List.map (D.int .u8) a1)] (en_slices_Equal_byte_byte v) := by
  intro v hv
  refine EvF_go fn154 (Nat.le_of_ble_eq_true rfl) ?_
  suffices h : Ok (M_slices_Equal_byte_byte a0 a1) fun v => go Try.prog 26 (Fnl [.t 4] (en_slices_Equal_byte_byte v) []) [.c c154_35] .norm (initSt (List.map PV.d [.lst (List.map (D.int .u8) a0), .lst (List.map (D.int .u8) a1)]) []) from h v hv
  unfold M_slices_Equal_byte_byte
  refine Av 8 [.o false (o154_1.drop 1), .c c154_6, .c c154_33] ⟨[(6, lY a0), (0, lY a0), (1, lY a1)], []⟩ ?_
  refine L_len (enc := D.int .u8) (l := a0) trivial rfl ?_
  refine Av 1 [.o false (o154_1.drop 3), .c c154_6, .c c154_33] ⟨[(8, lY a1), (7, nI (a0.length : Int)), (0, lY a0), (1, lY a1)], []⟩ ?_
  refine L_len (enc := D.int .u8) (l := a1) trivial rfl ?_
  refine Av 2 [.c c154_6, .c c154_33] ⟨[(10, bB ((a0.length : Int) != (a1.length : Int))), (0, lY a0), (1, lY a1)], []⟩ ?_
  refine L_split 10 decNe (fun _ => ?_) (fun _ => ?_)
  · refine Avk 7 [] .ret ⟨[(4, bB false)], []⟩ ?_
    exact L_ret
  · refine Av 6 [.o false (o154_3.drop 1), .c c154_28, .c c154_32] ⟨[(11, lY a0), (0, lY a0), (1, lY a1)], []⟩ ?_
    refine L_len (enc := D.int .u8) (l := a0) trivial rfl ?_
    refine Av 4 [.l c154_26, .b 0, .c c154_32] ⟨[(13, nI 0), (12, nI (a0.length : Int)), (0, lY a0), (1, lY a1)], []⟩ ?_
    refine L_pieceR (fs := [.l c154_26]) (ks := [.b 0, .c c154_32]) (ok_slices_Equal_byte_byte_l0_ok a0 a1 0) L_thru (fun j1 => ?_)
    refine Avk 6 [] .ret ⟨[(4, bB true)], []⟩ ?_
    exact L_ret
/-- thrum/crc.Open. -/
def en_crc_Open (v : (List Int) × Int) : PV := .tup [sY (.s 0) v.1, nI v.2]
def o108_0 : List AOper := [⟨some 2, none, 0, .mov (.c .nils)⟩, mi 3 1 0]
def o108_1 : List AOper := [mv 7 100 0, ln 8 101 7, bc 9 102 .sub 8 4, mv 4 103 9]
def o108_2 : List AOper := [mv 11 200 0, ln 12 201 11, bc 13 202 .gtr 12 65536, mv 10 203 13]
def o108_3 : List AOper := [⟨some 2, none, 300, .mov (.c .nils)⟩, mi 3 301 3]
def o108_4 : List AOper := [mv 15 400 4, bc 16 401 .lss 15 0, mv 14 402 16]
def o108_5 : List AOper := [⟨some 2, none, 500, .mov (.c .nils)⟩, mi 3 501 5]
def o108_6 : List AOper := [mv 18 600 0, mv 19 601 4, ⟨some 20, none, 602, .sliceS 1 (.t 18) none (some (.t 19)) none⟩, cl' 21 603 77 [.t 20], mv 17 604 21, xt 22 605 17 0, xt 23 606 17 1, mv 5 607 22, mv 6 608 23]
def o108_7 : List AOper := [mv 24 700 6, bc 25 701 .neq 24 0, mv 26 702 25, gv 27 26 false 703 5, gv 28 26 false 704 0, ⟨some 29, some (26, false), 705, .call 154 [.t 27, .t 28]⟩, ⟨some 30, some (26, false), 706, .un .not (.t 29)⟩, pz 31 707 26 30 true]
def o108_8 : List AOper := [⟨some 2, none, 800, .mov (.c .nils)⟩, mi 3 801 7]
def o108_9 : List AOper := [mv 32 900 0, mv 33 901 4, ⟨some 34, none, 902, .sliceS 1 (.t 32) none (some (.t 33)) none⟩, cl' 35 903 76 [.t 34], mv 2 904 35, mi 3 905 0]
def o108_7t3_8 : List AOper := (o108_7.drop 3).take 5
def c108_11 : AC := .cond (.t 14) (.seq (.reg o108_5) .ret) .skip
def c108_13 : AC := .cond (.t 10) (.seq (.reg o108_3) .ret) (.seq (.reg o108_4) c108_11)
def c108_22 : AC := .cond (.t 31) (.seq (.reg o108_8) .ret) .skip
def c108_23 : AC := .seq (.reg o108_7) c108_22
def c108_27 : AC := .seq (.reg o108_9) .ret
def c108_28 : AC := .seq (.seq (.reg o108_6) c108_23) c108_27
def c108_29 : AC := .seq (.block 0 (.seq (.reg o108_2) c108_13)) c108_28
def c108_31 : AC := .seq (.reg o108_0) (.seq (.reg o108_1) c108_29)
theorem fn108 : fnA Try.prog 108 = some (36, [.t 2, .t 3], c108_31) := by kernel_rfl
theorem ok_crc_Open (a0 : List Int) : ∀ v, M_crc_Open a0 = some v → EvF Try.prog 108 [.lst (List.map (D.int .u8) a0)] (en_crc_Open v) := by
  intro v hv
  refine EvF_go fn108 (Nat.le_of_ble_eq_true rfl) ?_
  suffices h : Ok (M_crc_Open a0) fun v => go Try.prog 36 (Fnl [.t 2, .t 3] (en_crc_Open v) []) [.c c108_31] .norm (initSt (List.map PV.d [.lst (List.map (D.int .u8) a0)]) []) from h v hv
  unfold M_crc_Open
  refine Av 8 [.o false (o108_1.drop 1), .c c108_29] ⟨[(7, lY a0), (0, lY a0)], []⟩ ?_
  refine L_len (enc := D.int .u8) (l := a0) trivial rfl ?_
  refine Av 8 [.o false (o108_2.drop 1), .c c108_13, .b 0, .c c108_28] ⟨[(11, lY a0), (4, nI (IntKind.i64.wrap ((a0.length : Int) - 4))), (0, lY a0)], []⟩ ?_
  refine L_len (enc := D.int .u8) (l := a0) trivial rfl ?_
  refine Av 3 [.c c108_13, .b 0, .c c108_28] ⟨[(10, bB (decide ((a0.length : Int) > 65536))), (4, nI (IntKind.i64.wrap ((a0.length : Int) - 4))), (0, lY a0)], []⟩ ?_
  refine L_split 10 rfl (fun _ => ?_) (fun _ => ?_)
  · refine Avk 9 [] .ret ⟨[(3, nI 3), (2, .nils)], []⟩ ?_
    exact L_ret
  · refine Av 7 [.c c108_11, .b 0, .c c108_28] ⟨[(14, bB (decide ((IntKind.i64.wrap ((a0.length : Int) - 4)) < 0))), (4, nI (IntKind.i64.wrap ((a0.length : Int) - 4))), (0, lY a0)], []⟩ ?_
    refine L_split 14 rfl (fun _ => ?_) (fun _ => ?_)
    · refine Avk 9 [] .ret ⟨[(3, nI 5), (2, .nils)], []⟩ ?_
      exact L_ret
    · refine Av 8 [.o false (o108_6.drop 2), .c c108_23, .c c108_27] ⟨[(19, nI (IntKind.i64.wrap ((a0.length : Int) - 4))), (18, lY a0), (4, nI (IntKind.i64.wrap ((a0.length : Int) - 4))), (0, lY a0)], []⟩ ?_
      refine L_cutD (enc := D.int .u8) (l := a0) (a := none) (b := (some (IntKind.i64.wrap ((a0.length : Int) - 4)))) trivial rfl rfl rfl (fun _ => rfl) (fun hc602 => ?_)
      refine Al 0 [.o false (o108_6.drop 3), .c c108_23, .c c108_27] .norm (fun y1 : List Int => ⟨[(20, lY y1), (4, nI (IntKind.i64.wrap ((a0.length : Int) - 4))), (0, lY a0)], []⟩) (fun y1 => ?_)
      refine L_call (ok_crc_Seal y1) trivial rfl (fun _ => rfl) (fun _ => ⟨(flat_map_of fun _ => trivial), trivial, trivial⟩) (fun r3 => ?_)
      refine Av 11 [.o false (o108_7.drop 3), .c c108_22, .c c108_27] ⟨[(26, bB (r3.2 != 0)), (5, sY (.s 9648) r3.1), (4, nI (IntKind.i64.wrap ((a0.length : Int) - 4))), (0, lY a0)], []⟩ ?_
      refine L_take 5 o108_7t3_8 (o108_7.drop 8) ?_
      refine L_join [.o false o108_7t3_8] [.o false (o108_7.drop 8), .c c108_22, .c c108_27] (fun x : Bool => ⟨[(31, bB x), (4, nI (IntKind.i64.wrap ((a0.length : Int) - 4))), (0, lY a0)], []⟩) ?_ (fun j5 => ?_)
      · refine L_split 26 decNe (fun _ => ?_) (fun _ => ?_)
        · refine Av 6 [] ⟨[(31, bB true), (4, nI (IntKind.i64.wrap ((a0.length : Int) - 4))), (0, lY a0)], []⟩ ?_
          exact L_end
        · refine Av 2 [.o false (o108_7t3_8.drop 2)] ⟨[(28, lY a0), (26, bB false), (27, sY (.s 9648) r3.1), (4, nI (IntKind.i64.wrap ((a0.length : Int) - 4))), (0, lY a0)], []⟩ ?_
          refine L_call (ok_slices_Equal_byte_byte r3.1 a0) rfl rfl (fun _ => rfl) (fun _ => trivial) (fun r4 => ?_)
          refine Av 3 [] ⟨[(31, bB (!r4)), (4, nI (IntKind.i64.wrap ((a0.length : Int) - 4))), (0, lY a0)], []⟩ ?_
          exact L_end
      · refine Av 1 [.c c108_22, .c c108_27] ⟨[(31, bB j5), (4, nI (IntKind.i64.wrap ((a0.length : Int) - 4))), (0, lY a0)], []⟩ ?_
        refine L_split 31 decT (fun _ => ?_) (fun _ => ?_)
        · refine Avk 8 [] .ret ⟨[(3, nI 7), (2, .nils)], []⟩ ?_
          exact L_ret
        · refine Av 6 [.o false (o108_9.drop 2), .c .ret] ⟨[(33, nI (IntKind.i64.wrap ((a0.length : Int) - 4))), (32, lY a0)], []⟩ ?_
          refine L_cutD (enc := D.int .u8) (l := a0) (a := none) (b := (some (IntKind.i64.wrap ((a0.length : Int) - 4)))) trivial rfl rfl rfl (fun _ => rfl) (fun hc902 => ?_)
          refine Al 0 [.o false (o108_9.drop 3), .c .ret] .norm (fun y6 : List Int => ⟨[(34, lY y6)], []⟩) (fun y6 => ?_)
          refine L_call (ok_slices_Clone_byte_byte y6) trivial rfl (fun _ => rfl) (fun _ => (flat_map_of fun _ => trivial)) (fun r8 => ?_)
          refine Avk 4 [] .ret ⟨[(3, nI 0), (2, sY (.s 14448) r8)], []⟩ ?_
          exact L_ret
/-- thrum/leb.Get. -/
def en_leb_Get (v : Int × Int × Int) : PV := .tup [nU v.1, nI v.2.1, nI v.2.2]
def o143_0 : List AOper := [⟨some 4, none, 0, .mov (.c (.d (.int .u64 0)))⟩, mi 5 1 0, mi 6 2 0]
def o143_1 : List AOper := [mv 10 100 1, bc 11 101 .lss 10 0]
def o143_2 : List AOper := [⟨some 4, none, 200, .mov (.c (.d (.int .u64 0)))⟩, mi 5 201 0, mi 6 202 1]
def o143_3 : List AOper := [mv 12 300 0, mv 13 301 1, mv 14 302 0, ln 15 303 14, ⟨some 16, none, 304, .mnmx false (.t 13) (.t 15)⟩, ⟨some 17, none, 305, .sliceS 1 (.t 12) (some (.t 16)) none none⟩, ln 18 306 17, mi 19 307 0]
def o143_4 : List AOper := [bi 20 400 .lss 19 18]
def o143_5 : List AOper := [mv 21 500 19, ⟨some 22, none, 501, .idxA 1 (.t 17) (.t 19)⟩, ld 23 502 22, mv 7 503 21, mv 8 504 23]
def o143_6 : List AOper := [mv 24 600 8, ⟨some 25, none, 601, .bin .lss .int (.t 24) (.c (.d (.int .u8 128)))⟩, mv 9 602 25]
def o143_7 : List AOper := [mv 27 700 7, bc 28 701 .eql 27 9, mv 29 702 28, gv 30 29 true 703 8, ⟨some 31, some (29, true), 704, .bin .gtr .int (.t 30) (.c (.d (.int .u8 1)))⟩, pk 32 705 29 31 false, mv 26 706 32]
def o143_8 : List AOper := [mv 33 800 9, mv 34 801 33, gv 35 34 true 802 8, ⟨some 36, some (34, true), 803, .bin .eql .int (.t 35) (.c (.d (.int .u8 0)))⟩, pk 37 804 34 36 false, mv 38 805 37, gv 39 38 true 806 7, ⟨some 40, some (38, true), 807, .bin .gtr .int (.t 39) (.c (.d (.int .i64 0)))⟩, pk 41 808 38 40 false, mv 26 809 41]
def o143_9 : List AOper := [⟨some 4, none, 900, .mov (.c (.d (.int .u64 0)))⟩, mi 5 901 0, mi 6 902 6]
def o143_10 : List AOper := [mv 42 1000 4, mv 43 1001 8, ⟨some 44, none, 1002, .bin .and .int (.t 43) (.c (.d (.int .u8 127)))⟩, ⟨some 45, none, 1003, .convI .u64 (.t 44)⟩, mv 46 1004 7, ⟨some 47, none, 1005, .bin .mul .int (.c (.d (.int .i64 7))) (.t 46)⟩, bi 48 1006 .shl 45 47, bi 49 1007 .or 42 48, mv 4 1008 49]
def o143_11 : List AOper := [mv 50 1100 9]
def o143_12 : List AOper := [mv 51 1200 4, mv 52 1201 1, mv 53 1202 7, bi 54 1203 .add 52 53, bc 55 1204 .add 54 1, mv 4 1205 51, mv 5 1206 55, mi 6 1207 0]
def o143_13 : List AOper := [bc 56 1300 .add 19 1, mv 19 1301 56]
def o143_14 : List AOper := [⟨some 4, none, 1400, .mov (.c (.d (.int .u64 0)))⟩, mi 5 1401 0, mi 6 1402 5]
def o143_7t3_6 : List AOper := (o143_7.drop 3).take 3
def o143_8t2_5 : List AOper := (o143_8.drop 2).take 3
def o143_8t6_9 : List AOper := (o143_8.drop 6).take 3
def c143_6 : AC := .cond (.t 11) (.seq (.reg o143_2) .ret) .skip
def c143_12 : AC := .cond (.t 20) .skip (.exit 0)
def c143_18 : AC := .cond (.t 26) .skip (.reg o143_8)
def c143_24 : AC := .cond (.t 26) (.seq (.reg o143_9) .ret) .skip
def c143_33 : AC := .cond (.t 50) (.seq (.reg o143_12) .ret) .skip
def c143_34 : AC := .seq (.reg o143_11) c143_33
def c143_35 : AC := .seq (.reg o143_10) c143_34
def c143_37 : AC := .seq (.reg o143_6) (.seq (.block 2 (.seq (.seq (.reg o143_7) c143_18) c143_24)) c143_35)
def c143_40 : AC := .reg o143_13
def c143_41 : AC := .seq (.block 1 (.seq (.reg o143_5) c143_37)) c143_40
def c143_43 : AC := .seq (.reg o143_4) (.seq c143_12 c143_41)
def c143_45 : AC := .block 0 (.loop c143_43)
def c143_49 : AC := .seq (.reg o143_14) .ret
def c143_50 : AC := .seq (.seq (.reg o143_3) c143_45) c143_49
def c143_52 : AC := .seq (.reg o143_0) (.seq (.seq (.reg o143_1) c143_6) c143_50)
theorem fn143 : fnA Try.prog 143 = some (57, [.t 4, .t 5, .t 6], c143_52) := by kernel_rfl
def q_ok_leb_Get_l0_ok (a1 : Int) (y1 : List Int) (x0 : Int) (x1 : Int) (v : (Sum (Int × Int × Int) Unit)) : Prop := (fun v => go Try.prog 57 (PostR (fun r => Fnl [.t 4, .t 5, .t 6] (en_leb_Get r) []) (.exit 0) (fun x : Unit => ⟨[], []⟩) v) [.l c143_43] .norm ⟨[(19, nI x0), (18, nI (y1.length : Int)), (17, lY y1), (4, nU x1), (1, nI a1)], []⟩) v
theorem ok_leb_Get_l0_ok (a1 : Int) (y1 : List Int) (x0 : Int) (x1 : Int) : Ok (M_leb_Get_l0 a1 y1 x0 x1) (q_ok_leb_Get_l0_ok a1 y1 x0 x1) := by
  refine M_leb_Get_l0.partial_correctness a1 y1 (q_ok_leb_Get_l0_ok a1 y1) ?_ x0 x1
  clear x0 x1
  intro f' IH x0 x1
  refine okI ?_
  unfold q_ok_leb_Get_l0_ok at *
  refine Av 1 [.c c143_43, .l c143_43] ⟨[(19, nI x0), (18, nI (y1.length : Int)), (17, lY y1), (4, nU x1), (1, nI a1)], []⟩ ?_
  refine Av 5 [.c c143_12, .c c143_41, .l c143_43] ⟨[(20, bB (decide (x0 < (y1.length : Int)))), (19, nI x0), (18, nI (y1.length : Int)), (17, lY y1), (4, nU x1), (1, nI a1)], []⟩ ?_
  refine L_split 20 rfl (fun _ => ?_) (fun _ => ?_)
  · refine Av 7 [.o false (o143_5.drop 1), .c c143_37, .b 1, .c c143_40, .l c143_43] ⟨[(21, nI x0), (19, nI x0), (18, nI (y1.length : Int)), (17, lY y1), (4, nU x1), (1, nI a1)], []⟩ ?_
    refine L_idxD (enc := D.int .u8) (l := y1) (iv := x0) trivial rfl rfl (fun _ => rfl) (fun hc501 => ?_)
    refine Av 18 [.o false (o143_7.drop 3), .c c143_18, .c c143_24, .b 2, .c c143_35, .b 1, .c c143_40, .l c143_43] ⟨[(29, bB (x0 == 9)), (9, bB (decide ((at' y1 x0) < 128))), (8, nY (at' y1 x0)), (7, nI x0), (19, nI x0), (18, nI (y1.length : Int)), (17, lY y1), (4, nU x1), (1, nI a1)], []⟩ ?_
    refine L_take 3 o143_7t3_6 (o143_7.drop 6) ?_
    refine L_join [.o false o143_7t3_6] [.o false (o143_7.drop 6), .c c143_18, .c c143_24, .b 2, .c c143_35, .b 1, .c c143_40, .l c143_43] (fun x : Bool => ⟨[(32, bB x), (9, bB (decide ((at' y1 x0) < 128))), (8, nY (at' y1 x0)), (7, nI x0), (19, nI x0), (18, nI (y1.length : Int)), (17, lY y1), (4, nU x1), (1, nI a1)], []⟩) ?_ (fun j3 => ?_)
    · refine L_split 29 decE (fun _ => ?_) (fun _ => ?_)
      · refine Av 4 [] ⟨[(32, bB (decide ((at' y1 x0) > 1))), (9, bB (decide ((at' y1 x0) < 128))), (8, nY (at' y1 x0)), (7, nI x0), (19, nI x0), (18, nI (y1.length : Int)), (17, lY y1), (4, nU x1), (1, nI a1)], []⟩ ?_
        exact L_end
      · refine Av 4 [] ⟨[(32, bB false), (9, bB (decide ((at' y1 x0) < 128))), (8, nY (at' y1 x0)), (7, nI x0), (19, nI x0), (18, nI (y1.length : Int)), (17, lY y1), (4, nU x1), (1, nI a1)], []⟩ ?_
        exact L_end
    · refine Av 2 [.c c143_18, .c c143_24, .b 2, .c c143_35, .b 1, .c c143_40, .l c143_43] ⟨[(26, bB j3), (9, bB (decide ((at' y1 x0) < 128))), (8, nY (at' y1 x0)), (7, nI x0), (19, nI x0), (18, nI (y1.length : Int)), (17, lY y1), (4, nU x1), (1, nI a1)], []⟩ ?_
      refine L_join [.c c143_18] [.c c143_24, .b 2, .c c143_35, .b 1, .c c143_40, .l c143_43] (fun x : Bool => ⟨[(26, bB x), (9, bB (decide ((at' y1 x0) < 128))), (8, nY (at' y1 x0)), (7, nI x0), (19, nI x0), (18, nI (y1.length : Int)), (17, lY y1), (4, nU x1), (1, nI a1)], []⟩) ?_ (fun j6 => ?_)
      · refine L_split 26 decT (fun _ => ?_) (fun _ => ?_)
        · refine Av 2 [] ⟨[(26, bB true), (9, bB (decide ((at' y1 x0) < 128))), (8, nY (at' y1 x0)), (7, nI x0), (19, nI x0), (18, nI (y1.length : Int)), (17, lY y1), (4, nU x1), (1, nI a1)], []⟩ ?_
          exact L_end
        · refine Av 4 [.o false (o143_8.drop 2)] ⟨[(34, bB (decide ((at' y1 x0) < 128))), (9, bB (decide ((at' y1 x0) < 128))), (8, nY (at' y1 x0)), (7, nI x0), (19, nI x0), (18, nI (y1.length : Int)), (17, lY y1), (4, nU x1), (1, nI a1)], []⟩ ?_
          refine L_take 3 o143_8t2_5 (o143_8.drop 5) ?_
          refine L_join [.o false o143_8t2_5] [.o false (o143_8.drop 5)] (fun x : Bool => ⟨[(37, bB x), (9, bB (decide ((at' y1 x0) < 128))), (8, nY (at' y1 x0)), (7, nI x0), (19, nI x0), (18, nI (y1.length : Int)), (17, lY y1), (4, nU x1), (1, nI a1)], []⟩) ?_ (fun j4 => ?_)
          · refine L_split 34 rfl (fun _ => ?_) (fun _ => ?_)
            · refine Av 4 [] ⟨[(37, bB ((at' y1 x0) == 0)), (9, bB (decide ((at' y1 x0) < 128))), (8, nY (at' y1 x0)), (7, nI x0), (19, nI x0), (18, nI (y1.length : Int)), (17, lY y1), (4, nU x1), (1, nI a1)], []⟩ ?_
              exact L_end
            · refine Av 4 [] ⟨[(37, bB false), (9, bB (decide ((at' y1 x0) < 128))), (8, nY (at' y1 x0)), (7, nI x0), (19, nI x0), (18, nI (y1.length : Int)), (17, lY y1), (4, nU x1), (1, nI a1)], []⟩ ?_
              exact L_end
          · refine Av 1 [.o false (o143_8.drop 6)] ⟨[(38, bB j4), (9, bB (decide ((at' y1 x0) < 128))), (8, nY (at' y1 x0)), (7, nI x0), (19, nI x0), (18, nI (y1.length : Int)), (17, lY y1), (4, nU x1), (1, nI a1)], []⟩ ?_
            refine L_take 3 o143_8t6_9 (o143_8.drop 9) ?_
            refine L_join [.o false o143_8t6_9] [.o false (o143_8.drop 9)] (fun x : Bool => ⟨[(41, bB x), (9, bB (decide ((at' y1 x0) < 128))), (8, nY (at' y1 x0)), (7, nI x0), (19, nI x0), (18, nI (y1.length : Int)), (17, lY y1), (4, nU x1), (1, nI a1)], []⟩) ?_ (fun j5 => ?_)
            · refine L_split 38 decT (fun _ => ?_) (fun _ => ?_)
              · refine Av 4 [] ⟨[(41, bB (decide (x0 > 0))), (9, bB (decide ((at' y1 x0) < 128))), (8, nY (at' y1 x0)), (7, nI x0), (19, nI x0), (18, nI (y1.length : Int)), (17, lY y1), (4, nU x1), (1, nI a1)], []⟩ ?_
                exact L_end
              · refine Av 4 [] ⟨[(41, bB false), (9, bB (decide ((at' y1 x0) < 128))), (8, nY (at' y1 x0)), (7, nI x0), (19, nI x0), (18, nI (y1.length : Int)), (17, lY y1), (4, nU x1), (1, nI a1)], []⟩ ?_
                exact L_end
            · refine Av 2 [] ⟨[(26, bB j5), (9, bB (decide ((at' y1 x0) < 128))), (8, nY (at' y1 x0)), (7, nI x0), (19, nI x0), (18, nI (y1.length : Int)), (17, lY y1), (4, nU x1), (1, nI a1)], []⟩ ?_
              exact L_end
      · refine L_split 26 decT (fun _ => ?_) (fun _ => ?_)
        · refine Avk 13 [] .ret ⟨[(6, nI 6), (5, nI 0), (4, nU 0)], []⟩ ?_
          exact L_retR
        · refine Av 11 [.o false (o143_10.drop 6), .c c143_34, .b 1, .c c143_40, .l c143_43] ⟨[(47, nI (IntKind.i64.wrap (7 * x0))), (45, nU (IntKind.u64.wrap (bAnd .u8 (at' y1 x0) 127))), (42, nU x1), (9, bB (decide ((at' y1 x0) < 128))), (7, nI x0), (19, nI x0), (18, nI (y1.length : Int)), (17, lY y1), (1, nI a1)], []⟩ ?_
          refine L_rd (c := 0 ≤ IntKind.i64.wrap (7 * x0)) (v := nU (sShl .u64 (IntKind.u64.wrap (bAnd .u8 (at' y1 x0) 127)) (IntKind.i64.wrap (7 * x0)))) trivial rfl (fun _ => ?_)
          refine Al 7 [.c c143_33, .b 1, .c c143_40, .l c143_43] .norm (fun y7 : Int => ⟨[(50, bB (decide ((at' y1 x0) < 128))), (4, nU y7), (7, nI x0), (19, nI x0), (18, nI (y1.length : Int)), (17, lY y1), (1, nI a1)], []⟩) (fun y7 => ?_)
          refine L_split 50 rfl (fun _ => ?_) (fun _ => ?_)
          · refine Avk 16 [] .ret ⟨[(6, nI 0), (5, nI (IntKind.i64.wrap ((IntKind.i64.wrap (a1 + x0)) + 1))), (4, nU y7)], []⟩ ?_
            exact L_retR
          · refine Av 7 [.l c143_43] ⟨[(19, nI (IntKind.i64.wrap (x0 + 1))), (4, nU y7), (18, nI (y1.length : Int)), (17, lY y1), (1, nI a1)], []⟩ ?_
            exact L_again (IH (IntKind.i64.wrap (x0 + 1)) y7)
  · refine Avk 4 [] (.exit 0) ⟨[], []⟩ ?_
    exact L_endR
theorem ok_leb_Get (a0 : List Int) (a1 : Int) : ∀ v, M_leb_Get a0 a1 = some v → EvF Try.prog 143 [.lst (List.map (D.int .u8) a0), .int .i64 a1] (en_leb_Get v) := by
  intro v hv
  refine EvF_go fn143 (Nat.le_of_ble_eq_true rfl) ?_
  suffices h : Ok (M_leb_Get a0 a1) fun v => go Try.prog 57 (Fnl [.t 4, .t 5, .t 6] (en_leb_Get v) []) [.c c143_52] .norm (initSt (List.map PV.d [.lst (List.map (D.int .u8) a0), .int .i64 a1]) []) from h v hv
  unfold M_leb_Get
  refine Av 12 [.c c143_6, .c c143_50] ⟨[(11, bB (decide (a1 < 0))), (4, nU 0), (0, lY a0), (1, nI a1)], []⟩ ?_
  refine L_split 11 rfl (fun _ => ?_) (fun _ => ?_)
  · refine Avk 9 [] .ret ⟨[(6, nI 1), (5, nI 0), (4, nU 0)], []⟩ ?_
    exact L_ret
  · refine Av 8 [.o false (o143_3.drop 3), .c c143_45, .c c143_49] ⟨[(14, lY a0), (13, nI a1), (12, lY a0), (4, nU 0), (1, nI a1)], []⟩ ?_
    refine L_len (enc := D.int .u8) (l := a0) trivial rfl ?_
    refine Av 1 [.o false (o143_3.drop 5), .c c143_45, .c c143_49] ⟨[(16, nI (if (a0.length : Int) < a1 then (a0.length : Int) else a1)), (12, lY a0), (4, nU 0), (1, nI a1)], []⟩ ?_
    refine L_cutD (enc := D.int .u8) (l := a0) (a := (some (if (a0.length : Int) < a1 then (a0.length : Int) else a1))) (b := none) trivial rfl rfl rfl (fun _ => rfl) (fun hc305 => ?_)
    refine Al 0 [.o false (o143_3.drop 6), .c c143_45, .c c143_49] .norm (fun y1 : List Int => ⟨[(17, lY y1), (4, nU 0), (1, nI a1)], []⟩) (fun y1 => ?_)
    refine L_len (enc := D.int .u8) (l := y1) trivial rfl ?_
    refine Av 4 [.l c143_43, .b 0, .c c143_49] ⟨[(19, nI 0), (18, nI (y1.length : Int)), (17, lY y1), (4, nU 0), (1, nI a1)], []⟩ ?_
    refine L_pieceR (fs := [.l c143_43]) (ks := [.b 0, .c c143_49]) (ok_leb_Get_l0_ok a1 y1 0 0) L_thru (fun j9 => ?_)
    refine Avk 8 [] .ret ⟨[(6, nI 5), (5, nI 0), (4, nU 0)], []⟩ ?_
    exact L_ret
/-- thrum/leb.Many. -/
def en_leb_Many (v : (List Int) × Int × Int) : PV := .tup [sU (.s 0) v.1, nI v.2.1, nI v.2.2]
def o127_0 : List AOper := [⟨some 6, none, 0, .mov (.c .nils)⟩, mi 7 1 0, mi 8 2 0]
def o127_1 : List AOper := [mv 13 100 2, bc 14 101 .lss 13 0]
def o127_2 : List AOper := [⟨some 6, none, 200, .mov (.c .nils)⟩, mi 7 201 0, mi 8 202 1]
def o127_3 : List AOper := [⟨some 9, none, 300, .mov (.c .nils)⟩]
def o127_4 : List AOper := [mv 15 400 9, ln 16 401 15, mv 17 402 2, bi 18 403 .lss 16 17]
def o127_5 : List AOper := [mv 20 500 0, mv 21 501 1, cl' 22 502 143 [.t 20, .t 21], mv 19 503 22, xt 23 504 19 0, xt 24 505 19 1, xt 25 506 19 2, mv 10 507 23, mv 11 508 24, mv 12 509 25]
def o127_6 : List AOper := [mv 26 600 12, bc 27 601 .neq 26 0]
def o127_7 : List AOper := [mv 28 700 12, ⟨some 6, none, 701, .mov (.c .nils)⟩, mi 7 702 0, mv 8 703 28]
def o127_8 : List AOper := [mv 29 800 9, mv 30 801 10, ⟨some 31, none, 802, .bslice 82 1 [.t 30]⟩, ⟨some 32, none, 803, .app 82 1 8 (.t 29) (.t 31)⟩, mv 33 804 11, mv 9 805 32, mv 1 806 33]
def o127_9 : List AOper := [mv 34 900 9, mv 35 901 1, mv 6 902 34, mv 7 903 35, mi 8 904 0]
def c127_6 : AC := .cond (.t 14) (.seq (.reg o127_2) .ret) .skip
def c127_12 : AC := .cond (.t 18) .skip (.exit 0)
def c127_20 : AC := .cond (.t 27) (.seq (.reg o127_7) .ret) .skip
def c127_22 : AC := .reg o127_8
def c127_23 : AC := .seq (.seq (.reg o127_6) c127_20) c127_22
def c127_25 : AC := .block 1 (.seq (.reg o127_5) c127_23)
def c127_26 : AC := .seq (.seq (.reg o127_4) c127_12) c127_25
def c127_31 : AC := .seq (.reg o127_9) .ret
def c127_33 : AC := .seq (.reg o127_3) (.seq (.block 0 (.loop c127_26)) c127_31)
def c127_35 : AC := .seq (.reg o127_0) (.seq (.seq (.reg o127_1) c127_6) c127_33)
theorem fn127 : fnA Try.prog 127 = some (36, [.t 6, .t 7, .t 8], c127_35) := by kernel_rfl
def q_ok_leb_Many_l0_ok (a0 : List Int) (a2 : Int) (x0 : List Int) (x1 : Int) (v : (Sum ((List Int) × Int × Int) ((List Int) × Int))) : Prop := (fun v => go Try.prog 36 (PostR (fun r => Fnl [.t 6, .t 7, .t 8] (en_leb_Many r) []) (.exit 0) (fun x : (List Int) × Int => ⟨[(9, sU (.h 1) x.1), (1, nI x.2)], []⟩) v) [.l c127_26] .norm ⟨[(9, sU (.h 0) x0), (0, lY a0), (1, nI x1), (2, nI a2)], []⟩) v
theorem ok_leb_Many_l0_ok (a0 : List Int) (a2 : Int) (x0 : List Int) (x1 : Int) : Ok (M_leb_Many_l0 a0 a2 x0 x1) (q_ok_leb_Many_l0_ok a0 a2 x0 x1) := by
  refine M_leb_Many_l0.partial_correctness a0 a2 (q_ok_leb_Many_l0_ok a0 a2) ?_ x0 x1
  clear x0 x1
  intro f' IH x0 x1
  refine okI ?_
  unfold q_ok_leb_Many_l0_ok at *
  refine Av 1 [.c c127_26, .l c127_26] ⟨[(9, sU (.h 0) x0), (0, lY a0), (1, nI x1), (2, nI a2)], []⟩ ?_
  refine Av 4 [.o false (o127_4.drop 1), .c c127_12, .c c127_25, .l c127_26] ⟨[(15, sU (.h 0) x0), (9, sU (.h 0) x0), (0, lY a0), (1, nI x1), (2, nI a2)], []⟩ ?_
  refine L_len (enc := D.int .u64) (l := x0) trivial rfl ?_
  refine Av 3 [.c c127_12, .c c127_25, .l c127_26] ⟨[(18, bB (decide ((x0.length : Int) < a2))), (9, sU (.h 0) x0), (0, lY a0), (1, nI x1), (2, nI a2)], []⟩ ?_
  refine L_split 18 rfl (fun _ => ?_) (fun _ => ?_)
  · refine Av 7 [.o false (o127_5.drop 2), .c c127_23, .b 1, .l c127_26] ⟨[(21, nI x1), (20, lY a0), (9, sU (.h 0) x0), (0, lY a0), (2, nI a2)], []⟩ ?_
    refine L_call (ok_leb_Get a0 x1) trivial rfl (fun _ => rfl) (fun _ => ⟨trivial, trivial, trivial, trivial⟩) (fun r1 => ?_)
    refine Av 14 [.c c127_20, .c c127_22, .b 1, .l c127_26] ⟨[(27, bB (r1.2.2 != 0)), (12, nI r1.2.2), (11, nI r1.2.1), (10, nU r1.1), (9, sU (.h 0) x0), (0, lY a0), (2, nI a2)], []⟩ ?_
    refine L_split 27 decNe (fun _ => ?_) (fun _ => ?_)
    · refine Avk 12 [] .ret ⟨[(8, nI r1.2.2), (7, nI 0), (6, .nils)], []⟩ ?_
      exact L_retR
    · refine Av 6 [.o false (o127_8.drop 3), .b 1, .l c127_26] ⟨[(31, sU (.s 12847) [r1.1]), (29, sU (.h 0) x0), (11, nI r1.2.1), (0, lY a0), (2, nI a2)], []⟩ ?_
      refine L_app (enc := D.int .u64) (l := x0) (l2 := [r1.1]) trivial rfl rfl (fun _ => rfl) (fun _ => ?_)
      refine Av 5 [.l c127_26] ⟨[(1, nI r1.2.1), (9, sU (.s 12863) (x0 ++ [r1.1])), (0, lY a0), (2, nI a2)], []⟩ ?_
      exact L_again (IH (x0 ++ [r1.1]) r1.2.1)
  · refine Avk 4 [] (.exit 0) ⟨[(9, sU (.h 0) x0), (1, nI x1)], []⟩ ?_
    exact L_endR
theorem ok_leb_Many (a0 : List Int) (a1 : Int) (a2 : Int) : ∀ v, M_leb_Many a0 a1 a2 = some v → EvF Try.prog 127 [.lst (List.map (D.int .u8) a0), .int .i64 a1, .int .i64 a2] (en_leb_Many v) := by
  intro v hv
  refine EvF_go fn127 (Nat.le_of_ble_eq_true rfl) ?_
  suffices h : Ok (M_leb_Many a0 a1 a2) fun v => go Try.prog 36 (Fnl [.t 6, .t 7, .t 8] (en_leb_Many v) []) [.c c127_35] .norm (initSt (List.map PV.d [.lst (List.map (D.int .u8) a0), .int .i64 a1, .int .i64 a2]) []) from h v hv
  unfold M_leb_Many
  refine Av 12 [.c c127_6, .c c127_33] ⟨[(14, bB (decide (a2 < 0))), (0, lY a0), (1, nI a1), (2, nI a2)], []⟩ ?_
  refine L_split 14 rfl (fun _ => ?_) (fun _ => ?_)
  · refine Avk 9 [] .ret ⟨[(8, nI 1), (7, nI 0), (6, .nils)], []⟩ ?_
    exact L_ret
  · refine Av 9 [.l c127_26, .b 0, .c c127_31] ⟨[(9, .nils), (0, lY a0), (1, nI a1), (2, nI a2)], []⟩ ?_
    refine L_pieceR (fs := [.l c127_26]) (ks := [.b 0, .c c127_31]) (ok_leb_Many_l0_ok a0 a2 [] a1) L_thru (fun j2 => ?_)
    refine Avk 10 [] .ret ⟨[(8, nI 0), (7, nI j2.2), (6, sU (.h 1) j2.1)], []⟩ ?_
    exact L_ret
/-- thrum/store.half. -/
def en_store_half (v : (List (List Int))) : PV := .d (.lst (List.map (enL (D.int .u8)) v))
def o74_0 : List AOper := [⟨some 2, none, 0, .box 26 (.t 0)⟩, ⟨some 4, none, 1, .mov (.c .nils)⟩]
def o74_1 : List AOper := [⟨some 6, none, 100, .fieldA 0 (.t 2)⟩, ld 7 101 6, ln 8 102 7, bc 9 103 .sub 8 2, bc 10 104 .quo 9 2, mv 5 105 10]
def o74_2 : List AOper := [⟨some 11, none, 200, .fieldA 0 (.t 2)⟩, ld 12 201 11, mv 13 202 1, mv 14 203 5, bi 15 204 .mul 13 14, ⟨some 16, none, 205, .bin .add .int (.c (.d (.int .i64 2))) (.t 15)⟩, mv 17 206 1, mv 18 207 5, bi 19 208 .mul 17 18, ⟨some 20, none, 209, .bin .add .int (.c (.d (.int .i64 2))) (.t 19)⟩, mv 21 210 5, bi 22 211 .add 20 21, ⟨some 23, none, 212, .sliceS 1 (.t 12) (some (.t 16)) (some (.t 22)) none⟩, mv 4 213 23]
def c74_4 : AC := .seq (.reg o74_2) .ret
def c74_6 : AC := .seq (.reg o74_0) (.seq (.reg o74_1) c74_4)
theorem fn74 : fnA Try.prog 74 = some (24, [.t 4], c74_6) := by kernel_rfl
theorem ok_store_half (a0 : T_api_Store) (a1 : Int) : ∀ v, M_store_half a0 a1 = some v → EvF Try.prog 74 [.agg [.lst (List.map (enL (D.int .u8)) a0.F_Cells)], .int .i64 a1] (en_store_half v) := by
  intro v hv
  refine EvF_go fn74 (Nat.le_of_ble_eq_true rfl) ?_
  suffices h : Ok (M_store_half a0 a1) fun v => go Try.prog 24 (Fnl [.t 4] (en_store_half v) []) [.c c74_6] .norm (initSt (List.map PV.d [.agg [.lst (List.map (enL (D.int .u8)) a0.F_Cells)], .int .i64 a1]) []) from h v hv
  unfold M_store_half
  refine Av 9 [.o false (o74_1.drop 2), .c c74_4] ⟨[(7, .d (.lst (List.map (enL (D.int .u8)) a0.F_Cells))), (2, .ptr (.s 15) 0), (1, nI a1)], [(.s 15, [.d (.lst (List.map (enL (D.int .u8)) a0.F_Cells))])]⟩ ?_
  refine L_len (enc := enL (D.int .u8)) (l := a0.F_Cells) trivial rfl ?_
  refine Al 18 [.o false (o74_2.drop 12), .c .ret] .norm (fun y1 : Int => ⟨[(22, nI (IntKind.i64.wrap (y1 + (IntKind.i64.wrap (Int.tdiv (IntKind.i64.wrap ((a0.F_Cells.length : Int) - 2)) 2))))), (16, nI y1), (12, .d (.lst (List.map (enL (D.int .u8)) a0.F_Cells)))], []⟩) (fun y1 => ?_)
  refine Al 0 [.o false (o74_2.drop 12), .c .ret] .norm (fun y3 : Int => ⟨[(22, nI y3), (16, nI y1), (12, .d (.lst (List.map (enL (D.int .u8)) a0.F_Cells)))], []⟩) (fun y3 => ?_)
  refine L_cutD (enc := enL (D.int .u8)) (l := a0.F_Cells) (a := (some y1)) (b := (some y3)) trivial rfl rfl rfl (fun _ => rfl) (fun hc212 => ?_)
  refine Avk 3 [] .ret ⟨[(4, .d (.lst (List.map (enL (D.int .u8)) (cut' a0.F_Cells (some y1) (some y3)))))], []⟩ ?_
  exact L_ret
/-- thrum/store.kept. -/
def en_store_kept (v : (List Int) × Int) : PV := .tup [sY (.s 0) v.1, nI v.2]
def o79_0 : List AOper := [⟨some 2, none, 0, .box 26 (.t 0)⟩, ⟨some 4, none, 1, .mov (.c .nils)⟩, mi 5 2 0]
def o79_1 : List AOper := [⟨some 14, none, 100, .fieldA 0 (.t 2)⟩, ld 15 101 14, mv 16 102 1, ⟨some 17, none, 103, .idxA 1 (.t 15) (.t 16)⟩, ld 18 104 17, cl' 19 105 108 [.t 18], mv 13 106 19, xt 20 107 13 0, xt 21 108 13 1, mv 6 109 20, mv 7 110 21]
def o79_2 : List AOper := [mv 22 200 7, bc 23 201 .neq 22 0]
def o79_3 : List AOper := [⟨some 4, none, 300, .mov (.c .nils)⟩, mi 5 301 0]
def o79_4 : List AOper := [mv 25 400 6, cl' 26 401 127 [.t 25, .c (.d (.int .i64 0)), .c (.d (.int .i64 2))], mv 24 402 26, xt 27 403 24 0, xt 28 404 24 1, xt 29 405 24 2, mv 8 406 27, mv 9 407 28, mv 7 408 29]
def o79_5 : List AOper := [⟨some 30, none, 500, .load true 1 (.t 2)⟩, mv 31 501 1, cl' 32 502 74 [.t 30, .t 31], mv 10 503 32]
def o79_6 : List AOper := [mv 33 600 7, bc 34 601 .neq 33 0, mv 35 602 34, gv 36 35 false 603 9, gv 37 35 false 604 6, ⟨some 38, some (35, false), 605, .len (.t 37)⟩, ⟨some 39, some (35, false), 606, .bin .lss .int (.t 36) (.t 38)⟩, pz 40 607 35 39 true, mv 41 608 40, gv 42 41 false 609 8, ⟨some 43, some (41, false), 610, .idxA 1 (.t 42) (.c (.d (.int .i64 0)))⟩, ⟨some 44, some (41, false), 611, .load false 1 (.t 43)⟩, ⟨some 45, some (41, false), 612, .bin .gtr .int (.t 44) (.c (.d (.int .u64 1073741824)))⟩, pz 46 613 41 45 true, mv 47 614 46, gv 48 47 false 615 8, ⟨some 49, some (47, false), 616, .idxA 1 (.t 48) (.c (.d (.int .i64 0)))⟩, ⟨some 50, some (47, false), 617, .load false 1 (.t 49)⟩, ⟨some 51, some (47, false), 618, .bin .and .int (.t 50) (.c (.d (.int .u64 1)))⟩, gv 52 47 false 619 1, ⟨some 53, some (47, false), 620, .convI .u64 (.t 52)⟩, ⟨some 54, some (47, false), 621, .bin .neq .int (.t 51) (.t 53)⟩, pz 55 622 47 54 true, mv 56 623 55, gv 57 56 false 624 8, ⟨some 58, some (56, false), 625, .idxA 1 (.t 57) (.c (.d (.int .i64 1)))⟩, ⟨some 59, some (56, false), 626, .load false 1 (.t 58)⟩, gv 60 56 false 627 10, ⟨some 61, some (56, false), 628, .len (.t 60)⟩, ⟨some 62, some (56, false), 629, .bin .mul .int (.t 61) (.c (.d (.int .i64 256)))⟩, ⟨some 63, some (56, false), 630, .convI .u64 (.t 62)⟩, ⟨some 64, some (56, false), 631, .bin .gtr .int (.t 59) (.t 63)⟩, pz 65 632 56 64 true]
def o79_7 : List AOper := [⟨some 4, none, 700, .mov (.c .nils)⟩, mi 5 701 0]
def o79_8 : List AOper := [⟨some 11, none, 800, .mov (.c .nils)⟩]
def o79_9 : List AOper := [mv 66 900 8, ⟨some 67, none, 901, .idxA 1 (.t 66) (.c (.d (.int .i64 1)))⟩, ld 68 902 67, ⟨some 69, none, 903, .convI .i64 (.t 68)⟩, mv 12 904 69]
def o79_10 : List AOper := [mv 70 1000 12, bc 71 1001 .gtr 70 0]
def o79_11 : List AOper := [mv 74 1200 10, ⟨some 75, none, 1201, .idxA 1 (.t 74) (.c (.d (.int .i64 0)))⟩, ld 76 1202 75, ln 77 1203 76, mv 78 1204 12, ⟨some 79, none, 1205, .mnmx false (.t 78) (.c (.d (.int .i64 256)))⟩, bi 80 1206 .neq 77 79]
def o79_12 : List AOper := [⟨some 4, none, 1300, .mov (.c .nils)⟩, mi 5 1301 0]
def o79_13 : List AOper := [mv 81 1400 11, mv 82 1401 10, ⟨some 83, none, 1402, .idxA 1 (.t 82) (.c (.d (.int .i64 0)))⟩, ld 84 1403 83, ⟨some 85, none, 1404, .app 5 1 1 (.t 81) (.t 84)⟩, mv 11 1405 85]
def o79_14 : List AOper := [mv 86 1500 12, mv 87 1501 10, ⟨some 88, none, 1502, .idxA 1 (.t 87) (.c (.d (.int .i64 0)))⟩, ld 89 1503 88, ln 90 1504 89, bi 91 1505 .sub 86 90, mv 12 1506 91]
def o79_15 : List AOper := [mv 72 1100 10, ⟨some 73, none, 1101, .sliceS 1 (.t 72) (some (.c (.d (.int .i64 1)))) none none⟩, mv 10 1102 73]
def o79_16 : List AOper := [mv 92 1600 11, mv 93 1601 8, ⟨some 94, none, 1602, .idxA 1 (.t 93) (.c (.d (.int .i64 0)))⟩, ld 95 1603 94, ⟨some 96, none, 1604, .convI .i64 (.t 95)⟩, mv 4 1605 92, mv 5 1606 96]
def o79_6t3_8 : List AOper := (o79_6.drop 3).take 5
def o79_6t9_14 : List AOper := (o79_6.drop 9).take 5
def o79_6t15_23 : List AOper := (o79_6.drop 15).take 8
def o79_6t24_33 : List AOper := (o79_6.drop 24).take 9
def c79_7 : AC := .cond (.t 23) (.seq (.reg o79_3) .ret) .skip
def c79_16 : AC := .cond (.t 65) (.seq (.reg o79_7) .ret) .skip
def c79_23 : AC := .cond (.t 71) .skip (.exit 0)
def c79_30 : AC := .cond (.t 80) (.seq (.reg o79_12) .ret) .skip
def c79_33 : AC := .reg o79_14
def c79_34 : AC := .seq (.reg o79_13) c79_33
def c79_37 : AC := .reg o79_15
def c79_38 : AC := .seq (.block 1 (.seq (.seq (.reg o79_11) c79_30) c79_34)) c79_37
def c79_39 : AC := .seq (.seq (.reg o79_10) c79_23) c79_38
def c79_41 : AC := .block 0 (.loop c79_39)
def c79_43 : AC := .draw [⟨mv 92 1600 11, false, []⟩, ⟨mv 93 1601 8, false, []⟩, ⟨⟨some 94, none, 1602, .idxA 1 (.t 93) (.c (.d (.int .i64 0)))⟩, false, []⟩, ⟨ld 95 1603 94, false, []⟩, ⟨⟨some 96, none, 1604, .convI .i64 (.t 95)⟩, false, []⟩, ⟨mv 4 1605 92, false, []⟩, ⟨mv 5 1606 96, false, []⟩]
def c79_45 : AC := .seq c79_43 .ret
def c79_47 : AC := .seq (.reg o79_8) (.seq (.seq (.reg o79_9) c79_41) c79_45)
def c79_48 : AC := .seq (.seq (.reg o79_6) c79_16) c79_47
def c79_49 : AC := .seq (.reg o79_5) c79_48
def c79_50 : AC := .seq (.reg o79_4) c79_49
def c79_51 : AC := .seq (.seq (.reg o79_2) c79_7) c79_50
def c79_53 : AC := .seq (.reg o79_0) (.seq (.reg o79_1) c79_51)
theorem fn79 : fnA Try.prog 79 = some (97, [.t 4, .t 5], c79_53) := by kernel_rfl
def q_ok_store_kept_l0_ok (r2 : (List Int) × Int × Int) (x0 : Int) (x1 : List Int) (x2 : List (List Int)) (v : (Sum ((List Int) × Int) (List Int))) : Prop := (fun v => go Try.prog 97 (PostR (fun r => Fnl [.t 4, .t 5] (en_store_kept r) []) (.exit 0) (fun x : (List Int) => ⟨[(11, sY (.h 1) x), (8, sU (.s 6416) r2.1)], []⟩) v) [.l c79_39] .norm ⟨[(12, nI x0), (11, sY (.h 0) x1), (10, .d (.lst (List.map (enL (D.int .u8)) x2))), (8, sU (.s 6416) r2.1)], []⟩) v
theorem ok_store_kept_l0_ok (r2 : (List Int) × Int × Int) (x0 : Int) (x1 : List Int) (x2 : List (List Int)) : Ok (M_store_kept_l0 r2 x0 x1 x2) (q_ok_store_kept_l0_ok r2 x0 x1 x2) := by
  refine M_store_kept_l0.partial_correctness r2 (q_ok_store_kept_l0_ok r2) ?_ x0 x1 x2
  clear x0 x1 x2
  intro f' IH x0 x1 x2
  refine okI ?_
  unfold q_ok_store_kept_l0_ok at *
  refine Av 1 [.c c79_39, .l c79_39] ⟨[(12, nI x0), (11, sY (.h 0) x1), (10, .d (.lst (List.map (enL (D.int .u8)) x2))), (8, sU (.s 6416) r2.1)], []⟩ ?_
  refine Av 6 [.c c79_23, .c c79_38, .l c79_39] ⟨[(71, bB (decide (x0 > 0))), (12, nI x0), (11, sY (.h 0) x1), (10, .d (.lst (List.map (enL (D.int .u8)) x2))), (8, sU (.s 6416) r2.1)], []⟩ ?_
  refine L_split 71 rfl (fun _ => ?_) (fun _ => ?_)
  · refine Av 8 [.o false (o79_11.drop 1), .c c79_30, .c c79_34, .b 1, .c c79_37, .l c79_39] ⟨[(74, .d (.lst (List.map (enL (D.int .u8)) x2))), (12, nI x0), (11, sY (.h 0) x1), (10, .d (.lst (List.map (enL (D.int .u8)) x2))), (8, sU (.s 6416) r2.1)], []⟩ ?_
    refine L_idxD (enc := enL (D.int .u8)) (l := x2) (iv := 0) trivial rfl rfl (fun _ => rfl) (fun hc1201 => ?_)
    refine Av 1 [.o false (o79_11.drop 3), .c c79_30, .c c79_34, .b 1, .c c79_37, .l c79_39] ⟨[(76, lY (at' x2 0)), (12, nI x0), (11, sY (.h 0) x1), (10, .d (.lst (List.map (enL (D.int .u8)) x2))), (8, sU (.s 6416) r2.1)], []⟩ ?_
    refine L_len (enc := D.int .u8) (l := at' x2 0) trivial rfl ?_
    refine Av 4 [.c c79_30, .c c79_34, .b 1, .c c79_37, .l c79_39] ⟨[(80, bB (((at' x2 0).length : Int) != (if (256 : Int) < x0 then 256 else x0))), (12, nI x0), (11, sY (.h 0) x1), (10, .d (.lst (List.map (enL (D.int .u8)) x2))), (8, sU (.s 6416) r2.1)], []⟩ ?_
    refine L_split 80 decNe (fun _ => ?_) (fun _ => ?_)
    · refine Avk 11 [] .ret ⟨[(5, nI 0), (4, .nils)], []⟩ ?_
      exact L_retR
    · refine Av 6 [.o false (o79_13.drop 2), .c c79_33, .b 1, .c c79_37, .l c79_39] ⟨[(82, .d (.lst (List.map (enL (D.int .u8)) x2))), (81, sY (.h 0) x1), (12, nI x0), (10, .d (.lst (List.map (enL (D.int .u8)) x2))), (8, sU (.s 6416) r2.1)], []⟩ ?_
      refine L_idxD (enc := enL (D.int .u8)) (l := x2) (iv := 0) trivial rfl rfl (fun _ => rfl) (fun hc1402 => ?_)
      refine Av 1 [.o false (o79_13.drop 4), .c c79_33, .b 1, .c c79_37, .l c79_39] ⟨[(84, lY (at' x2 0)), (81, sY (.h 0) x1), (12, nI x0), (10, .d (.lst (List.map (enL (D.int .u8)) x2))), (8, sU (.s 6416) r2.1)], []⟩ ?_
      refine L_app (enc := D.int .u8) (l := x1) (l2 := at' x2 0) trivial rfl rfl (fun _ => rfl) (fun _ => ?_)
      refine Av 5 [.o false (o79_14.drop 2), .b 1, .c c79_37, .l c79_39] ⟨[(87, .d (.lst (List.map (enL (D.int .u8)) x2))), (86, nI x0), (11, sY (.s 22479) (x1 ++ (at' x2 0))), (10, .d (.lst (List.map (enL (D.int .u8)) x2))), (8, sU (.s 6416) r2.1)], []⟩ ?_
      refine L_idxD (enc := enL (D.int .u8)) (l := x2) (iv := 0) trivial rfl rfl (fun _ => rfl) (fun hc1502 => ?_)
      refine Av 1 [.o false (o79_14.drop 4), .b 1, .c c79_37, .l c79_39] ⟨[(89, lY (at' x2 0)), (86, nI x0), (11, sY (.s 22479) (x1 ++ (at' x2 0))), (10, .d (.lst (List.map (enL (D.int .u8)) x2))), (8, sU (.s 6416) r2.1)], []⟩ ?_
      refine L_len (enc := D.int .u8) (l := at' x2 0) trivial rfl ?_
      refine Av 6 [.o false (o79_15.drop 1), .l c79_39] ⟨[(72, .d (.lst (List.map (enL (D.int .u8)) x2))), (12, nI (IntKind.i64.wrap (x0 - ((at' x2 0).length : Int)))), (11, sY (.s 22479) (x1 ++ (at' x2 0))), (8, sU (.s 6416) r2.1)], []⟩ ?_
      refine L_cutD (enc := enL (D.int .u8)) (l := x2) (a := (some 1)) (b := none) trivial rfl rfl rfl (fun _ => rfl) (fun hc1101 => ?_)
      refine Av 2 [.l c79_39] ⟨[(10, .d (.lst (List.map (enL (D.int .u8)) (cut' x2 (some 1) none)))), (12, nI (IntKind.i64.wrap (x0 - ((at' x2 0).length : Int)))), (11, sY (.s 22479) (x1 ++ (at' x2 0))), (8, sU (.s 6416) r2.1)], []⟩ ?_
      exact L_again (IH (IntKind.i64.wrap (x0 - ((at' x2 0).length : Int))) (x1 ++ (at' x2 0)) (cut' x2 (some 1) none))
  · refine Avk 4 [] (.exit 0) ⟨[(11, sY (.h 0) x1), (8, sU (.s 6416) r2.1)], []⟩ ?_
    exact L_endR
theorem ok_store_kept (a0 : T_api_Store) (a1 : Int) : ∀ v, M_store_kept a0 a1 = some v → EvF Try.prog 79 [.agg [.lst (List.map (enL (D.int .u8)) a0.F_Cells)], .int .i64 a1] (en_store_kept v) := by
  intro v hv
  refine EvF_go fn79 (Nat.le_of_ble_eq_true rfl) ?_
  suffices h : Ok (M_store_kept a0 a1) fun v => go Try.prog 97 (Fnl [.t 4, .t 5] (en_store_kept v) []) [.c c79_53] .norm (initSt (List.map PV.d [.agg [.lst (List.map (enL (D.int .u8)) a0.F_Cells)], .int .i64 a1]) []) from h v hv
  unfold M_store_kept
  refine Av 11 [.o false (o79_1.drop 3), .c c79_51] ⟨[(16, nI a1), (15, .d (.lst (List.map (enL (D.int .u8)) a0.F_Cells))), (2, .ptr (.s 15) 0), (1, nI a1)], [(.s 15, [.d (.lst (List.map (enL (D.int .u8)) a0.F_Cells))])]⟩ ?_
  refine L_idxD (enc := enL (D.int .u8)) (l := a0.F_Cells) (iv := a1) trivial rfl rfl (fun _ => rfl) (fun hc103 => ?_)
  refine Av 1 [.o false (o79_1.drop 5), .c c79_51] ⟨[(18, lY (at' a0.F_Cells a1)), (2, .ptr (.s 15) 0), (1, nI a1)], [(.s 15, [.d (.lst (List.map (enL (D.int .u8)) a0.F_Cells))])]⟩ ?_
  refine L_call (ok_crc_Open (at' a0.F_Cells a1)) trivial rfl (fun _ => rfl) (fun _ => ⟨(flat_map_of fun _ => trivial), trivial, trivial⟩) (fun r1 => ?_)
  refine Av 12 [.c c79_7, .c c79_50] ⟨[(23, bB (r1.2 != 0)), (6, sY (.s 1680) r1.1), (2, .ptr (.s 15) 0), (1, nI a1)], [(.s 15, [.d (.lst (List.map (enL (D.int .u8)) a0.F_Cells))])]⟩ ?_
  refine L_split 23 decNe (fun _ => ?_) (fun _ => ?_)
  · refine Avk 8 [] .ret ⟨[(5, nI 0), (4, .nils)], []⟩ ?_
    exact L_ret
  · refine Av 5 [.o false (o79_4.drop 1), .c c79_49] ⟨[(25, sY (.s 1680) r1.1), (6, sY (.s 1680) r1.1), (2, .ptr (.s 15) 0), (1, nI a1)], [(.s 15, [.d (.lst (List.map (enL (D.int .u8)) a0.F_Cells))])]⟩ ?_
    refine L_call (ok_leb_Many r1.1 0 2) trivial rfl (fun _ => rfl) (fun _ => ⟨(flat_map_of fun _ => trivial), trivial, trivial, trivial⟩) (fun r2 => ?_)
    refine Av 12 [.o false (o79_5.drop 2), .c c79_48] ⟨[(31, nI a1), (30, .agg [.d (.lst (List.map (enL (D.int .u8)) a0.F_Cells))]), (7, nI r2.2.2), (9, nI r2.2.1), (8, sU (.s 6416) r2.1), (6, sY (.s 1680) r1.1), (1, nI a1)], []⟩ ?_
    refine L_callZ [] (ok_store_half a0 a1) trivial rfl rfl (fun _ => rfl) (fun r3 => ?_)
    refine Av 8 [.o false (o79_6.drop 3), .c c79_16, .c c79_47] ⟨[(35, bB (r2.2.2 != 0)), (10, .d (.lst (List.map (enL (D.int .u8)) r3))), (9, nI r2.2.1), (8, sU (.s 6416) r2.1), (6, sY (.s 1680) r1.1), (1, nI a1)], []⟩ ?_
    refine L_take 5 o79_6t3_8 (o79_6.drop 8) ?_
    refine L_join [.o false o79_6t3_8] [.o false (o79_6.drop 8), .c c79_16, .c c79_47] (fun x : Bool => ⟨[(40, bB x), (10, .d (.lst (List.map (enL (D.int .u8)) r3))), (8, sU (.s 6416) r2.1), (1, nI a1)], []⟩) ?_ (fun j4 => ?_)
    · refine L_split 35 decNe (fun _ => ?_) (fun _ => ?_)
      · refine Av 6 [] ⟨[(40, bB true), (10, .d (.lst (List.map (enL (D.int .u8)) r3))), (8, sU (.s 6416) r2.1), (1, nI a1)], []⟩ ?_
        exact L_end
      · refine Av 2 [.o false (o79_6t3_8.drop 2)] ⟨[(37, sY (.s 1680) r1.1), (35, bB false), (36, nI r2.2.1), (10, .d (.lst (List.map (enL (D.int .u8)) r3))), (8, sU (.s 6416) r2.1), (1, nI a1)], []⟩ ?_
        refine L_len (enc := D.int .u8) (l := r1.1) rfl rfl ?_
        refine Av 3 [] ⟨[(40, bB (decide (r2.2.1 < (r1.1.length : Int)))), (10, .d (.lst (List.map (enL (D.int .u8)) r3))), (8, sU (.s 6416) r2.1), (1, nI a1)], []⟩ ?_
        exact L_end
    · refine Av 1 [.o false (o79_6.drop 9), .c c79_16, .c c79_47] ⟨[(41, bB j4), (10, .d (.lst (List.map (enL (D.int .u8)) r3))), (8, sU (.s 6416) r2.1), (1, nI a1)], []⟩ ?_
      refine L_take 5 o79_6t9_14 (o79_6.drop 14) ?_
      refine L_join [.o false o79_6t9_14] [.o false (o79_6.drop 14), .c c79_16, .c c79_47] (fun x : Bool => ⟨[(46, bB x), (10, .d (.lst (List.map (enL (D.int .u8)) r3))), (8, sU (.s 6416) r2.1), (1, nI a1)], []⟩) ?_ (fun j5 => ?_)
      · refine L_split 41 decT (fun _ => ?_) (fun _ => ?_)
        · refine Av 6 [] ⟨[(46, bB true), (10, .d (.lst (List.map (enL (D.int .u8)) r3))), (8, sU (.s 6416) r2.1), (1, nI a1)], []⟩ ?_
          exact L_end
        · refine Av 1 [.o false (o79_6t9_14.drop 1)] ⟨[(42, sU (.s 6416) r2.1), (41, bB false), (10, .d (.lst (List.map (enL (D.int .u8)) r3))), (8, sU (.s 6416) r2.1), (1, nI a1)], []⟩ ?_
          refine L_idxO (enc := D.int .u64) (l := r2.1) (iv := 0) rfl rfl rfl (fun hc610 => ?_)
          refine Av 4 [] ⟨[(46, bB (decide ((at' r2.1 0) > 1073741824))), (10, .d (.lst (List.map (enL (D.int .u8)) r3))), (8, sU (.s 6416) r2.1), (1, nI a1)], []⟩ ?_
          exact L_end
      · refine Av 1 [.o false (o79_6.drop 15), .c c79_16, .c c79_47] ⟨[(47, bB j5), (10, .d (.lst (List.map (enL (D.int .u8)) r3))), (8, sU (.s 6416) r2.1), (1, nI a1)], []⟩ ?_
        refine L_take 8 o79_6t15_23 (o79_6.drop 23) ?_
        refine L_join [.o false o79_6t15_23] [.o false (o79_6.drop 23), .c c79_16, .c c79_47] (fun x : Bool => ⟨[(55, bB x), (10, .d (.lst (List.map (enL (D.int .u8)) r3))), (8, sU (.s 6416) r2.1)], []⟩) ?_ (fun j6 => ?_)
        · refine L_split 47 decT (fun _ => ?_) (fun _ => ?_)
          · refine Av 9 [] ⟨[(55, bB true), (10, .d (.lst (List.map (enL (D.int .u8)) r3))), (8, sU (.s 6416) r2.1)], []⟩ ?_
            exact L_end
          · refine Av 1 [.o false (o79_6t15_23.drop 1)] ⟨[(48, sU (.s 6416) r2.1), (47, bB false), (10, .d (.lst (List.map (enL (D.int .u8)) r3))), (8, sU (.s 6416) r2.1), (1, nI a1)], []⟩ ?_
            refine L_idxO (enc := D.int .u64) (l := r2.1) (iv := 0) rfl rfl rfl (fun hc616 => ?_)
            refine Av 7 [] ⟨[(55, bB ((bAnd .u64 (at' r2.1 0) 1) != (IntKind.u64.wrap a1))), (10, .d (.lst (List.map (enL (D.int .u8)) r3))), (8, sU (.s 6416) r2.1)], []⟩ ?_
            exact L_end
        · refine Av 1 [.o false (o79_6.drop 24), .c c79_16, .c c79_47] ⟨[(56, bB j6), (10, .d (.lst (List.map (enL (D.int .u8)) r3))), (8, sU (.s 6416) r2.1)], []⟩ ?_
          refine L_take 9 o79_6t24_33 (o79_6.drop 33) ?_
          refine L_join [.o false o79_6t24_33] [.o false (o79_6.drop 33), .c c79_16, .c c79_47] (fun x : Bool => ⟨[(65, bB x), (10, .d (.lst (List.map (enL (D.int .u8)) r3))), (8, sU (.s 6416) r2.1)], []⟩) ?_ (fun j7 => ?_)
          · refine L_split 56 decT (fun _ => ?_) (fun _ => ?_)
            · refine Av 10 [] ⟨[(65, bB true), (10, .d (.lst (List.map (enL (D.int .u8)) r3))), (8, sU (.s 6416) r2.1)], []⟩ ?_
              exact L_end
            · refine Av 1 [.o false (o79_6t24_33.drop 1)] ⟨[(57, sU (.s 6416) r2.1), (56, bB false), (10, .d (.lst (List.map (enL (D.int .u8)) r3))), (8, sU (.s 6416) r2.1)], []⟩ ?_
              refine L_idxO (enc := D.int .u64) (l := r2.1) (iv := 1) rfl rfl rfl (fun hc625 => ?_)
              refine Av 2 [.o false (o79_6t24_33.drop 4)] ⟨[(60, .d (.lst (List.map (enL (D.int .u8)) r3))), (56, bB false), (59, nU (at' r2.1 1)), (10, .d (.lst (List.map (enL (D.int .u8)) r3))), (8, sU (.s 6416) r2.1)], []⟩ ?_
              refine L_len (enc := enL (D.int .u8)) (l := r3) rfl rfl ?_
              refine Av 5 [] ⟨[(65, bB (decide ((at' r2.1 1) > (IntKind.u64.wrap (IntKind.i64.wrap ((r3.length : Int) * 256)))))), (10, .d (.lst (List.map (enL (D.int .u8)) r3))), (8, sU (.s 6416) r2.1)], []⟩ ?_
              exact L_end
          · refine Av 1 [.c c79_16, .c c79_47] ⟨[(65, bB j7), (10, .d (.lst (List.map (enL (D.int .u8)) r3))), (8, sU (.s 6416) r2.1)], []⟩ ?_
            refine L_split 65 decT (fun _ => ?_) (fun _ => ?_)
            · refine Avk 8 [] .ret ⟨[(5, nI 0), (4, .nils)], []⟩ ?_
              exact L_ret
            · refine Av 10 [.o false (o79_9.drop 1), .c c79_41, .c c79_45] ⟨[(66, sU (.s 6416) r2.1), (11, .nils), (10, .d (.lst (List.map (enL (D.int .u8)) r3))), (8, sU (.s 6416) r2.1)], []⟩ ?_
              refine L_idxO (enc := D.int .u64) (l := r2.1) (iv := 1) trivial rfl rfl (fun hc901 => ?_)
              refine Av 6 [.l c79_39, .b 0, .c c79_45] ⟨[(12, nI (IntKind.i64.wrap (at' r2.1 1))), (11, .nils), (10, .d (.lst (List.map (enL (D.int .u8)) r3))), (8, sU (.s 6416) r2.1)], []⟩ ?_
              refine L_pieceR (fs := [.l c79_39]) (ks := [.b 0, .c c79_45]) (ok_store_kept_l0_ok r2 (IntKind.i64.wrap (at' r2.1 1)) [] r3) L_thru (fun j8 => ?_)
              refine Av 2 [.c c79_43, .c .ret] ⟨[(11, sY (.h 1) j8), (8, sU (.s 6416) r2.1)], []⟩ ?_
              refine Ae 3 [.o true (o79_16.drop 2), .c .ret] ⟨[(93, sU (.s 6416) r2.1), (92, sY (.h 1) j8), (11, sY (.h 1) j8), (8, sU (.s 6416) r2.1)], []⟩ ?_
              refine L_idxO (enc := D.int .u64) (l := r2.1) (iv := 0) trivial rfl rfl (fun hc1602 => ?_)
              refine Avk 6 [] .ret ⟨[(5, nI (IntKind.i64.wrap (at' r2.1 0))), (4, sY (.h 1) j8)], []⟩ ?_
              exact L_ret
/-- thrum/store.Load. -/
def en_store_Load (v : (List Int) × Int × Int) : PV := .tup [sY (.s 0) v.1, nI v.2.1, nI v.2.2]
def o23_0 : List AOper := [⟨some 1, none, 0, .box 26 (.t 0)⟩, ⟨some 2, none, 1, .mov (.c .nils)⟩, mi 3 2 0, mi 4 3 0]
def o23_1 : List AOper := [⟨some 10, none, 100, .load true 1 (.t 1)⟩, cl' 11 101 25 [.t 10], mv 5 102 11]
def o23_2 : List AOper := [mv 12 200 5, bc 13 201 .neq 12 0]
def o23_3 : List AOper := [mv 14 300 5, ⟨some 2, none, 301, .mov (.c .nils)⟩, mi 3 302 0, mv 4 303 14]
def o23_4 : List AOper := [⟨some 16, none, 400, .load true 1 (.t 1)⟩, cl' 17 401 79 [.t 16, .c (.d (.int .i64 0))], mv 15 402 17, xt 18 403 15 0, xt 19 404 15 1, mv 6 405 18, mv 7 406 19]
def o23_5 : List AOper := [⟨some 21, none, 500, .load true 1 (.t 1)⟩, cl' 22 501 79 [.t 21, .c (.d (.int .i64 1))], mv 20 502 22, xt 23 503 20 0, xt 24 504 20 1, mv 8 505 23, mv 9 506 24]
def o23_6 : List AOper := [mv 25 600 9, mv 26 601 7, bi 27 602 .gtr 25 26]
def o23_7 : List AOper := [mv 28 700 8, mv 29 701 9, mv 6 702 28, mv 7 703 29]
def o23_8 : List AOper := [mv 30 800 7, bc 31 801 .eql 30 0]
def o23_9 : List AOper := [⟨some 2, none, 900, .mov (.c .nils)⟩, mi 3 901 0, mi 4 902 8]
def o23_10 : List AOper := [mv 32 1000 6, mv 33 1001 7, mv 2 1002 32, mv 3 1003 33, mi 4 1004 0]
def c23_7 : AC := .cond (.t 13) (.seq (.reg o23_3) .ret) .skip
def c23_8 : AC := .seq (.reg o23_2) c23_7
def c23_15 : AC := .cond (.t 27) (.reg o23_7) .skip
def c23_16 : AC := .seq (.reg o23_6) c23_15
def c23_23 : AC := .cond (.t 31) (.seq (.reg o23_9) .ret) .skip
def c23_27 : AC := .seq (.reg o23_10) .ret
def c23_28 : AC := .seq (.seq (.reg o23_8) c23_23) c23_27
def c23_29 : AC := .seq (.seq (.reg o23_5) c23_16) c23_28
def c23_30 : AC := .seq (.reg o23_4) c23_29
def c23_32 : AC := .seq (.reg o23_0) (.seq (.seq (.reg o23_1) c23_8) c23_30)
theorem fn23 : fnA Try.prog 23 = some (34, [.t 2, .t 3, .t 4], c23_32) := by kernel_rfl
theorem ok_store_Load (a0 : T_api_Store) : ∀ v, M_store_Load a0 = some v → EvF Try.prog 23 [.agg [.lst (List.map (enL (D.int .u8)) a0.F_Cells)]] (en_store_Load v) := by
  intro v hv
  refine EvF_go fn23 (Nat.le_of_ble_eq_true rfl) ?_
  suffices h : Ok (M_store_Load a0) fun v => go Try.prog 34 (Fnl [.t 2, .t 3, .t 4] (en_store_Load v) []) [.c c23_32] .norm (initSt (List.map PV.d [.agg [.lst (List.map (enL (D.int .u8)) a0.F_Cells)]]) []) from h v hv
  unfold M_store_Load
  refine Av 11 [.o false (o23_1.drop 1), .c c23_8, .c c23_30] ⟨[(10, .agg [.d (.lst (List.map (enL (D.int .u8)) a0.F_Cells))]), (1, .ptr (.s 15) 0)], [(.s 15, [.d (.lst (List.map (enL (D.int .u8)) a0.F_Cells))])]⟩ ?_
  refine L_call (ok_store_Check a0) trivial rfl (fun _ => rfl) (fun _ => trivial) (fun r1 => ?_)
  refine Av 7 [.c c23_7, .c c23_30] ⟨[(13, bB (r1 != 0)), (5, nI r1), (1, .ptr (.s 15) 0)], [(.s 15, [.d (.lst (List.map (enL (D.int .u8)) a0.F_Cells))])]⟩ ?_
  refine L_split 13 decNe (fun _ => ?_) (fun _ => ?_)
  · refine Avk 10 [] .ret ⟨[(4, nI r1), (3, nI 0), (2, .nils)], []⟩ ?_
    exact L_ret
  · refine Av 5 [.o false (o23_4.drop 1), .c c23_29] ⟨[(16, .agg [.d (.lst (List.map (enL (D.int .u8)) a0.F_Cells))]), (1, .ptr (.s 15) 0)], [(.s 15, [.d (.lst (List.map (enL (D.int .u8)) a0.F_Cells))])]⟩ ?_
    refine L_call (ok_store_kept a0 0) trivial rfl (fun _ => rfl) (fun _ => ⟨(flat_map_of fun _ => trivial), trivial, trivial⟩) (fun r2 => ?_)
    refine Av 10 [.o false (o23_5.drop 1), .c c23_16, .c c23_28] ⟨[(21, .agg [.d (.lst (List.map (enL (D.int .u8)) a0.F_Cells))]), (7, nI r2.2), (6, sY (.s 6416) r2.1)], []⟩ ?_
    refine L_call (ok_store_kept a0 1) trivial rfl (fun _ => rfl) (fun _ => ⟨(flat_map_of fun _ => trivial), trivial, trivial⟩) (fun r3 => ?_)
    refine Av 12 [.c c23_15, .c c23_28] ⟨[(27, bB (decide (r3.2 > r2.2))), (9, nI r3.2), (8, sY (.s 8016) r3.1), (7, nI r2.2), (6, sY (.s 6416) r2.1)], []⟩ ?_
    refine L_split 27 rfl (fun _ => ?_) (fun _ => ?_)
    · refine Av 13 [.c c23_23, .c c23_27] ⟨[(31, bB (r3.2 == 0)), (7, nI r3.2), (6, sY (.s 8016) r3.1)], []⟩ ?_
      refine L_split 31 decE (fun _ => ?_) (fun _ => ?_)
      · refine Avk 9 [] .ret ⟨[(4, nI 8), (3, nI 0), (2, .nils)], []⟩ ?_
        exact L_ret
      · refine Avk 11 [] .ret ⟨[(4, nI 0), (3, nI r3.2), (2, sY (.s 8016) r3.1)], []⟩ ?_
        exact L_ret
    · refine Av 8 [.c c23_23, .c c23_27] ⟨[(31, bB (r2.2 == 0)), (7, nI r2.2), (6, sY (.s 6416) r2.1)], []⟩ ?_
      refine L_split 31 decE (fun _ => ?_) (fun _ => ?_)
      · refine Avk 9 [] .ret ⟨[(4, nI 8), (3, nI 0), (2, .nils)], []⟩ ?_
        exact L_ret
      · refine Avk 11 [] .ret ⟨[(4, nI 0), (3, nI r2.2), (2, sY (.s 6416) r2.1)], []⟩ ?_
        exact L_ret
/-- slices.Chunk[[]byte,byte]. -/
def en_slices_Chunk_byte_byte (v : (List Int) × Int) : PV := .d (.clo (.func 124) [] [.cp [.lst (List.map (D.int .u8) v.1)] 0, .cp [.int .i64 v.2] 0])
def o75_0 : List AOper := [⟨some 2, none, 0, .box 30 (.t 0)⟩, ⟨some 3, none, 1, .box 3 (.t 1)⟩, ⟨some 4, none, 2, .mov (.c (.d .nilfn))⟩]
def o75_1 : List AOper := [ld 5 100 3, bc 6 101 .lss 5 1]
def o75_2 : List AOper := [⟨some 7, none, 200, .mkif 9 (.c (.d (.str (ByteArray.mk #[99, 97, 110, 110, 111, 116, 32, 98, 101, 32, 108, 101, 115, 115, 32, 116, 104, 97, 110, 32, 49]))))⟩, ⟨none, none, 201, .halt⟩]
def o75_3 : List AOper := [⟨some 8, none, 300, .mkfn (.func 124) [] [.t 2, .t 3]⟩, mv 4 301 8]
def c75_4 : AC := .cond (.t 6) (.reg o75_2) .skip
def c75_8 : AC := .seq (.reg o75_3) .ret
def c75_10 : AC := .seq (.reg o75_0) (.seq (.seq (.reg o75_1) c75_4) c75_8)
theorem fn75 : fnA Try.prog 75 = some (9, [.t 4], c75_10) := by kernel_rfl
theorem ok_slices_Chunk_byte_byte (a0 : List Int) (a1 : Int) : ∀ v, M_slices_Chunk_byte_byte a0 a1 = some v → EvF Try.prog 75 [.lst (List.map (D.int .u8) a0), .int .i64 a1] (en_slices_Chunk_byte_byte v) := by
  intro v hv
  refine EvF_go fn75 (Nat.le_of_ble_eq_true rfl) ?_
  suffices h : Ok (M_slices_Chunk_byte_byte a0 a1) fun v => go Try.prog 9 (Fnl [.t 4] (en_slices_Chunk_byte_byte v) []) [.c c75_10] .norm (initSt (List.map PV.d [.lst (List.map (D.int .u8) a0), .int .i64 a1]) []) from h v hv
  unfold M_slices_Chunk_byte_byte
  refine Av 12 [.c c75_4, .c c75_8] ⟨[(6, bB (decide (a1 < 1))), (3, .ptr (.s 31) 0), (2, .ptr (.s 15) 0)], [(.s 31, [nI a1]), (.s 15, [lY a0])]⟩ ?_
  refine L_split 6 rfl (fun _ => ?_) (fun _ => ?_)
  · refine Av 3 [.o false (o75_2.drop 1), .c c75_8] ⟨[(3, .ptr (.s 31) 0), (2, .ptr (.s 15) 0)], [(.s 31, [nI a1]), (.s 15, [lY a0])]⟩ ?_
    exact Ok.none
  · refine Avk 8 [] .ret ⟨[(4, .clo (.func 124) [] [.ptr (.s 15) 0, .ptr (.s 31) 0])], [(.s 31, [nI a1]), (.s 15, [lY a0])]⟩ ?_
    refine L_box (.s 15) [.lst (List.map (D.int .u8) a0)] ⟨[(4, .clo (.func 124) [] [.d (.cp [.lst (List.map (D.int .u8) a0)] 0), .ptr (.s 31) 0])], [(.s 31, [nI a1])]⟩ ?_
    refine L_box (.s 31) [.int .i64 a1] ⟨[(4, .clo (.func 124) [] [.d (.cp [.lst (List.map (D.int .u8) a0)] 0), .d (.cp [.int .i64 a1] 0)])], []⟩ ?_
    exact L_ret
/-- thrum/leb.put. -/
def en_leb_put (v : (List Int)) : PV := sY (.s 0) v
def bx_leb_put (v : (List Int)) : List (Tg × List PV) := []
def o126_0 : List AOper := [⟨some 4, none, 0, .mov (.c .nils)⟩]
def o126_1 : List AOper := [mv 5 100 1, ⟨some 6, none, 101, .bin .gtr .int (.t 5) (.c (.d (.int .u64 127)))⟩]
def o126_2 : List AOper := [mv 7 200 0, mv 8 201 1, ⟨some 9, none, 202, .convI .u8 (.t 8)⟩, ⟨some 10, none, 203, .bin .or .int (.t 9) (.c (.d (.int .u8 128)))⟩, ⟨some 11, none, 204, .bslice 5 1 [.t 10]⟩, ⟨some 12, none, 205, .app 5 1 1 (.t 7) (.t 11)⟩, mv 0 206 12]
def o126_3 : List AOper := [mv 13 300 1, ⟨some 14, none, 301, .bin .shr .int (.t 13) (.c (.d (.int .u64 7)))⟩, mv 1 302 14]
def o126_4 : List AOper := [mv 15 400 0, mv 16 401 1, ⟨some 17, none, 402, .convI .u8 (.t 16)⟩, ⟨some 18, none, 403, .bslice 5 1 [.t 17]⟩, ⟨some 19, none, 404, .app 5 1 1 (.t 15) (.t 18)⟩, mv 4 405 19]
def c126_4 : AC := .cond (.t 6) .skip (.exit 0)
def c126_7 : AC := .reg o126_3
def c126_9 : AC := .block 1 (.seq (.reg o126_2) c126_7)
def c126_10 : AC := .seq (.seq (.reg o126_1) c126_4) c126_9
def c126_15 : AC := .seq (.reg o126_4) .ret
def c126_17 : AC := .seq (.reg o126_0) (.seq (.block 0 (.loop c126_10)) c126_15)
theorem fn126 : fnA Try.prog 126 = some (20, [.t 4], c126_17) := by kernel_rfl
def q_ok_leb_put_l0_ok (x0 : List Int) (x1 : Int) (v : ((List Int) × Int)) : Prop := (fun v => go Try.prog 20 (PostN (.exit 0) (fun x : (List Int) × Int => ⟨[(0, sY (.h 2) x.1), (1, nU x.2)], []⟩) v) [.l c126_10] .norm ⟨[(0, sY (.h 1) x0), (1, nU x1)], []⟩) v
theorem ok_leb_put_l0_ok (x0 : List Int) (x1 : Int) : Ok (M_leb_put_l0 x0 x1) (q_ok_leb_put_l0_ok x0 x1) := by
  refine M_leb_put_l0.partial_correctness (q_ok_leb_put_l0_ok) ?_ x0 x1
  clear x0 x1
  intro f' IH x0 x1
  refine okI ?_
  unfold q_ok_leb_put_l0_ok at *
  refine Av 1 [.c c126_10, .l c126_10] ⟨[(0, sY (.h 1) x0), (1, nU x1)], []⟩ ?_
  refine Av 6 [.c c126_4, .c c126_9, .l c126_10] ⟨[(6, bB (decide (x1 > 127))), (0, sY (.h 1) x0), (1, nU x1)], []⟩ ?_
  refine L_split 6 rfl (fun _ => ?_) (fun _ => ?_)
  · refine Av 10 [.o false (o126_2.drop 5), .c c126_7, .b 1, .l c126_10] ⟨[(11, sY (.s 3279) [bOr .u8 (IntKind.u8.wrap x1) 128]), (7, sY (.h 1) x0), (1, nU x1)], []⟩ ?_
    refine L_app (enc := D.int .u8) (l := x0) (l2 := [bOr .u8 (IntKind.u8.wrap x1) 128]) trivial rfl rfl (fun _ => rfl) (fun _ => ?_)
    refine Al 8 [.l c126_10] .norm (fun y1 : List Int => ⟨[(1, nU (sShr .u64 x1 7)), (0, sY (.s 3295) y1)], []⟩) (fun y1 => ?_)
    exact L_again (IH y1 (sShr .u64 x1 7))
  · refine Avk 4 [] (.exit 0) ⟨[(0, sY (.h 1) x0), (1, nU x1)], []⟩ ?_
    exact L_end
theorem ok_leb_put (a0 : List Int) (a1 : Int) : ∀ v, M_leb_put a0 a1 = some v → EvG Try.prog 126 [sY (.h 0) a0, nU a1] [] (en_leb_put v) (bx_leb_put v) := by
  intro v hv
  refine EvG_go fn126 (Nat.le_of_ble_eq_true rfl) ?_
  suffices h : Ok (M_leb_put a0 a1) fun v => go Try.prog 20 (Fnl [.t 4] (en_leb_put v) (bx_leb_put v)) [.c c126_17] .norm (initSt [sY (.h 0) a0, nU a1] []) from h v hv
  unfold M_leb_put
  refine Av 7 [.l c126_10, .b 0, .c c126_15] ⟨[(0, sY (.h 0) a0), (1, nU a1)], []⟩ ?_
  refine L_piece (fs := [.l c126_10]) (ks := [.b 0, .c c126_15]) (ok_leb_put_l0_ok a0 a1) (fun j3 => ?_)
  refine Av 7 [.o false (o126_4.drop 4), .c .ret] ⟨[(18, sY (.s 6463) [IntKind.u8.wrap j3.2]), (15, sY (.h 2) j3.1)], []⟩ ?_
  refine L_app (enc := D.int .u8) (l := j3.1) (l2 := [IntKind.u8.wrap j3.2]) trivial rfl rfl (fun _ => rfl) (fun _ => ?_)
  refine Avk 3 [] .ret ⟨[(4, sY (.s 6479) (j3.1 ++ [IntKind.u8.wrap j3.2]))], []⟩ ?_
  exact L_ret
/-- thrum/leb.Put. -/
def en_leb_Put (v : (List Int)) : PV := sY (.s 0) v
def o78_0 : List AOper := [⟨some 4, none, 0, .mov (.c .nils)⟩]
def o78_1 : List AOper := [mv 7 100 0, cl' 8 101 76 [.t 7], mv 0 102 8]
def o78_2 : List AOper := [mv 9 200 1, ln 10 201 9, mi 11 202 0]
def o78_3 : List AOper := [bi 12 300 .lss 11 10]
def o78_4 : List AOper := [⟨some 13, none, 400, .idxA 1 (.t 9) (.t 11)⟩, ld 14 401 13, mv 6 402 14]
def o78_5 : List AOper := [mv 15 500 0, mv 16 501 6, cl' 17 502 126 [.t 15, .t 16], mv 0 503 17]
def o78_6 : List AOper := [bc 18 600 .add 11 1, mv 11 601 18]
def o78_7 : List AOper := [mv 19 700 0, mv 4 701 19]
def c78_6 : AC := .cond (.t 12) .skip (.exit 0)
def c78_8 : AC := .reg o78_5
def c78_11 : AC := .reg o78_6
def c78_12 : AC := .seq (.block 1 (.seq (.reg o78_4) c78_8)) c78_11
def c78_14 : AC := .seq (.reg o78_3) (.seq c78_6 c78_12)
def c78_16 : AC := .block 0 (.loop c78_14)
def c78_20 : AC := .seq (.reg o78_7) .ret
def c78_21 : AC := .seq (.seq (.reg o78_2) c78_16) c78_20
def c78_23 : AC := .seq (.reg o78_0) (.seq (.reg o78_1) c78_21)
theorem fn78 : fnA Try.prog 78 = some (20, [.t 4], c78_23) := by kernel_rfl
def q_ok_leb_Put_l0_ok (a1 : List Int) (x0 : Int) (x1 : List Int) (v : (List Int)) : Prop := (fun v => go Try.prog 20 (PostN (.exit 0) (fun x : (List Int) => ⟨[(0, sY (.h 1) x)], []⟩) v) [.l c78_14] .norm ⟨[(11, nI x0), (10, nI (a1.length : Int)), (9, lU a1), (0, sY (.h 0) x1)], []⟩) v
theorem ok_leb_Put_l0_ok (a1 : List Int) (x0 : Int) (x1 : List Int) : Ok (M_leb_Put_l0 a1 x0 x1) (q_ok_leb_Put_l0_ok a1 x0 x1) := by
  refine M_leb_Put_l0.partial_correctness a1 (q_ok_leb_Put_l0_ok a1) ?_ x0 x1
  clear x0 x1
  intro f' IH x0 x1
  refine okI ?_
  unfold q_ok_leb_Put_l0_ok at *
  refine Av 1 [.c c78_14, .l c78_14] ⟨[(11, nI x0), (10, nI (a1.length : Int)), (9, lU a1), (0, sY (.h 0) x1)], []⟩ ?_
  refine Av 5 [.c c78_6, .c c78_12, .l c78_14] ⟨[(12, bB (decide (x0 < (a1.length : Int)))), (11, nI x0), (10, nI (a1.length : Int)), (9, lU a1), (0, sY (.h 0) x1)], []⟩ ?_
  refine L_split 12 rfl (fun _ => ?_) (fun _ => ?_)
  · refine Av 6 [.o false o78_4, .c c78_8, .b 1, .c c78_11, .l c78_14] ⟨[(11, nI x0), (10, nI (a1.length : Int)), (9, lU a1), (0, sY (.h 0) x1)], []⟩ ?_
    refine L_idxD (enc := D.int .u64) (l := a1) (iv := x0) trivial rfl rfl (fun _ => rfl) (fun hc400 => ?_)
    refine Av 6 [.o false (o78_5.drop 2), .b 1, .c c78_11, .l c78_14] ⟨[(16, nU (at' a1 x0)), (15, sY (.h 0) x1), (11, nI x0), (10, nI (a1.length : Int)), (9, lU a1)], []⟩ ?_
    refine L_callB (enR := en_leb_put) (bx' := bx_leb_put) (ps := [sY (.h 0) x1, nU (at' a1 x0)]) (bx := []) [(.h 0, .h 0)] (ok_leb_put x1 (at' a1 x0)) trivial rfl rfl (fun _ => rfl) (fun _ => rfl) (fun _ => by kernel_rfl) (fun _ => by kernel_rfl) (fun _ => (flat_map_of fun _ => trivial)) (fun _ => trivial) (fun r2 => ?_)
    refine Av 7 [.l c78_14] ⟨[(11, nI (IntKind.i64.wrap (x0 + 1))), (0, sY (.s 8032) r2), (10, nI (a1.length : Int)), (9, lU a1)], []⟩ ?_
    exact L_again (IH (IntKind.i64.wrap (x0 + 1)) r2)
  · refine Avk 4 [] (.exit 0) ⟨[(0, sY (.h 0) x1)], []⟩ ?_
    exact L_end
theorem ok_leb_Put (a0 : List Int) (a1 : List Int) : ∀ v, M_leb_Put a0 a1 = some v → EvF Try.prog 78 [.lst (List.map (D.int .u8) a0), .lst (List.map (D.int .u64) a1)] (en_leb_Put v) := by
  intro v hv
  refine EvF_go fn78 (Nat.le_of_ble_eq_true rfl) ?_
  suffices h : Ok (M_leb_Put a0 a1) fun v => go Try.prog 20 (Fnl [.t 4] (en_leb_Put v) []) [.c c78_23] .norm (initSt (List.map PV.d [.lst (List.map (D.int .u8) a0), .lst (List.map (D.int .u64) a1)]) []) from h v hv
  unfold M_leb_Put
  refine Av 7 [.o false (o78_1.drop 1), .c c78_21] ⟨[(7, lY a0), (1, lU a1)], []⟩ ?_
  refine L_call (ok_slices_Clone_byte_byte a0) trivial rfl (fun _ => rfl) (fun _ => (flat_map_of fun _ => trivial)) (fun r1 => ?_)
  refine Av 6 [.o false (o78_2.drop 1), .c c78_16, .c c78_20] ⟨[(9, lU a1), (0, sY (.s 1616) r1)], []⟩ ?_
  refine L_len (enc := D.int .u64) (l := a1) trivial rfl ?_
  refine Av 4 [.l c78_14, .b 0, .c c78_20] ⟨[(11, nI 0), (10, nI (a1.length : Int)), (9, lU a1), (0, sY (.s 1616) r1)], []⟩ ?_
  refine L_piece (fs := [.l c78_14]) (ks := [.b 0, .c c78_20]) (ok_leb_Put_l0_ok a1 0 r1) (fun j3 => ?_)
  refine Avk 7 [] .ret ⟨[(4, sY (.h 1) j3)], []⟩ ?_
  exact L_ret
/-- thrum/store.Plan. -/
def en_store_Plan (v : (List T_api_Put) × Int) : PV := .tup [.sl (.s 0) 2 0 (List.map T_api_Put.en v.1), nI v.2]
def o21_0 : List AOper := [⟨some 2, none, 0, .box 26 (.t 0)⟩, ⟨some 4, none, 1, .mov (.c .nils)⟩, mi 5 2 0]
def o21_1 : List AOper := [⟨some 15, none, 100, .load true 1 (.t 2)⟩, cl' 16 101 23 [.t 15], mv 14 102 16, xt 17 103 14 0, xt 18 104 14 1, xt 19 105 14 2, mv 6 106 17, mv 7 107 18, mv 8 108 19]
def o21_2 : List AOper := [mv 20 200 8, bc 21 201 .neq 20 0, mv 22 202 21, gv 23 22 true 203 8, ⟨some 24, some (22, true), 204, .bin .neq .int (.t 23) (.c (.d (.int .i64 8)))⟩, pk 25 205 22 24 false]
def o21_3 : List AOper := [mv 26 300 8, ⟨some 4, none, 301, .mov (.c .nils)⟩, mv 5 302 26]
def o21_4 : List AOper := [mv 27 400 7, bc 28 401 .add 27 1, mv 7 402 28]
def o21_5 : List AOper := [mv 29 500 7, bc 30 501 .and 29 1, ⟨some 9, none, 502, .alloc 3 1 [.int .i64 0]⟩, ⟨none, none, 503, .store 1 (.t 9) (.t 30)⟩]
def o21_6 : List AOper := [⟨some 31, none, 600, .load true 1 (.t 2)⟩, ld 32 601 9, cl' 33 602 74 [.t 31, .t 32], ln 34 603 33, ⟨some 10, none, 604, .alloc 3 1 [.int .i64 0]⟩, ⟨none, none, 605, .store 1 (.t 10) (.t 34)⟩]
def o21_7 : List AOper := [mv 36 700 1, ln 37 701 36, ld 38 702 10, bc 39 703 .mul 38 256, bi 40 704 .gtr 37 39, mv 35 705 40]
def o21_8 : List AOper := [⟨some 4, none, 800, .mov (.c .nils)⟩, mi 5 801 3]
def o21_9 : List AOper := [mv 42 900 7, bc 43 901 .gtr 42 1073741824, mv 41 902 43]
def o21_10 : List AOper := [⟨some 4, none, 1000, .mov (.c .nils)⟩, mi 5 1001 1]
def o21_11 : List AOper := [⟨some 11, none, 1100, .alloc 31 1 [.lst []]⟩]
def o21_12 : List AOper := [mv 44 1200 1, cl' 45 1201 75 [.t 44, .c (.d (.int .i64 256))]]
def o21_13 : List AOper := [ld 47 1400 11, ld 48 1401 9, ld 49 1402 10, bi 50 1403 .mul 48 49, ⟨some 51, none, 1404, .bin .add .int (.c (.d (.int .i64 2))) (.t 50)⟩, ld 52 1405 11, ln 53 1406 52, bi 54 1407 .add 51 53, mv 55 1408 12, cl' 56 1409 76 [.t 55], ⟨some 57, none, 1410, .build [.int .i64 0, .lst []] [(0, 1, .t 54), (1, 1, .t 56)]⟩, ⟨some 58, none, 1411, .bslice 35 2 [.t 57]⟩, ⟨some 59, none, 1412, .app 35 2 32 (.t 47) (.t 58)⟩, ⟨none, none, 1413, .store 1 (.t 11) (.t 59)⟩]
def o21_14 : List AOper := [mv 61 1500 7, ⟨some 62, none, 1501, .convI .u64 (.t 61)⟩, mv 63 1502 1, ln 64 1503 63, ⟨some 65, none, 1504, .convI .u64 (.t 64)⟩, ⟨some 66, none, 1505, .bslice 82 1 [.t 62, .t 65]⟩, cl' 67 1506 78 [.c (.nils), .t 66], cl' 68 1507 77 [.t 67], mv 60 1508 68, xt 69 1509 60 0, xt 70 1510 60 1, mv 13 1511 69, mv 8 1512 70]
def o21_15 : List AOper := [mv 71 1600 8, bc 72 1601 .neq 71 0]
def o21_16 : List AOper := [mv 73 1700 8, ⟨some 4, none, 1701, .mov (.c .nils)⟩, mv 5 1702 73]
def o21_17 : List AOper := [ld 74 1800 11, ld 75 1801 9, mv 76 1802 13, ⟨some 77, none, 1803, .build [.int .i64 0, .lst []] [(0, 1, .t 75), (1, 1, .t 76)]⟩, ⟨some 78, none, 1804, .bslice 35 2 [.t 77]⟩, ⟨some 79, none, 1805, .app 35 2 32 (.t 74) (.t 78)⟩, mv 4 1806 79, mi 5 1807 0]
def o21_13g0 : List AOper := [ld 47 1400 11, ld 48 1401 9, ld 49 1402 10, bi 50 1403 .mul 48 49, ⟨some 51, none, 1404, .bin .add .int (.c (.d (.int .i64 2))) (.t 50)⟩, ld 52 1405 11, ln 53 1406 52, bi 54 1407 .add 51 53, mv 55 1408 12, cl' 56 1409 76 [.t 55]]
def h21_13g0 : List AOper := [ld 47 1400 11, ld 48 1401 9, ld 49 1402 10, bi 50 1403 .mul 48 49, ⟨some 51, none, 1404, .bin .add .int (.c (.d (.int .i64 2))) (.t 50)⟩, ld 52 1405 11, ln 53 1406 52, bi 54 1407 .add 51 53]
def o21_13g1 : List AOper := [⟨some 57, none, 1410, .build [.int .i64 0, .lst []] [(0, 1, .t 54), (1, 1, .t 56)]⟩, ⟨some 58, none, 1411, .bslice 35 2 [.t 57]⟩]
def h21_13g1 : List AOper := [ld 47 1400 11]
def o21_13g2 : List AOper := [⟨some 59, none, 1412, .app 35 2 32 (.t 47) (.t 58)⟩, ⟨none, none, 1413, .store 1 (.t 11) (.t 59)⟩]
def o21_2t3_6 : List AOper := (o21_2.drop 3).take 3
def c21_7 : AC := .cond (.t 25) (.seq (.reg o21_3) .ret) .skip
def c21_21 : AC := .cond (.t 41) (.seq (.reg o21_10) .ret) .skip
def c21_23 : AC := .cond (.t 35) (.seq (.reg o21_8) .ret) (.seq (.reg o21_9) c21_21)
def c21_28 : AC := .rng (.t 45) 46 12 [⟨ld 47 1400 11, false, []⟩, ⟨ld 48 1401 9, false, []⟩, ⟨ld 49 1402 10, false, []⟩, ⟨bi 50 1403 .mul 48 49, false, []⟩, ⟨⟨some 51, none, 1404, .bin .add .int (.c (.d (.int .i64 2))) (.t 50)⟩, false, []⟩, ⟨ld 52 1405 11, false, []⟩, ⟨ln 53 1406 52, false, []⟩, ⟨bi 54 1407 .add 51 53, false, []⟩, ⟨mv 55 1408 12, false, []⟩, ⟨cl' 56 1409 76 [.t 55], true, [ld 47 1400 11, ld 48 1401 9, ld 49 1402 10, bi 50 1403 .mul 48 49, ⟨some 51, none, 1404, .bin .add .int (.c (.d (.int .i64 2))) (.t 50)⟩, ld 52 1405 11, ln 53 1406 52, bi 54 1407 .add 51 53]⟩, ⟨⟨some 57, none, 1410, .build [.int .i64 0, .lst []] [(0, 1, .t 54), (1, 1, .t 56)]⟩, false, []⟩, ⟨⟨some 58, none, 1411, .bslice 35 2 [.t 57]⟩, true, [ld 47 1400 11]⟩, ⟨⟨some 59, none, 1412, .app 35 2 32 (.t 47) (.t 58)⟩, true, []⟩, ⟨⟨none, none, 1413, .store 1 (.t 11) (.t 59)⟩, true, []⟩]
def c21_29 : AC := .block 1 c21_28
def c21_37 : AC := .cond (.t 72) (.seq (.reg o21_16) .ret) .skip
def c21_41 : AC := .seq (.reg o21_17) .ret
def c21_42 : AC := .seq (.seq (.reg o21_15) c21_37) c21_41
def c21_43 : AC := .seq (.reg o21_14) c21_42
def c21_45 : AC := .seq (.reg o21_11) (.seq (.seq (.reg o21_12) c21_29) c21_43)
def c21_46 : AC := .seq (.block 0 (.seq (.reg o21_7) c21_23)) c21_45
def c21_49 : AC := .seq (.reg o21_4) (.seq (.reg o21_5) (.seq (.reg o21_6) c21_46))
def c21_50 : AC := .seq (.seq (.reg o21_2) c21_7) c21_49
def c21_52 : AC := .seq (.reg o21_0) (.seq (.reg o21_1) c21_50)
theorem fn21 : fnA Try.prog 21 = some (80, [.t 4, .t 5], c21_52) := by kernel_rfl
theorem ok_store_Plan (a0 : T_api_Store) (a1 : List Int) : ∀ v, M_store_Plan a0 a1 = some v → EvF Try.prog 21 [.agg [.lst (List.map (enL (D.int .u8)) a0.F_Cells)], .lst (List.map (D.int .u8) a1)] (en_store_Plan v) := by
  intro v hv
  refine EvF_go fn21 (Nat.le_of_ble_eq_true rfl) ?_
  suffices h : Ok (M_store_Plan a0 a1) fun v => go Try.prog 80 (Fnl [.t 4, .t 5] (en_store_Plan v) []) [.c c21_52] .norm (initSt (List.map PV.d [.agg [.lst (List.map (enL (D.int .u8)) a0.F_Cells)], .lst (List.map (D.int .u8) a1)]) []) from h v hv
  unfold M_store_Plan
  refine Av 9 [.o false (o21_1.drop 1), .c c21_50] ⟨[(15, .agg [.d (.lst (List.map (enL (D.int .u8)) a0.F_Cells))]), (2, .ptr (.s 15) 0), (1, lY a1)], [(.s 15, [.d (.lst (List.map (enL (D.int .u8)) a0.F_Cells))])]⟩ ?_
  refine L_call (ok_store_Load a0) trivial rfl (fun _ => rfl) (fun _ => ⟨(flat_map_of fun _ => trivial), trivial, trivial, trivial⟩) (fun r1 => ?_)
  refine Av 14 [.o false (o21_2.drop 3), .c c21_7, .c c21_49] ⟨[(22, bB (r1.2.2 != 0)), (8, nI r1.2.2), (7, nI r1.2.1), (2, .ptr (.s 15) 0), (1, lY a1)], [(.s 15, [.d (.lst (List.map (enL (D.int .u8)) a0.F_Cells))])]⟩ ?_
  refine L_take 3 o21_2t3_6 (o21_2.drop 6) ?_
  refine L_join [.o false o21_2t3_6] [.o false (o21_2.drop 6), .c c21_7, .c c21_49] (fun x : Bool => ⟨[(25, bB x), (8, nI r1.2.2), (7, nI r1.2.1), (2, .ptr (.s 15) 0), (1, lY a1)], [(.s 15, [.d (.lst (List.map (enL (D.int .u8)) a0.F_Cells))])]⟩) ?_ (fun j2 => ?_)
  · refine L_split 22 decNe (fun _ => ?_) (fun _ => ?_)
    · refine Av 4 [] ⟨[(25, bB (r1.2.2 != 8)), (8, nI r1.2.2), (7, nI r1.2.1), (2, .ptr (.s 15) 0), (1, lY a1)], [(.s 15, [.d (.lst (List.map (enL (D.int .u8)) a0.F_Cells))])]⟩ ?_
      exact L_end
    · refine Av 4 [] ⟨[(25, bB false), (8, nI r1.2.2), (7, nI r1.2.1), (2, .ptr (.s 15) 0), (1, lY a1)], [(.s 15, [.d (.lst (List.map (enL (D.int .u8)) a0.F_Cells))])]⟩ ?_
      exact L_end
  · refine Av 1 [.c c21_7, .c c21_49] ⟨[(25, bB j2), (8, nI r1.2.2), (7, nI r1.2.1), (2, .ptr (.s 15) 0), (1, lY a1)], [(.s 15, [.d (.lst (List.map (enL (D.int .u8)) a0.F_Cells))])]⟩ ?_
    refine L_split 25 decT (fun _ => ?_) (fun _ => ?_)
    · refine Avk 9 [] .ret ⟨[(5, nI r1.2.2), (4, .nils)], []⟩ ?_
      exact L_ret
    · refine Av 19 [.o false (o21_6.drop 2), .c c21_46] ⟨[(32, nI (bAnd .i64 (IntKind.i64.wrap (r1.2.1 + 1)) 1)), (31, .agg [.d (.lst (List.map (enL (D.int .u8)) a0.F_Cells))]), (9, .ptr (.s 8047) 0), (7, nI (IntKind.i64.wrap (r1.2.1 + 1))), (1, lY a1)], [(.s 8047, [nI (bAnd .i64 (IntKind.i64.wrap (r1.2.1 + 1)) 1)])]⟩ ?_
      refine L_callZ [] (ok_store_half a0 (bAnd .i64 (IntKind.i64.wrap (r1.2.1 + 1)) 1)) trivial rfl rfl (fun _ => rfl) (fun r3 => ?_)
      refine Av 0 [.o false (o21_6.drop 3), .c c21_46] ⟨[(33, .d (.lst (List.map (enL (D.int .u8)) r3))), (9, .ptr (.s 8047) 0), (7, nI (IntKind.i64.wrap (r1.2.1 + 1))), (1, lY a1)], [(.s 8047, [nI (bAnd .i64 (IntKind.i64.wrap (r1.2.1 + 1)) 1)])]⟩ ?_
      refine L_len (enc := enL (D.int .u8)) (l := r3) trivial rfl ?_
      refine Av 8 [.o false (o21_7.drop 1), .c c21_23, .b 0, .c c21_45] ⟨[(36, lY a1), (10, .ptr (.s 9679) 0), (9, .ptr (.s 8047) 0), (7, nI (IntKind.i64.wrap (r1.2.1 + 1))), (1, lY a1)], [(.s 9679, [nI (r3.length : Int)]), (.s 8047, [nI (bAnd .i64 (IntKind.i64.wrap (r1.2.1 + 1)) 1)])]⟩ ?_
      refine L_len (enc := D.int .u8) (l := a1) trivial rfl ?_
      refine Av 5 [.c c21_23, .b 0, .c c21_45] ⟨[(35, bB (decide ((a1.length : Int) > (IntKind.i64.wrap ((r3.length : Int) * 256))))), (10, .ptr (.s 9679) 0), (9, .ptr (.s 8047) 0), (7, nI (IntKind.i64.wrap (r1.2.1 + 1))), (1, lY a1)], [(.s 9679, [nI (r3.length : Int)]), (.s 8047, [nI (bAnd .i64 (IntKind.i64.wrap (r1.2.1 + 1)) 1)])]⟩ ?_
      refine L_split 35 rfl (fun _ => ?_) (fun _ => ?_)
      · refine Avk 9 [] .ret ⟨[(5, nI 3), (4, .nils)], []⟩ ?_
        exact L_ret
      · refine Av 7 [.c c21_21, .b 0, .c c21_45] ⟨[(41, bB (decide ((IntKind.i64.wrap (r1.2.1 + 1)) > 1073741824))), (10, .ptr (.s 9679) 0), (9, .ptr (.s 8047) 0), (7, nI (IntKind.i64.wrap (r1.2.1 + 1))), (1, lY a1)], [(.s 9679, [nI (r3.length : Int)]), (.s 8047, [nI (bAnd .i64 (IntKind.i64.wrap (r1.2.1 + 1)) 1)])]⟩ ?_
        refine L_split 41 rfl (fun _ => ?_) (fun _ => ?_)
        · refine Avk 9 [] .ret ⟨[(5, nI 1), (4, .nils)], []⟩ ?_
          exact L_ret
        · refine Av 11 [.o false (o21_12.drop 1), .c c21_29, .c c21_43] ⟨[(44, lY a1), (11, .ptr (.s 17615) 0), (10, .ptr (.s 9679) 0), (9, .ptr (.s 8047) 0), (7, nI (IntKind.i64.wrap (r1.2.1 + 1))), (1, lY a1)], [(.s 17615, [.nils]), (.s 9679, [nI (r3.length : Int)]), (.s 8047, [nI (bAnd .i64 (IntKind.i64.wrap (r1.2.1 + 1)) 1)])]⟩ ?_
          refine L_callZ [] (ok_slices_Chunk_byte_byte a1 256) trivial rfl rfl (fun _ => rfl) (fun r4 => ?_)
          refine Av 2 [.c c21_28, .b 1, .c c21_43] ⟨[(45, .d (.clo (.func 124) [] [.cp [.lst (List.map (D.int .u8) r4.1)] 0, .cp [.int .i64 r4.2] 0])), (11, .ptr (.s 17615) 0), (10, .ptr (.s 9679) 0), (9, .ptr (.s 8047) 0), (7, nI (IntKind.i64.wrap (r1.2.1 + 1))), (1, lY a1)], [(.s 17615, [.nils]), (.s 9679, [nI (r3.length : Int)]), (.s 8047, [nI (bAnd .i64 (IntKind.i64.wrap (r1.2.1 + 1)) 1)])]⟩ ?_
          refine L_rng (gs := [(o21_13g0, h21_13g0), (o21_13g1, h21_13g1), (o21_13g2, [])]) (enc := D.int .u8) (l := r4.1) (n := r4.2) (fun x_5 : (List T_api_Put) => ⟨[(11, .ptr (.s 17615) 0), (10, .ptr (.s 9679) 0), (9, .ptr (.s 8047) 0), (7, nI (IntKind.i64.wrap (r1.2.1 + 1))), (1, lY a1)], [(.s 17615, [.sl (.h 0) 2 0 (List.map T_api_Put.en x_5)]), (.s 9679, [nI (r3.length : Int)]), (.s 8047, [nI (bAnd .i64 (IntKind.i64.wrap (r1.2.1 + 1)) 1)])]⟩) [] _ chunkOK_124 (by kernel_rfl) (fun _ => rfl) (fun _ => by kernel_rfl) (fun x_5 c_6 => ?_) (fun j8 => ?_)
          · refine Ae 0 [.o true o21_13g0, .h h21_13g0, .o true o21_13g1, .h h21_13g1, .o true o21_13g2, .h []] ⟨[(12, lY c_6), (46, lY c_6), (11, .ptr (.s 17615) 0), (10, .ptr (.s 9679) 0), (9, .ptr (.s 8047) 0), (7, nI (IntKind.i64.wrap (r1.2.1 + 1))), (1, lY a1)], [(.s 17615, [.sl (.h 0) 2 0 (List.map T_api_Put.en x_5)]), (.s 9679, [nI (r3.length : Int)]), (.s 8047, [nI (bAnd .i64 (IntKind.i64.wrap (r1.2.1 + 1)) 1)])]⟩ ?_
            refine Ae 6 [.o true (o21_13g0.drop 6), .h h21_13g0, .o true o21_13g1, .h h21_13g1, .o true o21_13g2, .h []] ⟨[(52, .sl (.h 0) 2 0 (List.map T_api_Put.en x_5)), (51, nI (IntKind.i64.wrap (2 + (IntKind.i64.wrap ((bAnd .i64 (IntKind.i64.wrap (r1.2.1 + 1)) 1) * (r3.length : Int)))))), (50, nI (IntKind.i64.wrap ((bAnd .i64 (IntKind.i64.wrap (r1.2.1 + 1)) 1) * (r3.length : Int)))), (49, nI (r3.length : Int)), (48, nI (bAnd .i64 (IntKind.i64.wrap (r1.2.1 + 1)) 1)), (47, .sl (.h 0) 2 0 (List.map T_api_Put.en x_5)), (12, lY c_6), (46, lY c_6), (11, .ptr (.s 17615) 0), (10, .ptr (.s 9679) 0), (9, .ptr (.s 8047) 0), (7, nI (IntKind.i64.wrap (r1.2.1 + 1))), (1, lY a1)], [(.s 17615, [.sl (.h 0) 2 0 (List.map T_api_Put.en x_5)]), (.s 9679, [nI (r3.length : Int)]), (.s 8047, [nI (bAnd .i64 (IntKind.i64.wrap (r1.2.1 + 1)) 1)])]⟩ ?_
            refine L_len (enc := T_api_Put.en) (l := x_5) trivial rfl ?_
            refine Ae 2 [.o true (o21_13g0.drop 9), .h h21_13g0, .o true o21_13g1, .h h21_13g1, .o true o21_13g2, .h []] ⟨[(55, lY c_6), (54, nI (IntKind.i64.wrap ((IntKind.i64.wrap (2 + (IntKind.i64.wrap ((bAnd .i64 (IntKind.i64.wrap (r1.2.1 + 1)) 1) * (r3.length : Int))))) + (x_5.length : Int)))), (53, nI (x_5.length : Int)), (52, .sl (.h 0) 2 0 (List.map T_api_Put.en x_5)), (51, nI (IntKind.i64.wrap (2 + (IntKind.i64.wrap ((bAnd .i64 (IntKind.i64.wrap (r1.2.1 + 1)) 1) * (r3.length : Int)))))), (50, nI (IntKind.i64.wrap ((bAnd .i64 (IntKind.i64.wrap (r1.2.1 + 1)) 1) * (r3.length : Int)))), (49, nI (r3.length : Int)), (48, nI (bAnd .i64 (IntKind.i64.wrap (r1.2.1 + 1)) 1)), (47, .sl (.h 0) 2 0 (List.map T_api_Put.en x_5)), (12, lY c_6), (46, lY c_6), (11, .ptr (.s 17615) 0), (10, .ptr (.s 9679) 0), (9, .ptr (.s 8047) 0), (7, nI (IntKind.i64.wrap (r1.2.1 + 1))), (1, lY a1)], [(.s 17615, [.sl (.h 0) 2 0 (List.map T_api_Put.en x_5)]), (.s 9679, [nI (r3.length : Int)]), (.s 8047, [nI (bAnd .i64 (IntKind.i64.wrap (r1.2.1 + 1)) 1)])]⟩ ?_
            refine L_call (ok_slices_Clone_byte_byte c_6) trivial rfl (fun _ => rfl) (fun _ => (flat_map_of fun _ => trivial)) (fun r7 => ?_)
            refine Ae 1 [.h h21_13g0, .o true o21_13g1, .h h21_13g1, .o true o21_13g2, .h []] ⟨[(56, sY (.s 22544) r7), (55, lY c_6), (54, nI (IntKind.i64.wrap ((IntKind.i64.wrap (2 + (IntKind.i64.wrap ((bAnd .i64 (IntKind.i64.wrap (r1.2.1 + 1)) 1) * (r3.length : Int))))) + (x_5.length : Int)))), (53, nI (x_5.length : Int)), (52, .sl (.h 0) 2 0 (List.map T_api_Put.en x_5)), (51, nI (IntKind.i64.wrap (2 + (IntKind.i64.wrap ((bAnd .i64 (IntKind.i64.wrap (r1.2.1 + 1)) 1) * (r3.length : Int)))))), (50, nI (IntKind.i64.wrap ((bAnd .i64 (IntKind.i64.wrap (r1.2.1 + 1)) 1) * (r3.length : Int)))), (49, nI (r3.length : Int)), (48, nI (bAnd .i64 (IntKind.i64.wrap (r1.2.1 + 1)) 1)), (47, .sl (.h 0) 2 0 (List.map T_api_Put.en x_5)), (12, lY c_6), (46, lY c_6), (11, .ptr (.s 17615) 0), (10, .ptr (.s 9679) 0), (9, .ptr (.s 8047) 0), (7, nI (IntKind.i64.wrap (r1.2.1 + 1))), (1, lY a1)], [(.s 17615, [.sl (.h 0) 2 0 (List.map T_api_Put.en x_5)]), (.s 9679, [nI (r3.length : Int)]), (.s 8047, [nI (bAnd .i64 (IntKind.i64.wrap (r1.2.1 + 1)) 1)])]⟩ ?_
            refine L_hold ⟨hC (.sl (.h 0) 2 0 (List.map T_api_Put.en x_5)) trivial, hC (nI (bAnd .i64 (IntKind.i64.wrap (r1.2.1 + 1)) 1)) trivial, hC (nI (r3.length : Int)) trivial, hC (nI (IntKind.i64.wrap ((bAnd .i64 (IntKind.i64.wrap (r1.2.1 + 1)) 1) * (r3.length : Int)))) trivial, hC (nI (IntKind.i64.wrap (2 + (IntKind.i64.wrap ((bAnd .i64 (IntKind.i64.wrap (r1.2.1 + 1)) 1) * (r3.length : Int)))))) trivial, hC (.sl (.h 0) 2 0 (List.map T_api_Put.en x_5)) trivial, hLen (enc := T_api_Put.en) (l := x_5) trivial rfl, hC (nI (IntKind.i64.wrap ((IntKind.i64.wrap (2 + (IntKind.i64.wrap ((bAnd .i64 (IntKind.i64.wrap (r1.2.1 + 1)) 1) * (r3.length : Int))))) + (x_5.length : Int)))) trivial, trivial⟩ ?_
            refine Ae 3 [.h h21_13g1, .o true o21_13g2, .h []] ⟨[(58, .sl (.s 22591) 2 0 (List.map T_api_Put.en [(⟨IntKind.i64.wrap ((IntKind.i64.wrap (2 + (IntKind.i64.wrap ((bAnd .i64 (IntKind.i64.wrap (r1.2.1 + 1)) 1) * (r3.length : Int))))) + (x_5.length : Int)), r7⟩ : T_api_Put)])), (57, .agg [nI (IntKind.i64.wrap ((IntKind.i64.wrap (2 + (IntKind.i64.wrap ((bAnd .i64 (IntKind.i64.wrap (r1.2.1 + 1)) 1) * (r3.length : Int))))) + (x_5.length : Int))), lY r7]), (56, lY r7), (55, lY c_6), (54, nI (IntKind.i64.wrap ((IntKind.i64.wrap (2 + (IntKind.i64.wrap ((bAnd .i64 (IntKind.i64.wrap (r1.2.1 + 1)) 1) * (r3.length : Int))))) + (x_5.length : Int)))), (53, nI (x_5.length : Int)), (52, .sl (.h 0) 2 0 (List.map T_api_Put.en x_5)), (51, nI (IntKind.i64.wrap (2 + (IntKind.i64.wrap ((bAnd .i64 (IntKind.i64.wrap (r1.2.1 + 1)) 1) * (r3.length : Int)))))), (50, nI (IntKind.i64.wrap ((bAnd .i64 (IntKind.i64.wrap (r1.2.1 + 1)) 1) * (r3.length : Int)))), (49, nI (r3.length : Int)), (48, nI (bAnd .i64 (IntKind.i64.wrap (r1.2.1 + 1)) 1)), (47, .sl (.h 0) 2 0 (List.map T_api_Put.en x_5)), (12, lY c_6), (46, lY c_6), (11, .ptr (.s 17615) 0), (10, .ptr (.s 9679) 0), (9, .ptr (.s 8047) 0), (7, nI (IntKind.i64.wrap (r1.2.1 + 1))), (1, lY a1)], [(.s 17615, [.sl (.h 0) 2 0 (List.map T_api_Put.en x_5)]), (.s 9679, [nI (r3.length : Int)]), (.s 8047, [nI (bAnd .i64 (IntKind.i64.wrap (r1.2.1 + 1)) 1)])]⟩ ?_
            refine L_hold ⟨hC (.sl (.h 0) 2 0 (List.map T_api_Put.en x_5)) trivial, trivial⟩ ?_
            refine Ae 0 [.o true o21_13g2, .h []] ⟨[(58, .sl (.s 22591) 2 0 (List.map T_api_Put.en [(⟨IntKind.i64.wrap ((IntKind.i64.wrap (2 + (IntKind.i64.wrap ((bAnd .i64 (IntKind.i64.wrap (r1.2.1 + 1)) 1) * (r3.length : Int))))) + (x_5.length : Int)), r7⟩ : T_api_Put)])), (57, .agg [nI (IntKind.i64.wrap ((IntKind.i64.wrap (2 + (IntKind.i64.wrap ((bAnd .i64 (IntKind.i64.wrap (r1.2.1 + 1)) 1) * (r3.length : Int))))) + (x_5.length : Int))), lY r7]), (56, lY r7), (55, lY c_6), (54, nI (IntKind.i64.wrap ((IntKind.i64.wrap (2 + (IntKind.i64.wrap ((bAnd .i64 (IntKind.i64.wrap (r1.2.1 + 1)) 1) * (r3.length : Int))))) + (x_5.length : Int)))), (53, nI (x_5.length : Int)), (52, .sl (.h 0) 2 0 (List.map T_api_Put.en x_5)), (51, nI (IntKind.i64.wrap (2 + (IntKind.i64.wrap ((bAnd .i64 (IntKind.i64.wrap (r1.2.1 + 1)) 1) * (r3.length : Int)))))), (50, nI (IntKind.i64.wrap ((bAnd .i64 (IntKind.i64.wrap (r1.2.1 + 1)) 1) * (r3.length : Int)))), (49, nI (r3.length : Int)), (48, nI (bAnd .i64 (IntKind.i64.wrap (r1.2.1 + 1)) 1)), (47, .sl (.h 0) 2 0 (List.map T_api_Put.en x_5)), (12, lY c_6), (46, lY c_6), (11, .ptr (.s 17615) 0), (10, .ptr (.s 9679) 0), (9, .ptr (.s 8047) 0), (7, nI (IntKind.i64.wrap (r1.2.1 + 1))), (1, lY a1)], [(.s 17615, [.sl (.h 0) 2 0 (List.map T_api_Put.en x_5)]), (.s 9679, [nI (r3.length : Int)]), (.s 8047, [nI (bAnd .i64 (IntKind.i64.wrap (r1.2.1 + 1)) 1)])]⟩ ?_
            refine L_app (enc := T_api_Put.en) (l := x_5) (l2 := [(⟨IntKind.i64.wrap ((IntKind.i64.wrap (2 + (IntKind.i64.wrap ((bAnd .i64 (IntKind.i64.wrap (r1.2.1 + 1)) 1) * (r3.length : Int))))) + (x_5.length : Int)), r7⟩ : T_api_Put)]) trivial rfl rfl (fun _ => rfl) (fun _ => ?_)
            refine Av 3 [] ⟨[(11, .ptr (.s 17615) 0), (10, .ptr (.s 9679) 0), (9, .ptr (.s 8047) 0), (7, nI (IntKind.i64.wrap (r1.2.1 + 1))), (1, lY a1)], [(.s 17615, [.sl (.s 22607) 2 0 (List.map T_api_Put.en (x_5 ++ [(⟨IntKind.i64.wrap ((IntKind.i64.wrap (2 + (IntKind.i64.wrap ((bAnd .i64 (IntKind.i64.wrap (r1.2.1 + 1)) 1) * (r3.length : Int))))) + (x_5.length : Int)), r7⟩ : T_api_Put)]))]), (.s 9679, [nI (r3.length : Int)]), (.s 8047, [nI (bAnd .i64 (IntKind.i64.wrap (r1.2.1 + 1)) 1)])]⟩ ?_
            exact L_end
          · refine Av 6 [.o false (o21_14.drop 3), .c c21_42] ⟨[(63, lY a1), (62, nU (IntKind.u64.wrap (IntKind.i64.wrap (r1.2.1 + 1)))), (11, .ptr (.s 17615) 0), (9, .ptr (.s 8047) 0)], [(.s 17615, [.sl (.h 0) 2 0 (List.map T_api_Put.en j8)]), (.s 8047, [nI (bAnd .i64 (IntKind.i64.wrap (r1.2.1 + 1)) 1)])]⟩ ?_
            refine L_len (enc := D.int .u8) (l := a1) trivial rfl ?_
            refine Av 2 [.o false (o21_14.drop 6), .c c21_42] ⟨[(66, sU (.s 24095) [IntKind.u64.wrap (IntKind.i64.wrap (r1.2.1 + 1)), IntKind.u64.wrap (a1.length : Int)]), (11, .ptr (.s 17615) 0), (9, .ptr (.s 8047) 0)], [(.s 17615, [.sl (.h 0) 2 0 (List.map T_api_Put.en j8)]), (.s 8047, [nI (bAnd .i64 (IntKind.i64.wrap (r1.2.1 + 1)) 1)])]⟩ ?_
            refine L_call (ok_leb_Put [] [IntKind.u64.wrap (IntKind.i64.wrap (r1.2.1 + 1)), IntKind.u64.wrap (a1.length : Int)]) trivial rfl (fun _ => rfl) (fun _ => (flat_map_of fun _ => trivial)) (fun r9 => ?_)
            refine Av 0 [.o false (o21_14.drop 7), .c c21_42] ⟨[(67, sY (.s 24096) r9), (11, .ptr (.s 17615) 0), (9, .ptr (.s 8047) 0)], [(.s 17615, [.sl (.h 0) 2 0 (List.map T_api_Put.en j8)]), (.s 8047, [nI (bAnd .i64 (IntKind.i64.wrap (r1.2.1 + 1)) 1)])]⟩ ?_
            refine L_call (ok_crc_Seal r9) trivial rfl (fun _ => rfl) (fun _ => ⟨(flat_map_of fun _ => trivial), trivial, trivial⟩) (fun r10 => ?_)
            refine Av 12 [.c c21_37, .c c21_41] ⟨[(72, bB (r10.2 != 0)), (8, nI r10.2), (13, sY (.s 24112) r10.1), (11, .ptr (.s 17615) 0), (9, .ptr (.s 8047) 0)], [(.s 17615, [.sl (.h 0) 2 0 (List.map T_api_Put.en j8)]), (.s 8047, [nI (bAnd .i64 (IntKind.i64.wrap (r1.2.1 + 1)) 1)])]⟩ ?_
            refine L_split 72 decNe (fun _ => ?_) (fun _ => ?_)
            · refine Avk 9 [] .ret ⟨[(5, nI r10.2), (4, .nils)], []⟩ ?_
              exact L_ret
            · refine Av 9 [.o false (o21_17.drop 5), .c .ret] ⟨[(78, .sl (.s 28879) 2 0 (List.map T_api_Put.en [(⟨bAnd .i64 (IntKind.i64.wrap (r1.2.1 + 1)) 1, r10.1⟩ : T_api_Put)])), (74, .sl (.h 0) 2 0 (List.map T_api_Put.en j8))], []⟩ ?_
              refine L_app (enc := T_api_Put.en) (l := j8) (l2 := [(⟨bAnd .i64 (IntKind.i64.wrap (r1.2.1 + 1)) 1, r10.1⟩ : T_api_Put)]) trivial rfl rfl (fun _ => rfl) (fun _ => ?_)
              refine Avk 4 [] .ret ⟨[(5, nI 0), (4, .sl (.s 28895) 2 0 (List.map T_api_Put.en (j8 ++ [(⟨bAnd .i64 (IntKind.i64.wrap (r1.2.1 + 1)) 1, r10.1⟩ : T_api_Put)])))], []⟩ ?_
              exact L_ret
/-- thrum/store.Do. -/
def en_store_Do (v : (List (List Int)) × Int) : PV := .tup [.d (.agg [.lst (List.map (enL (D.int .u8)) v.1)]), nI v.2]
def o22_0 : List AOper := [⟨some 2, none, 0, .box 26 (.t 0)⟩, ⟨some 3, none, 1, .box 35 (.t 1)⟩, ⟨some 4, none, 2, .alloc 26 1 [.lst []]⟩, mi 5 3 0]
def o22_1 : List AOper := [⟨some 9, none, 100, .load true 1 (.t 2)⟩, cl' 10 101 25 [.t 9], bc 11 102 .neq 10 0, mv 12 103 11, ⟨some 13, some (12, false), 104, .fieldA 0 (.t 3)⟩, ⟨some 14, some (12, false), 105, .load false 1 (.t 13)⟩, ⟨some 15, some (12, false), 106, .bin .lss .int (.t 14) (.c (.d (.int .i64 0)))⟩, pz 16 107 12 15 true, mv 17 108 16, ⟨some 18, some (17, false), 109, .fieldA 0 (.t 3)⟩, ⟨some 19, some (17, false), 110, .load false 1 (.t 18)⟩, ⟨some 20, some (17, false), 111, .fieldA 0 (.t 2)⟩, ⟨some 21, some (17, false), 112, .load false 1 (.t 20)⟩, ⟨some 22, some (17, false), 113, .len (.t 21)⟩, ⟨some 23, some (17, false), 114, .bin .geq .int (.t 19) (.t 22)⟩, pz 24 115 17 23 true, mv 25 116 24, ⟨some 26, some (25, false), 117, .fieldA 1 (.t 3)⟩, ⟨some 27, some (25, false), 118, .load false 1 (.t 26)⟩, ⟨some 28, some (25, false), 119, .len (.t 27)⟩, ⟨some 29, some (25, false), 120, .bin .gtr .int (.t 28) (.c (.d (.int .i64 256)))⟩, pz 30 121 25 29 true]
def o22_2 : List AOper := [⟨some 31, none, 200, .build [.lst []] []⟩, ⟨none, none, 201, .store 1 (.t 4) (.t 31)⟩, mi 5 202 1]
def o22_3 : List AOper := [⟨some 32, none, 300, .fieldA 0 (.t 2)⟩, ld 33 301 32, ln 34 302 33, ⟨some 35, none, 303, .mkS 30 1 24 (.lst []) (.t 34) (.t 34)⟩, ⟨some 36, none, 304, .build [.lst []] [(0, 1, .t 35)]⟩, ⟨some 6, none, 305, .alloc 26 1 [.lst []]⟩, ⟨none, none, 306, .store 1 (.t 6) (.t 36)⟩]
def o22_4 : List AOper := [⟨some 37, none, 400, .fieldA 0 (.t 6)⟩, ld 38 401 37, ⟨some 39, none, 402, .fieldA 0 (.t 2)⟩, ld 40 403 39, ⟨some 41, none, 404, .copy 1 (.t 38) (.t 40)⟩]
def o22_5 : List AOper := [⟨some 42, none, 500, .fieldA 0 (.t 6)⟩, ld 43 501 42, ⟨some 44, none, 502, .fieldA 0 (.t 3)⟩, ld 45 503 44, ⟨some 46, none, 504, .fieldA 1 (.t 3)⟩, ld 47 505 46, ⟨some 48, none, 506, .idxA 1 (.t 43) (.t 45)⟩, ⟨none, none, 507, .store 1 (.t 48) (.t 47)⟩]
def o22_6 : List AOper := [⟨some 49, none, 600, .fieldA 0 (.t 6)⟩, ld 50 601 49, ln 51 602 50, mi 52 603 0]
def o22_7 : List AOper := [bi 53 700 .lss 52 51]
def o22_8 : List AOper := [mv 54 800 52, ⟨some 55, none, 801, .idxA 1 (.t 50) (.t 52)⟩, ld 56 802 55, mv 7 803 54, mv 8 804 56]
def o22_9 : List AOper := [⟨some 57, none, 900, .fieldA 0 (.t 6)⟩, ld 58 901 57, mv 59 902 7, mv 60 903 8, cl' 61 904 76 [.t 60], ⟨some 62, none, 905, .idxA 1 (.t 58) (.t 59)⟩, ⟨none, none, 906, .store 1 (.t 62) (.t 61)⟩]
def o22_10 : List AOper := [bc 63 1000 .add 52 1, mv 52 1001 63]
def o22_11 : List AOper := [⟨some 64, none, 1100, .load true 1 (.t 6)⟩, ⟨none, none, 1101, .store 1 (.t 4) (.t 64)⟩, mi 5 1102 0]
def o22_9g0 : List AOper := [⟨some 57, none, 900, .fieldA 0 (.t 6)⟩, ld 58 901 57, mv 59 902 7, mv 60 903 8, cl' 61 904 76 [.t 60]]
def h22_9g0 : List AOper := [⟨some 57, none, 900, .fieldA 0 (.t 6)⟩, ld 58 901 57, mv 59 902 7]
def o22_9g1 : List AOper := [⟨some 62, none, 905, .idxA 1 (.t 58) (.t 59)⟩, ⟨none, none, 906, .store 1 (.t 62) (.t 61)⟩]
def o22_1t4_8 : List AOper := (o22_1.drop 4).take 4
def o22_1t9_16 : List AOper := (o22_1.drop 9).take 7
def o22_1t17_22 : List AOper := (o22_1.drop 17).take 5
def c22_6 : AC := .cond (.t 30) (.seq (.reg o22_2) .ret) .skip
def c22_15 : AC := .cond (.t 53) .skip (.exit 0)
def c22_17 : AC := .draw [⟨⟨some 57, none, 900, .fieldA 0 (.t 6)⟩, false, []⟩, ⟨ld 58 901 57, false, []⟩, ⟨mv 59 902 7, false, []⟩, ⟨mv 60 903 8, false, []⟩, ⟨cl' 61 904 76 [.t 60], true, [⟨some 57, none, 900, .fieldA 0 (.t 6)⟩, ld 58 901 57, mv 59 902 7]⟩, ⟨⟨some 62, none, 905, .idxA 1 (.t 58) (.t 59)⟩, false, []⟩, ⟨⟨none, none, 906, .store 1 (.t 62) (.t 61)⟩, true, []⟩]
def c22_20 : AC := .reg o22_10
def c22_21 : AC := .seq (.block 1 (.seq (.reg o22_8) c22_17)) c22_20
def c22_23 : AC := .seq (.reg o22_7) (.seq c22_15 c22_21)
def c22_25 : AC := .block 0 (.loop c22_23)
def c22_29 : AC := .seq (.reg o22_11) .ret
def c22_30 : AC := .seq (.seq (.reg o22_6) c22_25) c22_29
def c22_31 : AC := .seq (.reg o22_5) c22_30
def c22_32 : AC := .seq (.reg o22_4) c22_31
def c22_33 : AC := .seq (.reg o22_3) c22_32
def c22_35 : AC := .seq (.reg o22_0) (.seq (.seq (.reg o22_1) c22_6) c22_33)
theorem fn22 : fnA Try.prog 22 = some (65, [.c 4 true 1, .t 5], c22_35) := by kernel_rfl
def q_ok_store_Do_l0_ok (y9 : List (List Int)) (x0 : Int) (x1 : List (List Int)) (v : (List (List Int))) : Prop := (fun v => go Try.prog 65 (PostN (.exit 0) (fun x : (List (List Int)) => ⟨[(6, .ptr (.s 4895) 0), (4, .ptr (.s 47) 0)], [(.s 4895, [.sl (.h 1) 1 0 (List.map (enL (D.int .u8)) x)]), (.s 47, [.nils])]⟩) v) [.l c22_23] .norm ⟨[(52, nI x0), (51, nI (y9.length : Int)), (50, .sl (.h 0) 1 0 (List.map (enL (D.int .u8)) x1)), (6, .ptr (.s 4895) 0), (4, .ptr (.s 47) 0)], [(.s 4895, [.sl (.h 0) 1 0 (List.map (enL (D.int .u8)) x1)]), (.s 47, [.nils])]⟩) v
theorem ok_store_Do_l0_ok (y9 : List (List Int)) (x0 : Int) (x1 : List (List Int)) : Ok (M_store_Do_l0 y9 x0 x1) (q_ok_store_Do_l0_ok y9 x0 x1) := by
  refine M_store_Do_l0.partial_correctness y9 (q_ok_store_Do_l0_ok y9) ?_ x0 x1
  clear x0 x1
  intro f' IH x0 x1
  refine okI ?_
  unfold q_ok_store_Do_l0_ok at *
  refine Av 1 [.c c22_23, .l c22_23] ⟨[(52, nI x0), (51, nI (y9.length : Int)), (50, .sl (.h 0) 1 0 (List.map (enL (D.int .u8)) x1)), (6, .ptr (.s 4895) 0), (4, .ptr (.s 47) 0)], [(.s 4895, [.sl (.h 0) 1 0 (List.map (enL (D.int .u8)) x1)]), (.s 47, [.nils])]⟩ ?_
  refine Av 5 [.c c22_15, .c c22_21, .l c22_23] ⟨[(53, bB (decide (x0 < (y9.length : Int)))), (52, nI x0), (51, nI (y9.length : Int)), (50, .sl (.h 0) 1 0 (List.map (enL (D.int .u8)) x1)), (6, .ptr (.s 4895) 0), (4, .ptr (.s 47) 0)], [(.s 4895, [.sl (.h 0) 1 0 (List.map (enL (D.int .u8)) x1)]), (.s 47, [.nils])]⟩ ?_
  refine L_split 53 rfl (fun _ => ?_) (fun _ => ?_)
  · refine Av 7 [.o false (o22_8.drop 1), .c c22_17, .b 1, .c c22_20, .l c22_23] ⟨[(54, nI x0), (52, nI x0), (51, nI (y9.length : Int)), (50, .sl (.h 0) 1 0 (List.map (enL (D.int .u8)) x1)), (6, .ptr (.s 4895) 0), (4, .ptr (.s 47) 0)], [(.s 4895, [.sl (.h 0) 1 0 (List.map (enL (D.int .u8)) x1)]), (.s 47, [.nils])]⟩ ?_
    refine L_idxO (enc := enL (D.int .u8)) (l := x1) (iv := x0) trivial rfl rfl (fun hc801 => ?_)
    refine Av 4 [.c c22_17, .b 1, .c c22_20, .l c22_23] ⟨[(8, lY (at' x1 x0)), (7, nI x0), (52, nI x0), (51, nI (y9.length : Int)), (50, .sl (.h 0) 1 0 (List.map (enL (D.int .u8)) x1)), (6, .ptr (.s 4895) 0), (4, .ptr (.s 47) 0)], [(.s 4895, [.sl (.h 0) 1 0 (List.map (enL (D.int .u8)) x1)]), (.s 47, [.nils])]⟩ ?_
    refine Ae 5 [.o true (o22_9g0.drop 4), .h h22_9g0, .o true o22_9g1, .h [], .b 1, .c c22_20, .l c22_23] ⟨[(60, lY (at' x1 x0)), (59, nI x0), (58, .sl (.h 0) 1 0 (List.map (enL (D.int .u8)) x1)), (57, .ptr (.s 4895) 0), (8, lY (at' x1 x0)), (7, nI x0), (52, nI x0), (51, nI (y9.length : Int)), (50, .sl (.h 0) 1 0 (List.map (enL (D.int .u8)) x1)), (6, .ptr (.s 4895) 0), (4, .ptr (.s 47) 0)], [(.s 4895, [.sl (.h 0) 1 0 (List.map (enL (D.int .u8)) x1)]), (.s 47, [.nils])]⟩ ?_
    refine L_call (ok_slices_Clone_byte_byte (at' x1 x0)) trivial rfl (fun _ => rfl) (fun _ => (flat_map_of fun _ => trivial)) (fun r11 => ?_)
    refine Ae 1 [.h h22_9g0, .o true o22_9g1, .h [], .b 1, .c c22_20, .l c22_23] ⟨[(61, sY (.s 14464) r11), (60, lY (at' x1 x0)), (59, nI x0), (58, .sl (.h 0) 1 0 (List.map (enL (D.int .u8)) x1)), (57, .ptr (.s 4895) 0), (8, lY (at' x1 x0)), (7, nI x0), (52, nI x0), (51, nI (y9.length : Int)), (50, .sl (.h 0) 1 0 (List.map (enL (D.int .u8)) x1)), (6, .ptr (.s 4895) 0), (4, .ptr (.s 47) 0)], [(.s 4895, [.sl (.h 0) 1 0 (List.map (enL (D.int .u8)) x1)]), (.s 47, [.nils])]⟩ ?_
    refine L_hold ⟨hC (.ptr (.s 4895) 0) trivial, hC (.sl (.h 0) 1 0 (List.map (enL (D.int .u8)) x1)) trivial, hC (nI x0) trivial, trivial⟩ ?_
    refine Ae 0 [.o true o22_9g1, .h [], .b 1, .c c22_20, .l c22_23] ⟨[(61, sY (.s 14464) r11), (60, lY (at' x1 x0)), (59, nI x0), (58, .sl (.h 0) 1 0 (List.map (enL (D.int .u8)) x1)), (57, .ptr (.s 4895) 0), (8, lY (at' x1 x0)), (7, nI x0), (52, nI x0), (51, nI (y9.length : Int)), (50, .sl (.h 0) 1 0 (List.map (enL (D.int .u8)) x1)), (6, .ptr (.s 4895) 0), (4, .ptr (.s 47) 0)], [(.s 4895, [.sl (.h 0) 1 0 (List.map (enL (D.int .u8)) x1)]), (.s 47, [.nils])]⟩ ?_
    refine L_idxO (enc := enL (D.int .u8)) (l := x1) (iv := x0) trivial rfl rfl (fun hc905 => ?_)
    refine Ae 0 [.o true (o22_9g1.drop 1), .h [], .b 1, .c c22_20, .l c22_23] ⟨[(62, .ep (.h 0) 1 (0 + Int.toNat x0) none (some (.lst (List.map (D.int .u8) (at' x1 x0))))), (61, sY (.s 14464) r11), (60, lY (at' x1 x0)), (59, nI x0), (58, .sl (.h 0) 1 0 (List.map (enL (D.int .u8)) x1)), (57, .ptr (.s 4895) 0), (8, lY (at' x1 x0)), (7, nI x0), (52, nI x0), (51, nI (y9.length : Int)), (50, .sl (.h 0) 1 0 (List.map (enL (D.int .u8)) x1)), (6, .ptr (.s 4895) 0), (4, .ptr (.s 47) 0)], [(.s 4895, [.sl (.h 0) 1 0 (List.map (enL (D.int .u8)) x1)]), (.s 47, [.nils])]⟩ ?_
    refine L_sto (p := sY (.s 14464) r11) (d := .lst (List.map (D.int .u8) r11)) trivial rfl rfl rfl (of_decide_eq_true (by kernel_rfl)) rfl ?_
    refine Av 2 [.b 1, .c c22_20, .l c22_23] ⟨[(52, nI x0), (51, nI (y9.length : Int)), (50, .sl (.h 0) 1 0 (updEs none (.lst (List.map (D.int .u8) r11)) (List.map (enL (D.int .u8)) x1) (0 + Int.toNat x0))), (6, .ptr (.s 4895) 0), (4, .ptr (.s 47) 0)], [(.s 4895, [.sl (.h 0) 1 0 (updEs none (.lst (List.map (D.int .u8) r11)) (List.map (enL (D.int .u8)) x1) (0 + Int.toNat x0))]), (.s 47, [.nils])]⟩ ?_
    refine L_rw (fun z => ⟨[(52, nI x0), (51, nI (y9.length : Int)), (50, .sl (.h 0) 1 0 z), (6, .ptr (.s 4895) 0), (4, .ptr (.s 47) 0)], [(.s 4895, [.sl (.h 0) 1 0 z]), (.s 47, [.nils])]⟩) (b := List.map (enL (D.int .u8)) (x1.set (Int.toNat x0) r11)) (by rw [Nat.zero_add]; exact set_map) ?_
    refine Al 5 [.l c22_23] .norm (fun y12 : List (List Int) => ⟨[(52, nI (IntKind.i64.wrap (x0 + 1))), (51, nI (y9.length : Int)), (50, .sl (.h 0) 1 0 (List.map (enL (D.int .u8)) y12)), (6, .ptr (.s 4895) 0), (4, .ptr (.s 47) 0)], [(.s 4895, [.sl (.h 0) 1 0 (List.map (enL (D.int .u8)) y12)]), (.s 47, [.nils])]⟩) (fun y12 => ?_)
    exact L_again (IH (IntKind.i64.wrap (x0 + 1)) y12)
  · refine Avk 4 [] (.exit 0) ⟨[(6, .ptr (.s 4895) 0), (4, .ptr (.s 47) 0)], [(.s 4895, [.sl (.h 0) 1 0 (List.map (enL (D.int .u8)) x1)]), (.s 47, [.nils])]⟩ ?_
    exact L_end
theorem ok_store_Do (a0 : T_api_Store) (a1 : T_api_Put) : ∀ v, M_store_Do a0 a1 = some v → EvF Try.prog 22 [.agg [.lst (List.map (enL (D.int .u8)) a0.F_Cells)], .agg [.int .i64 a1.F_At, .lst (List.map (D.int .u8) a1.F_B)]] (en_store_Do v) := by
  intro v hv
  refine EvF_go fn22 (Nat.le_of_ble_eq_true rfl) ?_
  suffices h : Ok (M_store_Do a0 a1) fun v => go Try.prog 65 (Fnl [.c 4 true 1, .t 5] (en_store_Do v) []) [.c c22_35] .norm (initSt (List.map PV.d [.agg [.lst (List.map (enL (D.int .u8)) a0.F_Cells)], .agg [.int .i64 a1.F_At, .lst (List.map (D.int .u8) a1.F_B)]]) []) from h v hv
  unfold M_store_Do
  refine Av 11 [.o false (o22_1.drop 1), .c c22_6, .c c22_33] ⟨[(9, .agg [.d (.lst (List.map (enL (D.int .u8)) a0.F_Cells))]), (4, .ptr (.s 47) 0), (3, .ptr (.s 31) 0), (2, .ptr (.s 15) 0)], [(.s 47, [.nils]), (.s 31, [nI a1.F_At, lY a1.F_B]), (.s 15, [.d (.lst (List.map (enL (D.int .u8)) a0.F_Cells))])]⟩ ?_
  refine L_call (ok_store_Check a0) trivial rfl (fun _ => rfl) (fun _ => trivial) (fun r1 => ?_)
  refine Av 2 [.o false (o22_1.drop 4), .c c22_6, .c c22_33] ⟨[(12, bB (r1 != 0)), (4, .ptr (.s 47) 0), (3, .ptr (.s 31) 0), (2, .ptr (.s 15) 0)], [(.s 47, [.nils]), (.s 31, [nI a1.F_At, lY a1.F_B]), (.s 15, [.d (.lst (List.map (enL (D.int .u8)) a0.F_Cells))])]⟩ ?_
  refine L_take 4 o22_1t4_8 (o22_1.drop 8) ?_
  refine L_join [.o false o22_1t4_8] [.o false (o22_1.drop 8), .c c22_6, .c c22_33] (fun x : Bool => ⟨[(16, bB x), (4, .ptr (.s 47) 0), (3, .ptr (.s 31) 0), (2, .ptr (.s 15) 0)], [(.s 47, [.nils]), (.s 31, [nI a1.F_At, lY a1.F_B]), (.s 15, [.d (.lst (List.map (enL (D.int .u8)) a0.F_Cells))])]⟩) ?_ (fun j2 => ?_)
  · refine L_split 12 decNe (fun _ => ?_) (fun _ => ?_)
    · refine Av 5 [] ⟨[(16, bB true), (4, .ptr (.s 47) 0), (3, .ptr (.s 31) 0), (2, .ptr (.s 15) 0)], [(.s 47, [.nils]), (.s 31, [nI a1.F_At, lY a1.F_B]), (.s 15, [.d (.lst (List.map (enL (D.int .u8)) a0.F_Cells))])]⟩ ?_
      exact L_end
    · refine Av 5 [] ⟨[(16, bB (decide (a1.F_At < 0))), (4, .ptr (.s 47) 0), (3, .ptr (.s 31) 0), (2, .ptr (.s 15) 0)], [(.s 47, [.nils]), (.s 31, [nI a1.F_At, lY a1.F_B]), (.s 15, [.d (.lst (List.map (enL (D.int .u8)) a0.F_Cells))])]⟩ ?_
      exact L_end
  · refine Av 1 [.o false (o22_1.drop 9), .c c22_6, .c c22_33] ⟨[(17, bB j2), (4, .ptr (.s 47) 0), (3, .ptr (.s 31) 0), (2, .ptr (.s 15) 0)], [(.s 47, [.nils]), (.s 31, [nI a1.F_At, lY a1.F_B]), (.s 15, [.d (.lst (List.map (enL (D.int .u8)) a0.F_Cells))])]⟩ ?_
    refine L_take 7 o22_1t9_16 (o22_1.drop 16) ?_
    refine L_join [.o false o22_1t9_16] [.o false (o22_1.drop 16), .c c22_6, .c c22_33] (fun x : Bool => ⟨[(24, bB x), (4, .ptr (.s 47) 0), (3, .ptr (.s 31) 0), (2, .ptr (.s 15) 0)], [(.s 47, [.nils]), (.s 31, [nI a1.F_At, lY a1.F_B]), (.s 15, [.d (.lst (List.map (enL (D.int .u8)) a0.F_Cells))])]⟩) ?_ (fun j3 => ?_)
    · refine L_split 17 decT (fun _ => ?_) (fun _ => ?_)
      · refine Av 8 [] ⟨[(24, bB true), (4, .ptr (.s 47) 0), (3, .ptr (.s 31) 0), (2, .ptr (.s 15) 0)], [(.s 47, [.nils]), (.s 31, [nI a1.F_At, lY a1.F_B]), (.s 15, [.d (.lst (List.map (enL (D.int .u8)) a0.F_Cells))])]⟩ ?_
        exact L_end
      · refine Av 4 [.o false (o22_1t9_16.drop 4)] ⟨[(21, .d (.lst (List.map (enL (D.int .u8)) a0.F_Cells))), (17, bB false), (19, nI a1.F_At), (4, .ptr (.s 47) 0), (3, .ptr (.s 31) 0), (2, .ptr (.s 15) 0)], [(.s 47, [.nils]), (.s 31, [nI a1.F_At, lY a1.F_B]), (.s 15, [.d (.lst (List.map (enL (D.int .u8)) a0.F_Cells))])]⟩ ?_
        refine L_len (enc := enL (D.int .u8)) (l := a0.F_Cells) rfl rfl ?_
        refine Av 3 [] ⟨[(24, bB (decide (a1.F_At ≥ (a0.F_Cells.length : Int)))), (4, .ptr (.s 47) 0), (3, .ptr (.s 31) 0), (2, .ptr (.s 15) 0)], [(.s 47, [.nils]), (.s 31, [nI a1.F_At, lY a1.F_B]), (.s 15, [.d (.lst (List.map (enL (D.int .u8)) a0.F_Cells))])]⟩ ?_
        exact L_end
    · refine Av 1 [.o false (o22_1.drop 17), .c c22_6, .c c22_33] ⟨[(25, bB j3), (4, .ptr (.s 47) 0), (3, .ptr (.s 31) 0), (2, .ptr (.s 15) 0)], [(.s 47, [.nils]), (.s 31, [nI a1.F_At, lY a1.F_B]), (.s 15, [.d (.lst (List.map (enL (D.int .u8)) a0.F_Cells))])]⟩ ?_
      refine L_take 5 o22_1t17_22 (o22_1.drop 22) ?_
      refine L_join [.o false o22_1t17_22] [.o false (o22_1.drop 22), .c c22_6, .c c22_33] (fun x : Bool => ⟨[(30, bB x), (4, .ptr (.s 47) 0), (3, .ptr (.s 31) 0), (2, .ptr (.s 15) 0)], [(.s 47, [.nils]), (.s 31, [nI a1.F_At, lY a1.F_B]), (.s 15, [.d (.lst (List.map (enL (D.int .u8)) a0.F_Cells))])]⟩) ?_ (fun j4 => ?_)
      · refine L_split 25 decT (fun _ => ?_) (fun _ => ?_)
        · refine Av 6 [] ⟨[(30, bB true), (4, .ptr (.s 47) 0), (3, .ptr (.s 31) 0), (2, .ptr (.s 15) 0)], [(.s 47, [.nils]), (.s 31, [nI a1.F_At, lY a1.F_B]), (.s 15, [.d (.lst (List.map (enL (D.int .u8)) a0.F_Cells))])]⟩ ?_
          exact L_end
        · refine Av 2 [.o false (o22_1t17_22.drop 2)] ⟨[(27, lY a1.F_B), (25, bB false), (4, .ptr (.s 47) 0), (3, .ptr (.s 31) 0), (2, .ptr (.s 15) 0)], [(.s 47, [.nils]), (.s 31, [nI a1.F_At, lY a1.F_B]), (.s 15, [.d (.lst (List.map (enL (D.int .u8)) a0.F_Cells))])]⟩ ?_
          refine L_len (enc := D.int .u8) (l := a1.F_B) rfl rfl ?_
          refine Av 3 [] ⟨[(30, bB (decide ((a1.F_B.length : Int) > 256))), (4, .ptr (.s 47) 0), (3, .ptr (.s 31) 0), (2, .ptr (.s 15) 0)], [(.s 47, [.nils]), (.s 31, [nI a1.F_At, lY a1.F_B]), (.s 15, [.d (.lst (List.map (enL (D.int .u8)) a0.F_Cells))])]⟩ ?_
          exact L_end
      · refine Av 1 [.c c22_6, .c c22_33] ⟨[(30, bB j4), (4, .ptr (.s 47) 0), (3, .ptr (.s 31) 0), (2, .ptr (.s 15) 0)], [(.s 47, [.nils]), (.s 31, [nI a1.F_At, lY a1.F_B]), (.s 15, [.d (.lst (List.map (enL (D.int .u8)) a0.F_Cells))])]⟩ ?_
        refine L_split 30 decT (fun _ => ?_) (fun _ => ?_)
        · refine Avk 9 [] .ret ⟨[(5, nI 1), (4, .ptr (.s 47) 0)], [(.s 47, [.nils])]⟩ ?_
          exact L_ret
        · refine Av 6 [.o false (o22_3.drop 2), .c c22_32] ⟨[(33, .d (.lst (List.map (enL (D.int .u8)) a0.F_Cells))), (4, .ptr (.s 47) 0), (3, .ptr (.s 31) 0), (2, .ptr (.s 15) 0)], [(.s 47, [.nils]), (.s 31, [nI a1.F_At, lY a1.F_B]), (.s 15, [.d (.lst (List.map (enL (D.int .u8)) a0.F_Cells))])]⟩ ?_
          refine L_len (enc := enL (D.int .u8)) (l := a0.F_Cells) trivial rfl ?_
          refine Av 0 [.o false (o22_3.drop 3), .c c22_32] ⟨[(34, nI (a0.F_Cells.length : Int)), (4, .ptr (.s 47) 0), (3, .ptr (.s 31) 0), (2, .ptr (.s 15) 0)], [(.s 47, [.nils]), (.s 31, [nI a1.F_At, lY a1.F_B]), (.s 15, [.d (.lst (List.map (enL (D.int .u8)) a0.F_Cells))])]⟩ ?_
          refine L_mk (enc := enL (D.int .u8)) (z0 := []) (a := (a0.F_Cells.length : Int)) (b := (a0.F_Cells.length : Int)) trivial rfl rfl rfl (fun _ => ?_)
          refine Al 10 [.o false (o22_4.drop 4), .c c22_31] .norm (fun y5 : List (List Int) => ⟨[(40, .d (.lst (List.map (enL (D.int .u8)) a0.F_Cells))), (38, .sl (.s 4863) 1 0 (List.map (enL (D.int .u8)) y5)), (6, .ptr (.s 4895) 0), (4, .ptr (.s 47) 0), (3, .ptr (.s 31) 0)], [(.s 4895, [.sl (.s 4863) 1 0 (List.map (enL (D.int .u8)) y5)]), (.s 47, [.nils]), (.s 31, [nI a1.F_At, lY a1.F_B])]⟩) (fun y5 => ?_)
          refine L_cpy (enc := enL (D.int .u8)) (l := y5) (l2 := a0.F_Cells) (p := .d (.lst (List.map (enL (D.int .u8)) a0.F_Cells))) trivial rfl rfl rfl (of_decide_eq_true (by kernel_rfl)) (fun _ => rfl) ?_
          refine Av 0 [.o false (o22_4.drop 5), .c c22_31] ⟨[(6, .ptr (.s 4895) 0), (4, .ptr (.s 47) 0), (3, .ptr (.s 31) 0)], [(.s 4895, [.sl (.s 4863) 1 0 (cpyE (List.map (enL (D.int .u8)) a0.F_Cells) (List.length y5) (List.map (enL (D.int .u8)) y5))]), (.s 47, [.nils]), (.s 31, [nI a1.F_At, lY a1.F_B])]⟩ ?_
          refine L_rw (fun z => ⟨[(6, .ptr (.s 4895) 0), (4, .ptr (.s 47) 0), (3, .ptr (.s 31) 0)], [(.s 4895, [.sl (.s 4863) 1 0 z]), (.s 47, [.nils]), (.s 31, [nI a1.F_At, lY a1.F_B])]⟩) (b := List.map (enL (D.int .u8)) (cpyL y5 a0.F_Cells)) cpy_map ?_
          refine Av 9 [.o false (o22_5.drop 6), .c c22_30] ⟨[(47, lY a1.F_B), (45, nI a1.F_At), (43, .sl (.s 4863) 1 0 (List.map (enL (D.int .u8)) (cpyL y5 a0.F_Cells))), (6, .ptr (.s 4895) 0), (4, .ptr (.s 47) 0)], [(.s 4895, [.sl (.s 4863) 1 0 (List.map (enL (D.int .u8)) (cpyL y5 a0.F_Cells))]), (.s 47, [.nils])]⟩ ?_
          refine L_idxO (enc := enL (D.int .u8)) (l := cpyL y5 a0.F_Cells) (iv := a1.F_At) trivial rfl rfl (fun hc506 => ?_)
          refine Al 0 [.o false (o22_5.drop 7), .c c22_30] .norm (fun y7 : List Int => ⟨[(48, .ep (.s 4863) 1 (0 + Int.toNat a1.F_At) none (some (.lst (List.map (D.int .u8) y7)))), (47, lY a1.F_B), (6, .ptr (.s 4895) 0), (4, .ptr (.s 47) 0)], [(.s 4895, [.sl (.s 4863) 1 0 (List.map (enL (D.int .u8)) (cpyL y5 a0.F_Cells))]), (.s 47, [.nils])]⟩) (fun y7 => ?_)
          refine L_sto (p := lY a1.F_B) (d := .lst (List.map (D.int .u8) a1.F_B)) trivial rfl rfl rfl (of_decide_eq_true (by kernel_rfl)) rfl ?_
          refine Av 0 [.o false (o22_5.drop 8), .c c22_30] ⟨[(6, .ptr (.s 4895) 0), (4, .ptr (.s 47) 0)], [(.s 4895, [.sl (.s 4863) 1 0 (updEs none (.lst (List.map (D.int .u8) a1.F_B)) (List.map (enL (D.int .u8)) (cpyL y5 a0.F_Cells)) (0 + Int.toNat a1.F_At))]), (.s 47, [.nils])]⟩ ?_
          refine L_rw (fun z => ⟨[(6, .ptr (.s 4895) 0), (4, .ptr (.s 47) 0)], [(.s 4895, [.sl (.s 4863) 1 0 z]), (.s 47, [.nils])]⟩) (b := List.map (enL (D.int .u8)) ((cpyL y5 a0.F_Cells).set (Int.toNat a1.F_At) a1.F_B)) (by rw [Nat.zero_add]; exact set_map) ?_
          refine Al 6 [.o false (o22_6.drop 2), .c c22_25, .c c22_29] .norm (fun y9 : List (List Int) => ⟨[(50, .sl (.s 4863) 1 0 (List.map (enL (D.int .u8)) y9)), (6, .ptr (.s 4895) 0), (4, .ptr (.s 47) 0)], [(.s 4895, [.sl (.s 4863) 1 0 (List.map (enL (D.int .u8)) y9)]), (.s 47, [.nils])]⟩) (fun y9 => ?_)
          refine L_len (enc := enL (D.int .u8)) (l := y9) trivial rfl ?_
          refine Av 4 [.l c22_23, .b 0, .c c22_29] ⟨[(52, nI 0), (51, nI (y9.length : Int)), (50, .sl (.s 4863) 1 0 (List.map (enL (D.int .u8)) y9)), (6, .ptr (.s 4895) 0), (4, .ptr (.s 47) 0)], [(.s 4895, [.sl (.s 4863) 1 0 (List.map (enL (D.int .u8)) y9)]), (.s 47, [.nils])]⟩ ?_
          refine L_piece (fs := [.l c22_23]) (ks := [.b 0, .c c22_29]) (ok_store_Do_l0_ok y9 0 y9) (fun j14 => ?_)
          refine Avk 8 [] .ret ⟨[(5, nI 0), (4, .ptr (.s 47) 0)], [(.s 47, [.sl (.h 1) 1 0 (List.map (enL (D.int .u8)) j14)])]⟩ ?_
          exact L_ret
/-- thrum/store.Save. -/
def en_store_Save (v : (List (List Int)) × Int) : PV := .tup [.d (.agg [.lst (List.map (enL (D.int .u8)) v.1)]), nI v.2]
def o27_0 : List AOper := [⟨some 2, none, 0, .box 26 (.t 0)⟩, ⟨some 4, none, 1, .alloc 26 1 [.lst []]⟩, mi 5 2 0]
def o27_1 : List AOper := [⟨some 11, none, 100, .load true 1 (.t 2)⟩, mv 12 101 1, cl' 13 102 21 [.t 11, .t 12], mv 10 103 13, xt 14 104 10 0, xt 15 105 10 1, mv 6 106 14, mv 7 107 15]
def o27_2 : List AOper := [mv 16 200 6, ln 17 201 16, mi 18 202 0]
def o27_3 : List AOper := [bi 19 300 .lss 18 17]
def o27_4 : List AOper := [⟨some 20, none, 400, .idxA 2 (.t 16) (.t 18)⟩, ⟨some 21, none, 401, .load true 2 (.t 20)⟩, ⟨some 9, none, 402, .alloc 35 2 [.int .i64 0, .lst []]⟩, ⟨none, none, 403, .store 2 (.t 9) (.t 21)⟩]
def o27_5 : List AOper := [mv 22 500 7, bc 23 501 .eql 22 0]
def o27_6 : List AOper := [⟨some 25, none, 600, .load true 1 (.t 2)⟩, ⟨some 26, none, 601, .load true 2 (.t 9)⟩, cl' 27 602 22 [.t 25, .t 26], mv 24 603 27, xt 28 604 24 0, xt 29 605 24 1, ⟨none, none, 606, .store 1 (.t 2) (.t 28)⟩, mv 7 607 29]
def o27_7 : List AOper := [bc 30 700 .add 18 1, mv 18 701 30]
def o27_8 : List AOper := [mv 31 800 7, bc 32 801 .neq 31 0]
def o27_9 : List AOper := [⟨some 33, none, 900, .build [.lst []] []⟩, mv 34 901 7, ⟨none, none, 902, .store 1 (.t 4) (.t 33)⟩, mv 5 903 34]
def o27_10 : List AOper := [⟨some 35, none, 1000, .load true 1 (.t 2)⟩, ⟨none, none, 1001, .store 1 (.t 4) (.t 35)⟩, mi 5 1002 0]
def c27_6 : AC := .cond (.t 19) .skip (.exit 0)
def c27_11 : AC := .cond (.t 23) (.reg o27_6) .skip
def c27_12 : AC := .seq (.reg o27_5) c27_11
def c27_15 : AC := .reg o27_7
def c27_16 : AC := .seq (.block 1 (.seq (.reg o27_4) c27_12)) c27_15
def c27_18 : AC := .seq (.reg o27_3) (.seq c27_6 c27_16)
def c27_20 : AC := .block 0 (.loop c27_18)
def c27_27 : AC := .cond (.t 32) (.seq (.reg o27_9) .ret) .skip
def c27_31 : AC := .seq (.reg o27_10) .ret
def c27_32 : AC := .seq (.seq (.reg o27_8) c27_27) c27_31
def c27_33 : AC := .seq (.seq (.reg o27_2) c27_20) c27_32
def c27_35 : AC := .seq (.reg o27_0) (.seq (.reg o27_1) c27_33)
theorem fn27 : fnA Try.prog 27 = some (36, [.c 4 true 1, .t 5], c27_35) := by kernel_rfl
def q_ok_store_Save_l0_ok (r1 : (List T_api_Put) × Int) (x0 : Int) (x1 : Int) (x2 : List (List Int)) (v : (Int × (List (List Int)))) : Prop := (fun v => go Try.prog 36 (PostN (.exit 0) (fun x : Int × (List (List Int)) => ⟨[(7, nI x.1), (4, .ptr (.s 31) 0), (2, .ptr (.s 15) 0)], [(.s 31, [.nils]), (.s 15, [.d (.lst (List.map (enL (D.int .u8)) x.2))])]⟩) v) [.l c27_18] .norm ⟨[(18, nI x0), (17, nI (r1.1.length : Int)), (16, .sl (.s 1632) 2 0 (List.map T_api_Put.en r1.1)), (7, nI x1), (4, .ptr (.s 31) 0), (2, .ptr (.s 15) 0)], [(.s 31, [.nils]), (.s 15, [.d (.lst (List.map (enL (D.int .u8)) x2))])]⟩) v
theorem ok_store_Save_l0_ok (r1 : (List T_api_Put) × Int) (x0 : Int) (x1 : Int) (x2 : List (List Int)) : Ok (M_store_Save_l0 r1 x0 x1 x2) (q_ok_store_Save_l0_ok r1 x0 x1 x2) := by
  refine M_store_Save_l0.partial_correctness r1 (q_ok_store_Save_l0_ok r1) ?_ x0 x1 x2
  clear x0 x1 x2
  intro f' IH x0 x1 x2
  refine okI ?_
  unfold q_ok_store_Save_l0_ok at *
  refine Av 1 [.c c27_18, .l c27_18] ⟨[(18, nI x0), (17, nI (r1.1.length : Int)), (16, .sl (.s 1632) 2 0 (List.map T_api_Put.en r1.1)), (7, nI x1), (4, .ptr (.s 31) 0), (2, .ptr (.s 15) 0)], [(.s 31, [.nils]), (.s 15, [.d (.lst (List.map (enL (D.int .u8)) x2))])]⟩ ?_
  refine Av 5 [.c c27_6, .c c27_16, .l c27_18] ⟨[(19, bB (decide (x0 < (r1.1.length : Int)))), (18, nI x0), (17, nI (r1.1.length : Int)), (16, .sl (.s 1632) 2 0 (List.map T_api_Put.en r1.1)), (7, nI x1), (4, .ptr (.s 31) 0), (2, .ptr (.s 15) 0)], [(.s 31, [.nils]), (.s 15, [.d (.lst (List.map (enL (D.int .u8)) x2))])]⟩ ?_
  refine L_split 19 rfl (fun _ => ?_) (fun _ => ?_)
  · refine Av 6 [.o false o27_4, .c c27_12, .b 1, .c c27_15, .l c27_18] ⟨[(18, nI x0), (17, nI (r1.1.length : Int)), (16, .sl (.s 1632) 2 0 (List.map T_api_Put.en r1.1)), (7, nI x1), (4, .ptr (.s 31) 0), (2, .ptr (.s 15) 0)], [(.s 31, [.nils]), (.s 15, [.d (.lst (List.map (enL (D.int .u8)) x2))])]⟩ ?_
    refine L_idxO (enc := T_api_Put.en) (l := r1.1) (iv := x0) trivial rfl rfl (fun hc400 => ?_)
    refine Av 9 [.c c27_11, .b 1, .c c27_15, .l c27_18] ⟨[(23, bB (x1 == 0)), (9, .ptr (.s 6447) 0), (18, nI x0), (17, nI (r1.1.length : Int)), (16, .sl (.s 1632) 2 0 (List.map T_api_Put.en r1.1)), (7, nI x1), (4, .ptr (.s 31) 0), (2, .ptr (.s 15) 0)], [(.s 6447, [nI ((at' r1.1 x0).F_At), lY ((at' r1.1 x0).F_B)]), (.s 31, [.nils]), (.s 15, [.d (.lst (List.map (enL (D.int .u8)) x2))])]⟩ ?_
    refine L_split 23 decE (fun _ => ?_) (fun _ => ?_)
    · refine Av 4 [.o false (o27_6.drop 2), .b 1, .c c27_15, .l c27_18] ⟨[(26, .agg [nI ((at' r1.1 x0).F_At), lY ((at' r1.1 x0).F_B)]), (25, .agg [.d (.lst (List.map (enL (D.int .u8)) x2))]), (18, nI x0), (17, nI (r1.1.length : Int)), (16, .sl (.s 1632) 2 0 (List.map T_api_Put.en r1.1)), (4, .ptr (.s 31) 0), (2, .ptr (.s 15) 0)], [(.s 31, [.nils]), (.s 15, [.d (.lst (List.map (enL (D.int .u8)) x2))])]⟩ ?_
      refine L_callZ [] (ok_store_Do (⟨x2⟩ : T_api_Store) (at' r1.1 x0)) trivial rfl rfl (fun _ => rfl) (fun r2 => ?_)
      refine Av 11 [.l c27_18] ⟨[(18, nI (IntKind.i64.wrap (x0 + 1))), (7, nI r2.2), (17, nI (r1.1.length : Int)), (16, .sl (.s 1632) 2 0 (List.map T_api_Put.en r1.1)), (4, .ptr (.s 31) 0), (2, .ptr (.s 15) 0)], [(.s 15, [.d (.lst (List.map (enL (D.int .u8)) r2.1))]), (.s 31, [.nils])]⟩ ?_
      exact L_again (IH (IntKind.i64.wrap (x0 + 1)) r2.2 r2.1)
    · refine Av 7 [.l c27_18] ⟨[(18, nI (IntKind.i64.wrap (x0 + 1))), (17, nI (r1.1.length : Int)), (16, .sl (.s 1632) 2 0 (List.map T_api_Put.en r1.1)), (7, nI x1), (4, .ptr (.s 31) 0), (2, .ptr (.s 15) 0)], [(.s 31, [.nils]), (.s 15, [.d (.lst (List.map (enL (D.int .u8)) x2))])]⟩ ?_
      exact L_again (IH (IntKind.i64.wrap (x0 + 1)) x1 x2)
  · refine Avk 4 [] (.exit 0) ⟨[(7, nI x1), (4, .ptr (.s 31) 0), (2, .ptr (.s 15) 0)], [(.s 31, [.nils]), (.s 15, [.d (.lst (List.map (enL (D.int .u8)) x2))])]⟩ ?_
    exact L_end
theorem ok_store_Save (a0 : T_api_Store) (a1 : List Int) : ∀ v, M_store_Save a0 a1 = some v → EvF Try.prog 27 [.agg [.lst (List.map (enL (D.int .u8)) a0.F_Cells)], .lst (List.map (D.int .u8) a1)] (en_store_Save v) := by
  intro v hv
  refine EvF_go fn27 (Nat.le_of_ble_eq_true rfl) ?_
  suffices h : Ok (M_store_Save a0 a1) fun v => go Try.prog 36 (Fnl [.c 4 true 1, .t 5] (en_store_Save v) []) [.c c27_35] .norm (initSt (List.map PV.d [.agg [.lst (List.map (enL (D.int .u8)) a0.F_Cells)], .lst (List.map (D.int .u8) a1)]) []) from h v hv
  unfold M_store_Save
  refine Av 10 [.o false (o27_1.drop 2), .c c27_33] ⟨[(12, lY a1), (11, .agg [.d (.lst (List.map (enL (D.int .u8)) a0.F_Cells))]), (4, .ptr (.s 31) 0), (2, .ptr (.s 15) 0)], [(.s 31, [.nils]), (.s 15, [.d (.lst (List.map (enL (D.int .u8)) a0.F_Cells))])]⟩ ?_
  refine L_callZ [] (ok_store_Plan a0 a1) trivial rfl rfl (fun _ => rfl) (fun r1 => ?_)
  refine Av 10 [.o false (o27_2.drop 1), .c c27_20, .c c27_32] ⟨[(16, .sl (.s 1632) 2 0 (List.map T_api_Put.en r1.1)), (7, nI r1.2), (4, .ptr (.s 31) 0), (2, .ptr (.s 15) 0)], [(.s 31, [.nils]), (.s 15, [.d (.lst (List.map (enL (D.int .u8)) a0.F_Cells))])]⟩ ?_
  refine L_len (enc := T_api_Put.en) (l := r1.1) trivial rfl ?_
  refine Av 4 [.l c27_18, .b 0, .c c27_32] ⟨[(18, nI 0), (17, nI (r1.1.length : Int)), (16, .sl (.s 1632) 2 0 (List.map T_api_Put.en r1.1)), (7, nI r1.2), (4, .ptr (.s 31) 0), (2, .ptr (.s 15) 0)], [(.s 31, [.nils]), (.s 15, [.d (.lst (List.map (enL (D.int .u8)) a0.F_Cells))])]⟩ ?_
  refine L_piece (fs := [.l c27_18]) (ks := [.b 0, .c c27_32]) (ok_store_Save_l0_ok r1 0 r1.2 a0.F_Cells) (fun j3 => ?_)
  refine Av 7 [.c c27_27, .c c27_31] ⟨[(32, bB (j3.1 != 0)), (7, nI j3.1), (4, .ptr (.s 31) 0), (2, .ptr (.s 15) 0)], [(.s 31, [.nils]), (.s 15, [.d (.lst (List.map (enL (D.int .u8)) j3.2))])]⟩ ?_
  refine L_split 32 decNe (fun _ => ?_) (fun _ => ?_)
  · refine Avk 10 [] .ret ⟨[(5, nI j3.1), (4, .ptr (.s 31) 0)], [(.s 31, [.nils])]⟩ ?_
    exact L_ret
  · refine Avk 9 [] .ret ⟨[(5, nI 0), (4, .ptr (.s 31) 0)], [(.s 31, [.d (.lst (List.map (enL (D.int .u8)) j3.2))])]⟩ ?_
    exact L_ret
/-- thrum/thrumref03.Same. -/
def en_thrumref03_Same (v : Bool) : PV := bB v
def o24_0 : List AOper := [mb 4 0 false]
def o24_1 : List AOper := [mv 5 100 0, ⟨some 6, none, 101, .convS (.t 5)⟩, mv 7 102 1, ⟨some 8, none, 103, .convS (.t 7)⟩, ⟨some 9, none, 104, .bin .eql .str (.t 6) (.t 8)⟩, mv 4 105 9]
def c24_4 : AC := .seq (.reg o24_0) (.seq (.reg o24_1) .ret)
theorem fn24 : fnA Try.prog 24 = some (10, [.t 4], c24_4) := by kernel_rfl
theorem ok_thrumref03_Same (a0 : List Int) (a1 : List Int) : ∀ v, M_thrumref03_Same a0 a1 = some v → EvF Try.prog 24 [.lst (List.map (D.int .u8) a0), .lst (List.map (D.int .u8) a1)] (en_thrumref03_Same v) := by
  intro v hv
  refine EvF_go fn24 (Nat.le_of_ble_eq_true rfl) ?_
  suffices h : Ok (M_thrumref03_Same a0 a1) fun v => go Try.prog 10 (Fnl [.t 4] (en_thrumref03_Same v) []) [.c c24_4] .norm (initSt (List.map PV.d [.lst (List.map (D.int .u8) a0), .lst (List.map (D.int .u8) a1)]) []) from h v hv
  unfold M_thrumref03_Same
  refine Av 7 [.o false (o24_1.drop 1), .c .ret] ⟨[(5, lY a0), (1, lY a1)], []⟩ ?_
  refine L_convS (l := a0) trivial (.inl rfl) ?_
  refine Av 1 [.o false (o24_1.drop 3), .c .ret] ⟨[(7, lY a1), (6, .d (.str (strB a0)))], []⟩ ?_
  refine L_convS (l := a1) trivial (.inl rfl) ?_
  refine Avk 4 [] .ret ⟨[(4, bB ((strB a0).toList == (strB a1).toList))], []⟩ ?_
  exact L_ret
/-- thrum/thrumlaw20.live. -/
def en_thrumlaw20_live (v : Bool) : PV := bB v
def o19_0 : List AOper := [mb 0 0 false]
def o19_1 : List AOper := [cl' 11 100 20 [.c (.d (.int .i64 1))], mv 10 101 11, xt 12 102 10 0, xt 13 103 10 1, ⟨some 1, none, 104, .alloc 26 1 [.lst []]⟩, ⟨none, none, 105, .store 1 (.t 1) (.t 12)⟩, mv 2 106 13]
def o19_2 : List AOper := [⟨some 15, none, 200, .load true 1 (.t 1)⟩, ⟨some 16, none, 201, .bslice 5 1 [.c (.d (.int .u8 97))]⟩, ⟨some 17, none, 202, .mark (.t 16)⟩, cl' 18 203 21 [.t 15, .t 17], mv 14 204 18, xt 19 205 14 0, xt 20 206 14 1, mv 3 207 19, mv 4 208 20]
def o19_3 : List AOper := [⟨some 22, none, 300, .load true 1 (.t 1)⟩, ⟨some 23, none, 301, .bslice 5 1 [.c (.d (.int .u8 97))]⟩, ⟨some 24, none, 302, .mark (.t 23)⟩, cl' 25 303 27 [.t 22, .t 24], mv 21 304 25, xt 26 305 21 0, xt 27 306 21 1, ⟨some 5, none, 307, .alloc 26 1 [.lst []]⟩, ⟨none, none, 308, .store 1 (.t 5) (.t 26)⟩, mv 6 309 27]
def o19_4 : List AOper := [⟨some 29, none, 400, .load true 1 (.t 5)⟩, cl' 30 401 23 [.t 29], mv 28 402 30, xt 31 403 28 0, xt 32 404 28 1, xt 33 405 28 2, mv 7 406 31, mv 8 407 32, mv 9 408 33]
def o19_5 : List AOper := [mv 34 500 2, bc 35 501 .eql 34 0, mv 36 502 35, gv 37 36 true 503 4, ⟨some 38, some (36, true), 504, .bin .eql .int (.t 37) (.c (.d (.int .i64 0)))⟩, pk 39 505 36 38 false, mv 40 506 39, gv 41 40 true 507 3, ⟨some 42, some (40, true), 508, .len (.t 41)⟩, ⟨some 43, some (40, true), 509, .bin .eql .int (.t 42) (.c (.d (.int .i64 2)))⟩, pk 44 510 40 43 false, mv 45 511 44, gv 46 45 true 512 3, ⟨some 47, some (45, true), 513, .idxA 2 (.t 46) (.c (.d (.int .i64 0)))⟩, ⟨some 48, some (45, true), 514, .fieldA 0 (.t 47)⟩, ⟨some 49, some (45, true), 515, .load false 1 (.t 48)⟩, ⟨some 50, some (45, true), 516, .bin .eql .int (.t 49) (.c (.d (.int .i64 3)))⟩, pk 51 517 45 50 false, mv 52 518 51, gv 53 52 true 519 3, ⟨some 54, some (52, true), 520, .idxA 2 (.t 53) (.c (.d (.int .i64 1)))⟩, ⟨some 55, some (52, true), 521, .fieldA 0 (.t 54)⟩, ⟨some 56, some (52, true), 522, .load false 1 (.t 55)⟩, ⟨some 57, some (52, true), 523, .bin .eql .int (.t 56) (.c (.d (.int .i64 1)))⟩, pk 58 524 52 57 false, mv 59 525 58, gv 60 59 true 526 6, ⟨some 61, some (59, true), 527, .bin .eql .int (.t 60) (.c (.d (.int .i64 0)))⟩, pk 62 528 59 61 false, mv 63 529 62, gv 64 63 true 530 9, ⟨some 65, some (63, true), 531, .bin .eql .int (.t 64) (.c (.d (.int .i64 0)))⟩, pk 66 532 63 65 false, mv 67 533 66, gv 68 67 true 534 8, ⟨some 69, some (67, true), 535, .bin .eql .int (.t 68) (.c (.d (.int .i64 1)))⟩, pk 70 536 67 69 false, mv 71 537 70, gv 72 71 true 538 7, ⟨some 73, some (71, true), 539, .bslice 5 1 [.c (.d (.int .u8 97))]⟩, ⟨some 74, some (71, true), 540, .mark (.t 73)⟩, ⟨some 75, some (71, true), 541, .call 24 [.t 72, .t 74]⟩, pk 76 542 71 75 false, mv 0 543 76]
def o19_5t3_6 : List AOper := (o19_5.drop 3).take 3
def o19_5t7_11 : List AOper := (o19_5.drop 7).take 4
def o19_5t12_18 : List AOper := (o19_5.drop 12).take 6
def o19_5t19_25 : List AOper := (o19_5.drop 19).take 6
def o19_5t26_29 : List AOper := (o19_5.drop 26).take 3
def o19_5t30_33 : List AOper := (o19_5.drop 30).take 3
def o19_5t34_37 : List AOper := (o19_5.drop 34).take 3
def o19_5t38_43 : List AOper := (o19_5.drop 38).take 5
def c19_7 : AC := .seq (.reg o19_5) .ret
def c19_8 : AC := .seq (.reg o19_4) c19_7
def c19_9 : AC := .seq (.reg o19_3) c19_8
def c19_10 : AC := .seq (.reg o19_2) c19_9
def c19_12 : AC := .seq (.reg o19_0) (.seq (.reg o19_1) c19_10)
theorem fn19 : fnA Try.prog 19 = some (77, [.t 0], c19_12) := by kernel_rfl
theorem ok_thrumlaw20_live : ∀ v, M_thrumlaw20_live = some v → EvF Try.prog 19 [] (en_thrumlaw20_live v) := by
  intro v hv
  refine EvF_go fn19 (Nat.le_of_ble_eq_true rfl) ?_
  suffices h : Ok (M_thrumlaw20_live) fun v => go Try.prog 77 (Fnl [.t 0] (en_thrumlaw20_live v) []) [.c c19_12] .norm (initSt (List.map PV.d []) []) from h v hv
  unfold M_thrumlaw20_live
  refine Av 6 [.o false o19_1, .c c19_10] ⟨[], []⟩ ?_
  refine L_callZ [] (ok_store_New 1) trivial rfl rfl (fun _ => rfl) (fun r1 => ?_)
  refine Av 12 [.o false (o19_2.drop 3), .c c19_9] ⟨[(17, sY (.s 3247) [97]), (15, .agg [.d (.lst (List.map (enL (D.int .u8)) r1.1))]), (2, nI r1.2), (1, .ptr (.s 1679) 0)], [(.s 1679, [.d (.lst (List.map (enL (D.int .u8)) r1.1))])]⟩ ?_
  refine L_callZ [.s 3247] (ok_store_Plan (⟨r1.1⟩ : T_api_Store) [97]) trivial rfl rfl (fun _ => rfl) (fun r2 => ?_)
  refine Av 11 [.o false (o19_3.drop 3), .c c19_8] ⟨[(24, sY (.s 4847) [97]), (22, .agg [.d (.lst (List.map (enL (D.int .u8)) r1.1))]), (4, nI r2.2), (3, .sl (.s 3248) 2 0 (List.map T_api_Put.en r2.1)), (2, nI r1.2)], []⟩ ?_
  refine L_callZ [.s 4847] (ok_store_Save (⟨r1.1⟩ : T_api_Store) [97]) trivial rfl rfl (fun _ => rfl) (fun r3 => ?_)
  refine Av 10 [.o false (o19_4.drop 1), .c c19_7] ⟨[(29, .agg [.d (.lst (List.map (enL (D.int .u8)) r3.1))]), (6, nI r3.2), (4, nI r2.2), (3, .sl (.s 3248) 2 0 (List.map T_api_Put.en r2.1)), (2, nI r1.2)], []⟩ ?_
  refine L_call (ok_store_Load (⟨r3.1⟩ : T_api_Store)) trivial rfl (fun _ => rfl) (fun _ => ⟨(flat_map_of fun _ => trivial), trivial, trivial, trivial⟩) (fun r4 => ?_)
  refine Av 13 [.o false (o19_5.drop 3), .c .ret] ⟨[(36, bB (r1.2 == 0)), (9, nI r4.2.2), (8, nI r4.2.1), (7, sY (.s 6416) r4.1), (6, nI r3.2), (4, nI r2.2), (3, .sl (.s 3248) 2 0 (List.map T_api_Put.en r2.1))], []⟩ ?_
  refine L_take 3 o19_5t3_6 (o19_5.drop 6) ?_
  refine L_join [.o false o19_5t3_6] [.o false (o19_5.drop 6), .c .ret] (fun x : Bool => ⟨[(39, bB x), (9, nI r4.2.2), (8, nI r4.2.1), (7, sY (.s 6416) r4.1), (6, nI r3.2), (3, .sl (.s 3248) 2 0 (List.map T_api_Put.en r2.1))], []⟩) ?_ (fun j5 => ?_)
  · refine L_split 36 decE (fun _ => ?_) (fun _ => ?_)
    · refine Av 4 [] ⟨[(39, bB (r2.2 == 0)), (9, nI r4.2.2), (8, nI r4.2.1), (7, sY (.s 6416) r4.1), (6, nI r3.2), (3, .sl (.s 3248) 2 0 (List.map T_api_Put.en r2.1))], []⟩ ?_
      exact L_end
    · refine Av 4 [] ⟨[(39, bB false), (9, nI r4.2.2), (8, nI r4.2.1), (7, sY (.s 6416) r4.1), (6, nI r3.2), (3, .sl (.s 3248) 2 0 (List.map T_api_Put.en r2.1))], []⟩ ?_
      exact L_end
  · refine Av 1 [.o false (o19_5.drop 7), .c .ret] ⟨[(40, bB j5), (9, nI r4.2.2), (8, nI r4.2.1), (7, sY (.s 6416) r4.1), (6, nI r3.2), (3, .sl (.s 3248) 2 0 (List.map T_api_Put.en r2.1))], []⟩ ?_
    refine L_take 4 o19_5t7_11 (o19_5.drop 11) ?_
    refine L_join [.o false o19_5t7_11] [.o false (o19_5.drop 11), .c .ret] (fun x : Bool => ⟨[(44, bB x), (9, nI r4.2.2), (8, nI r4.2.1), (7, sY (.s 6416) r4.1), (6, nI r3.2), (3, .sl (.s 3248) 2 0 (List.map T_api_Put.en r2.1))], []⟩) ?_ (fun j6 => ?_)
    · refine L_split 40 decT (fun _ => ?_) (fun _ => ?_)
      · refine Av 1 [.o false (o19_5t7_11.drop 1)] ⟨[(41, .sl (.s 3248) 2 0 (List.map T_api_Put.en r2.1)), (40, bB true), (9, nI r4.2.2), (8, nI r4.2.1), (7, sY (.s 6416) r4.1), (6, nI r3.2), (3, .sl (.s 3248) 2 0 (List.map T_api_Put.en r2.1))], []⟩ ?_
        refine L_len (enc := T_api_Put.en) (l := r2.1) rfl rfl ?_
        refine Av 3 [] ⟨[(44, bB ((r2.1.length : Int) == 2)), (9, nI r4.2.2), (8, nI r4.2.1), (7, sY (.s 6416) r4.1), (6, nI r3.2), (3, .sl (.s 3248) 2 0 (List.map T_api_Put.en r2.1))], []⟩ ?_
        exact L_end
      · refine Av 5 [] ⟨[(44, bB false), (9, nI r4.2.2), (8, nI r4.2.1), (7, sY (.s 6416) r4.1), (6, nI r3.2), (3, .sl (.s 3248) 2 0 (List.map T_api_Put.en r2.1))], []⟩ ?_
        exact L_end
    · refine Av 1 [.o false (o19_5.drop 12), .c .ret] ⟨[(45, bB j6), (9, nI r4.2.2), (8, nI r4.2.1), (7, sY (.s 6416) r4.1), (6, nI r3.2), (3, .sl (.s 3248) 2 0 (List.map T_api_Put.en r2.1))], []⟩ ?_
      refine L_take 6 o19_5t12_18 (o19_5.drop 18) ?_
      refine L_join [.o false o19_5t12_18] [.o false (o19_5.drop 18), .c .ret] (fun x : Bool => ⟨[(51, bB x), (9, nI r4.2.2), (8, nI r4.2.1), (7, sY (.s 6416) r4.1), (6, nI r3.2), (3, .sl (.s 3248) 2 0 (List.map T_api_Put.en r2.1))], []⟩) ?_ (fun j7 => ?_)
      · refine L_split 45 decT (fun _ => ?_) (fun _ => ?_)
        · refine Av 1 [.o false (o19_5t12_18.drop 1)] ⟨[(46, .sl (.s 3248) 2 0 (List.map T_api_Put.en r2.1)), (45, bB true), (9, nI r4.2.2), (8, nI r4.2.1), (7, sY (.s 6416) r4.1), (6, nI r3.2), (3, .sl (.s 3248) 2 0 (List.map T_api_Put.en r2.1))], []⟩ ?_
          refine L_idxO (enc := T_api_Put.en) (l := r2.1) (iv := 0) rfl rfl rfl (fun hc513 => ?_)
          refine Av 5 [] ⟨[(51, bB (((at' r2.1 0).F_At) == 3)), (9, nI r4.2.2), (8, nI r4.2.1), (7, sY (.s 6416) r4.1), (6, nI r3.2), (3, .sl (.s 3248) 2 0 (List.map T_api_Put.en r2.1))], []⟩ ?_
          exact L_end
        · refine Av 7 [] ⟨[(51, bB false), (9, nI r4.2.2), (8, nI r4.2.1), (7, sY (.s 6416) r4.1), (6, nI r3.2), (3, .sl (.s 3248) 2 0 (List.map T_api_Put.en r2.1))], []⟩ ?_
          exact L_end
      · refine Av 1 [.o false (o19_5.drop 19), .c .ret] ⟨[(52, bB j7), (9, nI r4.2.2), (8, nI r4.2.1), (7, sY (.s 6416) r4.1), (6, nI r3.2), (3, .sl (.s 3248) 2 0 (List.map T_api_Put.en r2.1))], []⟩ ?_
        refine L_take 6 o19_5t19_25 (o19_5.drop 25) ?_
        refine L_join [.o false o19_5t19_25] [.o false (o19_5.drop 25), .c .ret] (fun x : Bool => ⟨[(58, bB x), (9, nI r4.2.2), (8, nI r4.2.1), (7, sY (.s 6416) r4.1), (6, nI r3.2)], []⟩) ?_ (fun j8 => ?_)
        · refine L_split 52 decT (fun _ => ?_) (fun _ => ?_)
          · refine Av 1 [.o false (o19_5t19_25.drop 1)] ⟨[(53, .sl (.s 3248) 2 0 (List.map T_api_Put.en r2.1)), (52, bB true), (9, nI r4.2.2), (8, nI r4.2.1), (7, sY (.s 6416) r4.1), (6, nI r3.2)], []⟩ ?_
            refine L_idxO (enc := T_api_Put.en) (l := r2.1) (iv := 1) rfl rfl rfl (fun hc520 => ?_)
            refine Av 5 [] ⟨[(58, bB (((at' r2.1 1).F_At) == 1)), (9, nI r4.2.2), (8, nI r4.2.1), (7, sY (.s 6416) r4.1), (6, nI r3.2)], []⟩ ?_
            exact L_end
          · refine Av 7 [] ⟨[(58, bB false), (9, nI r4.2.2), (8, nI r4.2.1), (7, sY (.s 6416) r4.1), (6, nI r3.2)], []⟩ ?_
            exact L_end
        · refine Av 1 [.o false (o19_5.drop 26), .c .ret] ⟨[(59, bB j8), (9, nI r4.2.2), (8, nI r4.2.1), (7, sY (.s 6416) r4.1), (6, nI r3.2)], []⟩ ?_
          refine L_take 3 o19_5t26_29 (o19_5.drop 29) ?_
          refine L_join [.o false o19_5t26_29] [.o false (o19_5.drop 29), .c .ret] (fun x : Bool => ⟨[(62, bB x), (9, nI r4.2.2), (8, nI r4.2.1), (7, sY (.s 6416) r4.1)], []⟩) ?_ (fun j9 => ?_)
          · refine L_split 59 decT (fun _ => ?_) (fun _ => ?_)
            · refine Av 4 [] ⟨[(62, bB (r3.2 == 0)), (9, nI r4.2.2), (8, nI r4.2.1), (7, sY (.s 6416) r4.1)], []⟩ ?_
              exact L_end
            · refine Av 4 [] ⟨[(62, bB false), (9, nI r4.2.2), (8, nI r4.2.1), (7, sY (.s 6416) r4.1)], []⟩ ?_
              exact L_end
          · refine Av 1 [.o false (o19_5.drop 30), .c .ret] ⟨[(63, bB j9), (9, nI r4.2.2), (8, nI r4.2.1), (7, sY (.s 6416) r4.1)], []⟩ ?_
            refine L_take 3 o19_5t30_33 (o19_5.drop 33) ?_
            refine L_join [.o false o19_5t30_33] [.o false (o19_5.drop 33), .c .ret] (fun x : Bool => ⟨[(66, bB x), (8, nI r4.2.1), (7, sY (.s 6416) r4.1)], []⟩) ?_ (fun j10 => ?_)
            · refine L_split 63 decT (fun _ => ?_) (fun _ => ?_)
              · refine Av 4 [] ⟨[(66, bB (r4.2.2 == 0)), (8, nI r4.2.1), (7, sY (.s 6416) r4.1)], []⟩ ?_
                exact L_end
              · refine Av 4 [] ⟨[(66, bB false), (8, nI r4.2.1), (7, sY (.s 6416) r4.1)], []⟩ ?_
                exact L_end
            · refine Av 1 [.o false (o19_5.drop 34), .c .ret] ⟨[(67, bB j10), (8, nI r4.2.1), (7, sY (.s 6416) r4.1)], []⟩ ?_
              refine L_take 3 o19_5t34_37 (o19_5.drop 37) ?_
              refine L_join [.o false o19_5t34_37] [.o false (o19_5.drop 37), .c .ret] (fun x : Bool => ⟨[(70, bB x), (7, sY (.s 6416) r4.1)], []⟩) ?_ (fun j11 => ?_)
              · refine L_split 67 decT (fun _ => ?_) (fun _ => ?_)
                · refine Av 4 [] ⟨[(70, bB (r4.2.1 == 1)), (7, sY (.s 6416) r4.1)], []⟩ ?_
                  exact L_end
                · refine Av 4 [] ⟨[(70, bB false), (7, sY (.s 6416) r4.1)], []⟩ ?_
                  exact L_end
              · refine Av 1 [.o false (o19_5.drop 38), .c .ret] ⟨[(71, bB j11), (7, sY (.s 6416) r4.1)], []⟩ ?_
                refine L_take 5 o19_5t38_43 (o19_5.drop 43) ?_
                refine L_join [.o false o19_5t38_43] [.o false (o19_5.drop 43), .c .ret] (fun x : Bool => ⟨[(76, bB x)], []⟩) ?_ (fun j13 => ?_)
                · refine L_split 71 decT (fun _ => ?_) (fun _ => ?_)
                  · refine Av 3 [.o false (o19_5t38_43.drop 3)] ⟨[(74, sY (.s 8655) [97]), (71, bB true), (72, sY (.s 6416) r4.1)], []⟩ ?_
                    refine L_call (ok_thrumref03_Same r4.1 [97]) rfl rfl (fun _ => rfl) (fun _ => trivial) (fun r12 => ?_)
                    refine Av 2 [] ⟨[(76, bB r12)], []⟩ ?_
                    exact L_end
                  · refine Av 6 [] ⟨[(76, bB false)], []⟩ ?_
                    exact L_end
                · refine Avk 3 [] .ret ⟨[(0, bB j13)], []⟩ ?_
                  exact L_ret
/-- thrum/thrumlaw20.StoreHalves. -/
def en_thrumlaw20_StoreHalves (v : Bool) : PV := bB v
def o3_0 : List AOper := [mb 6 0 false]
def o3_1 : List AOper := [cl' 25 100 19 [], mv 7 101 25]
def o3_2 : List AOper := [mv 26 200 7, ⟨some 27, none, 201, .un .not (.t 26)⟩]
def o3_3 : List AOper := [mb 6 300 false]
def o3_4 : List AOper := [mv 28 400 0, bc 29 401 .rem 28 4, bc 30 402 .add 29 4, bc 31 403 .rem 30 4, ⟨some 32, none, 404, .bin .add .int (.c (.d (.int .i64 1))) (.t 31)⟩, mv 0 405 32]
def o3_5 : List AOper := [mv 34 500 0, cl' 35 501 20 [.t 34], mv 33 502 35, xt 36 503 33 0, xt 37 504 33 1, ⟨some 8, none, 505, .alloc 26 1 [.lst []]⟩, ⟨none, none, 506, .store 1 (.t 8) (.t 36)⟩, mv 9 507 37]
def o3_6 : List AOper := [mv 38 600 9, bc 39 601 .neq 38 0, mv 40 602 39, gv 41 40 false 603 1, ⟨some 42, some (40, false), 604, .len (.t 41)⟩, ⟨some 43, some (40, false), 605, .bin .gtr .int (.t 42) (.c (.d (.int .i64 20)))⟩, pz 44 606 40 43 true]
def o3_7 : List AOper := [mv 45 700 7, mv 46 701 45, gv 47 46 true 702 9, ⟨some 48, some (46, true), 703, .bin .eql .int (.t 47) (.c (.d (.int .i64 0)))⟩, pk 49 704 46 48 false, mv 6 705 49]
def o3_8 : List AOper := [⟨some 10, none, 800, .mov (.c .nils)⟩]
def o3_9 : List AOper := [mb 11 900 false]
def o3_10 : List AOper := [mi 12 1000 0]
def o3_11 : List AOper := [mv 50 1100 1, ln 51 1101 50, mi 52 1102 0]
def o3_12 : List AOper := [bi 53 1200 .lss 52 51]
def o3_13 : List AOper := [mv 54 1300 52, ⟨some 55, none, 1301, .idxA 1 (.t 50) (.t 52)⟩, ld 56 1302 55, mv 13 1303 54, mv 14 1304 56]
def o3_14 : List AOper := [⟨some 58, none, 1400, .load true 1 (.t 8)⟩, mv 59 1401 14, cl' 60 1402 21 [.t 58, .t 59], mv 57 1403 60, xt 61 1404 57 0, xt 62 1405 57 1, mv 15 1406 61, mv 16 1407 62]
def o3_15 : List AOper := [mv 63 1500 14, ln 64 1501 63, mv 65 1502 0, bc 66 1503 .mul 65 256, bi 67 1504 .gtr 64 66]
def o3_16 : List AOper := [mv 68 1600 16, bc 69 1601 .neq 68 3]
def o3_17 : List AOper := [mb 6 1700 false]
def o3_18 : List AOper := [mv 70 1800 16, bc 71 1801 .neq 70 0, mv 72 1802 71, gv 73 72 false 1803 15, ⟨some 74, some (72, false), 1804, .len (.t 73)⟩, ⟨some 75, some (72, false), 1805, .bin .eql .int (.t 74) (.c (.d (.int .i64 0)))⟩, pz 76 1806 72 75 true]
def o3_19 : List AOper := [mb 6 1900 false]
def o3_20 : List AOper := [mv 77 2000 15, ln 78 2001 77, mv 17 2002 78]
def o3_21 : List AOper := [mv 79 2100 13, mv 80 2101 2, ln 81 2102 80, bi 82 2103 .lss 79 81]
def o3_22 : List AOper := [mv 83 2200 2, mv 84 2201 13, ⟨some 85, none, 2202, .idxA 1 (.t 83) (.t 84)⟩, ld 86 2203 85, mv 87 2204 15, ln 88 2205 87, bc 89 2206 .add 88 1, bi 90 2207 .rem 86 89, mv 91 2208 15, ln 92 2209 91, bi 93 2210 .add 90 92, bc 94 2211 .add 93 1, mv 95 2212 15, ln 96 2213 95, bc 97 2214 .add 96 1, bi 98 2215 .rem 94 97, mv 17 2216 98]
def o3_23 : List AOper := [mv 99 2300 15, mv 100 2301 17, ⟨some 101, none, 2302, .sliceS 2 (.t 99) none (some (.t 100)) none⟩, ln 102 2303 101, mi 103 2304 0]
def o3_24 : List AOper := [bi 104 2400 .lss 103 102]
def o3_25 : List AOper := [⟨some 105, none, 2500, .idxA 2 (.t 101) (.t 103)⟩, ⟨some 106, none, 2501, .load true 2 (.t 105)⟩, ⟨some 19, none, 2502, .alloc 35 2 [.int .i64 0, .lst []]⟩, ⟨none, none, 2503, .store 2 (.t 19) (.t 106)⟩]
def o3_26 : List AOper := [⟨some 108, none, 2600, .load true 1 (.t 8)⟩, ⟨some 109, none, 2601, .load true 2 (.t 19)⟩, cl' 110 2602 22 [.t 108, .t 109], mv 107 2603 110, xt 111 2604 107 0, xt 112 2605 107 1, ⟨some 20, none, 2606, .alloc 26 1 [.lst []]⟩, ⟨none, none, 2607, .store 1 (.t 20) (.t 111)⟩, mv 21 2608 112]
def o3_27 : List AOper := [mv 113 2700 21, bc 114 2701 .neq 113 0]
def o3_28 : List AOper := [mb 6 2800 false]
def o3_29 : List AOper := [⟨some 115, none, 2900, .load true 1 (.t 20)⟩, ⟨none, none, 2901, .store 1 (.t 8) (.t 115)⟩]
def o3_30 : List AOper := [bc 116 3000 .add 103 1, mv 103 3001 116]
def o3_31 : List AOper := [mv 117 3100 17, mv 118 3101 15, ln 119 3102 118, bi 120 3103 .eql 117 119]
def o3_32 : List AOper := [mv 121 3200 14, mv 10 3201 121]
def o3_33 : List AOper := [mb 11 3300 true]
def o3_34 : List AOper := [mv 122 3400 12, bc 123 3401 .add 122 1, mv 12 3402 123]
def o3_35 : List AOper := [⟨some 125, none, 3500, .load true 1 (.t 8)⟩, cl' 126 3501 23 [.t 125], mv 124 3502 126, xt 127 3503 124 0, xt 128 3504 124 1, xt 129 3505 124 2, mv 22 3506 127, mv 23 3507 128, mv 24 3508 129]
def o3_36 : List AOper := [mv 130 3600 11, ⟨some 131, none, 3601, .un .not (.t 130)⟩]
def o3_37 : List AOper := [mv 132 3700 24, bc 133 3701 .neq 132 8]
def o3_38 : List AOper := [mb 6 3800 false]
def o3_39 : List AOper := [mv 134 3900 24, bc 135 3901 .neq 134 0, mv 136 3902 135, gv 137 136 false 3903 23, gv 138 136 false 3904 12, ⟨some 139, some (136, false), 3905, .bin .neq .int (.t 137) (.t 138)⟩, pz 140 3906 136 139 true, mv 141 3907 140, gv 142 141 false 3908 22, gv 143 141 false 3909 10, ⟨some 144, some (141, false), 3910, .call 24 [.t 142, .t 143]⟩, ⟨some 145, some (141, false), 3911, .un .not (.t 144)⟩, pz 146 3912 141 145 true]
def o3_40 : List AOper := [mb 6 4000 false]
def o3_41 : List AOper := [bc 147 4100 .add 52 1, mv 52 4101 147]
def o3_42 : List AOper := [mv 148 4200 7, mv 149 4201 148, ⟨some 150, some (149, true), 4202, .load true 1 (.t 8)⟩, ⟨some 151, some (149, true), 4203, .call 25 [.t 150]⟩, ⟨some 152, some (149, true), 4204, .bin .eql .int (.t 151) (.c (.d (.int .i64 0)))⟩, pk 153 4205 149 152 false, mv 6 4206 153]
def o3_6t3_7 : List AOper := (o3_6.drop 3).take 4
def o3_7t2_5 : List AOper := (o3_7.drop 2).take 3
def o3_18t3_7 : List AOper := (o3_18.drop 3).take 4
def o3_39t3_7 : List AOper := (o3_39.drop 3).take 4
def o3_39t8_13 : List AOper := (o3_39.drop 8).take 5
def o3_42t2_6 : List AOper := (o3_42.drop 2).take 4
def c3_7 : AC := .cond (.t 27) (.seq (.reg o3_3) .ret) .skip
def c3_16 : AC := .cond (.t 44) (.seq (.reg o3_7) .ret) .skip
def c3_25 : AC := .cond (.t 53) .skip (.exit 0)
def c3_34 : AC := .cond (.t 69) (.seq (.reg o3_17) .ret) .skip
def c3_39 : AC := .cond (.t 67) (.seq (.seq (.reg o3_16) c3_34) (.exit 1)) .skip
def c3_46 : AC := .cond (.t 76) (.seq (.reg o3_19) .ret) .skip
def c3_52 : AC := .cond (.t 82) (.reg o3_22) .skip
def c3_58 : AC := .cond (.t 104) .skip (.exit 2)
def c3_66 : AC := .cond (.t 114) (.seq (.reg o3_28) .ret) .skip
def c3_68 : AC := .reg o3_29
def c3_69 : AC := .seq (.seq (.reg o3_27) c3_66) c3_68
def c3_70 : AC := .seq (.reg o3_26) c3_69
def c3_73 : AC := .reg o3_30
def c3_74 : AC := .seq (.block 3 (.seq (.reg o3_25) c3_70)) c3_73
def c3_76 : AC := .seq (.reg o3_24) (.seq c3_58 c3_74)
def c3_78 : AC := .block 2 (.loop c3_76)
def c3_87 : AC := .cond (.t 120) (.seq (.reg o3_32) (.seq (.reg o3_33) (.reg o3_34))) .skip
def c3_96 : AC := .cond (.t 133) (.seq (.reg o3_38) .ret) .skip
def c3_101 : AC := .cond (.t 131) (.seq (.seq (.reg o3_37) c3_96) (.exit 1)) .skip
def c3_108 : AC := .cond (.t 146) (.seq (.reg o3_40) .ret) .skip
def c3_109 : AC := .seq (.reg o3_39) c3_108
def c3_110 : AC := .seq (.seq (.reg o3_36) c3_101) c3_109
def c3_111 : AC := .seq (.reg o3_35) c3_110
def c3_112 : AC := .seq (.seq (.reg o3_31) c3_87) c3_111
def c3_113 : AC := .seq (.seq (.reg o3_23) c3_78) c3_112
def c3_114 : AC := .seq (.seq (.reg o3_21) c3_52) c3_113
def c3_115 : AC := .seq (.reg o3_20) c3_114
def c3_116 : AC := .seq (.seq (.reg o3_18) c3_46) c3_115
def c3_117 : AC := .seq (.seq (.reg o3_15) c3_39) c3_116
def c3_118 : AC := .seq (.reg o3_14) c3_117
def c3_121 : AC := .reg o3_41
def c3_122 : AC := .seq (.block 1 (.seq (.reg o3_13) c3_118)) c3_121
def c3_124 : AC := .seq (.reg o3_12) (.seq c3_25 c3_122)
def c3_126 : AC := .block 0 (.loop c3_124)
def c3_130 : AC := .seq (.reg o3_42) .ret
def c3_134 : AC := .seq (.reg o3_8) (.seq (.reg o3_9) (.seq (.reg o3_10) (.seq (.seq (.reg o3_11) c3_126) c3_130)))
def c3_135 : AC := .seq (.seq (.reg o3_6) c3_16) c3_134
def c3_137 : AC := .seq (.reg o3_4) (.seq (.reg o3_5) c3_135)
def c3_138 : AC := .seq (.seq (.reg o3_2) c3_7) c3_137
def c3_140 : AC := .seq (.reg o3_0) (.seq (.reg o3_1) c3_138)
theorem fn3 : fnA Try.prog 3 = some (154, [.t 6], c3_140) := by kernel_rfl
def q_ok_thrumlaw20_StoreHalves_l1_ok (a1 : List (List Int)) (a2 : List Int) (r1 : Bool) (y2 : Int) (x0 : Int) (x1 : Int) (x2 : Bool) (x3 : List Int) (r7 : (List T_api_Put) × Int) (j13 : Int) (y14 : List T_api_Put) (x0_ : Int) (x1_ : List (List Int)) (v : (Sum Bool (List (List Int)))) : Prop := (fun v => go Try.prog 154 (PostR (fun r => Fnl [.t 6] (en_thrumlaw20_StoreHalves r) []) (.exit 2) (fun x : (List (List Int)) => ⟨[(17, nI j13), (15, .sl (.s 22432) 2 0 (List.map T_api_Put.en r7.1)), (14, lY (at' a1 x0)), (52, nI x0), (51, nI (a1.length : Int)), (50, .d (.lst (List.map (enL (D.int .u8)) a1))), (12, nI x1), (11, bB x2), (10, lY x3), (8, .ptr (.s 8095) 0), (0, nI y2), (7, bB r1), (2, lI a2)], [(.s 8095, [.d (.lst (List.map (enL (D.int .u8)) x))])]⟩) v) [.l c3_76] .norm ⟨[(103, nI x0_), (102, nI (y14.length : Int)), (101, .sl (.s 22432) 2 0 (List.map T_api_Put.en y14)), (17, nI j13), (15, .sl (.s 22432) 2 0 (List.map T_api_Put.en r7.1)), (14, lY (at' a1 x0)), (52, nI x0), (51, nI (a1.length : Int)), (50, .d (.lst (List.map (enL (D.int .u8)) a1))), (12, nI x1), (11, bB x2), (10, lY x3), (8, .ptr (.s 8095) 0), (0, nI y2), (7, bB r1), (2, lI a2)], [(.s 8095, [.d (.lst (List.map (enL (D.int .u8)) x1_))])]⟩) v
theorem ok_thrumlaw20_StoreHalves_l1_ok (a1 : List (List Int)) (a2 : List Int) (r1 : Bool) (y2 : Int) (x0 : Int) (x1 : Int) (x2 : Bool) (x3 : List Int) (r7 : (List T_api_Put) × Int) (j13 : Int) (y14 : List T_api_Put) (x0_ : Int) (x1_ : List (List Int)) : Ok (M_thrumlaw20_StoreHalves_l1 a1 a2 r1 y2 x0 x1 x2 x3 r7 j13 y14 x0_ x1_) (q_ok_thrumlaw20_StoreHalves_l1_ok a1 a2 r1 y2 x0 x1 x2 x3 r7 j13 y14 x0_ x1_) := by
  refine M_thrumlaw20_StoreHalves_l1.partial_correctness a1 a2 r1 y2 x0 x1 x2 x3 r7 j13 y14 (q_ok_thrumlaw20_StoreHalves_l1_ok a1 a2 r1 y2 x0 x1 x2 x3 r7 j13 y14) ?_ x0_ x1_
  clear x0_ x1_
  intro f' IH x0_ x1_
  refine okI ?_
  unfold q_ok_thrumlaw20_StoreHalves_l1_ok at *
  refine Av 1 [.c c3_76, .l c3_76] ⟨[(103, nI x0_), (102, nI (y14.length : Int)), (101, .sl (.s 22432) 2 0 (List.map T_api_Put.en y14)), (17, nI j13), (15, .sl (.s 22432) 2 0 (List.map T_api_Put.en r7.1)), (14, lY (at' a1 x0)), (52, nI x0), (51, nI (a1.length : Int)), (50, .d (.lst (List.map (enL (D.int .u8)) a1))), (12, nI x1), (11, bB x2), (10, lY x3), (8, .ptr (.s 8095) 0), (0, nI y2), (7, bB r1), (2, lI a2)], [(.s 8095, [.d (.lst (List.map (enL (D.int .u8)) x1_))])]⟩ ?_
  refine Av 5 [.c c3_58, .c c3_74, .l c3_76] ⟨[(104, bB (decide (x0_ < (y14.length : Int)))), (103, nI x0_), (102, nI (y14.length : Int)), (101, .sl (.s 22432) 2 0 (List.map T_api_Put.en y14)), (17, nI j13), (15, .sl (.s 22432) 2 0 (List.map T_api_Put.en r7.1)), (14, lY (at' a1 x0)), (52, nI x0), (51, nI (a1.length : Int)), (50, .d (.lst (List.map (enL (D.int .u8)) a1))), (12, nI x1), (11, bB x2), (10, lY x3), (8, .ptr (.s 8095) 0), (0, nI y2), (7, bB r1), (2, lI a2)], [(.s 8095, [.d (.lst (List.map (enL (D.int .u8)) x1_))])]⟩ ?_
  refine L_split 104 rfl (fun _ => ?_) (fun _ => ?_)
  · refine Av 6 [.o false o3_25, .c c3_70, .b 3, .c c3_73, .l c3_76] ⟨[(103, nI x0_), (102, nI (y14.length : Int)), (101, .sl (.s 22432) 2 0 (List.map T_api_Put.en y14)), (17, nI j13), (15, .sl (.s 22432) 2 0 (List.map T_api_Put.en r7.1)), (14, lY (at' a1 x0)), (52, nI x0), (51, nI (a1.length : Int)), (50, .d (.lst (List.map (enL (D.int .u8)) a1))), (12, nI x1), (11, bB x2), (10, lY x3), (8, .ptr (.s 8095) 0), (0, nI y2), (7, bB r1), (2, lI a2)], [(.s 8095, [.d (.lst (List.map (enL (D.int .u8)) x1_))])]⟩ ?_
    refine L_idxO (enc := T_api_Put.en) (l := y14) (iv := x0_) trivial rfl rfl (fun hc2500 => ?_)
    refine Av 8 [.o false (o3_26.drop 2), .c c3_69, .b 3, .c c3_73, .l c3_76] ⟨[(109, .agg [nI ((at' y14 x0_).F_At), lY ((at' y14 x0_).F_B)]), (108, .agg [.d (.lst (List.map (enL (D.int .u8)) x1_))]), (103, nI x0_), (102, nI (y14.length : Int)), (101, .sl (.s 22432) 2 0 (List.map T_api_Put.en y14)), (17, nI j13), (15, .sl (.s 22432) 2 0 (List.map T_api_Put.en r7.1)), (14, lY (at' a1 x0)), (52, nI x0), (51, nI (a1.length : Int)), (50, .d (.lst (List.map (enL (D.int .u8)) a1))), (12, nI x1), (11, bB x2), (10, lY x3), (8, .ptr (.s 8095) 0), (0, nI y2), (7, bB r1), (2, lI a2)], [(.s 8095, [.d (.lst (List.map (enL (D.int .u8)) x1_))])]⟩ ?_
    refine L_callZ [] (ok_store_Do (⟨x1_⟩ : T_api_Store) (at' y14 x0_)) trivial rfl rfl (fun _ => rfl) (fun r16 => ?_)
    refine Av 13 [.c c3_66, .c c3_68, .b 3, .c c3_73, .l c3_76] ⟨[(114, bB (r16.2 != 0)), (20, .ptr (.s 41711) 0), (103, nI x0_), (102, nI (y14.length : Int)), (101, .sl (.s 22432) 2 0 (List.map T_api_Put.en y14)), (17, nI j13), (15, .sl (.s 22432) 2 0 (List.map T_api_Put.en r7.1)), (14, lY (at' a1 x0)), (52, nI x0), (51, nI (a1.length : Int)), (50, .d (.lst (List.map (enL (D.int .u8)) a1))), (12, nI x1), (11, bB x2), (10, lY x3), (8, .ptr (.s 8095) 0), (0, nI y2), (7, bB r1), (2, lI a2)], [(.s 41711, [.d (.lst (List.map (enL (D.int .u8)) r16.1))]), (.s 8095, [.d (.lst (List.map (enL (D.int .u8)) x1_))])]⟩ ?_
    refine L_split 114 decNe (fun _ => ?_) (fun _ => ?_)
    · refine Avk 10 [] .ret ⟨[(6, bB false)], []⟩ ?_
      exact L_retR
    · refine Av 11 [.l c3_76] ⟨[(103, nI (IntKind.i64.wrap (x0_ + 1))), (102, nI (y14.length : Int)), (101, .sl (.s 22432) 2 0 (List.map T_api_Put.en y14)), (17, nI j13), (15, .sl (.s 22432) 2 0 (List.map T_api_Put.en r7.1)), (14, lY (at' a1 x0)), (52, nI x0), (51, nI (a1.length : Int)), (50, .d (.lst (List.map (enL (D.int .u8)) a1))), (12, nI x1), (11, bB x2), (10, lY x3), (8, .ptr (.s 8095) 0), (0, nI y2), (7, bB r1), (2, lI a2)], [(.s 8095, [.d (.lst (List.map (enL (D.int .u8)) r16.1))])]⟩ ?_
      exact L_again (IH (IntKind.i64.wrap (x0_ + 1)) r16.1)
  · refine Avk 4 [] (.exit 2) ⟨[(17, nI j13), (15, .sl (.s 22432) 2 0 (List.map T_api_Put.en r7.1)), (14, lY (at' a1 x0)), (52, nI x0), (51, nI (a1.length : Int)), (50, .d (.lst (List.map (enL (D.int .u8)) a1))), (12, nI x1), (11, bB x2), (10, lY x3), (8, .ptr (.s 8095) 0), (0, nI y2), (7, bB r1), (2, lI a2)], [(.s 8095, [.d (.lst (List.map (enL (D.int .u8)) x1_))])]⟩ ?_
    exact L_endR
def q_ok_thrumlaw20_StoreHalves_l0_ok (a1 : List (List Int)) (a2 : List Int) (r1 : Bool) (y2 : Int) (x0 : Int) (x1 : Int) (x2 : Bool) (x3 : List Int) (x4 : List (List Int)) (v : (Sum Bool (List (List Int)))) : Prop := (fun v => go Try.prog 154 (PostR (fun r => Fnl [.t 6] (en_thrumlaw20_StoreHalves r) []) (.exit 0) (fun x : (List (List Int)) => ⟨[(8, .ptr (.s 8095) 0), (7, bB r1)], [(.s 8095, [.d (.lst (List.map (enL (D.int .u8)) x))])]⟩) v) [.l c3_124] .norm ⟨[(52, nI x0), (51, nI (a1.length : Int)), (50, .d (.lst (List.map (enL (D.int .u8)) a1))), (12, nI x1), (11, bB x2), (10, lY x3), (8, .ptr (.s 8095) 0), (0, nI y2), (7, bB r1), (2, lI a2)], [(.s 8095, [.d (.lst (List.map (enL (D.int .u8)) x4))])]⟩) v
theorem ok_thrumlaw20_StoreHalves_l0_ok (a1 : List (List Int)) (a2 : List Int) (r1 : Bool) (y2 : Int) (x0 : Int) (x1 : Int) (x2 : Bool) (x3 : List Int) (x4 : List (List Int)) : Ok (M_thrumlaw20_StoreHalves_l0 a1 a2 r1 y2 x0 x1 x2 x3 x4) (q_ok_thrumlaw20_StoreHalves_l0_ok a1 a2 r1 y2 x0 x1 x2 x3 x4) := by
  refine M_thrumlaw20_StoreHalves_l0.partial_correctness a1 a2 r1 y2 (q_ok_thrumlaw20_StoreHalves_l0_ok a1 a2 r1 y2) ?_ x0 x1 x2 x3 x4
  clear x0 x1 x2 x3 x4
  intro f' IH x0 x1 x2 x3 x4
  refine okI ?_
  unfold q_ok_thrumlaw20_StoreHalves_l0_ok at *
  refine Av 1 [.c c3_124, .l c3_124] ⟨[(52, nI x0), (51, nI (a1.length : Int)), (50, .d (.lst (List.map (enL (D.int .u8)) a1))), (12, nI x1), (11, bB x2), (10, lY x3), (8, .ptr (.s 8095) 0), (0, nI y2), (7, bB r1), (2, lI a2)], [(.s 8095, [.d (.lst (List.map (enL (D.int .u8)) x4))])]⟩ ?_
  refine Av 5 [.c c3_25, .c c3_122, .l c3_124] ⟨[(53, bB (decide (x0 < (a1.length : Int)))), (52, nI x0), (51, nI (a1.length : Int)), (50, .d (.lst (List.map (enL (D.int .u8)) a1))), (12, nI x1), (11, bB x2), (10, lY x3), (8, .ptr (.s 8095) 0), (0, nI y2), (7, bB r1), (2, lI a2)], [(.s 8095, [.d (.lst (List.map (enL (D.int .u8)) x4))])]⟩ ?_
  refine L_split 53 rfl (fun _ => ?_) (fun _ => ?_)
  · refine Av 7 [.o false (o3_13.drop 1), .c c3_118, .b 1, .c c3_121, .l c3_124] ⟨[(54, nI x0), (52, nI x0), (51, nI (a1.length : Int)), (50, .d (.lst (List.map (enL (D.int .u8)) a1))), (12, nI x1), (11, bB x2), (10, lY x3), (8, .ptr (.s 8095) 0), (0, nI y2), (7, bB r1), (2, lI a2)], [(.s 8095, [.d (.lst (List.map (enL (D.int .u8)) x4))])]⟩ ?_
    refine L_idxD (enc := enL (D.int .u8)) (l := a1) (iv := x0) trivial rfl rfl (fun _ => rfl) (fun hc1301 => ?_)
    refine Av 8 [.o false (o3_14.drop 2), .c c3_117, .b 1, .c c3_121, .l c3_124] ⟨[(59, lY (at' a1 x0)), (58, .agg [.d (.lst (List.map (enL (D.int .u8)) x4))]), (14, lY (at' a1 x0)), (13, nI x0), (52, nI x0), (51, nI (a1.length : Int)), (50, .d (.lst (List.map (enL (D.int .u8)) a1))), (12, nI x1), (11, bB x2), (10, lY x3), (8, .ptr (.s 8095) 0), (0, nI y2), (7, bB r1), (2, lI a2)], [(.s 8095, [.d (.lst (List.map (enL (D.int .u8)) x4))])]⟩ ?_
    refine L_callZ [] (ok_store_Plan (⟨x4⟩ : T_api_Store) (at' a1 x0)) trivial rfl rfl (fun _ => rfl) (fun r7 => ?_)
    refine Av 10 [.o false (o3_15.drop 1), .c c3_39, .c c3_116, .b 1, .c c3_121, .l c3_124] ⟨[(63, lY (at' a1 x0)), (16, nI r7.2), (15, .sl (.s 22432) 2 0 (List.map T_api_Put.en r7.1)), (14, lY (at' a1 x0)), (13, nI x0), (52, nI x0), (51, nI (a1.length : Int)), (50, .d (.lst (List.map (enL (D.int .u8)) a1))), (12, nI x1), (11, bB x2), (10, lY x3), (8, .ptr (.s 8095) 0), (0, nI y2), (7, bB r1), (2, lI a2)], [(.s 8095, [.d (.lst (List.map (enL (D.int .u8)) x4))])]⟩ ?_
    refine L_len (enc := D.int .u8) (l := at' a1 x0) trivial rfl ?_
    refine Av 4 [.c c3_39, .c c3_116, .b 1, .c c3_121, .l c3_124] ⟨[(67, bB (decide (((at' a1 x0).length : Int) > (IntKind.i64.wrap (y2 * 256))))), (16, nI r7.2), (15, .sl (.s 22432) 2 0 (List.map T_api_Put.en r7.1)), (14, lY (at' a1 x0)), (13, nI x0), (52, nI x0), (51, nI (a1.length : Int)), (50, .d (.lst (List.map (enL (D.int .u8)) a1))), (12, nI x1), (11, bB x2), (10, lY x3), (8, .ptr (.s 8095) 0), (0, nI y2), (7, bB r1), (2, lI a2)], [(.s 8095, [.d (.lst (List.map (enL (D.int .u8)) x4))])]⟩ ?_
    refine L_split 67 rfl (fun _ => ?_) (fun _ => ?_)
    · refine Av 7 [.c c3_34, .c (.exit 1), .c c3_116, .b 1, .c c3_121, .l c3_124] ⟨[(69, bB (r7.2 != 3)), (52, nI x0), (51, nI (a1.length : Int)), (50, .d (.lst (List.map (enL (D.int .u8)) a1))), (12, nI x1), (11, bB x2), (10, lY x3), (8, .ptr (.s 8095) 0), (0, nI y2), (7, bB r1), (2, lI a2)], [(.s 8095, [.d (.lst (List.map (enL (D.int .u8)) x4))])]⟩ ?_
      refine L_split 69 decNe (fun _ => ?_) (fun _ => ?_)
      · refine Avk 11 [] .ret ⟨[(6, bB false)], []⟩ ?_
        exact L_retR
      · refine Av 9 [.l c3_124] ⟨[(52, nI (IntKind.i64.wrap (x0 + 1))), (51, nI (a1.length : Int)), (50, .d (.lst (List.map (enL (D.int .u8)) a1))), (12, nI x1), (11, bB x2), (10, lY x3), (8, .ptr (.s 8095) 0), (0, nI y2), (7, bB r1), (2, lI a2)], [(.s 8095, [.d (.lst (List.map (enL (D.int .u8)) x4))])]⟩ ?_
        exact L_again (IH (IntKind.i64.wrap (x0 + 1)) x1 x2 x3 x4)
    · refine Av 8 [.o false (o3_18.drop 3), .c c3_46, .c c3_115, .b 1, .c c3_121, .l c3_124] ⟨[(72, bB (r7.2 != 0)), (15, .sl (.s 22432) 2 0 (List.map T_api_Put.en r7.1)), (14, lY (at' a1 x0)), (13, nI x0), (52, nI x0), (51, nI (a1.length : Int)), (50, .d (.lst (List.map (enL (D.int .u8)) a1))), (12, nI x1), (11, bB x2), (10, lY x3), (8, .ptr (.s 8095) 0), (0, nI y2), (7, bB r1), (2, lI a2)], [(.s 8095, [.d (.lst (List.map (enL (D.int .u8)) x4))])]⟩ ?_
      refine L_take 4 o3_18t3_7 (o3_18.drop 7) ?_
      refine L_join [.o false o3_18t3_7] [.o false (o3_18.drop 7), .c c3_46, .c c3_115, .b 1, .c c3_121, .l c3_124] (fun x : Bool => ⟨[(76, bB x), (15, .sl (.s 22432) 2 0 (List.map T_api_Put.en r7.1)), (14, lY (at' a1 x0)), (13, nI x0), (52, nI x0), (51, nI (a1.length : Int)), (50, .d (.lst (List.map (enL (D.int .u8)) a1))), (12, nI x1), (11, bB x2), (10, lY x3), (8, .ptr (.s 8095) 0), (0, nI y2), (7, bB r1), (2, lI a2)], [(.s 8095, [.d (.lst (List.map (enL (D.int .u8)) x4))])]⟩) ?_ (fun j8 => ?_)
      · refine L_split 72 decNe (fun _ => ?_) (fun _ => ?_)
        · refine Av 5 [] ⟨[(76, bB true), (15, .sl (.s 22432) 2 0 (List.map T_api_Put.en r7.1)), (14, lY (at' a1 x0)), (13, nI x0), (52, nI x0), (51, nI (a1.length : Int)), (50, .d (.lst (List.map (enL (D.int .u8)) a1))), (12, nI x1), (11, bB x2), (10, lY x3), (8, .ptr (.s 8095) 0), (0, nI y2), (7, bB r1), (2, lI a2)], [(.s 8095, [.d (.lst (List.map (enL (D.int .u8)) x4))])]⟩ ?_
          exact L_end
        · refine Av 1 [.o false (o3_18t3_7.drop 1)] ⟨[(73, .sl (.s 22432) 2 0 (List.map T_api_Put.en r7.1)), (72, bB false), (15, .sl (.s 22432) 2 0 (List.map T_api_Put.en r7.1)), (14, lY (at' a1 x0)), (13, nI x0), (52, nI x0), (51, nI (a1.length : Int)), (50, .d (.lst (List.map (enL (D.int .u8)) a1))), (12, nI x1), (11, bB x2), (10, lY x3), (8, .ptr (.s 8095) 0), (0, nI y2), (7, bB r1), (2, lI a2)], [(.s 8095, [.d (.lst (List.map (enL (D.int .u8)) x4))])]⟩ ?_
          refine L_len (enc := T_api_Put.en) (l := r7.1) rfl rfl ?_
          refine Av 3 [] ⟨[(76, bB ((r7.1.length : Int) == 0)), (15, .sl (.s 22432) 2 0 (List.map T_api_Put.en r7.1)), (14, lY (at' a1 x0)), (13, nI x0), (52, nI x0), (51, nI (a1.length : Int)), (50, .d (.lst (List.map (enL (D.int .u8)) a1))), (12, nI x1), (11, bB x2), (10, lY x3), (8, .ptr (.s 8095) 0), (0, nI y2), (7, bB r1), (2, lI a2)], [(.s 8095, [.d (.lst (List.map (enL (D.int .u8)) x4))])]⟩ ?_
          exact L_end
      · refine Av 1 [.c c3_46, .c c3_115, .b 1, .c c3_121, .l c3_124] ⟨[(76, bB j8), (15, .sl (.s 22432) 2 0 (List.map T_api_Put.en r7.1)), (14, lY (at' a1 x0)), (13, nI x0), (52, nI x0), (51, nI (a1.length : Int)), (50, .d (.lst (List.map (enL (D.int .u8)) a1))), (12, nI x1), (11, bB x2), (10, lY x3), (8, .ptr (.s 8095) 0), (0, nI y2), (7, bB r1), (2, lI a2)], [(.s 8095, [.d (.lst (List.map (enL (D.int .u8)) x4))])]⟩ ?_
        refine L_split 76 decT (fun _ => ?_) (fun _ => ?_)
        · refine Avk 10 [] .ret ⟨[(6, bB false)], []⟩ ?_
          exact L_retR
        · refine Av 5 [.o false (o3_20.drop 1), .c c3_114, .b 1, .c c3_121, .l c3_124] ⟨[(77, .sl (.s 22432) 2 0 (List.map T_api_Put.en r7.1)), (15, .sl (.s 22432) 2 0 (List.map T_api_Put.en r7.1)), (14, lY (at' a1 x0)), (13, nI x0), (52, nI x0), (51, nI (a1.length : Int)), (50, .d (.lst (List.map (enL (D.int .u8)) a1))), (12, nI x1), (11, bB x2), (10, lY x3), (8, .ptr (.s 8095) 0), (0, nI y2), (7, bB r1), (2, lI a2)], [(.s 8095, [.d (.lst (List.map (enL (D.int .u8)) x4))])]⟩ ?_
          refine L_len (enc := T_api_Put.en) (l := r7.1) trivial rfl ?_
          refine Av 7 [.o false (o3_21.drop 2), .c c3_52, .c c3_113, .b 1, .c c3_121, .l c3_124] ⟨[(80, lI a2), (79, nI x0), (17, nI (r7.1.length : Int)), (15, .sl (.s 22432) 2 0 (List.map T_api_Put.en r7.1)), (14, lY (at' a1 x0)), (13, nI x0), (52, nI x0), (51, nI (a1.length : Int)), (50, .d (.lst (List.map (enL (D.int .u8)) a1))), (12, nI x1), (11, bB x2), (10, lY x3), (8, .ptr (.s 8095) 0), (0, nI y2), (7, bB r1), (2, lI a2)], [(.s 8095, [.d (.lst (List.map (enL (D.int .u8)) x4))])]⟩ ?_
          refine L_len (enc := D.int .i64) (l := a2) trivial rfl ?_
          refine Av 2 [.c c3_52, .c c3_113, .b 1, .c c3_121, .l c3_124] ⟨[(82, bB (decide (x0 < (a2.length : Int)))), (17, nI (r7.1.length : Int)), (15, .sl (.s 22432) 2 0 (List.map T_api_Put.en r7.1)), (14, lY (at' a1 x0)), (13, nI x0), (52, nI x0), (51, nI (a1.length : Int)), (50, .d (.lst (List.map (enL (D.int .u8)) a1))), (12, nI x1), (11, bB x2), (10, lY x3), (8, .ptr (.s 8095) 0), (0, nI y2), (7, bB r1), (2, lI a2)], [(.s 8095, [.d (.lst (List.map (enL (D.int .u8)) x4))])]⟩ ?_
          refine L_join [.c c3_52] [.c c3_113, .b 1, .c c3_121, .l c3_124] (fun x : Int => ⟨[(17, nI x), (15, .sl (.s 22432) 2 0 (List.map T_api_Put.en r7.1)), (14, lY (at' a1 x0)), (52, nI x0), (51, nI (a1.length : Int)), (50, .d (.lst (List.map (enL (D.int .u8)) a1))), (12, nI x1), (11, bB x2), (10, lY x3), (8, .ptr (.s 8095) 0), (0, nI y2), (7, bB r1), (2, lI a2)], [(.s 8095, [.d (.lst (List.map (enL (D.int .u8)) x4))])]⟩) ?_ (fun j13 => ?_)
          · refine L_split 82 rfl (fun _ => ?_) (fun _ => ?_)
            · refine Av 4 [.o false (o3_22.drop 2)] ⟨[(84, nI x0), (83, lI a2), (15, .sl (.s 22432) 2 0 (List.map T_api_Put.en r7.1)), (14, lY (at' a1 x0)), (52, nI x0), (51, nI (a1.length : Int)), (50, .d (.lst (List.map (enL (D.int .u8)) a1))), (12, nI x1), (11, bB x2), (10, lY x3), (8, .ptr (.s 8095) 0), (0, nI y2), (7, bB r1), (2, lI a2)], [(.s 8095, [.d (.lst (List.map (enL (D.int .u8)) x4))])]⟩ ?_
              refine L_idxD (enc := D.int .i64) (l := a2) (iv := x0) trivial rfl rfl (fun _ => rfl) (fun hc2202 => ?_)
              refine Av 2 [.o false (o3_22.drop 5)] ⟨[(87, .sl (.s 22432) 2 0 (List.map T_api_Put.en r7.1)), (86, nI (at' a2 x0)), (15, .sl (.s 22432) 2 0 (List.map T_api_Put.en r7.1)), (14, lY (at' a1 x0)), (52, nI x0), (51, nI (a1.length : Int)), (50, .d (.lst (List.map (enL (D.int .u8)) a1))), (12, nI x1), (11, bB x2), (10, lY x3), (8, .ptr (.s 8095) 0), (0, nI y2), (7, bB r1), (2, lI a2)], [(.s 8095, [.d (.lst (List.map (enL (D.int .u8)) x4))])]⟩ ?_
              refine L_len (enc := T_api_Put.en) (l := r7.1) trivial rfl ?_
              refine Av 1 [.o false (o3_22.drop 7)] ⟨[(89, nI (IntKind.i64.wrap ((r7.1.length : Int) + 1))), (86, nI (at' a2 x0)), (15, .sl (.s 22432) 2 0 (List.map T_api_Put.en r7.1)), (14, lY (at' a1 x0)), (52, nI x0), (51, nI (a1.length : Int)), (50, .d (.lst (List.map (enL (D.int .u8)) a1))), (12, nI x1), (11, bB x2), (10, lY x3), (8, .ptr (.s 8095) 0), (0, nI y2), (7, bB r1), (2, lI a2)], [(.s 8095, [.d (.lst (List.map (enL (D.int .u8)) x4))])]⟩ ?_
              refine L_rd (c := IntKind.i64.wrap ((r7.1.length : Int) + 1) ≠ 0) (v := nI (Int.tmod (at' a2 x0) (IntKind.i64.wrap ((r7.1.length : Int) + 1)))) trivial rfl (fun _ => ?_)
              refine Al 1 [.o false (o3_22.drop 9)] .norm (fun y9 : Int => ⟨[(91, .sl (.s 22432) 2 0 (List.map T_api_Put.en r7.1)), (90, nI y9), (15, .sl (.s 22432) 2 0 (List.map T_api_Put.en r7.1)), (14, lY (at' a1 x0)), (52, nI x0), (51, nI (a1.length : Int)), (50, .d (.lst (List.map (enL (D.int .u8)) a1))), (12, nI x1), (11, bB x2), (10, lY x3), (8, .ptr (.s 8095) 0), (0, nI y2), (7, bB r1), (2, lI a2)], [(.s 8095, [.d (.lst (List.map (enL (D.int .u8)) x4))])]⟩) (fun y9 => ?_)
              refine L_len (enc := T_api_Put.en) (l := r7.1) trivial rfl ?_
              refine Al 3 [.o false (o3_22.drop 13)] .norm (fun y11 : Int => ⟨[(95, .sl (.s 22432) 2 0 (List.map T_api_Put.en r7.1)), (94, nI y11), (15, .sl (.s 22432) 2 0 (List.map T_api_Put.en r7.1)), (14, lY (at' a1 x0)), (52, nI x0), (51, nI (a1.length : Int)), (50, .d (.lst (List.map (enL (D.int .u8)) a1))), (12, nI x1), (11, bB x2), (10, lY x3), (8, .ptr (.s 8095) 0), (0, nI y2), (7, bB r1), (2, lI a2)], [(.s 8095, [.d (.lst (List.map (enL (D.int .u8)) x4))])]⟩) (fun y11 => ?_)
              refine L_len (enc := T_api_Put.en) (l := r7.1) trivial rfl ?_
              refine Av 1 [.o false (o3_22.drop 15)] ⟨[(97, nI (IntKind.i64.wrap ((r7.1.length : Int) + 1))), (94, nI y11), (15, .sl (.s 22432) 2 0 (List.map T_api_Put.en r7.1)), (14, lY (at' a1 x0)), (52, nI x0), (51, nI (a1.length : Int)), (50, .d (.lst (List.map (enL (D.int .u8)) a1))), (12, nI x1), (11, bB x2), (10, lY x3), (8, .ptr (.s 8095) 0), (0, nI y2), (7, bB r1), (2, lI a2)], [(.s 8095, [.d (.lst (List.map (enL (D.int .u8)) x4))])]⟩ ?_
              refine L_rd (c := IntKind.i64.wrap ((r7.1.length : Int) + 1) ≠ 0) (v := nI (Int.tmod y11 (IntKind.i64.wrap ((r7.1.length : Int) + 1)))) trivial rfl (fun _ => ?_)
              refine Av 2 [] ⟨[(17, nI (Int.tmod y11 (IntKind.i64.wrap ((r7.1.length : Int) + 1)))), (15, .sl (.s 22432) 2 0 (List.map T_api_Put.en r7.1)), (14, lY (at' a1 x0)), (52, nI x0), (51, nI (a1.length : Int)), (50, .d (.lst (List.map (enL (D.int .u8)) a1))), (12, nI x1), (11, bB x2), (10, lY x3), (8, .ptr (.s 8095) 0), (0, nI y2), (7, bB r1), (2, lI a2)], [(.s 8095, [.d (.lst (List.map (enL (D.int .u8)) x4))])]⟩ ?_
              exact L_end
            · refine Av 2 [] ⟨[(17, nI (r7.1.length : Int)), (15, .sl (.s 22432) 2 0 (List.map T_api_Put.en r7.1)), (14, lY (at' a1 x0)), (52, nI x0), (51, nI (a1.length : Int)), (50, .d (.lst (List.map (enL (D.int .u8)) a1))), (12, nI x1), (11, bB x2), (10, lY x3), (8, .ptr (.s 8095) 0), (0, nI y2), (7, bB r1), (2, lI a2)], [(.s 8095, [.d (.lst (List.map (enL (D.int .u8)) x4))])]⟩ ?_
              exact L_end
          · refine Av 5 [.o false (o3_23.drop 2), .c c3_78, .c c3_112, .b 1, .c c3_121, .l c3_124] ⟨[(100, nI j13), (99, .sl (.s 22432) 2 0 (List.map T_api_Put.en r7.1)), (17, nI j13), (15, .sl (.s 22432) 2 0 (List.map T_api_Put.en r7.1)), (14, lY (at' a1 x0)), (52, nI x0), (51, nI (a1.length : Int)), (50, .d (.lst (List.map (enL (D.int .u8)) a1))), (12, nI x1), (11, bB x2), (10, lY x3), (8, .ptr (.s 8095) 0), (0, nI y2), (7, bB r1), (2, lI a2)], [(.s 8095, [.d (.lst (List.map (enL (D.int .u8)) x4))])]⟩ ?_
            refine L_cutO (enc := T_api_Put.en) (l := r7.1) (a := none) (b := (some j13)) trivial rfl rfl rfl (fun hc2302 => ?_)
            refine Al 0 [.o false (o3_23.drop 3), .c c3_78, .c c3_112, .b 1, .c c3_121, .l c3_124] .norm (fun y14 : List T_api_Put => ⟨[(101, .sl (.s 22432) 2 0 (List.map T_api_Put.en y14)), (17, nI j13), (15, .sl (.s 22432) 2 0 (List.map T_api_Put.en r7.1)), (14, lY (at' a1 x0)), (52, nI x0), (51, nI (a1.length : Int)), (50, .d (.lst (List.map (enL (D.int .u8)) a1))), (12, nI x1), (11, bB x2), (10, lY x3), (8, .ptr (.s 8095) 0), (0, nI y2), (7, bB r1), (2, lI a2)], [(.s 8095, [.d (.lst (List.map (enL (D.int .u8)) x4))])]⟩) (fun y14 => ?_)
            refine L_len (enc := T_api_Put.en) (l := y14) trivial rfl ?_
            refine Av 4 [.l c3_76, .b 2, .c c3_112, .b 1, .c c3_121, .l c3_124] ⟨[(103, nI 0), (102, nI (y14.length : Int)), (101, .sl (.s 22432) 2 0 (List.map T_api_Put.en y14)), (17, nI j13), (15, .sl (.s 22432) 2 0 (List.map T_api_Put.en r7.1)), (14, lY (at' a1 x0)), (52, nI x0), (51, nI (a1.length : Int)), (50, .d (.lst (List.map (enL (D.int .u8)) a1))), (12, nI x1), (11, bB x2), (10, lY x3), (8, .ptr (.s 8095) 0), (0, nI y2), (7, bB r1), (2, lI a2)], [(.s 8095, [.d (.lst (List.map (enL (D.int .u8)) x4))])]⟩ ?_
            refine L_pieceR (fs := [.l c3_76]) (ks := [.b 2, .c c3_112, .b 1, .c c3_121, .l c3_124]) (ok_thrumlaw20_StoreHalves_l1_ok a1 a2 r1 y2 x0 x1 x2 x3 r7 j13 y14 0 x4) L_thruR (fun j17 => ?_)
            refine Av 6 [.o false (o3_31.drop 2), .c c3_87, .c c3_111, .b 1, .c c3_121, .l c3_124] ⟨[(118, .sl (.s 22432) 2 0 (List.map T_api_Put.en r7.1)), (117, nI j13), (14, lY (at' a1 x0)), (52, nI x0), (51, nI (a1.length : Int)), (50, .d (.lst (List.map (enL (D.int .u8)) a1))), (12, nI x1), (11, bB x2), (10, lY x3), (8, .ptr (.s 8095) 0), (0, nI y2), (7, bB r1), (2, lI a2)], [(.s 8095, [.d (.lst (List.map (enL (D.int .u8)) j17))])]⟩ ?_
            refine L_len (enc := T_api_Put.en) (l := r7.1) trivial rfl ?_
            refine Av 2 [.c c3_87, .c c3_111, .b 1, .c c3_121, .l c3_124] ⟨[(120, bB (j13 == (r7.1.length : Int))), (14, lY (at' a1 x0)), (52, nI x0), (51, nI (a1.length : Int)), (50, .d (.lst (List.map (enL (D.int .u8)) a1))), (12, nI x1), (11, bB x2), (10, lY x3), (8, .ptr (.s 8095) 0), (0, nI y2), (7, bB r1), (2, lI a2)], [(.s 8095, [.d (.lst (List.map (enL (D.int .u8)) j17))])]⟩ ?_
            refine L_join [.c c3_87] [.c c3_111, .b 1, .c c3_121, .l c3_124] (fun x : Int × Bool × (List Int) => ⟨[(12, nI x.1), (11, bB x.2.1), (10, lY x.2.2), (52, nI x0), (51, nI (a1.length : Int)), (50, .d (.lst (List.map (enL (D.int .u8)) a1))), (8, .ptr (.s 8095) 0), (0, nI y2), (7, bB r1), (2, lI a2)], [(.s 8095, [.d (.lst (List.map (enL (D.int .u8)) j17))])]⟩) ?_ (fun j18 => ?_)
            · refine L_split 120 decE (fun _ => ?_) (fun _ => ?_)
              · refine Av 15 [] ⟨[(12, nI (IntKind.i64.wrap (x1 + 1))), (11, bB true), (10, lY (at' a1 x0)), (52, nI x0), (51, nI (a1.length : Int)), (50, .d (.lst (List.map (enL (D.int .u8)) a1))), (8, .ptr (.s 8095) 0), (0, nI y2), (7, bB r1), (2, lI a2)], [(.s 8095, [.d (.lst (List.map (enL (D.int .u8)) j17))])]⟩ ?_
                exact L_end
              · refine Av 2 [] ⟨[(52, nI x0), (51, nI (a1.length : Int)), (50, .d (.lst (List.map (enL (D.int .u8)) a1))), (12, nI x1), (11, bB x2), (10, lY x3), (8, .ptr (.s 8095) 0), (0, nI y2), (7, bB r1), (2, lI a2)], [(.s 8095, [.d (.lst (List.map (enL (D.int .u8)) j17))])]⟩ ?_
                exact L_end
            · refine Av 3 [.o false (o3_35.drop 1), .c c3_110, .b 1, .c c3_121, .l c3_124] ⟨[(125, .agg [.d (.lst (List.map (enL (D.int .u8)) j17))]), (12, nI j18.1), (11, bB j18.2.1), (10, lY j18.2.2), (52, nI x0), (51, nI (a1.length : Int)), (50, .d (.lst (List.map (enL (D.int .u8)) a1))), (8, .ptr (.s 8095) 0), (0, nI y2), (7, bB r1), (2, lI a2)], [(.s 8095, [.d (.lst (List.map (enL (D.int .u8)) j17))])]⟩ ?_
              refine L_call (ok_store_Load (⟨j17⟩ : T_api_Store)) trivial rfl (fun _ => rfl) (fun _ => ⟨(flat_map_of fun _ => trivial), trivial, trivial, trivial⟩) (fun r19 => ?_)
              refine Av 14 [.c c3_101, .c c3_109, .b 1, .c c3_121, .l c3_124] ⟨[(131, bB (!j18.2.1)), (24, nI r19.2.2), (23, nI r19.2.1), (22, sY (.s 56016) r19.1), (12, nI j18.1), (11, bB j18.2.1), (10, lY j18.2.2), (52, nI x0), (51, nI (a1.length : Int)), (50, .d (.lst (List.map (enL (D.int .u8)) a1))), (8, .ptr (.s 8095) 0), (0, nI y2), (7, bB r1), (2, lI a2)], [(.s 8095, [.d (.lst (List.map (enL (D.int .u8)) j17))])]⟩ ?_
              refine L_split 131 decF (fun _ => ?_) (fun _ => ?_)
              · refine Av 7 [.c c3_96, .c (.exit 1), .c c3_109, .b 1, .c c3_121, .l c3_124] ⟨[(133, bB (r19.2.2 != 8)), (12, nI j18.1), (11, bB j18.2.1), (10, lY j18.2.2), (52, nI x0), (51, nI (a1.length : Int)), (50, .d (.lst (List.map (enL (D.int .u8)) a1))), (8, .ptr (.s 8095) 0), (0, nI y2), (7, bB r1), (2, lI a2)], [(.s 8095, [.d (.lst (List.map (enL (D.int .u8)) j17))])]⟩ ?_
                refine L_split 133 decNe (fun _ => ?_) (fun _ => ?_)
                · refine Avk 11 [] .ret ⟨[(6, bB false)], []⟩ ?_
                  exact L_retR
                · refine Av 9 [.l c3_124] ⟨[(52, nI (IntKind.i64.wrap (x0 + 1))), (12, nI j18.1), (11, bB j18.2.1), (10, lY j18.2.2), (51, nI (a1.length : Int)), (50, .d (.lst (List.map (enL (D.int .u8)) a1))), (8, .ptr (.s 8095) 0), (0, nI y2), (7, bB r1), (2, lI a2)], [(.s 8095, [.d (.lst (List.map (enL (D.int .u8)) j17))])]⟩ ?_
                  exact L_again (IH (IntKind.i64.wrap (x0 + 1)) j18.1 j18.2.1 j18.2.2 j17)
              · refine Av 7 [.o false (o3_39.drop 3), .c c3_108, .b 1, .c c3_121, .l c3_124] ⟨[(136, bB (r19.2.2 != 0)), (23, nI r19.2.1), (22, sY (.s 56016) r19.1), (12, nI j18.1), (11, bB j18.2.1), (10, lY j18.2.2), (52, nI x0), (51, nI (a1.length : Int)), (50, .d (.lst (List.map (enL (D.int .u8)) a1))), (8, .ptr (.s 8095) 0), (0, nI y2), (7, bB r1), (2, lI a2)], [(.s 8095, [.d (.lst (List.map (enL (D.int .u8)) j17))])]⟩ ?_
                refine L_take 4 o3_39t3_7 (o3_39.drop 7) ?_
                refine L_join [.o false o3_39t3_7] [.o false (o3_39.drop 7), .c c3_108, .b 1, .c c3_121, .l c3_124] (fun x : Bool => ⟨[(140, bB x), (22, sY (.s 56016) r19.1), (12, nI j18.1), (11, bB j18.2.1), (10, lY j18.2.2), (52, nI x0), (51, nI (a1.length : Int)), (50, .d (.lst (List.map (enL (D.int .u8)) a1))), (8, .ptr (.s 8095) 0), (0, nI y2), (7, bB r1), (2, lI a2)], [(.s 8095, [.d (.lst (List.map (enL (D.int .u8)) j17))])]⟩) ?_ (fun j20 => ?_)
                · refine L_split 136 decNe (fun _ => ?_) (fun _ => ?_)
                  · refine Av 5 [] ⟨[(140, bB true), (22, sY (.s 56016) r19.1), (12, nI j18.1), (11, bB j18.2.1), (10, lY j18.2.2), (52, nI x0), (51, nI (a1.length : Int)), (50, .d (.lst (List.map (enL (D.int .u8)) a1))), (8, .ptr (.s 8095) 0), (0, nI y2), (7, bB r1), (2, lI a2)], [(.s 8095, [.d (.lst (List.map (enL (D.int .u8)) j17))])]⟩ ?_
                    exact L_end
                  · refine Av 5 [] ⟨[(140, bB (r19.2.1 != j18.1)), (22, sY (.s 56016) r19.1), (12, nI j18.1), (11, bB j18.2.1), (10, lY j18.2.2), (52, nI x0), (51, nI (a1.length : Int)), (50, .d (.lst (List.map (enL (D.int .u8)) a1))), (8, .ptr (.s 8095) 0), (0, nI y2), (7, bB r1), (2, lI a2)], [(.s 8095, [.d (.lst (List.map (enL (D.int .u8)) j17))])]⟩ ?_
                    exact L_end
                · refine Av 1 [.o false (o3_39.drop 8), .c c3_108, .b 1, .c c3_121, .l c3_124] ⟨[(141, bB j20), (22, sY (.s 56016) r19.1), (12, nI j18.1), (11, bB j18.2.1), (10, lY j18.2.2), (52, nI x0), (51, nI (a1.length : Int)), (50, .d (.lst (List.map (enL (D.int .u8)) a1))), (8, .ptr (.s 8095) 0), (0, nI y2), (7, bB r1), (2, lI a2)], [(.s 8095, [.d (.lst (List.map (enL (D.int .u8)) j17))])]⟩ ?_
                  refine L_take 5 o3_39t8_13 (o3_39.drop 13) ?_
                  refine L_join [.o false o3_39t8_13] [.o false (o3_39.drop 13), .c c3_108, .b 1, .c c3_121, .l c3_124] (fun x : Bool => ⟨[(146, bB x), (12, nI j18.1), (11, bB j18.2.1), (10, lY j18.2.2), (52, nI x0), (51, nI (a1.length : Int)), (50, .d (.lst (List.map (enL (D.int .u8)) a1))), (8, .ptr (.s 8095) 0), (0, nI y2), (7, bB r1), (2, lI a2)], [(.s 8095, [.d (.lst (List.map (enL (D.int .u8)) j17))])]⟩) ?_ (fun j22 => ?_)
                  · refine L_split 141 decT (fun _ => ?_) (fun _ => ?_)
                    · refine Av 6 [] ⟨[(146, bB true), (12, nI j18.1), (11, bB j18.2.1), (10, lY j18.2.2), (52, nI x0), (51, nI (a1.length : Int)), (50, .d (.lst (List.map (enL (D.int .u8)) a1))), (8, .ptr (.s 8095) 0), (0, nI y2), (7, bB r1), (2, lI a2)], [(.s 8095, [.d (.lst (List.map (enL (D.int .u8)) j17))])]⟩ ?_
                      exact L_end
                    · refine Av 2 [.o false (o3_39t8_13.drop 2)] ⟨[(143, lY j18.2.2), (141, bB false), (142, sY (.s 56016) r19.1), (12, nI j18.1), (11, bB j18.2.1), (10, lY j18.2.2), (52, nI x0), (51, nI (a1.length : Int)), (50, .d (.lst (List.map (enL (D.int .u8)) a1))), (8, .ptr (.s 8095) 0), (0, nI y2), (7, bB r1), (2, lI a2)], [(.s 8095, [.d (.lst (List.map (enL (D.int .u8)) j17))])]⟩ ?_
                      refine L_call (ok_thrumref03_Same r19.1 j18.2.2) rfl rfl (fun _ => rfl) (fun _ => trivial) (fun r21 => ?_)
                      refine Av 3 [] ⟨[(146, bB (!r21)), (12, nI j18.1), (11, bB j18.2.1), (10, lY j18.2.2), (52, nI x0), (51, nI (a1.length : Int)), (50, .d (.lst (List.map (enL (D.int .u8)) a1))), (8, .ptr (.s 8095) 0), (0, nI y2), (7, bB r1), (2, lI a2)], [(.s 8095, [.d (.lst (List.map (enL (D.int .u8)) j17))])]⟩ ?_
                      exact L_end
                  · refine Av 1 [.c c3_108, .b 1, .c c3_121, .l c3_124] ⟨[(146, bB j22), (12, nI j18.1), (11, bB j18.2.1), (10, lY j18.2.2), (52, nI x0), (51, nI (a1.length : Int)), (50, .d (.lst (List.map (enL (D.int .u8)) a1))), (8, .ptr (.s 8095) 0), (0, nI y2), (7, bB r1), (2, lI a2)], [(.s 8095, [.d (.lst (List.map (enL (D.int .u8)) j17))])]⟩ ?_
                    refine L_split 146 decT (fun _ => ?_) (fun _ => ?_)
                    · refine Avk 9 [] .ret ⟨[(6, bB false)], []⟩ ?_
                      exact L_retR
                    · refine Av 7 [.l c3_124] ⟨[(52, nI (IntKind.i64.wrap (x0 + 1))), (12, nI j18.1), (11, bB j18.2.1), (10, lY j18.2.2), (51, nI (a1.length : Int)), (50, .d (.lst (List.map (enL (D.int .u8)) a1))), (8, .ptr (.s 8095) 0), (0, nI y2), (7, bB r1), (2, lI a2)], [(.s 8095, [.d (.lst (List.map (enL (D.int .u8)) j17))])]⟩ ?_
                      exact L_again (IH (IntKind.i64.wrap (x0 + 1)) j18.1 j18.2.1 j18.2.2 j17)
  · refine Avk 4 [] (.exit 0) ⟨[(8, .ptr (.s 8095) 0), (7, bB r1)], [(.s 8095, [.d (.lst (List.map (enL (D.int .u8)) x4))])]⟩ ?_
    exact L_endR
theorem ok_thrumlaw20_StoreHalves (a0 : Int) (a1 : List (List Int)) (a2 : List Int) : ∀ v, M_thrumlaw20_StoreHalves a0 a1 a2 = some v → EvF Try.prog 3 [.int .i64 a0, .lst (List.map (enL (D.int .u8)) a1), .lst (List.map (D.int .i64) a2)] (en_thrumlaw20_StoreHalves v) := by
  intro v hv
  refine EvF_go fn3 (Nat.le_of_ble_eq_true rfl) ?_
  suffices h : Ok (M_thrumlaw20_StoreHalves a0 a1 a2) fun v => go Try.prog 154 (Fnl [.t 6] (en_thrumlaw20_StoreHalves v) []) [.c c3_140] .norm (initSt (List.map PV.d [.int .i64 a0, .lst (List.map (enL (D.int .u8)) a1), .lst (List.map (D.int .i64) a2)]) []) from h v hv
  unfold M_thrumlaw20_StoreHalves
  refine Av 6 [.o false o3_1, .c c3_138] ⟨[(0, nI a0), (1, .d (.lst (List.map (enL (D.int .u8)) a1))), (2, lI a2)], []⟩ ?_
  refine L_call (ok_thrumlaw20_live) trivial rfl (fun _ => rfl) (fun _ => trivial) (fun r1 => ?_)
  refine Av 8 [.c c3_7, .c c3_137] ⟨[(27, bB (!r1)), (7, bB r1), (0, nI a0), (1, .d (.lst (List.map (enL (D.int .u8)) a1))), (2, lI a2)], []⟩ ?_
  refine L_split 27 decF (fun _ => ?_) (fun _ => ?_)
  · refine Avk 7 [] .ret ⟨[(6, bB false)], []⟩ ?_
    exact L_ret
  · refine Al 14 [.o false (o3_5.drop 1), .c c3_135] .norm (fun y2 : Int => ⟨[(34, nI y2), (0, nI y2), (7, bB r1), (1, .d (.lst (List.map (enL (D.int .u8)) a1))), (2, lI a2)], []⟩) (fun y2 => ?_)
    refine L_callZ [] (ok_store_New y2) trivial rfl rfl (fun _ => rfl) (fun r4 => ?_)
    refine Av 13 [.o false (o3_6.drop 3), .c c3_16, .c c3_134] ⟨[(40, bB (r4.2 != 0)), (9, nI r4.2), (8, .ptr (.s 8095) 0), (0, nI y2), (7, bB r1), (1, .d (.lst (List.map (enL (D.int .u8)) a1))), (2, lI a2)], [(.s 8095, [.d (.lst (List.map (enL (D.int .u8)) r4.1))])]⟩ ?_
    refine L_take 4 o3_6t3_7 (o3_6.drop 7) ?_
    refine L_join [.o false o3_6t3_7] [.o false (o3_6.drop 7), .c c3_16, .c c3_134] (fun x : Bool => ⟨[(44, bB x), (9, nI r4.2), (8, .ptr (.s 8095) 0), (0, nI y2), (7, bB r1), (1, .d (.lst (List.map (enL (D.int .u8)) a1))), (2, lI a2)], [(.s 8095, [.d (.lst (List.map (enL (D.int .u8)) r4.1))])]⟩) ?_ (fun j5 => ?_)
    · refine L_split 40 decNe (fun _ => ?_) (fun _ => ?_)
      · refine Av 5 [] ⟨[(44, bB true), (9, nI r4.2), (8, .ptr (.s 8095) 0), (0, nI y2), (7, bB r1), (1, .d (.lst (List.map (enL (D.int .u8)) a1))), (2, lI a2)], [(.s 8095, [.d (.lst (List.map (enL (D.int .u8)) r4.1))])]⟩ ?_
        exact L_end
      · refine Av 1 [.o false (o3_6t3_7.drop 1)] ⟨[(41, .d (.lst (List.map (enL (D.int .u8)) a1))), (40, bB false), (9, nI r4.2), (8, .ptr (.s 8095) 0), (0, nI y2), (7, bB r1), (1, .d (.lst (List.map (enL (D.int .u8)) a1))), (2, lI a2)], [(.s 8095, [.d (.lst (List.map (enL (D.int .u8)) r4.1))])]⟩ ?_
        refine L_len (enc := enL (D.int .u8)) (l := a1) rfl rfl ?_
        refine Av 3 [] ⟨[(44, bB (decide ((a1.length : Int) > 20))), (9, nI r4.2), (8, .ptr (.s 8095) 0), (0, nI y2), (7, bB r1), (1, .d (.lst (List.map (enL (D.int .u8)) a1))), (2, lI a2)], [(.s 8095, [.d (.lst (List.map (enL (D.int .u8)) r4.1))])]⟩ ?_
        exact L_end
    · refine Av 1 [.c c3_16, .c c3_134] ⟨[(44, bB j5), (9, nI r4.2), (8, .ptr (.s 8095) 0), (0, nI y2), (7, bB r1), (1, .d (.lst (List.map (enL (D.int .u8)) a1))), (2, lI a2)], [(.s 8095, [.d (.lst (List.map (enL (D.int .u8)) r4.1))])]⟩ ?_
      refine L_split 44 decT (fun _ => ?_) (fun _ => ?_)
      · refine Av 5 [.o false (o3_7.drop 2), .c .ret, .c c3_134] ⟨[(46, bB r1), (9, nI r4.2)], []⟩ ?_
        refine L_take 3 o3_7t2_5 (o3_7.drop 5) ?_
        refine L_join [.o false o3_7t2_5] [.o false (o3_7.drop 5), .c .ret, .c c3_134] (fun x : Bool => ⟨[(49, bB x)], []⟩) ?_ (fun j6 => ?_)
        · refine L_split 46 decT (fun _ => ?_) (fun _ => ?_)
          · refine Av 4 [] ⟨[(49, bB (r4.2 == 0))], []⟩ ?_
            exact L_end
          · refine Av 4 [] ⟨[(49, bB false)], []⟩ ?_
            exact L_end
        · refine Avk 4 [] .ret ⟨[(6, bB j6)], []⟩ ?_
          exact L_ret
      · refine Av 18 [.o false (o3_11.drop 1), .c c3_126, .c c3_130] ⟨[(50, .d (.lst (List.map (enL (D.int .u8)) a1))), (12, nI 0), (11, bB false), (10, .nils), (8, .ptr (.s 8095) 0), (0, nI y2), (7, bB r1), (2, lI a2)], [(.s 8095, [.d (.lst (List.map (enL (D.int .u8)) r4.1))])]⟩ ?_
        refine L_len (enc := enL (D.int .u8)) (l := a1) trivial rfl ?_
        refine Av 4 [.l c3_124, .b 0, .c c3_130] ⟨[(52, nI 0), (51, nI (a1.length : Int)), (50, .d (.lst (List.map (enL (D.int .u8)) a1))), (12, nI 0), (11, bB false), (10, .nils), (8, .ptr (.s 8095) 0), (0, nI y2), (7, bB r1), (2, lI a2)], [(.s 8095, [.d (.lst (List.map (enL (D.int .u8)) r4.1))])]⟩ ?_
        refine L_pieceR (fs := [.l c3_124]) (ks := [.b 0, .c c3_130]) (ok_thrumlaw20_StoreHalves_l0_ok a1 a2 r1 y2 0 0 false [] r4.1) L_thru (fun j23 => ?_)
        refine Av 5 [.o false (o3_42.drop 2), .c .ret] ⟨[(149, bB r1), (8, .ptr (.s 8095) 0)], [(.s 8095, [.d (.lst (List.map (enL (D.int .u8)) j23))])]⟩ ?_
        refine L_take 4 o3_42t2_6 (o3_42.drop 6) ?_
        refine L_join [.o false o3_42t2_6] [.o false (o3_42.drop 6), .c .ret] (fun x : Bool => ⟨[(153, bB x)], []⟩) ?_ (fun j25 => ?_)
        · refine L_split 149 decT (fun _ => ?_) (fun _ => ?_)
          · refine Av 1 [.o false (o3_42t2_6.drop 1)] ⟨[(150, .agg [.d (.lst (List.map (enL (D.int .u8)) j23))]), (149, bB true)], []⟩ ?_
            refine L_call (ok_store_Check (⟨j23⟩ : T_api_Store)) rfl rfl (fun _ => rfl) (fun _ => trivial) (fun r24 => ?_)
            refine Av 3 [] ⟨[(153, bB (r24 == 0))], []⟩ ?_
            exact L_end
          · refine Av 5 [] ⟨[(153, bB false)], []⟩ ?_
            exact L_end
        · refine Avk 3 [] .ret ⟨[(6, bB j25)], []⟩ ?_
          exact L_ret
/-- thrum/thrumlaw20.StoreNumbers. -/
def en_thrumlaw20_StoreNumbers (v : Bool) : PV := bB v
def o5_0 : List AOper := [mb 6 0 false]
def o5_1 : List AOper := [cl' 18 100 19 [], mv 7 101 18]
def o5_2 : List AOper := [mv 19 200 7, ⟨some 20, none, 201, .un .not (.t 19)⟩]
def o5_3 : List AOper := [mb 6 300 false]
def o5_4 : List AOper := [mv 21 400 0, bc 22 401 .rem 21 8, bc 23 402 .add 22 8, bc 24 403 .rem 23 8, ⟨some 25, none, 404, .bin .add .int (.c (.d (.int .i64 1))) (.t 24)⟩, mv 0 405 25]
def o5_5 : List AOper := [mv 26 500 2, bc 27 501 .rem 26 6, bc 28 502 .add 27 6, bc 29 503 .rem 28 6, mv 2 504 29]
def o5_6 : List AOper := [mv 30 600 1, ln 31 601 30, mv 32 602 0, ⟨some 33, none, 603, .bin .mul .int (.c (.d (.int .i64 256))) (.t 32)⟩, bi 34 604 .gtr 31 33]
def o5_7 : List AOper := [mv 35 700 7, mv 6 701 35]
def o5_8 : List AOper := [mv 37 800 0, cl' 38 801 20 [.t 37], mv 36 802 38, xt 39 803 36 0, xt 40 804 36 1, ⟨some 8, none, 805, .alloc 26 1 [.lst []]⟩, ⟨none, none, 806, .store 1 (.t 8) (.t 39)⟩, mv 9 807 40]
def o5_9 : List AOper := [mv 41 900 9, bc 42 901 .neq 41 0]
def o5_10 : List AOper := [mb 6 1000 false]
def o5_11 : List AOper := [mv 43 1100 2, mi 44 1101 0]
def o5_12 : List AOper := [bi 45 1200 .lss 44 43]
def o5_13 : List AOper := [mv 46 1300 44, mv 10 1301 46]
def o5_14 : List AOper := [⟨some 48, none, 1400, .load true 1 (.t 8)⟩, mv 49 1401 1, cl' 50 1402 21 [.t 48, .t 49], mv 47 1403 50, xt 51 1404 47 0, xt 52 1405 47 1, mv 11 1406 51, mv 12 1407 52]
def o5_15 : List AOper := [⟨some 54, none, 1500, .load true 1 (.t 8)⟩, mv 55 1501 1, cl' 56 1502 27 [.t 54, .t 55], mv 53 1503 56, xt 57 1504 53 0, xt 58 1505 53 1, ⟨some 13, none, 1506, .alloc 26 1 [.lst []]⟩, ⟨none, none, 1507, .store 1 (.t 13) (.t 57)⟩, mv 14 1508 58]
def o5_16 : List AOper := [⟨some 60, none, 1600, .load true 1 (.t 13)⟩, cl' 61 1601 23 [.t 60], mv 59 1602 61, xt 62 1603 59 0, xt 63 1604 59 1, xt 64 1605 59 2, mv 15 1606 62, mv 16 1607 63, mv 17 1608 64]
def o5_17 : List AOper := [mv 65 1700 12, bc 66 1701 .neq 65 0, mv 67 1702 66, gv 68 67 false 1703 14, ⟨some 69, some (67, false), 1704, .bin .neq .int (.t 68) (.c (.d (.int .i64 0)))⟩, pz 70 1705 67 69 true, mv 71 1706 70, gv 72 71 false 1707 17, ⟨some 73, some (71, false), 1708, .bin .neq .int (.t 72) (.c (.d (.int .i64 0)))⟩, pz 74 1709 71 73 true, mv 75 1710 74, gv 76 75 false 1711 16, gv 77 75 false 1712 10, ⟨some 78, some (75, false), 1713, .bin .add .int (.t 77) (.c (.d (.int .i64 1)))⟩, ⟨some 79, some (75, false), 1714, .bin .neq .int (.t 76) (.t 78)⟩, pz 80 1715 75 79 true, mv 81 1716 80, gv 82 81 false 1717 15, gv 83 81 false 1718 1, ⟨some 84, some (81, false), 1719, .call 24 [.t 82, .t 83]⟩, ⟨some 85, some (81, false), 1720, .un .not (.t 84)⟩, pz 86 1721 81 85 true, mv 87 1722 86, gv 88 87 false 1723 11, ⟨some 89, some (87, false), 1724, .len (.t 88)⟩, gv 90 87 false 1725 1, ⟨some 91, some (87, false), 1726, .len (.t 90)⟩, ⟨some 92, some (87, false), 1727, .bin .add .int (.t 91) (.c (.d (.int .i64 255)))⟩, ⟨some 93, some (87, false), 1728, .bin .quo .int (.t 92) (.c (.d (.int .i64 256)))⟩, ⟨some 94, some (87, false), 1729, .bin .add .int (.c (.d (.int .i64 1))) (.t 93)⟩, ⟨some 95, some (87, false), 1730, .bin .neq .int (.t 89) (.t 94)⟩, pz 96 1731 87 95 true, mv 97 1732 96, gv 98 97 false 1733 11, gv 99 97 false 1734 11, ⟨some 100, some (97, false), 1735, .len (.t 99)⟩, ⟨some 101, some (97, false), 1736, .bin .sub .int (.t 100) (.c (.d (.int .i64 1)))⟩, ⟨some 102, some (97, false), 1737, .idxA 2 (.t 98) (.t 101)⟩, ⟨some 103, some (97, false), 1738, .fieldA 0 (.t 102)⟩, ⟨some 104, some (97, false), 1739, .load false 1 (.t 103)⟩, gv 105 97 false 1740 16, ⟨some 106, some (97, false), 1741, .bin .rem .int (.t 105) (.c (.d (.int .i64 2)))⟩, ⟨some 107, some (97, false), 1742, .bin .neq .int (.t 104) (.t 106)⟩, pz 108 1743 97 107 true]
def o5_18 : List AOper := [mb 6 1800 false]
def o5_19 : List AOper := [⟨some 109, none, 1900, .load true 1 (.t 13)⟩, ⟨none, none, 1901, .store 1 (.t 8) (.t 109)⟩]
def o5_20 : List AOper := [bc 110 2000 .add 44 1, mv 44 2001 110]
def o5_21 : List AOper := [mv 111 2100 7, mv 112 2101 111, ⟨some 113, some (112, true), 2102, .fieldA 0 (.t 8)⟩, ⟨some 114, some (112, true), 2103, .load false 1 (.t 113)⟩, ⟨some 115, some (112, true), 2104, .len (.t 114)⟩, gv 116 112 true 2105 0, ⟨some 117, some (112, true), 2106, .bin .mul .int (.c (.d (.int .i64 2))) (.t 116)⟩, ⟨some 118, some (112, true), 2107, .bin .add .int (.c (.d (.int .i64 2))) (.t 117)⟩, ⟨some 119, some (112, true), 2108, .bin .eql .int (.t 115) (.t 118)⟩, pk 120 2109 112 119 false, mv 6 2110 120]
def o5_17t3_6 : List AOper := (o5_17.drop 3).take 3
def o5_17t7_10 : List AOper := (o5_17.drop 7).take 3
def o5_17t11_16 : List AOper := (o5_17.drop 11).take 5
def o5_17t17_22 : List AOper := (o5_17.drop 17).take 5
def o5_17t23_32 : List AOper := (o5_17.drop 23).take 9
def o5_17t33_44 : List AOper := (o5_17.drop 33).take 11
def o5_21t2_10 : List AOper := (o5_21.drop 2).take 8
def c5_7 : AC := .cond (.t 20) (.seq (.reg o5_3) .ret) .skip
def c5_16 : AC := .cond (.t 34) (.seq (.reg o5_7) .ret) .skip
def c5_24 : AC := .cond (.t 42) (.seq (.reg o5_10) .ret) .skip
def c5_30 : AC := .cond (.t 45) .skip (.exit 0)
def c5_40 : AC := .cond (.t 108) (.seq (.reg o5_18) .ret) .skip
def c5_42 : AC := .reg o5_19
def c5_43 : AC := .seq (.seq (.reg o5_17) c5_40) c5_42
def c5_44 : AC := .seq (.reg o5_16) c5_43
def c5_45 : AC := .seq (.reg o5_15) c5_44
def c5_49 : AC := .reg o5_20
def c5_50 : AC := .seq (.block 1 (.seq (.reg o5_13) (.seq (.reg o5_14) c5_45))) c5_49
def c5_52 : AC := .seq (.reg o5_12) (.seq c5_30 c5_50)
def c5_58 : AC := .seq (.reg o5_21) .ret
def c5_59 : AC := .seq (.seq (.reg o5_11) (.block 0 (.loop c5_52))) c5_58
def c5_60 : AC := .seq (.seq (.reg o5_9) c5_24) c5_59
def c5_61 : AC := .seq (.reg o5_8) c5_60
def c5_64 : AC := .seq (.reg o5_4) (.seq (.reg o5_5) (.seq (.seq (.reg o5_6) c5_16) c5_61))
def c5_65 : AC := .seq (.seq (.reg o5_2) c5_7) c5_64
def c5_67 : AC := .seq (.reg o5_0) (.seq (.reg o5_1) c5_65)
theorem fn5 : fnA Try.prog 5 = some (121, [.t 6], c5_67) := by kernel_rfl
def q_ok_thrumlaw20_StoreNumbers_l0_ok (a1 : List Int) (a2 : Int) (r1 : Bool) (y2 : Int) (x0 : Int) (x1 : List (List Int)) (v : (Sum Bool (List (List Int)))) : Prop := (fun v => go Try.prog 121 (PostR (fun r => Fnl [.t 6] (en_thrumlaw20_StoreNumbers r) []) (.exit 0) (fun x : (List (List Int)) => ⟨[(8, .ptr (.s 12895) 0), (0, nI y2), (7, bB r1)], [(.s 12895, [.d (.lst (List.map (enL (D.int .u8)) x))])]⟩) v) [.l c5_52] .norm ⟨[(44, nI x0), (43, nI (Int.tmod (IntKind.i64.wrap ((Int.tmod a2 6) + 6)) 6)), (8, .ptr (.s 12895) 0), (0, nI y2), (7, bB r1), (1, lY a1)], [(.s 12895, [.d (.lst (List.map (enL (D.int .u8)) x1))])]⟩) v
theorem ok_thrumlaw20_StoreNumbers_l0_ok (a1 : List Int) (a2 : Int) (r1 : Bool) (y2 : Int) (x0 : Int) (x1 : List (List Int)) : Ok (M_thrumlaw20_StoreNumbers_l0 a1 a2 r1 y2 x0 x1) (q_ok_thrumlaw20_StoreNumbers_l0_ok a1 a2 r1 y2 x0 x1) := by
  refine M_thrumlaw20_StoreNumbers_l0.partial_correctness a1 a2 r1 y2 (q_ok_thrumlaw20_StoreNumbers_l0_ok a1 a2 r1 y2) ?_ x0 x1
  clear x0 x1
  intro f' IH x0 x1
  refine okI ?_
  unfold q_ok_thrumlaw20_StoreNumbers_l0_ok at *
  refine Av 1 [.c c5_52, .l c5_52] ⟨[(44, nI x0), (43, nI (Int.tmod (IntKind.i64.wrap ((Int.tmod a2 6) + 6)) 6)), (8, .ptr (.s 12895) 0), (0, nI y2), (7, bB r1), (1, lY a1)], [(.s 12895, [.d (.lst (List.map (enL (D.int .u8)) x1))])]⟩ ?_
  refine Av 5 [.c c5_30, .c c5_50, .l c5_52] ⟨[(45, bB (decide (x0 < (Int.tmod (IntKind.i64.wrap ((Int.tmod a2 6) + 6)) 6)))), (44, nI x0), (43, nI (Int.tmod (IntKind.i64.wrap ((Int.tmod a2 6) + 6)) 6)), (8, .ptr (.s 12895) 0), (0, nI y2), (7, bB r1), (1, lY a1)], [(.s 12895, [.d (.lst (List.map (enL (D.int .u8)) x1))])]⟩ ?_
  refine L_split 45 rfl (fun _ => ?_) (fun _ => ?_)
  · refine Av 13 [.o false (o5_14.drop 2), .c c5_45, .b 1, .c c5_49, .l c5_52] ⟨[(49, lY a1), (48, .agg [.d (.lst (List.map (enL (D.int .u8)) x1))]), (10, nI x0), (44, nI x0), (43, nI (Int.tmod (IntKind.i64.wrap ((Int.tmod a2 6) + 6)) 6)), (8, .ptr (.s 12895) 0), (0, nI y2), (7, bB r1), (1, lY a1)], [(.s 12895, [.d (.lst (List.map (enL (D.int .u8)) x1))])]⟩ ?_
    refine L_callZ [] (ok_store_Plan (⟨x1⟩ : T_api_Store) a1) trivial rfl rfl (fun _ => rfl) (fun r5 => ?_)
    refine Av 10 [.o false (o5_15.drop 2), .c c5_44, .b 1, .c c5_49, .l c5_52] ⟨[(55, lY a1), (54, .agg [.d (.lst (List.map (enL (D.int .u8)) x1))]), (12, nI r5.2), (11, .sl (.s 22432) 2 0 (List.map T_api_Put.en r5.1)), (10, nI x0), (44, nI x0), (43, nI (Int.tmod (IntKind.i64.wrap ((Int.tmod a2 6) + 6)) 6)), (8, .ptr (.s 12895) 0), (0, nI y2), (7, bB r1), (1, lY a1)], [(.s 12895, [.d (.lst (List.map (enL (D.int .u8)) x1))])]⟩ ?_
    refine L_callZ [] (ok_store_Save (⟨x1⟩ : T_api_Store) a1) trivial rfl rfl (fun _ => rfl) (fun r6 => ?_)
    refine Av 10 [.o false (o5_16.drop 1), .c c5_43, .b 1, .c c5_49, .l c5_52] ⟨[(60, .agg [.d (.lst (List.map (enL (D.int .u8)) r6.1))]), (14, nI r6.2), (13, .ptr (.s 24111) 0), (12, nI r5.2), (11, .sl (.s 22432) 2 0 (List.map T_api_Put.en r5.1)), (10, nI x0), (44, nI x0), (43, nI (Int.tmod (IntKind.i64.wrap ((Int.tmod a2 6) + 6)) 6)), (8, .ptr (.s 12895) 0), (0, nI y2), (7, bB r1), (1, lY a1)], [(.s 24111, [.d (.lst (List.map (enL (D.int .u8)) r6.1))]), (.s 12895, [.d (.lst (List.map (enL (D.int .u8)) x1))])]⟩ ?_
    refine L_call (ok_store_Load (⟨r6.1⟩ : T_api_Store)) trivial rfl (fun _ => rfl) (fun _ => ⟨(flat_map_of fun _ => trivial), trivial, trivial, trivial⟩) (fun r7 => ?_)
    refine Av 14 [.o false (o5_17.drop 3), .c c5_40, .c c5_42, .b 1, .c c5_49, .l c5_52] ⟨[(67, bB (r5.2 != 0)), (17, nI r7.2.2), (16, nI r7.2.1), (15, sY (.s 25616) r7.1), (14, nI r6.2), (13, .ptr (.s 24111) 0), (11, .sl (.s 22432) 2 0 (List.map T_api_Put.en r5.1)), (10, nI x0), (44, nI x0), (43, nI (Int.tmod (IntKind.i64.wrap ((Int.tmod a2 6) + 6)) 6)), (8, .ptr (.s 12895) 0), (0, nI y2), (7, bB r1), (1, lY a1)], [(.s 24111, [.d (.lst (List.map (enL (D.int .u8)) r6.1))]), (.s 12895, [.d (.lst (List.map (enL (D.int .u8)) x1))])]⟩ ?_
    refine L_take 3 o5_17t3_6 (o5_17.drop 6) ?_
    refine L_join [.o false o5_17t3_6] [.o false (o5_17.drop 6), .c c5_40, .c c5_42, .b 1, .c c5_49, .l c5_52] (fun x : Bool => ⟨[(70, bB x), (17, nI r7.2.2), (16, nI r7.2.1), (15, sY (.s 25616) r7.1), (13, .ptr (.s 24111) 0), (11, .sl (.s 22432) 2 0 (List.map T_api_Put.en r5.1)), (10, nI x0), (44, nI x0), (43, nI (Int.tmod (IntKind.i64.wrap ((Int.tmod a2 6) + 6)) 6)), (8, .ptr (.s 12895) 0), (0, nI y2), (7, bB r1), (1, lY a1)], [(.s 24111, [.d (.lst (List.map (enL (D.int .u8)) r6.1))]), (.s 12895, [.d (.lst (List.map (enL (D.int .u8)) x1))])]⟩) ?_ (fun j8 => ?_)
    · refine L_split 67 decNe (fun _ => ?_) (fun _ => ?_)
      · refine Av 4 [] ⟨[(70, bB true), (17, nI r7.2.2), (16, nI r7.2.1), (15, sY (.s 25616) r7.1), (13, .ptr (.s 24111) 0), (11, .sl (.s 22432) 2 0 (List.map T_api_Put.en r5.1)), (10, nI x0), (44, nI x0), (43, nI (Int.tmod (IntKind.i64.wrap ((Int.tmod a2 6) + 6)) 6)), (8, .ptr (.s 12895) 0), (0, nI y2), (7, bB r1), (1, lY a1)], [(.s 24111, [.d (.lst (List.map (enL (D.int .u8)) r6.1))]), (.s 12895, [.d (.lst (List.map (enL (D.int .u8)) x1))])]⟩ ?_
        exact L_end
      · refine Av 4 [] ⟨[(70, bB (r6.2 != 0)), (17, nI r7.2.2), (16, nI r7.2.1), (15, sY (.s 25616) r7.1), (13, .ptr (.s 24111) 0), (11, .sl (.s 22432) 2 0 (List.map T_api_Put.en r5.1)), (10, nI x0), (44, nI x0), (43, nI (Int.tmod (IntKind.i64.wrap ((Int.tmod a2 6) + 6)) 6)), (8, .ptr (.s 12895) 0), (0, nI y2), (7, bB r1), (1, lY a1)], [(.s 24111, [.d (.lst (List.map (enL (D.int .u8)) r6.1))]), (.s 12895, [.d (.lst (List.map (enL (D.int .u8)) x1))])]⟩ ?_
        exact L_end
    · refine Av 1 [.o false (o5_17.drop 7), .c c5_40, .c c5_42, .b 1, .c c5_49, .l c5_52] ⟨[(71, bB j8), (17, nI r7.2.2), (16, nI r7.2.1), (15, sY (.s 25616) r7.1), (13, .ptr (.s 24111) 0), (11, .sl (.s 22432) 2 0 (List.map T_api_Put.en r5.1)), (10, nI x0), (44, nI x0), (43, nI (Int.tmod (IntKind.i64.wrap ((Int.tmod a2 6) + 6)) 6)), (8, .ptr (.s 12895) 0), (0, nI y2), (7, bB r1), (1, lY a1)], [(.s 24111, [.d (.lst (List.map (enL (D.int .u8)) r6.1))]), (.s 12895, [.d (.lst (List.map (enL (D.int .u8)) x1))])]⟩ ?_
      refine L_take 3 o5_17t7_10 (o5_17.drop 10) ?_
      refine L_join [.o false o5_17t7_10] [.o false (o5_17.drop 10), .c c5_40, .c c5_42, .b 1, .c c5_49, .l c5_52] (fun x : Bool => ⟨[(74, bB x), (16, nI r7.2.1), (15, sY (.s 25616) r7.1), (13, .ptr (.s 24111) 0), (11, .sl (.s 22432) 2 0 (List.map T_api_Put.en r5.1)), (10, nI x0), (44, nI x0), (43, nI (Int.tmod (IntKind.i64.wrap ((Int.tmod a2 6) + 6)) 6)), (8, .ptr (.s 12895) 0), (0, nI y2), (7, bB r1), (1, lY a1)], [(.s 24111, [.d (.lst (List.map (enL (D.int .u8)) r6.1))]), (.s 12895, [.d (.lst (List.map (enL (D.int .u8)) x1))])]⟩) ?_ (fun j9 => ?_)
      · refine L_split 71 decT (fun _ => ?_) (fun _ => ?_)
        · refine Av 4 [] ⟨[(74, bB true), (16, nI r7.2.1), (15, sY (.s 25616) r7.1), (13, .ptr (.s 24111) 0), (11, .sl (.s 22432) 2 0 (List.map T_api_Put.en r5.1)), (10, nI x0), (44, nI x0), (43, nI (Int.tmod (IntKind.i64.wrap ((Int.tmod a2 6) + 6)) 6)), (8, .ptr (.s 12895) 0), (0, nI y2), (7, bB r1), (1, lY a1)], [(.s 24111, [.d (.lst (List.map (enL (D.int .u8)) r6.1))]), (.s 12895, [.d (.lst (List.map (enL (D.int .u8)) x1))])]⟩ ?_
          exact L_end
        · refine Av 4 [] ⟨[(74, bB (r7.2.2 != 0)), (16, nI r7.2.1), (15, sY (.s 25616) r7.1), (13, .ptr (.s 24111) 0), (11, .sl (.s 22432) 2 0 (List.map T_api_Put.en r5.1)), (10, nI x0), (44, nI x0), (43, nI (Int.tmod (IntKind.i64.wrap ((Int.tmod a2 6) + 6)) 6)), (8, .ptr (.s 12895) 0), (0, nI y2), (7, bB r1), (1, lY a1)], [(.s 24111, [.d (.lst (List.map (enL (D.int .u8)) r6.1))]), (.s 12895, [.d (.lst (List.map (enL (D.int .u8)) x1))])]⟩ ?_
          exact L_end
      · refine Av 1 [.o false (o5_17.drop 11), .c c5_40, .c c5_42, .b 1, .c c5_49, .l c5_52] ⟨[(75, bB j9), (16, nI r7.2.1), (15, sY (.s 25616) r7.1), (13, .ptr (.s 24111) 0), (11, .sl (.s 22432) 2 0 (List.map T_api_Put.en r5.1)), (10, nI x0), (44, nI x0), (43, nI (Int.tmod (IntKind.i64.wrap ((Int.tmod a2 6) + 6)) 6)), (8, .ptr (.s 12895) 0), (0, nI y2), (7, bB r1), (1, lY a1)], [(.s 24111, [.d (.lst (List.map (enL (D.int .u8)) r6.1))]), (.s 12895, [.d (.lst (List.map (enL (D.int .u8)) x1))])]⟩ ?_
        refine L_take 5 o5_17t11_16 (o5_17.drop 16) ?_
        refine L_join [.o false o5_17t11_16] [.o false (o5_17.drop 16), .c c5_40, .c c5_42, .b 1, .c c5_49, .l c5_52] (fun x : Bool => ⟨[(80, bB x), (16, nI r7.2.1), (15, sY (.s 25616) r7.1), (13, .ptr (.s 24111) 0), (11, .sl (.s 22432) 2 0 (List.map T_api_Put.en r5.1)), (44, nI x0), (43, nI (Int.tmod (IntKind.i64.wrap ((Int.tmod a2 6) + 6)) 6)), (8, .ptr (.s 12895) 0), (0, nI y2), (7, bB r1), (1, lY a1)], [(.s 24111, [.d (.lst (List.map (enL (D.int .u8)) r6.1))]), (.s 12895, [.d (.lst (List.map (enL (D.int .u8)) x1))])]⟩) ?_ (fun j10 => ?_)
        · refine L_split 75 decT (fun _ => ?_) (fun _ => ?_)
          · refine Av 6 [] ⟨[(80, bB true), (16, nI r7.2.1), (15, sY (.s 25616) r7.1), (13, .ptr (.s 24111) 0), (11, .sl (.s 22432) 2 0 (List.map T_api_Put.en r5.1)), (44, nI x0), (43, nI (Int.tmod (IntKind.i64.wrap ((Int.tmod a2 6) + 6)) 6)), (8, .ptr (.s 12895) 0), (0, nI y2), (7, bB r1), (1, lY a1)], [(.s 24111, [.d (.lst (List.map (enL (D.int .u8)) r6.1))]), (.s 12895, [.d (.lst (List.map (enL (D.int .u8)) x1))])]⟩ ?_
            exact L_end
          · refine Av 6 [] ⟨[(80, bB (r7.2.1 != (IntKind.i64.wrap (x0 + 1)))), (16, nI r7.2.1), (15, sY (.s 25616) r7.1), (13, .ptr (.s 24111) 0), (11, .sl (.s 22432) 2 0 (List.map T_api_Put.en r5.1)), (44, nI x0), (43, nI (Int.tmod (IntKind.i64.wrap ((Int.tmod a2 6) + 6)) 6)), (8, .ptr (.s 12895) 0), (0, nI y2), (7, bB r1), (1, lY a1)], [(.s 24111, [.d (.lst (List.map (enL (D.int .u8)) r6.1))]), (.s 12895, [.d (.lst (List.map (enL (D.int .u8)) x1))])]⟩ ?_
            exact L_end
        · refine Av 1 [.o false (o5_17.drop 17), .c c5_40, .c c5_42, .b 1, .c c5_49, .l c5_52] ⟨[(81, bB j10), (16, nI r7.2.1), (15, sY (.s 25616) r7.1), (13, .ptr (.s 24111) 0), (11, .sl (.s 22432) 2 0 (List.map T_api_Put.en r5.1)), (44, nI x0), (43, nI (Int.tmod (IntKind.i64.wrap ((Int.tmod a2 6) + 6)) 6)), (8, .ptr (.s 12895) 0), (0, nI y2), (7, bB r1), (1, lY a1)], [(.s 24111, [.d (.lst (List.map (enL (D.int .u8)) r6.1))]), (.s 12895, [.d (.lst (List.map (enL (D.int .u8)) x1))])]⟩ ?_
          refine L_take 5 o5_17t17_22 (o5_17.drop 22) ?_
          refine L_join [.o false o5_17t17_22] [.o false (o5_17.drop 22), .c c5_40, .c c5_42, .b 1, .c c5_49, .l c5_52] (fun x : Bool => ⟨[(86, bB x), (16, nI r7.2.1), (13, .ptr (.s 24111) 0), (11, .sl (.s 22432) 2 0 (List.map T_api_Put.en r5.1)), (44, nI x0), (43, nI (Int.tmod (IntKind.i64.wrap ((Int.tmod a2 6) + 6)) 6)), (8, .ptr (.s 12895) 0), (0, nI y2), (7, bB r1), (1, lY a1)], [(.s 24111, [.d (.lst (List.map (enL (D.int .u8)) r6.1))]), (.s 12895, [.d (.lst (List.map (enL (D.int .u8)) x1))])]⟩) ?_ (fun j12 => ?_)
          · refine L_split 81 decT (fun _ => ?_) (fun _ => ?_)
            · refine Av 6 [] ⟨[(86, bB true), (16, nI r7.2.1), (13, .ptr (.s 24111) 0), (11, .sl (.s 22432) 2 0 (List.map T_api_Put.en r5.1)), (44, nI x0), (43, nI (Int.tmod (IntKind.i64.wrap ((Int.tmod a2 6) + 6)) 6)), (8, .ptr (.s 12895) 0), (0, nI y2), (7, bB r1), (1, lY a1)], [(.s 24111, [.d (.lst (List.map (enL (D.int .u8)) r6.1))]), (.s 12895, [.d (.lst (List.map (enL (D.int .u8)) x1))])]⟩ ?_
              exact L_end
            · refine Av 2 [.o false (o5_17t17_22.drop 2)] ⟨[(83, lY a1), (81, bB false), (82, sY (.s 25616) r7.1), (16, nI r7.2.1), (13, .ptr (.s 24111) 0), (11, .sl (.s 22432) 2 0 (List.map T_api_Put.en r5.1)), (44, nI x0), (43, nI (Int.tmod (IntKind.i64.wrap ((Int.tmod a2 6) + 6)) 6)), (8, .ptr (.s 12895) 0), (0, nI y2), (7, bB r1), (1, lY a1)], [(.s 24111, [.d (.lst (List.map (enL (D.int .u8)) r6.1))]), (.s 12895, [.d (.lst (List.map (enL (D.int .u8)) x1))])]⟩ ?_
              refine L_call (ok_thrumref03_Same r7.1 a1) rfl rfl (fun _ => rfl) (fun _ => trivial) (fun r11 => ?_)
              refine Av 3 [] ⟨[(86, bB (!r11)), (16, nI r7.2.1), (13, .ptr (.s 24111) 0), (11, .sl (.s 22432) 2 0 (List.map T_api_Put.en r5.1)), (44, nI x0), (43, nI (Int.tmod (IntKind.i64.wrap ((Int.tmod a2 6) + 6)) 6)), (8, .ptr (.s 12895) 0), (0, nI y2), (7, bB r1), (1, lY a1)], [(.s 24111, [.d (.lst (List.map (enL (D.int .u8)) r6.1))]), (.s 12895, [.d (.lst (List.map (enL (D.int .u8)) x1))])]⟩ ?_
              exact L_end
          · refine Av 1 [.o false (o5_17.drop 23), .c c5_40, .c c5_42, .b 1, .c c5_49, .l c5_52] ⟨[(87, bB j12), (16, nI r7.2.1), (13, .ptr (.s 24111) 0), (11, .sl (.s 22432) 2 0 (List.map T_api_Put.en r5.1)), (44, nI x0), (43, nI (Int.tmod (IntKind.i64.wrap ((Int.tmod a2 6) + 6)) 6)), (8, .ptr (.s 12895) 0), (0, nI y2), (7, bB r1), (1, lY a1)], [(.s 24111, [.d (.lst (List.map (enL (D.int .u8)) r6.1))]), (.s 12895, [.d (.lst (List.map (enL (D.int .u8)) x1))])]⟩ ?_
            refine L_take 9 o5_17t23_32 (o5_17.drop 32) ?_
            refine L_join [.o false o5_17t23_32] [.o false (o5_17.drop 32), .c c5_40, .c c5_42, .b 1, .c c5_49, .l c5_52] (fun x : Bool => ⟨[(96, bB x), (16, nI r7.2.1), (13, .ptr (.s 24111) 0), (11, .sl (.s 22432) 2 0 (List.map T_api_Put.en r5.1)), (44, nI x0), (43, nI (Int.tmod (IntKind.i64.wrap ((Int.tmod a2 6) + 6)) 6)), (8, .ptr (.s 12895) 0), (0, nI y2), (7, bB r1), (1, lY a1)], [(.s 24111, [.d (.lst (List.map (enL (D.int .u8)) r6.1))]), (.s 12895, [.d (.lst (List.map (enL (D.int .u8)) x1))])]⟩) ?_ (fun j13 => ?_)
            · refine L_split 87 decT (fun _ => ?_) (fun _ => ?_)
              · refine Av 10 [] ⟨[(96, bB true), (16, nI r7.2.1), (13, .ptr (.s 24111) 0), (11, .sl (.s 22432) 2 0 (List.map T_api_Put.en r5.1)), (44, nI x0), (43, nI (Int.tmod (IntKind.i64.wrap ((Int.tmod a2 6) + 6)) 6)), (8, .ptr (.s 12895) 0), (0, nI y2), (7, bB r1), (1, lY a1)], [(.s 24111, [.d (.lst (List.map (enL (D.int .u8)) r6.1))]), (.s 12895, [.d (.lst (List.map (enL (D.int .u8)) x1))])]⟩ ?_
                exact L_end
              · refine Av 1 [.o false (o5_17t23_32.drop 1)] ⟨[(88, .sl (.s 22432) 2 0 (List.map T_api_Put.en r5.1)), (87, bB false), (16, nI r7.2.1), (13, .ptr (.s 24111) 0), (11, .sl (.s 22432) 2 0 (List.map T_api_Put.en r5.1)), (44, nI x0), (43, nI (Int.tmod (IntKind.i64.wrap ((Int.tmod a2 6) + 6)) 6)), (8, .ptr (.s 12895) 0), (0, nI y2), (7, bB r1), (1, lY a1)], [(.s 24111, [.d (.lst (List.map (enL (D.int .u8)) r6.1))]), (.s 12895, [.d (.lst (List.map (enL (D.int .u8)) x1))])]⟩ ?_
                refine L_len (enc := T_api_Put.en) (l := r5.1) rfl rfl ?_
                refine Av 1 [.o false (o5_17t23_32.drop 3)] ⟨[(90, lY a1), (87, bB false), (89, nI (r5.1.length : Int)), (16, nI r7.2.1), (13, .ptr (.s 24111) 0), (11, .sl (.s 22432) 2 0 (List.map T_api_Put.en r5.1)), (44, nI x0), (43, nI (Int.tmod (IntKind.i64.wrap ((Int.tmod a2 6) + 6)) 6)), (8, .ptr (.s 12895) 0), (0, nI y2), (7, bB r1), (1, lY a1)], [(.s 24111, [.d (.lst (List.map (enL (D.int .u8)) r6.1))]), (.s 12895, [.d (.lst (List.map (enL (D.int .u8)) x1))])]⟩ ?_
                refine L_len (enc := D.int .u8) (l := a1) rfl rfl ?_
                refine Av 6 [] ⟨[(96, bB ((r5.1.length : Int) != (IntKind.i64.wrap (1 + (IntKind.i64.wrap (Int.tdiv (IntKind.i64.wrap ((a1.length : Int) + 255)) 256)))))), (16, nI r7.2.1), (13, .ptr (.s 24111) 0), (11, .sl (.s 22432) 2 0 (List.map T_api_Put.en r5.1)), (44, nI x0), (43, nI (Int.tmod (IntKind.i64.wrap ((Int.tmod a2 6) + 6)) 6)), (8, .ptr (.s 12895) 0), (0, nI y2), (7, bB r1), (1, lY a1)], [(.s 24111, [.d (.lst (List.map (enL (D.int .u8)) r6.1))]), (.s 12895, [.d (.lst (List.map (enL (D.int .u8)) x1))])]⟩ ?_
                exact L_end
            · refine Av 1 [.o false (o5_17.drop 33), .c c5_40, .c c5_42, .b 1, .c c5_49, .l c5_52] ⟨[(97, bB j13), (16, nI r7.2.1), (13, .ptr (.s 24111) 0), (11, .sl (.s 22432) 2 0 (List.map T_api_Put.en r5.1)), (44, nI x0), (43, nI (Int.tmod (IntKind.i64.wrap ((Int.tmod a2 6) + 6)) 6)), (8, .ptr (.s 12895) 0), (0, nI y2), (7, bB r1), (1, lY a1)], [(.s 24111, [.d (.lst (List.map (enL (D.int .u8)) r6.1))]), (.s 12895, [.d (.lst (List.map (enL (D.int .u8)) x1))])]⟩ ?_
              refine L_take 11 o5_17t33_44 (o5_17.drop 44) ?_
              refine L_join [.o false o5_17t33_44] [.o false (o5_17.drop 44), .c c5_40, .c c5_42, .b 1, .c c5_49, .l c5_52] (fun x : Bool => ⟨[(108, bB x), (13, .ptr (.s 24111) 0), (44, nI x0), (43, nI (Int.tmod (IntKind.i64.wrap ((Int.tmod a2 6) + 6)) 6)), (8, .ptr (.s 12895) 0), (0, nI y2), (7, bB r1), (1, lY a1)], [(.s 24111, [.d (.lst (List.map (enL (D.int .u8)) r6.1))]), (.s 12895, [.d (.lst (List.map (enL (D.int .u8)) x1))])]⟩) ?_ (fun j14 => ?_)
              · refine L_split 97 decT (fun _ => ?_) (fun _ => ?_)
                · refine Av 12 [] ⟨[(108, bB true), (13, .ptr (.s 24111) 0), (44, nI x0), (43, nI (Int.tmod (IntKind.i64.wrap ((Int.tmod a2 6) + 6)) 6)), (8, .ptr (.s 12895) 0), (0, nI y2), (7, bB r1), (1, lY a1)], [(.s 24111, [.d (.lst (List.map (enL (D.int .u8)) r6.1))]), (.s 12895, [.d (.lst (List.map (enL (D.int .u8)) x1))])]⟩ ?_
                  exact L_end
                · refine Av 2 [.o false (o5_17t33_44.drop 2)] ⟨[(99, .sl (.s 22432) 2 0 (List.map T_api_Put.en r5.1)), (97, bB false), (98, .sl (.s 22432) 2 0 (List.map T_api_Put.en r5.1)), (16, nI r7.2.1), (13, .ptr (.s 24111) 0), (44, nI x0), (43, nI (Int.tmod (IntKind.i64.wrap ((Int.tmod a2 6) + 6)) 6)), (8, .ptr (.s 12895) 0), (0, nI y2), (7, bB r1), (1, lY a1)], [(.s 24111, [.d (.lst (List.map (enL (D.int .u8)) r6.1))]), (.s 12895, [.d (.lst (List.map (enL (D.int .u8)) x1))])]⟩ ?_
                  refine L_len (enc := T_api_Put.en) (l := r5.1) rfl rfl ?_
                  refine Av 1 [.o false (o5_17t33_44.drop 4)] ⟨[(101, nI (IntKind.i64.wrap ((r5.1.length : Int) - 1))), (97, bB false), (98, .sl (.s 22432) 2 0 (List.map T_api_Put.en r5.1)), (16, nI r7.2.1), (13, .ptr (.s 24111) 0), (44, nI x0), (43, nI (Int.tmod (IntKind.i64.wrap ((Int.tmod a2 6) + 6)) 6)), (8, .ptr (.s 12895) 0), (0, nI y2), (7, bB r1), (1, lY a1)], [(.s 24111, [.d (.lst (List.map (enL (D.int .u8)) r6.1))]), (.s 12895, [.d (.lst (List.map (enL (D.int .u8)) x1))])]⟩ ?_
                  refine L_idxO (enc := T_api_Put.en) (l := r5.1) (iv := IntKind.i64.wrap ((r5.1.length : Int) - 1)) rfl rfl rfl (fun hc1737 => ?_)
                  refine Av 7 [] ⟨[(108, bB (((at' r5.1 (IntKind.i64.wrap ((r5.1.length : Int) - 1))).F_At) != (Int.tmod r7.2.1 2))), (13, .ptr (.s 24111) 0), (44, nI x0), (43, nI (Int.tmod (IntKind.i64.wrap ((Int.tmod a2 6) + 6)) 6)), (8, .ptr (.s 12895) 0), (0, nI y2), (7, bB r1), (1, lY a1)], [(.s 24111, [.d (.lst (List.map (enL (D.int .u8)) r6.1))]), (.s 12895, [.d (.lst (List.map (enL (D.int .u8)) x1))])]⟩ ?_
                  exact L_end
              · refine Av 1 [.c c5_40, .c c5_42, .b 1, .c c5_49, .l c5_52] ⟨[(108, bB j14), (13, .ptr (.s 24111) 0), (44, nI x0), (43, nI (Int.tmod (IntKind.i64.wrap ((Int.tmod a2 6) + 6)) 6)), (8, .ptr (.s 12895) 0), (0, nI y2), (7, bB r1), (1, lY a1)], [(.s 24111, [.d (.lst (List.map (enL (D.int .u8)) r6.1))]), (.s 12895, [.d (.lst (List.map (enL (D.int .u8)) x1))])]⟩ ?_
                refine L_split 108 decT (fun _ => ?_) (fun _ => ?_)
                · refine Avk 10 [] .ret ⟨[(6, bB false)], []⟩ ?_
                  exact L_retR
                · refine Av 11 [.l c5_52] ⟨[(44, nI (IntKind.i64.wrap (x0 + 1))), (43, nI (Int.tmod (IntKind.i64.wrap ((Int.tmod a2 6) + 6)) 6)), (8, .ptr (.s 12895) 0), (0, nI y2), (7, bB r1), (1, lY a1)], [(.s 12895, [.d (.lst (List.map (enL (D.int .u8)) r6.1))])]⟩ ?_
                  exact L_again (IH (IntKind.i64.wrap (x0 + 1)) r6.1)
  · refine Avk 4 [] (.exit 0) ⟨[(8, .ptr (.s 12895) 0), (0, nI y2), (7, bB r1)], [(.s 12895, [.d (.lst (List.map (enL (D.int .u8)) x1))])]⟩ ?_
    exact L_endR
theorem ok_thrumlaw20_StoreNumbers (a0 : Int) (a1 : List Int) (a2 : Int) : ∀ v, M_thrumlaw20_StoreNumbers a0 a1 a2 = some v → EvF Try.prog 5 [.int .i64 a0, .lst (List.map (D.int .u8) a1), .int .i64 a2] (en_thrumlaw20_StoreNumbers v) := by
  intro v hv
  refine EvF_go fn5 (Nat.le_of_ble_eq_true rfl) ?_
  suffices h : Ok (M_thrumlaw20_StoreNumbers a0 a1 a2) fun v => go Try.prog 121 (Fnl [.t 6] (en_thrumlaw20_StoreNumbers v) []) [.c c5_67] .norm (initSt (List.map PV.d [.int .i64 a0, .lst (List.map (D.int .u8) a1), .int .i64 a2]) []) from h v hv
  unfold M_thrumlaw20_StoreNumbers
  refine Av 6 [.o false o5_1, .c c5_65] ⟨[(0, nI a0), (1, lY a1), (2, nI a2)], []⟩ ?_
  refine L_call (ok_thrumlaw20_live) trivial rfl (fun _ => rfl) (fun _ => trivial) (fun r1 => ?_)
  refine Av 8 [.c c5_7, .c c5_64] ⟨[(20, bB (!r1)), (7, bB r1), (0, nI a0), (1, lY a1), (2, nI a2)], []⟩ ?_
  refine L_split 20 decF (fun _ => ?_) (fun _ => ?_)
  · refine Avk 7 [] .ret ⟨[(6, bB false)], []⟩ ?_
    exact L_ret
  · refine Al 23 [.o false (o5_6.drop 1), .c c5_16, .c c5_61] .norm (fun y2 : Int => ⟨[(30, lY a1), (2, nI (Int.tmod (IntKind.i64.wrap ((Int.tmod a2 6) + 6)) 6)), (0, nI y2), (7, bB r1), (1, lY a1)], []⟩) (fun y2 => ?_)
    refine L_len (enc := D.int .u8) (l := a1) trivial rfl ?_
    refine Av 4 [.c c5_16, .c c5_61] ⟨[(34, bB (decide ((a1.length : Int) > (IntKind.i64.wrap (256 * y2))))), (2, nI (Int.tmod (IntKind.i64.wrap ((Int.tmod a2 6) + 6)) 6)), (0, nI y2), (7, bB r1), (1, lY a1)], []⟩ ?_
    refine L_split 34 rfl (fun _ => ?_) (fun _ => ?_)
    · refine Avk 8 [] .ret ⟨[(6, bB r1)], []⟩ ?_
      exact L_ret
    · refine Av 5 [.o false (o5_8.drop 1), .c c5_60] ⟨[(37, nI y2), (2, nI (Int.tmod (IntKind.i64.wrap ((Int.tmod a2 6) + 6)) 6)), (0, nI y2), (7, bB r1), (1, lY a1)], []⟩ ?_
      refine L_callZ [] (ok_store_New y2) trivial rfl rfl (fun _ => rfl) (fun r4 => ?_)
      refine Av 13 [.c c5_24, .c c5_59] ⟨[(42, bB (r4.2 != 0)), (8, .ptr (.s 12895) 0), (2, nI (Int.tmod (IntKind.i64.wrap ((Int.tmod a2 6) + 6)) 6)), (0, nI y2), (7, bB r1), (1, lY a1)], [(.s 12895, [.d (.lst (List.map (enL (D.int .u8)) r4.1))])]⟩ ?_
      refine L_split 42 decNe (fun _ => ?_) (fun _ => ?_)
      · refine Avk 7 [] .ret ⟨[(6, bB false)], []⟩ ?_
        exact L_ret
      · refine Av 10 [.l c5_52, .b 0, .c c5_58] ⟨[(44, nI 0), (43, nI (Int.tmod (IntKind.i64.wrap ((Int.tmod a2 6) + 6)) 6)), (8, .ptr (.s 12895) 0), (0, nI y2), (7, bB r1), (1, lY a1)], [(.s 12895, [.d (.lst (List.map (enL (D.int .u8)) r4.1))])]⟩ ?_
        refine L_pieceR (fs := [.l c5_52]) (ks := [.b 0, .c c5_58]) (ok_thrumlaw20_StoreNumbers_l0_ok a1 a2 r1 y2 0 r4.1) L_thru (fun j15 => ?_)
        refine Av 5 [.o false (o5_21.drop 2), .c .ret] ⟨[(112, bB r1), (8, .ptr (.s 12895) 0), (0, nI y2)], [(.s 12895, [.d (.lst (List.map (enL (D.int .u8)) j15))])]⟩ ?_
        refine L_take 8 o5_21t2_10 (o5_21.drop 10) ?_
        refine L_join [.o false o5_21t2_10] [.o false (o5_21.drop 10), .c .ret] (fun x : Bool => ⟨[(120, bB x)], []⟩) ?_ (fun j16 => ?_)
        · refine L_split 112 decT (fun _ => ?_) (fun _ => ?_)
          · refine Av 2 [.o false (o5_21t2_10.drop 2)] ⟨[(114, .d (.lst (List.map (enL (D.int .u8)) j15))), (112, bB true), (0, nI y2)], []⟩ ?_
            refine L_len (enc := enL (D.int .u8)) (l := j15) rfl rfl ?_
            refine Av 6 [] ⟨[(120, bB ((j15.length : Int) == (IntKind.i64.wrap (2 + (IntKind.i64.wrap (2 * y2))))))], []⟩ ?_
            exact L_end
          · refine Av 9 [] ⟨[(120, bB false)], []⟩ ?_
            exact L_end
        · refine Avk 3 [] .ret ⟨[(6, bB j16)], []⟩ ?_
          exact L_ret
/-- thrum/store.Lay$1. -/
def en_store_Lay_1 (v : Bool) : PV := bB v
def o90_0 : List AOper := [mb 2 0 false]
def o90_1 : List AOper := [mv 3 100 0, ln 4 101 3, bc 5 102 .gtr 4 4096, mv 2 103 5]
def c90_4 : AC := .seq (.reg o90_0) (.seq (.reg o90_1) .ret)
theorem fn90 : fnA Try.prog 90 = some (6, [.t 2], c90_4) := by kernel_rfl
theorem ok_store_Lay_1 (a0 : List Int) : ∀ v, M_store_Lay_1 a0 = some v → EvF Try.prog 90 [.lst (List.map (D.int .i64) a0)] (en_store_Lay_1 v) := by
  intro v hv
  refine EvF_go fn90 (Nat.le_of_ble_eq_true rfl) ?_
  suffices h : Ok (M_store_Lay_1 a0) fun v => go Try.prog 6 (Fnl [.t 2] (en_store_Lay_1 v) []) [.c c90_4] .norm (initSt (List.map PV.d [.lst (List.map (D.int .i64) a0)]) []) from h v hv
  unfold M_store_Lay_1
  refine Av 7 [.o false (o90_1.drop 1), .c .ret] ⟨[(3, lI a0)], []⟩ ?_
  refine L_len (enc := D.int .i64) (l := a0) trivial rfl ?_
  refine Avk 4 [] .ret ⟨[(2, bB (decide ((a0.length : Int) > 4096)))], []⟩ ?_
  exact L_ret
/-- slices.IndexFunc[[][]int64,[]int64]. -/
def en_slices_IndexFunc_int64_int64_store_Lay_1 (v : Int) : PV := nI v
def o140_0 : List AOper := [mi 4 0 0]
def o140_1 : List AOper := [mv 6 100 0, ln 7 101 6, mi 8 102 0]
def o140_2 : List AOper := [bi 9 200 .lss 8 7]
def o140_3 : List AOper := [mv 10 300 8, mv 5 301 10]
def o140_4 : List AOper := [mv 11 400 1, mv 12 401 0, mv 13 402 5, ⟨some 14, none, 403, .idxA 1 (.t 12) (.t 13)⟩, ld 15 404 14, ⟨some 16, none, 405, .callv (.t 11) [.t 15]⟩]
def o140_5 : List AOper := [mv 17 500 5, mv 4 501 17]
def o140_6 : List AOper := [bc 18 600 .add 8 1, mv 8 601 18]
def o140_7 : List AOper := [mi 4 700 (-1)]
def c140_5 : AC := .cond (.t 9) .skip (.exit 0)
def c140_12 : AC := .cond (.t 16) (.seq (.reg o140_5) .ret) .skip
def c140_16 : AC := .reg o140_6
def c140_17 : AC := .seq (.block 1 (.seq (.reg o140_3) (.seq (.reg o140_4) c140_12))) c140_16
def c140_19 : AC := .seq (.reg o140_2) (.seq c140_5 c140_17)
def c140_21 : AC := .block 0 (.loop c140_19)
def c140_25 : AC := .seq (.reg o140_7) .ret
def c140_27 : AC := .seq (.reg o140_0) (.seq (.seq (.reg o140_1) c140_21) c140_25)
theorem fn140 : fnA Try.prog 140 = some (19, [.t 4], c140_27) := by kernel_rfl
def q_ok_slices_IndexFunc_int64_int64_store_Lay_1_l0_ok (a0 : List (List Int)) (x0 : Int) (v : (Sum Int Unit)) : Prop := (fun v => go Try.prog 19 (PostR (fun r => Fnl [.t 4] (en_slices_IndexFunc_int64_int64_store_Lay_1 r) []) (.exit 0) (fun x : Unit => ⟨[], []⟩) v) [.l c140_19] .norm ⟨[(8, nI x0), (7, nI (a0.length : Int)), (0, .d (.lst (List.map (enL (D.int .i64)) a0))), (1, .d (.clo (.func 90) [] []))], []⟩) v
theorem ok_slices_IndexFunc_int64_int64_store_Lay_1_l0_ok (a0 : List (List Int)) (x0 : Int) : Ok (M_slices_IndexFunc_int64_int64_store_Lay_1_l0 a0 x0) (q_ok_slices_IndexFunc_int64_int64_store_Lay_1_l0_ok a0 x0) := by
  refine M_slices_IndexFunc_int64_int64_store_Lay_1_l0.partial_correctness a0 (q_ok_slices_IndexFunc_int64_int64_store_Lay_1_l0_ok a0) ?_ x0
  clear x0
  intro f' IH x0
  refine okI ?_
  unfold q_ok_slices_IndexFunc_int64_int64_store_Lay_1_l0_ok at *
  refine Av 1 [.c c140_19, .l c140_19] ⟨[(8, nI x0), (7, nI (a0.length : Int)), (0, .d (.lst (List.map (enL (D.int .i64)) a0))), (1, .d (.clo (.func 90) [] []))], []⟩ ?_
  refine Av 5 [.c c140_5, .c c140_17, .l c140_19] ⟨[(9, bB (decide (x0 < (a0.length : Int)))), (8, nI x0), (7, nI (a0.length : Int)), (0, .d (.lst (List.map (enL (D.int .i64)) a0))), (1, .d (.clo (.func 90) [] []))], []⟩ ?_
  refine L_split 9 rfl (fun _ => ?_) (fun _ => ?_)
  · refine Av 14 [.o false (o140_4.drop 3), .c c140_12, .b 1, .c c140_16, .l c140_19] ⟨[(13, nI x0), (12, .d (.lst (List.map (enL (D.int .i64)) a0))), (11, .d (.clo (.func 90) [] [])), (5, nI x0), (8, nI x0), (7, nI (a0.length : Int)), (0, .d (.lst (List.map (enL (D.int .i64)) a0))), (1, .d (.clo (.func 90) [] []))], []⟩ ?_
    refine L_idxD (enc := enL (D.int .i64)) (l := a0) (iv := x0) trivial rfl rfl (fun _ => rfl) (fun hc403 => ?_)
    refine Av 1 [.o false (o140_4.drop 5), .c c140_12, .b 1, .c c140_16, .l c140_19] ⟨[(15, lI (at' a0 x0)), (11, .d (.clo (.func 90) [] [])), (5, nI x0), (8, nI x0), (7, nI (a0.length : Int)), (0, .d (.lst (List.map (enL (D.int .i64)) a0))), (1, .d (.clo (.func 90) [] []))], []⟩ ?_
    refine L_callv (ok_store_Lay_1 (at' a0 x0)) trivial (.inr ⟨_, _, rfl, rfl, rfl⟩) rfl rfl (fun _ => rfl) (fun _ => trivial) (fun r1 => ?_)
    refine Av 1 [.c c140_12, .b 1, .c c140_16, .l c140_19] ⟨[(16, bB r1), (5, nI x0), (8, nI x0), (7, nI (a0.length : Int)), (0, .d (.lst (List.map (enL (D.int .i64)) a0))), (1, .d (.clo (.func 90) [] []))], []⟩ ?_
    refine L_split 16 decT (fun _ => ?_) (fun _ => ?_)
    · refine Avk 10 [] .ret ⟨[(4, nI x0)], []⟩ ?_
      exact L_retR
    · refine Av 7 [.l c140_19] ⟨[(8, nI (IntKind.i64.wrap (x0 + 1))), (7, nI (a0.length : Int)), (0, .d (.lst (List.map (enL (D.int .i64)) a0))), (1, .d (.clo (.func 90) [] []))], []⟩ ?_
      exact L_again (IH (IntKind.i64.wrap (x0 + 1)))
  · refine Avk 4 [] (.exit 0) ⟨[], []⟩ ?_
    exact L_endR
theorem ok_slices_IndexFunc_int64_int64_store_Lay_1 (a0 : List (List Int)) : ∀ v, M_slices_IndexFunc_int64_int64_store_Lay_1 a0 = some v → EvF Try.prog 140 [.lst (List.map (enL (D.int .i64)) a0), .clo (.func 90) [] []] (en_slices_IndexFunc_int64_int64_store_Lay_1 v) := by
  intro v hv
  refine EvF_go fn140 (Nat.le_of_ble_eq_true rfl) ?_
  suffices h : Ok (M_slices_IndexFunc_int64_int64_store_Lay_1 a0) fun v => go Try.prog 19 (Fnl [.t 4] (en_slices_IndexFunc_int64_int64_store_Lay_1 v) []) [.c c140_27] .norm (initSt (List.map PV.d [.lst (List.map (enL (D.int .i64)) a0), .clo (.func 90) [] []]) []) from h v hv
  unfold M_slices_IndexFunc_int64_int64_store_Lay_1
  refine Av 8 [.o false (o140_1.drop 1), .c c140_21, .c c140_25] ⟨[(6, .d (.lst (List.map (enL (D.int .i64)) a0))), (0, .d (.lst (List.map (enL (D.int .i64)) a0))), (1, .d (.clo (.func 90) [] []))], []⟩ ?_
  refine L_len (enc := enL (D.int .i64)) (l := a0) trivial rfl ?_
  refine Av 4 [.l c140_19, .b 0, .c c140_25] ⟨[(8, nI 0), (7, nI (a0.length : Int)), (0, .d (.lst (List.map (enL (D.int .i64)) a0))), (1, .d (.clo (.func 90) [] []))], []⟩ ?_
  refine L_pieceR (fs := [.l c140_19]) (ks := [.b 0, .c c140_25]) (ok_slices_IndexFunc_int64_int64_store_Lay_1_l0_ok a0 0) L_thru (fun j2 => ?_)
  refine Avk 6 [] .ret ⟨[(4, nI (-1))], []⟩ ?_
  exact L_ret
end Go.Proofs.Ythhcgcaefjmekaa.Abs
