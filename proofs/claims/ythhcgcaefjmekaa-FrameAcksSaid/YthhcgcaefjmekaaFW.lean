/- Walks of functions, printed by a program. Conditions: none. -/
import Derived.Test.YthhcgcaefjmekaaProg
import Derived.Test.YthhcgcaefjmekaaFM
namespace Go.Proofs.Ythhcgcaefjmekaa.Abs
open Go Go.RowKit
set_option linter.unusedVariables false
set_option maxRecDepth 100000
open Z
/-- thrum/frame.Ack. -/
def en_frame_Ack (v : Int × Int × Int × Int × Int × Int × Int) : PV := .d (.agg [.int .i64 v.1, .int .i64 v.2.1, .int .i64 v.2.2.1, .int .i64 v.2.2.2.1, .int .i64 v.2.2.2.2.1, .lst [], .lst [], .int .i64 v.2.2.2.2.2.1, .int .i64 v.2.2.2.2.2.2, .lst [], .lst []])
def o59_0 : List AOper := [⟨some 4, none, 0, .alloc 53 11 [.int .i64 0, .int .i64 0, .int .i64 0, .int .i64 0, .int .i64 0, .lst [], .lst [], .int .i64 0, .int .i64 0, .lst [], .lst []]⟩]
def o59_1 : List AOper := [mv 5 100 0, mv 6 101 1, ⟨some 7, none, 102, .build [.int .i64 0, .int .i64 0, .int .i64 0, .int .i64 0, .int .i64 0, .lst [], .lst [], .int .i64 0, .int .i64 0, .lst [], .lst []] [(0, 1, .c (.d (.int .i64 2))), (1, 1, .t 5), (2, 1, .t 6)]⟩, ⟨none, none, 103, .store 11 (.t 4) (.t 7)⟩]
def c59_4 : AC := .seq (.reg o59_0) (.seq (.reg o59_1) .ret)
theorem fn59 : fnA Try.prog 59 = some (8, [.c 4 true 11], c59_4) := by kernel_rfl
theorem ok_frame_Ack (a0 : Int) (a1 : Int) : ∀ v, M_frame_Ack a0 a1 = some v → EvF Try.prog 59 [.int .i64 a0, .int .i64 a1] (en_frame_Ack v) := by
  intro v hv
  refine EvF_go fn59 (Nat.le_of_ble_eq_true rfl) ?_
  suffices h : Ok (M_frame_Ack a0 a1) fun v => go Try.prog 8 (Fnl [.c 4 true 11] (en_frame_Ack v) []) [.c c59_4] .norm (initSt (List.map PV.d [.int .i64 a0, .int .i64 a1]) []) from h v hv
  unfold M_frame_Ack
  refine Avk 12 [] .ret ⟨[(4, .ptr (.s 15) 0)], [(.s 15, [nI 2, nI a0, nI a1, nI 0, nI 0, .nils, .nils, nI 0, nI 0, .nils, .nils])]⟩ ?_
  exact L_ret
/-- thrum/index.measure. -/
def en_index_measure (v : Bool) : PV := bB v
def o152_0 : List AOper := [mb 2 0 false]
def o152_1 : List AOper := [mv 3 100 0, bc 4 101 .gtr 3 0, mv 5 102 4, gv 6 5 true 103 0, ⟨some 7, some (5, true), 104, .bin .leq .int (.t 6) (.c (.d (.int .i64 4096)))⟩, pk 8 105 5 7 false, mv 2 106 8]
def o152_1t3_6 : List AOper := (o152_1.drop 3).take 3
def c152_4 : AC := .seq (.reg o152_0) (.seq (.reg o152_1) .ret)
theorem fn152 : fnA Try.prog 152 = some (9, [.t 2], c152_4) := by kernel_rfl
theorem ok_index_measure (a0 : Int) : ∀ v, M_index_measure a0 = some v → EvF Try.prog 152 [.int .i64 a0] (en_index_measure v) := by
  intro v hv
  refine EvF_go fn152 (Nat.le_of_ble_eq_true rfl) ?_
  suffices h : Ok (M_index_measure a0) fun v => go Try.prog 9 (Fnl [.t 2] (en_index_measure v) []) [.c c152_4] .norm (initSt (List.map PV.d [.int .i64 a0]) []) from h v hv
  unfold M_index_measure
  refine Av 9 [.o false (o152_1.drop 3), .c .ret] ⟨[(5, bB (decide (a0 > 0))), (0, nI a0)], []⟩ ?_
  refine L_take 3 o152_1t3_6 (o152_1.drop 6) ?_
  refine L_join [.o false o152_1t3_6] [.o false (o152_1.drop 6), .c .ret] (fun x : Bool => ⟨[(8, bB x)], []⟩) ?_ (fun j1 => ?_)
  · refine L_split 5 rfl (fun _ => ?_) (fun _ => ?_)
    · refine Av 4 [] ⟨[(8, bB (decide (a0 ≤ 4096)))], []⟩ ?_
      exact L_end
    · refine Av 4 [] ⟨[(8, bB false)], []⟩ ?_
      exact L_end
  · refine Avk 3 [] .ret ⟨[(2, bB j1)], []⟩ ?_
    exact L_ret
/-- thrum/index.rises. -/
def en_index_rises (v : Bool) : PV := bB v
def o153_0 : List AOper := [mb 2 0 false]
def o153_1 : List AOper := [mi 3 100 1]
def o153_2 : List AOper := [mv 4 200 3, mv 5 201 0, ln 6 202 5, bi 7 203 .lss 4 6]
def o153_3 : List AOper := [mv 10 400 0, mv 11 401 3, bc 12 402 .sub 11 1, ⟨some 13, none, 403, .idxA 1 (.t 10) (.t 12)⟩, ld 14 404 13, mv 15 405 0, mv 16 406 3, ⟨some 17, none, 407, .idxA 1 (.t 15) (.t 16)⟩, ld 18 408 17, bi 19 409 .geq 14 18]
def o153_4 : List AOper := [mb 2 500 false]
def o153_5 : List AOper := [mv 8 300 3, bc 9 301 .add 8 1, mv 3 302 9]
def o153_6 : List AOper := [mb 2 600 true]
def c153_5 : AC := .cond (.t 7) .skip (.exit 0)
def c153_7 : AC := .draw [⟨mv 10 400 0, false, []⟩, ⟨mv 11 401 3, false, []⟩, ⟨bc 12 402 .sub 11 1, false, []⟩, ⟨⟨some 13, none, 403, .idxA 1 (.t 10) (.t 12)⟩, false, []⟩, ⟨ld 14 404 13, false, []⟩, ⟨mv 15 405 0, false, []⟩, ⟨mv 16 406 3, false, []⟩, ⟨⟨some 17, none, 407, .idxA 1 (.t 15) (.t 16)⟩, false, []⟩, ⟨ld 18 408 17, false, []⟩, ⟨bi 19 409 .geq 14 18, false, []⟩]
def c153_12 : AC := .cond (.t 19) (.seq (.reg o153_4) .ret) .skip
def c153_15 : AC := .reg o153_5
def c153_16 : AC := .seq (.block 1 (.seq c153_7 c153_12)) c153_15
def c153_17 : AC := .seq (.seq (.reg o153_2) c153_5) c153_16
def c153_23 : AC := .seq (.reg o153_6) .ret
def c153_25 : AC := .seq (.reg o153_0) (.seq (.seq (.reg o153_1) (.block 0 (.loop c153_17))) c153_23)
theorem fn153 : fnA Try.prog 153 = some (20, [.t 2], c153_25) := by kernel_rfl
def q_ok_index_rises_l0_ok (a0 : List Int) (x0 : Int) (v : (Sum Bool Unit)) : Prop := (fun v => go Try.prog 20 (PostR (fun r => Fnl [.t 2] (en_index_rises r) []) (.exit 0) (fun x : Unit => ⟨[], []⟩) v) [.l c153_17] .norm ⟨[(3, nI x0), (0, lI a0)], []⟩) v
theorem ok_index_rises_l0_ok (a0 : List Int) (x0 : Int) : Ok (M_index_rises_l0 a0 x0) (q_ok_index_rises_l0_ok a0 x0) := by
  refine M_index_rises_l0.partial_correctness a0 (q_ok_index_rises_l0_ok a0) ?_ x0
  clear x0
  intro f' IH x0
  refine okI ?_
  unfold q_ok_index_rises_l0_ok at *
  refine Av 1 [.c c153_17, .l c153_17] ⟨[(3, nI x0), (0, lI a0)], []⟩ ?_
  refine Av 5 [.o false (o153_2.drop 2), .c c153_5, .c c153_16, .l c153_17] ⟨[(5, lI a0), (4, nI x0), (3, nI x0), (0, lI a0)], []⟩ ?_
  refine L_len (enc := D.int .i64) (l := a0) trivial rfl ?_
  refine Av 2 [.c c153_5, .c c153_16, .l c153_17] ⟨[(7, bB (decide (x0 < (a0.length : Int)))), (3, nI x0), (0, lI a0)], []⟩ ?_
  refine L_split 7 rfl (fun _ => ?_) (fun _ => ?_)
  · refine Av 5 [.c c153_7, .c c153_12, .b 1, .c c153_15, .l c153_17] ⟨[(3, nI x0), (0, lI a0)], []⟩ ?_
    refine Ae 4 [.o true (o153_3.drop 3), .c c153_12, .b 1, .c c153_15, .l c153_17] ⟨[(12, nI (IntKind.i64.wrap (x0 - 1))), (11, nI x0), (10, lI a0), (3, nI x0), (0, lI a0)], []⟩ ?_
    refine L_idxD (enc := D.int .i64) (l := a0) (iv := IntKind.i64.wrap (x0 - 1)) trivial rfl rfl (fun _ => rfl) (fun hc403 => ?_)
    refine Ae 3 [.o true (o153_3.drop 7), .c c153_12, .b 1, .c c153_15, .l c153_17] ⟨[(16, nI x0), (15, lI a0), (14, nI (at' a0 (IntKind.i64.wrap (x0 - 1)))), (13, .d (.cp [.int .i64 (at' a0 (IntKind.i64.wrap (x0 - 1)))] 0)), (12, nI (IntKind.i64.wrap (x0 - 1))), (11, nI x0), (10, lI a0), (3, nI x0), (0, lI a0)], []⟩ ?_
    refine L_idxD (enc := D.int .i64) (l := a0) (iv := x0) trivial rfl rfl (fun _ => rfl) (fun hc407 => ?_)
    refine Av 3 [.c c153_12, .b 1, .c c153_15, .l c153_17] ⟨[(19, bB (decide ((at' a0 (IntKind.i64.wrap (x0 - 1))) ≥ (at' a0 x0)))), (3, nI x0), (0, lI a0)], []⟩ ?_
    refine L_split 19 rfl (fun _ => ?_) (fun _ => ?_)
    · refine Avk 9 [] .ret ⟨[(2, bB false)], []⟩ ?_
      exact L_retR
    · refine Av 8 [.l c153_17] ⟨[(3, nI (IntKind.i64.wrap (x0 + 1))), (0, lI a0)], []⟩ ?_
      exact L_again (IH (IntKind.i64.wrap (x0 + 1)))
  · refine Avk 4 [] (.exit 0) ⟨[], []⟩ ?_
    exact L_endR
theorem ok_index_rises (a0 : List Int) : ∀ v, M_index_rises a0 = some v → EvF Try.prog 153 [.lst (List.map (D.int .i64) a0)] (en_index_rises v) := by
  intro v hv
  refine EvF_go fn153 (Nat.le_of_ble_eq_true rfl) ?_
  suffices h : Ok (M_index_rises a0) fun v => go Try.prog 20 (Fnl [.t 2] (en_index_rises v) []) [.c c153_25] .norm (initSt (List.map PV.d [.lst (List.map (D.int .i64) a0)]) []) from h v hv
  unfold M_index_rises
  refine Av 11 [.l c153_17, .b 0, .c c153_23] ⟨[(3, nI 1), (0, lI a0)], []⟩ ?_
  refine L_pieceR (fs := [.l c153_17]) (ks := [.b 0, .c c153_23]) (ok_index_rises_l0_ok a0 1) L_thru (fun j1 => ?_)
  refine Avk 6 [] .ret ⟨[(2, bB true)], []⟩ ?_
  exact L_ret
/-- thrum/index.Check. -/
def en_index_Check (v : Int) : PV := nI v
def o106_0 : List AOper := [mi 4 0 0]
def o106_1 : List AOper := [mv 6 100 1, ln 7 101 6, mv 5 102 7]
def o106_2 : List AOper := [mv 8 200 0, cl' 9 201 152 [.t 8], ⟨some 10, none, 202, .un .not (.t 9)⟩, mv 11 203 10, gv 12 11 false 204 1, ⟨some 13, some (11, false), 205, .call 153 [.t 12]⟩, ⟨some 14, some (11, false), 206, .un .not (.t 13)⟩, pz 15 207 11 14 true, mv 16 208 15, gv 17 16 false 209 5, ⟨some 18, some (16, false), 210, .bin .gtr .int (.t 17) (.c (.d (.int .i64 0)))⟩, gv 19 16 false 211 18, gv 20 19 true 212 1, ⟨some 21, some (19, true), 213, .idxA 1 (.t 20) (.c (.d (.int .i64 0)))⟩, ⟨some 22, some (19, true), 214, .load false 1 (.t 21)⟩, ⟨some 23, some (19, true), 215, .bin .lss .int (.t 22) (.c (.d (.int .i64 0)))⟩, gv 24 19 true 216 23, gv 25 24 false 217 1, gv 26 24 false 218 5, ⟨some 27, some (24, false), 219, .bin .sub .int (.t 26) (.c (.d (.int .i64 1)))⟩, ⟨some 28, some (24, false), 220, .idxA 1 (.t 25) (.t 27)⟩, ⟨some 29, some (24, false), 221, .load false 1 (.t 28)⟩, gv 30 24 false 222 0, ⟨some 31, some (24, false), 223, .bin .geq .int (.t 29) (.t 30)⟩, ⟨some 32, some (19, true), 224, .pick (.t 24) (.c (.d (.bool true))) (.t 31)⟩, ⟨some 33, some (16, false), 225, .pick (.t 19) (.t 32) (.c (.d (.bool false)))⟩, pz 34 226 16 33 true]
def o106_3 : List AOper := [mi 4 300 1]
def o106_4 : List AOper := [mi 4 400 0]
def o106_2t4_8 : List AOper := (o106_2.drop 4).take 4
def c106_7 : AC := .cond (.t 34) (.seq (.reg o106_3) .ret) .skip
def c106_11 : AC := .seq (.reg o106_4) .ret
def c106_12 : AC := .seq (.seq (.reg o106_2) c106_7) c106_11
def c106_14 : AC := .seq (.reg o106_0) (.seq (.reg o106_1) c106_12)
theorem fn106 : fnA Try.prog 106 = some (35, [.t 4], c106_14) := by kernel_rfl
theorem ok_index_Check (a0 : Int) (a1 : List Int) : ∀ v, M_index_Check a0 a1 = some v → EvF Try.prog 106 [.int .i64 a0, .lst (List.map (D.int .i64) a1)] (en_index_Check v) := by
  intro v hv
  refine EvF_go fn106 (Nat.le_of_ble_eq_true rfl) ?_
  suffices h : Ok (M_index_Check a0 a1) fun v => go Try.prog 35 (Fnl [.t 4] (en_index_Check v) []) [.c c106_14] .norm (initSt (List.map PV.d [.int .i64 a0, .lst (List.map (D.int .i64) a1)]) []) from h v hv
  unfold M_index_Check
  refine Av 7 [.o false (o106_1.drop 1), .c c106_12] ⟨[(6, lI a1), (0, nI a0), (1, lI a1)], []⟩ ?_
  refine L_len (enc := D.int .i64) (l := a1) trivial rfl ?_
  refine Av 6 [.o false (o106_2.drop 1), .c c106_7, .c c106_11] ⟨[(8, nI a0), (5, nI (a1.length : Int)), (0, nI a0), (1, lI a1)], []⟩ ?_
  refine L_call (ok_index_measure a0) trivial rfl (fun _ => rfl) (fun _ => trivial) (fun r1 => ?_)
  refine Av 2 [.o false (o106_2.drop 4), .c c106_7, .c c106_11] ⟨[(11, bB (!r1)), (5, nI (a1.length : Int)), (0, nI a0), (1, lI a1)], []⟩ ?_
  refine L_take 4 o106_2t4_8 (o106_2.drop 8) ?_
  refine L_join [.o false o106_2t4_8] [.o false (o106_2.drop 8), .c c106_7, .c c106_11] (fun x : Bool => ⟨[(15, bB x), (5, nI (a1.length : Int)), (0, nI a0), (1, lI a1)], []⟩) ?_ (fun j3 => ?_)
  · refine L_split 11 decF (fun _ => ?_) (fun _ => ?_)
    · refine Av 5 [] ⟨[(15, bB true), (5, nI (a1.length : Int)), (0, nI a0), (1, lI a1)], []⟩ ?_
      exact L_end
    · refine Av 1 [.o false (o106_2t4_8.drop 1)] ⟨[(12, lI a1), (11, bB false), (5, nI (a1.length : Int)), (0, nI a0), (1, lI a1)], []⟩ ?_
      refine L_call (ok_index_rises a1) rfl rfl (fun _ => rfl) (fun _ => trivial) (fun r2 => ?_)
      refine Av 3 [] ⟨[(15, bB (!r2)), (5, nI (a1.length : Int)), (0, nI a0), (1, lI a1)], []⟩ ?_
      exact L_end
  · refine Av 1 [.o false (o106_2.drop 9), .c c106_7, .c c106_11] ⟨[(16, bB j3), (5, nI (a1.length : Int)), (0, nI a0), (1, lI a1)], []⟩ ?_
    refine L_split 16 decT (fun _ => ?_) (fun _ => ?_)
    · refine Avk 26 [] .ret ⟨[(4, nI 1)], []⟩ ?_
      exact L_ret
    · refine Av 3 [.o false (o106_2.drop 12), .c c106_7, .c c106_11] ⟨[(19, bB (decide ((a1.length : Int) > 0))), (16, bB false), (5, nI (a1.length : Int)), (0, nI a0), (1, lI a1)], []⟩ ?_
      refine L_split 19 rfl (fun _ => ?_) (fun _ => ?_)
      · refine Av 1 [.o false (o106_2.drop 13), .c c106_7, .c c106_11] ⟨[(20, lI a1), (19, bB true), (16, bB false), (5, nI (a1.length : Int)), (0, nI a0), (1, lI a1)], []⟩ ?_
        refine L_idxD (enc := D.int .i64) (l := a1) (iv := 0) rfl rfl rfl (fun _ => rfl) (fun hc213 => ?_)
        refine Av 3 [.o false (o106_2.drop 17), .c c106_7, .c c106_11] ⟨[(24, bB (decide ((at' a1 0) < 0))), (19, bB true), (16, bB false), (5, nI (a1.length : Int)), (0, nI a0), (1, lI a1)], []⟩ ?_
        refine L_split 24 rfl (fun _ => ?_) (fun _ => ?_)
        · refine Avk 18 [] .ret ⟨[(4, nI 1)], []⟩ ?_
          exact L_ret
        · refine Av 3 [.o false (o106_2.drop 20), .c c106_7, .c c106_11] ⟨[(27, nI (IntKind.i64.wrap ((a1.length : Int) - 1))), (24, bB false), (25, lI a1), (19, bB true), (16, bB false), (0, nI a0)], []⟩ ?_
          refine L_idxD (enc := D.int .i64) (l := a1) (iv := IntKind.i64.wrap ((a1.length : Int) - 1)) rfl rfl rfl (fun _ => rfl) (fun hc220 => ?_)
          refine Av 7 [.c c106_7, .c c106_11] ⟨[(34, bB (decide ((at' a1 (IntKind.i64.wrap ((a1.length : Int) - 1))) ≥ a0)))], []⟩ ?_
          refine L_split 34 rfl (fun _ => ?_) (fun _ => ?_)
          · refine Avk 7 [] .ret ⟨[(4, nI 1)], []⟩ ?_
            exact L_ret
          · refine Avk 7 [] .ret ⟨[(4, nI 0)], []⟩ ?_
            exact L_ret
      · refine Avk 23 [] .ret ⟨[(4, nI 0)], []⟩ ?_
        exact L_ret
/-- math/bits.Len64. -/
def en_math_bits_Len64 (v : Int) : PV := nI v
def o171_0 : List AOper := [mi 2 0 0]
def o171_1 : List AOper := [mv 3 100 0, ⟨some 4, none, 101, .bin .geq .int (.t 3) (.c (.d (.int .u64 4294967296)))⟩]
def o171_2 : List AOper := [mv 5 200 0, ⟨some 6, none, 201, .bin .shr .int (.t 5) (.c (.d (.int .u64 32)))⟩, mv 0 202 6]
def o171_3 : List AOper := [mi 2 300 32]
def o171_4 : List AOper := [mv 7 400 0, ⟨some 8, none, 401, .bin .geq .int (.t 7) (.c (.d (.int .u64 65536)))⟩]
def o171_5 : List AOper := [mv 9 500 0, ⟨some 10, none, 501, .bin .shr .int (.t 9) (.c (.d (.int .u64 16)))⟩, mv 0 502 10]
def o171_6 : List AOper := [mv 11 600 2, bc 12 601 .add 11 16, mv 2 602 12]
def o171_7 : List AOper := [mv 13 700 0, ⟨some 14, none, 701, .bin .geq .int (.t 13) (.c (.d (.int .u64 256)))⟩]
def o171_8 : List AOper := [mv 15 800 0, ⟨some 16, none, 801, .bin .shr .int (.t 15) (.c (.d (.int .u64 8)))⟩, mv 0 802 16]
def o171_9 : List AOper := [mv 17 900 2, bc 18 901 .add 17 8, mv 2 902 18]
def o171_10 : List AOper := [mv 19 1000 2, mv 20 1001 0, ⟨some 21, none, 1002, .convI .u8 (.t 20)⟩, ⟨some 22, none, 1003, .idxS (.c (.d (.str (ByteArray.mk #[0, 1, 2, 2, 3, 3, 3, 3, 4, 4, 4, 4, 4, 4, 4, 4, 5, 5, 5, 5, 5, 5, 5, 5, 5, 5, 5, 5, 5, 5, 5, 5, 6, 6, 6, 6, 6, 6, 6, 6, 6, 6, 6, 6, 6, 6, 6, 6, 6, 6, 6, 6, 6, 6, 6, 6, 6, 6, 6, 6, 6, 6, 6, 6, 7, 7, 7, 7, 7, 7, 7, 7, 7, 7, 7, 7, 7, 7, 7, 7, 7, 7, 7, 7, 7, 7, 7, 7, 7, 7, 7, 7, 7, 7, 7, 7, 7, 7, 7, 7, 7, 7, 7, 7, 7, 7, 7, 7, 7, 7, 7, 7, 7, 7, 7, 7, 7, 7, 7, 7, 7, 7, 7, 7, 7, 7, 7, 7, 8, 8, 8, 8, 8, 8, 8, 8, 8, 8, 8, 8, 8, 8, 8, 8, 8, 8, 8, 8, 8, 8, 8, 8, 8, 8, 8, 8, 8, 8, 8, 8, 8, 8, 8, 8, 8, 8, 8, 8, 8, 8, 8, 8, 8, 8, 8, 8, 8, 8, 8, 8, 8, 8, 8, 8, 8, 8, 8, 8, 8, 8, 8, 8, 8, 8, 8, 8, 8, 8, 8, 8, 8, 8, 8, 8, 8, 8, 8, 8, 8, 8, 8, 8, 8, 8, 8, 8, 8, 8, 8, 8, 8, 8, 8, 8, 8, 8, 8, 8, 8, 8, 8, 8, 8, 8, 8, 8, 8, 8, 8, 8, 8, 8, 8, 8, 8, 8, 8, 8, 8, 8, 8, 8, 8, 8, 8, 8])))) (.t 21)⟩, ⟨some 23, none, 1004, .convI .i64 (.t 22)⟩, bi 24 1005 .add 19 23, mv 2 1006 24]
def c171_6 : AC := .cond (.t 4) (.seq (.reg o171_2) (.reg o171_3)) .skip
def c171_13 : AC := .cond (.t 8) (.seq (.reg o171_5) (.reg o171_6)) .skip
def c171_20 : AC := .cond (.t 14) (.seq (.reg o171_8) (.reg o171_9)) .skip
def c171_24 : AC := .seq (.reg o171_10) .ret
def c171_25 : AC := .seq (.seq (.reg o171_7) c171_20) c171_24
def c171_26 : AC := .seq (.seq (.reg o171_4) c171_13) c171_25
def c171_28 : AC := .seq (.reg o171_0) (.seq (.seq (.reg o171_1) c171_6) c171_26)
theorem fn171 : fnA Try.prog 171 = some (25, [.t 2], c171_28) := by kernel_rfl
theorem ok_math_bits_Len64 (a0 : Int) : ∀ v, M_math_bits_Len64 a0 = some v → EvF Try.prog 171 [.int .u64 a0] (en_math_bits_Len64 v) := by
  intro v hv
  refine EvF_go fn171 (Nat.le_of_ble_eq_true rfl) ?_
  suffices h : Ok (M_math_bits_Len64 a0) fun v => go Try.prog 25 (Fnl [.t 2] (en_math_bits_Len64 v) []) [.c c171_28] .norm (initSt (List.map PV.d [.int .u64 a0]) []) from h v hv
  unfold M_math_bits_Len64
  refine Av 10 [.c c171_6, .c c171_26] ⟨[(4, bB (decide (a0 ≥ 4294967296))), (2, nI 0), (0, nU a0)], []⟩ ?_
  refine L_join [.c c171_6] [.c c171_26] (fun x : Int × Int => ⟨[(2, nI x.1), (0, nU x.2)], []⟩) ?_ (fun j1 => ?_)
  · refine L_split 4 rfl (fun _ => ?_) (fun _ => ?_)
    · refine Av 10 [] ⟨[(2, nI 32), (0, nU (sShr .u64 a0 32))], []⟩ ?_
      exact L_end
    · refine Av 2 [] ⟨[(2, nI 0), (0, nU a0)], []⟩ ?_
      exact L_end
  · refine Av 6 [.c c171_13, .c c171_25] ⟨[(8, bB (decide (j1.2 ≥ 65536))), (2, nI j1.1), (0, nU j1.2)], []⟩ ?_
    refine L_join [.c c171_13] [.c c171_25] (fun x : Int × Int => ⟨[(2, nI x.1), (0, nU x.2)], []⟩) ?_ (fun j2 => ?_)
    · refine L_split 8 rfl (fun _ => ?_) (fun _ => ?_)
      · refine Av 12 [] ⟨[(2, nI (IntKind.i64.wrap (j1.1 + 16))), (0, nU (sShr .u64 j1.2 16))], []⟩ ?_
        exact L_end
      · refine Av 2 [] ⟨[(2, nI j1.1), (0, nU j1.2)], []⟩ ?_
        exact L_end
    · refine Av 6 [.c c171_20, .c c171_24] ⟨[(14, bB (decide (j2.2 ≥ 256))), (2, nI j2.1), (0, nU j2.2)], []⟩ ?_
      refine L_split 14 rfl (fun _ => ?_) (fun _ => ?_)
      · refine Av 17 [.o false (o171_10.drop 3), .c .ret] ⟨[(21, nY (IntKind.u8.wrap (sShr .u64 j2.2 8))), (19, nI (IntKind.i64.wrap (j2.1 + 8)))], []⟩ ?_
        refine L_rd (c := 0 ≤ (IntKind.u8.wrap (sShr .u64 j2.2 8)) ∧ (IntKind.u8.wrap (sShr .u64 j2.2 8)) < ((ByteArray.mk #[0, 1, 2, 2, 3, 3, 3, 3, 4, 4, 4, 4, 4, 4, 4, 4, 5, 5, 5, 5, 5, 5, 5, 5, 5, 5, 5, 5, 5, 5, 5, 5, 6, 6, 6, 6, 6, 6, 6, 6, 6, 6, 6, 6, 6, 6, 6, 6, 6, 6, 6, 6, 6, 6, 6, 6, 6, 6, 6, 6, 6, 6, 6, 6, 7, 7, 7, 7, 7, 7, 7, 7, 7, 7, 7, 7, 7, 7, 7, 7, 7, 7, 7, 7, 7, 7, 7, 7, 7, 7, 7, 7, 7, 7, 7, 7, 7, 7, 7, 7, 7, 7, 7, 7, 7, 7, 7, 7, 7, 7, 7, 7, 7, 7, 7, 7, 7, 7, 7, 7, 7, 7, 7, 7, 7, 7, 7, 7, 8, 8, 8, 8, 8, 8, 8, 8, 8, 8, 8, 8, 8, 8, 8, 8, 8, 8, 8, 8, 8, 8, 8, 8, 8, 8, 8, 8, 8, 8, 8, 8, 8, 8, 8, 8, 8, 8, 8, 8, 8, 8, 8, 8, 8, 8, 8, 8, 8, 8, 8, 8, 8, 8, 8, 8, 8, 8, 8, 8, 8, 8, 8, 8, 8, 8, 8, 8, 8, 8, 8, 8, 8, 8, 8, 8, 8, 8, 8, 8, 8, 8, 8, 8, 8, 8, 8, 8, 8, 8, 8, 8, 8, 8, 8, 8, 8, 8, 8, 8, 8, 8, 8, 8, 8, 8, 8, 8, 8, 8, 8, 8, 8, 8, 8, 8, 8, 8, 8, 8, 8, 8, 8, 8, 8, 8, 8, 8]).size : Int)) (v := nY (((ByteArray.mk #[0, 1, 2, 2, 3, 3, 3, 3, 4, 4, 4, 4, 4, 4, 4, 4, 5, 5, 5, 5, 5, 5, 5, 5, 5, 5, 5, 5, 5, 5, 5, 5, 6, 6, 6, 6, 6, 6, 6, 6, 6, 6, 6, 6, 6, 6, 6, 6, 6, 6, 6, 6, 6, 6, 6, 6, 6, 6, 6, 6, 6, 6, 6, 6, 7, 7, 7, 7, 7, 7, 7, 7, 7, 7, 7, 7, 7, 7, 7, 7, 7, 7, 7, 7, 7, 7, 7, 7, 7, 7, 7, 7, 7, 7, 7, 7, 7, 7, 7, 7, 7, 7, 7, 7, 7, 7, 7, 7, 7, 7, 7, 7, 7, 7, 7, 7, 7, 7, 7, 7, 7, 7, 7, 7, 7, 7, 7, 7, 8, 8, 8, 8, 8, 8, 8, 8, 8, 8, 8, 8, 8, 8, 8, 8, 8, 8, 8, 8, 8, 8, 8, 8, 8, 8, 8, 8, 8, 8, 8, 8, 8, 8, 8, 8, 8, 8, 8, 8, 8, 8, 8, 8, 8, 8, 8, 8, 8, 8, 8, 8, 8, 8, 8, 8, 8, 8, 8, 8, 8, 8, 8, 8, 8, 8, 8, 8, 8, 8, 8, 8, 8, 8, 8, 8, 8, 8, 8, 8, 8, 8, 8, 8, 8, 8, 8, 8, 8, 8, 8, 8, 8, 8, 8, 8, 8, 8, 8, 8, 8, 8, 8, 8, 8, 8, 8, 8, 8, 8, 8, 8, 8, 8, 8, 8, 8, 8, 8, 8, 8, 8, 8, 8, 8, 8, 8, 8]).data.getD (Int.toNat (IntKind.u8.wrap (sShr .u64 j2.2 8))) 0).toNat : Int)) trivial rfl (fun _ => ?_)
        refine Avk 5 [] .ret ⟨[(2, nI (IntKind.i64.wrap ((IntKind.i64.wrap (j2.1 + 8)) + (IntKind.i64.wrap (((ByteArray.mk #[0, 1, 2, 2, 3, 3, 3, 3, 4, 4, 4, 4, 4, 4, 4, 4, 5, 5, 5, 5, 5, 5, 5, 5, 5, 5, 5, 5, 5, 5, 5, 5, 6, 6, 6, 6, 6, 6, 6, 6, 6, 6, 6, 6, 6, 6, 6, 6, 6, 6, 6, 6, 6, 6, 6, 6, 6, 6, 6, 6, 6, 6, 6, 6, 7, 7, 7, 7, 7, 7, 7, 7, 7, 7, 7, 7, 7, 7, 7, 7, 7, 7, 7, 7, 7, 7, 7, 7, 7, 7, 7, 7, 7, 7, 7, 7, 7, 7, 7, 7, 7, 7, 7, 7, 7, 7, 7, 7, 7, 7, 7, 7, 7, 7, 7, 7, 7, 7, 7, 7, 7, 7, 7, 7, 7, 7, 7, 7, 8, 8, 8, 8, 8, 8, 8, 8, 8, 8, 8, 8, 8, 8, 8, 8, 8, 8, 8, 8, 8, 8, 8, 8, 8, 8, 8, 8, 8, 8, 8, 8, 8, 8, 8, 8, 8, 8, 8, 8, 8, 8, 8, 8, 8, 8, 8, 8, 8, 8, 8, 8, 8, 8, 8, 8, 8, 8, 8, 8, 8, 8, 8, 8, 8, 8, 8, 8, 8, 8, 8, 8, 8, 8, 8, 8, 8, 8, 8, 8, 8, 8, 8, 8, 8, 8, 8, 8, 8, 8, 8, 8, 8, 8, 8, 8, 8, 8, 8, 8, 8, 8, 8, 8, 8, 8, 8, 8, 8, 8, 8, 8, 8, 8, 8, 8, 8, 8, 8, 8, 8, 8, 8, 8, 8, 8, 8, 8]).data.getD (Int.toNat (IntKind.u8.wrap (sShr .u64 j2.2 8))) 0).toNat : Int)))))], []⟩ ?_
        exact L_ret
      · refine Av 7 [.o false (o171_10.drop 3), .c .ret] ⟨[(21, nY (IntKind.u8.wrap j2.2)), (19, nI j2.1)], []⟩ ?_
        refine L_rd (c := 0 ≤ (IntKind.u8.wrap j2.2) ∧ (IntKind.u8.wrap j2.2) < ((ByteArray.mk #[0, 1, 2, 2, 3, 3, 3, 3, 4, 4, 4, 4, 4, 4, 4, 4, 5, 5, 5, 5, 5, 5, 5, 5, 5, 5, 5, 5, 5, 5, 5, 5, 6, 6, 6, 6, 6, 6, 6, 6, 6, 6, 6, 6, 6, 6, 6, 6, 6, 6, 6, 6, 6, 6, 6, 6, 6, 6, 6, 6, 6, 6, 6, 6, 7, 7, 7, 7, 7, 7, 7, 7, 7, 7, 7, 7, 7, 7, 7, 7, 7, 7, 7, 7, 7, 7, 7, 7, 7, 7, 7, 7, 7, 7, 7, 7, 7, 7, 7, 7, 7, 7, 7, 7, 7, 7, 7, 7, 7, 7, 7, 7, 7, 7, 7, 7, 7, 7, 7, 7, 7, 7, 7, 7, 7, 7, 7, 7, 8, 8, 8, 8, 8, 8, 8, 8, 8, 8, 8, 8, 8, 8, 8, 8, 8, 8, 8, 8, 8, 8, 8, 8, 8, 8, 8, 8, 8, 8, 8, 8, 8, 8, 8, 8, 8, 8, 8, 8, 8, 8, 8, 8, 8, 8, 8, 8, 8, 8, 8, 8, 8, 8, 8, 8, 8, 8, 8, 8, 8, 8, 8, 8, 8, 8, 8, 8, 8, 8, 8, 8, 8, 8, 8, 8, 8, 8, 8, 8, 8, 8, 8, 8, 8, 8, 8, 8, 8, 8, 8, 8, 8, 8, 8, 8, 8, 8, 8, 8, 8, 8, 8, 8, 8, 8, 8, 8, 8, 8, 8, 8, 8, 8, 8, 8, 8, 8, 8, 8, 8, 8, 8, 8, 8, 8, 8, 8]).size : Int)) (v := nY (((ByteArray.mk #[0, 1, 2, 2, 3, 3, 3, 3, 4, 4, 4, 4, 4, 4, 4, 4, 5, 5, 5, 5, 5, 5, 5, 5, 5, 5, 5, 5, 5, 5, 5, 5, 6, 6, 6, 6, 6, 6, 6, 6, 6, 6, 6, 6, 6, 6, 6, 6, 6, 6, 6, 6, 6, 6, 6, 6, 6, 6, 6, 6, 6, 6, 6, 6, 7, 7, 7, 7, 7, 7, 7, 7, 7, 7, 7, 7, 7, 7, 7, 7, 7, 7, 7, 7, 7, 7, 7, 7, 7, 7, 7, 7, 7, 7, 7, 7, 7, 7, 7, 7, 7, 7, 7, 7, 7, 7, 7, 7, 7, 7, 7, 7, 7, 7, 7, 7, 7, 7, 7, 7, 7, 7, 7, 7, 7, 7, 7, 7, 8, 8, 8, 8, 8, 8, 8, 8, 8, 8, 8, 8, 8, 8, 8, 8, 8, 8, 8, 8, 8, 8, 8, 8, 8, 8, 8, 8, 8, 8, 8, 8, 8, 8, 8, 8, 8, 8, 8, 8, 8, 8, 8, 8, 8, 8, 8, 8, 8, 8, 8, 8, 8, 8, 8, 8, 8, 8, 8, 8, 8, 8, 8, 8, 8, 8, 8, 8, 8, 8, 8, 8, 8, 8, 8, 8, 8, 8, 8, 8, 8, 8, 8, 8, 8, 8, 8, 8, 8, 8, 8, 8, 8, 8, 8, 8, 8, 8, 8, 8, 8, 8, 8, 8, 8, 8, 8, 8, 8, 8, 8, 8, 8, 8, 8, 8, 8, 8, 8, 8, 8, 8, 8, 8, 8, 8, 8, 8]).data.getD (Int.toNat (IntKind.u8.wrap j2.2)) 0).toNat : Int)) trivial rfl (fun _ => ?_)
        refine Avk 5 [] .ret ⟨[(2, nI (IntKind.i64.wrap (j2.1 + (IntKind.i64.wrap (((ByteArray.mk #[0, 1, 2, 2, 3, 3, 3, 3, 4, 4, 4, 4, 4, 4, 4, 4, 5, 5, 5, 5, 5, 5, 5, 5, 5, 5, 5, 5, 5, 5, 5, 5, 6, 6, 6, 6, 6, 6, 6, 6, 6, 6, 6, 6, 6, 6, 6, 6, 6, 6, 6, 6, 6, 6, 6, 6, 6, 6, 6, 6, 6, 6, 6, 6, 7, 7, 7, 7, 7, 7, 7, 7, 7, 7, 7, 7, 7, 7, 7, 7, 7, 7, 7, 7, 7, 7, 7, 7, 7, 7, 7, 7, 7, 7, 7, 7, 7, 7, 7, 7, 7, 7, 7, 7, 7, 7, 7, 7, 7, 7, 7, 7, 7, 7, 7, 7, 7, 7, 7, 7, 7, 7, 7, 7, 7, 7, 7, 7, 8, 8, 8, 8, 8, 8, 8, 8, 8, 8, 8, 8, 8, 8, 8, 8, 8, 8, 8, 8, 8, 8, 8, 8, 8, 8, 8, 8, 8, 8, 8, 8, 8, 8, 8, 8, 8, 8, 8, 8, 8, 8, 8, 8, 8, 8, 8, 8, 8, 8, 8, 8, 8, 8, 8, 8, 8, 8, 8, 8, 8, 8, 8, 8, 8, 8, 8, 8, 8, 8, 8, 8, 8, 8, 8, 8, 8, 8, 8, 8, 8, 8, 8, 8, 8, 8, 8, 8, 8, 8, 8, 8, 8, 8, 8, 8, 8, 8, 8, 8, 8, 8, 8, 8, 8, 8, 8, 8, 8, 8, 8, 8, 8, 8, 8, 8, 8, 8, 8, 8, 8, 8, 8, 8, 8, 8, 8, 8]).data.getD (Int.toNat (IntKind.u8.wrap j2.2)) 0).toNat : Int)))))], []⟩ ?_
        exact L_ret
/-- thrum/plane.Width. -/
def en_plane_Width (v : Int) : PV := nI v
def o133_0 : List AOper := [mi 2 0 0]
def o133_1 : List AOper := [mv 3 100 0, cl' 4 101 171 [.t 3], mv 2 102 4]
def c133_4 : AC := .seq (.reg o133_0) (.seq (.reg o133_1) .ret)
theorem fn133 : fnA Try.prog 133 = some (5, [.t 2], c133_4) := by kernel_rfl
theorem ok_plane_Width (a0 : Int) : ∀ v, M_plane_Width a0 = some v → EvF Try.prog 133 [.int .u64 a0] (en_plane_Width v) := by
  intro v hv
  refine EvF_go fn133 (Nat.le_of_ble_eq_true rfl) ?_
  suffices h : Ok (M_plane_Width a0) fun v => go Try.prog 5 (Fnl [.t 2] (en_plane_Width v) []) [.c c133_4] .norm (initSt (List.map PV.d [.int .u64 a0]) []) from h v hv
  unfold M_plane_Width
  refine Av 7 [.o false (o133_1.drop 1), .c .ret] ⟨[(3, nU a0)], []⟩ ?_
  refine L_call (ok_math_bits_Len64 a0) trivial rfl (fun _ => rfl) (fun _ => trivial) (fun r1 => ?_)
  refine Avk 3 [] .ret ⟨[(2, nI r1)], []⟩ ?_
  exact L_ret
/-- thrum/frame.bare$1. -/
def en_frame_bare_1_c (v : Bool) : PV := bB v
def o132_0 : List AOper := [mb 3 0 false]
def o132_1 : List AOper := [mv 4 100 0, ⟨some 6, none, 102, .fieldA 5 (.t 1)⟩, ld 7 103 6, cl' 5 101 133 [.t 4], bi 8 104 .gtr 5 7, mv 3 105 8]
def o132_1g0 : List AOper := [mv 4 100 0, ⟨some 6, none, 102, .fieldA 5 (.t 1)⟩, ld 7 103 6, cl' 5 101 133 [.t 4]]
def h132_1g0 : List AOper := [⟨some 6, none, 102, .fieldA 5 (.t 1)⟩, ld 7 103 6]
def o132_1g1 : List AOper := [bi 8 104 .gtr 5 7, mv 3 105 8]
def c132_1 : AC := .draw [⟨mv 4 100 0, false, []⟩, ⟨⟨some 6, none, 102, .fieldA 5 (.t 1)⟩, false, []⟩, ⟨ld 7 103 6, false, []⟩, ⟨cl' 5 101 133 [.t 4], true, [⟨some 6, none, 102, .fieldA 5 (.t 1)⟩, ld 7 103 6]⟩, ⟨bi 8 104 .gtr 5 7, false, []⟩, ⟨mv 3 105 8, false, []⟩]
def c132_4 : AC := .seq (.reg o132_0) (.seq c132_1 .ret)
theorem fn132 : fnA Try.prog 132 = some (9, [.t 3], c132_4) := by kernel_rfl
theorem ok_frame_bare_1_c (a0 : Int) (a1 : Int) (a2 : Int) (a3 : List Int) (a4 : List Int) (a5 : Int) (a6 : Int) (a7 : List Int) (a8 : List Bool) : ∀ v, M_frame_bare_1_c a0 a1 a2 a3 a4 a5 a6 a7 a8 = some v → EvF Try.prog 132 [.int .u64 a0, .cp [.int .i64 a1, .int .i64 a2, .lst (List.map (D.int .i64) a3), .lst (List.map (D.int .i64) a4), .int .i64 a5, .int .i64 a6, .lst (List.map (D.int .u64) a7), .lst (List.map D.bool a8)] 0] (en_frame_bare_1_c v) := by
  intro v hv
  refine EvF_go fn132 (Nat.le_of_ble_eq_true rfl) ?_
  suffices h : Ok (M_frame_bare_1_c a0 a1 a2 a3 a4 a5 a6 a7 a8) fun v => go Try.prog 9 (Fnl [.t 3] (en_frame_bare_1_c v) []) [.c c132_4] .norm (initSt (List.map PV.d [.int .u64 a0, .cp [.int .i64 a1, .int .i64 a2, .lst (List.map (D.int .i64) a3), .lst (List.map (D.int .i64) a4), .int .i64 a5, .int .i64 a6, .lst (List.map (D.int .u64) a7), .lst (List.map D.bool a8)] 0]) []) from h v hv
  unfold M_frame_bare_1_c
  refine Av 5 [.c c132_1, .c .ret] ⟨[(0, nU a0), (1, .d (.cp [.int .i64 a1, .int .i64 a2, .lst (List.map (D.int .i64) a3), .lst (List.map (D.int .i64) a4), .int .i64 a5, .int .i64 a6, .lst (List.map (D.int .u64) a7), .lst (List.map D.bool a8)] 0))], []⟩ ?_
  refine Ae 4 [.o true (o132_1g0.drop 3), .h h132_1g0, .o true o132_1g1, .h [], .c .ret] ⟨[(7, nI a6), (6, .d (.cp [.int .i64 a1, .int .i64 a2, .lst (List.map (D.int .i64) a3), .lst (List.map (D.int .i64) a4), .int .i64 a5, .int .i64 a6, .lst (List.map (D.int .u64) a7), .lst (List.map D.bool a8)] 5)), (4, nU a0), (0, nU a0), (1, .d (.cp [.int .i64 a1, .int .i64 a2, .lst (List.map (D.int .i64) a3), .lst (List.map (D.int .i64) a4), .int .i64 a5, .int .i64 a6, .lst (List.map (D.int .u64) a7), .lst (List.map D.bool a8)] 0))], []⟩ ?_
  refine L_call (ok_plane_Width a0) trivial rfl (fun _ => rfl) (fun _ => trivial) (fun r1 => ?_)
  refine Ae 1 [.h h132_1g0, .o true o132_1g1, .h [], .c .ret] ⟨[(5, nI r1), (7, nI a6), (6, .d (.cp [.int .i64 a1, .int .i64 a2, .lst (List.map (D.int .i64) a3), .lst (List.map (D.int .i64) a4), .int .i64 a5, .int .i64 a6, .lst (List.map (D.int .u64) a7), .lst (List.map D.bool a8)] 5)), (4, nU a0), (0, nU a0), (1, .d (.cp [.int .i64 a1, .int .i64 a2, .lst (List.map (D.int .i64) a3), .lst (List.map (D.int .i64) a4), .int .i64 a5, .int .i64 a6, .lst (List.map (D.int .u64) a7), .lst (List.map D.bool a8)] 0))], []⟩ ?_
  refine L_hold ⟨hC (.d (.cp [.int .i64 a1, .int .i64 a2, .lst (List.map (D.int .i64) a3), .lst (List.map (D.int .i64) a4), .int .i64 a5, .int .i64 a6, .lst (List.map (D.int .u64) a7), .lst (List.map D.bool a8)] 5)) trivial, hC (nI a6) trivial, trivial⟩ ?_
  refine Avk 5 [] .ret ⟨[(3, bB (decide (r1 > a6)))], []⟩ ?_
  exact L_ret
/-- slices.IndexFunc[[]uint64,uint64]. -/
def en_slices_IndexFunc_uint64_uint64_frame_bare_1 (v : Int) : PV := nI v
def o170_0 : List AOper := [mi 4 0 0]
def o170_1 : List AOper := [mv 6 100 0, ln 7 101 6, mi 8 102 0]
def o170_2 : List AOper := [bi 9 200 .lss 8 7]
def o170_3 : List AOper := [mv 10 300 8, mv 5 301 10]
def o170_4 : List AOper := [mv 11 400 1, mv 12 401 0, mv 13 402 5, ⟨some 14, none, 403, .idxA 1 (.t 12) (.t 13)⟩, ld 15 404 14, ⟨some 16, none, 405, .callv (.t 11) [.t 15]⟩]
def o170_5 : List AOper := [mv 17 500 5, mv 4 501 17]
def o170_6 : List AOper := [bc 18 600 .add 8 1, mv 8 601 18]
def o170_7 : List AOper := [mi 4 700 (-1)]
def c170_5 : AC := .cond (.t 9) .skip (.exit 0)
def c170_12 : AC := .cond (.t 16) (.seq (.reg o170_5) .ret) .skip
def c170_16 : AC := .reg o170_6
def c170_17 : AC := .seq (.block 1 (.seq (.reg o170_3) (.seq (.reg o170_4) c170_12))) c170_16
def c170_19 : AC := .seq (.reg o170_2) (.seq c170_5 c170_17)
def c170_21 : AC := .block 0 (.loop c170_19)
def c170_25 : AC := .seq (.reg o170_7) .ret
def c170_27 : AC := .seq (.reg o170_0) (.seq (.seq (.reg o170_1) c170_21) c170_25)
theorem fn170 : fnA Try.prog 170 = some (19, [.t 4], c170_27) := by kernel_rfl
def q_ok_slices_IndexFunc_uint64_uint64_frame_bare_1_l0_ok (a0 : List Int) (a1 : Int) (a2 : Int) (a3 : List Int) (a4 : List Int) (a5 : Int) (a6 : Int) (a7 : List Int) (a8 : List Bool) (x0 : Int) (v : (Sum Int Unit)) : Prop := (fun v => go Try.prog 19 (PostR (fun r => Fnl [.t 4] (en_slices_IndexFunc_uint64_uint64_frame_bare_1 r) []) (.exit 0) (fun x : Unit => ⟨[], []⟩) v) [.l c170_19] .norm ⟨[(8, nI x0), (7, nI (a0.length : Int)), (0, lU a0), (1, .d (.clo (.func 132) [] [.cp [.int .i64 a1, .int .i64 a2, .lst (List.map (D.int .i64) a3), .lst (List.map (D.int .i64) a4), .int .i64 a5, .int .i64 a6, .lst (List.map (D.int .u64) a7), .lst (List.map D.bool a8)] 0]))], []⟩) v
theorem ok_slices_IndexFunc_uint64_uint64_frame_bare_1_l0_ok (a0 : List Int) (a1 : Int) (a2 : Int) (a3 : List Int) (a4 : List Int) (a5 : Int) (a6 : Int) (a7 : List Int) (a8 : List Bool) (x0 : Int) : Ok (M_slices_IndexFunc_uint64_uint64_frame_bare_1_l0 a0 a1 a2 a3 a4 a5 a6 a7 a8 x0) (q_ok_slices_IndexFunc_uint64_uint64_frame_bare_1_l0_ok a0 a1 a2 a3 a4 a5 a6 a7 a8 x0) := by
  refine M_slices_IndexFunc_uint64_uint64_frame_bare_1_l0.partial_correctness a0 a1 a2 a3 a4 a5 a6 a7 a8 (q_ok_slices_IndexFunc_uint64_uint64_frame_bare_1_l0_ok a0 a1 a2 a3 a4 a5 a6 a7 a8) ?_ x0
  clear x0
  intro f' IH x0
  refine okI ?_
  unfold q_ok_slices_IndexFunc_uint64_uint64_frame_bare_1_l0_ok at *
  refine Av 1 [.c c170_19, .l c170_19] ⟨[(8, nI x0), (7, nI (a0.length : Int)), (0, lU a0), (1, .d (.clo (.func 132) [] [.cp [.int .i64 a1, .int .i64 a2, .lst (List.map (D.int .i64) a3), .lst (List.map (D.int .i64) a4), .int .i64 a5, .int .i64 a6, .lst (List.map (D.int .u64) a7), .lst (List.map D.bool a8)] 0]))], []⟩ ?_
  refine Av 5 [.c c170_5, .c c170_17, .l c170_19] ⟨[(9, bB (decide (x0 < (a0.length : Int)))), (8, nI x0), (7, nI (a0.length : Int)), (0, lU a0), (1, .d (.clo (.func 132) [] [.cp [.int .i64 a1, .int .i64 a2, .lst (List.map (D.int .i64) a3), .lst (List.map (D.int .i64) a4), .int .i64 a5, .int .i64 a6, .lst (List.map (D.int .u64) a7), .lst (List.map D.bool a8)] 0]))], []⟩ ?_
  refine L_split 9 rfl (fun _ => ?_) (fun _ => ?_)
  · refine Av 14 [.o false (o170_4.drop 3), .c c170_12, .b 1, .c c170_16, .l c170_19] ⟨[(13, nI x0), (12, lU a0), (11, .d (.clo (.func 132) [] [.cp [.int .i64 a1, .int .i64 a2, .lst (List.map (D.int .i64) a3), .lst (List.map (D.int .i64) a4), .int .i64 a5, .int .i64 a6, .lst (List.map (D.int .u64) a7), .lst (List.map D.bool a8)] 0])), (5, nI x0), (8, nI x0), (7, nI (a0.length : Int)), (0, lU a0), (1, .d (.clo (.func 132) [] [.cp [.int .i64 a1, .int .i64 a2, .lst (List.map (D.int .i64) a3), .lst (List.map (D.int .i64) a4), .int .i64 a5, .int .i64 a6, .lst (List.map (D.int .u64) a7), .lst (List.map D.bool a8)] 0]))], []⟩ ?_
    refine L_idxD (enc := D.int .u64) (l := a0) (iv := x0) trivial rfl rfl (fun _ => rfl) (fun hc403 => ?_)
    refine Av 1 [.o false (o170_4.drop 5), .c c170_12, .b 1, .c c170_16, .l c170_19] ⟨[(15, nU (at' a0 x0)), (11, .d (.clo (.func 132) [] [.cp [.int .i64 a1, .int .i64 a2, .lst (List.map (D.int .i64) a3), .lst (List.map (D.int .i64) a4), .int .i64 a5, .int .i64 a6, .lst (List.map (D.int .u64) a7), .lst (List.map D.bool a8)] 0])), (5, nI x0), (8, nI x0), (7, nI (a0.length : Int)), (0, lU a0), (1, .d (.clo (.func 132) [] [.cp [.int .i64 a1, .int .i64 a2, .lst (List.map (D.int .i64) a3), .lst (List.map (D.int .i64) a4), .int .i64 a5, .int .i64 a6, .lst (List.map (D.int .u64) a7), .lst (List.map D.bool a8)] 0]))], []⟩ ?_
    refine L_callv (ok_frame_bare_1_c (at' a0 x0) a1 a2 a3 a4 a5 a6 a7 a8) trivial (.inr ⟨_, _, rfl, rfl, rfl⟩) rfl rfl (fun _ => rfl) (fun _ => trivial) (fun r1 => ?_)
    refine Av 1 [.c c170_12, .b 1, .c c170_16, .l c170_19] ⟨[(16, bB r1), (5, nI x0), (8, nI x0), (7, nI (a0.length : Int)), (0, lU a0), (1, .d (.clo (.func 132) [] [.cp [.int .i64 a1, .int .i64 a2, .lst (List.map (D.int .i64) a3), .lst (List.map (D.int .i64) a4), .int .i64 a5, .int .i64 a6, .lst (List.map (D.int .u64) a7), .lst (List.map D.bool a8)] 0]))], []⟩ ?_
    refine L_split 16 decT (fun _ => ?_) (fun _ => ?_)
    · refine Avk 10 [] .ret ⟨[(4, nI x0)], []⟩ ?_
      exact L_retR
    · refine Av 7 [.l c170_19] ⟨[(8, nI (IntKind.i64.wrap (x0 + 1))), (7, nI (a0.length : Int)), (0, lU a0), (1, .d (.clo (.func 132) [] [.cp [.int .i64 a1, .int .i64 a2, .lst (List.map (D.int .i64) a3), .lst (List.map (D.int .i64) a4), .int .i64 a5, .int .i64 a6, .lst (List.map (D.int .u64) a7), .lst (List.map D.bool a8)] 0]))], []⟩ ?_
      exact L_again (IH (IntKind.i64.wrap (x0 + 1)))
  · refine Avk 4 [] (.exit 0) ⟨[], []⟩ ?_
    exact L_endR
theorem ok_slices_IndexFunc_uint64_uint64_frame_bare_1 (a0 : List Int) (a1 : Int) (a2 : Int) (a3 : List Int) (a4 : List Int) (a5 : Int) (a6 : Int) (a7 : List Int) (a8 : List Bool) : ∀ v, M_slices_IndexFunc_uint64_uint64_frame_bare_1 a0 a1 a2 a3 a4 a5 a6 a7 a8 = some v → EvF Try.prog 170 [.lst (List.map (D.int .u64) a0), .clo (.func 132) [] [.cp [.int .i64 a1, .int .i64 a2, .lst (List.map (D.int .i64) a3), .lst (List.map (D.int .i64) a4), .int .i64 a5, .int .i64 a6, .lst (List.map (D.int .u64) a7), .lst (List.map D.bool a8)] 0]] (en_slices_IndexFunc_uint64_uint64_frame_bare_1 v) := by
  intro v hv
  refine EvF_go fn170 (Nat.le_of_ble_eq_true rfl) ?_
  suffices h : Ok (M_slices_IndexFunc_uint64_uint64_frame_bare_1 a0 a1 a2 a3 a4 a5 a6 a7 a8) fun v => go Try.prog 19 (Fnl [.t 4] (en_slices_IndexFunc_uint64_uint64_frame_bare_1 v) []) [.c c170_27] .norm (initSt (List.map PV.d [.lst (List.map (D.int .u64) a0), .clo (.func 132) [] [.cp [.int .i64 a1, .int .i64 a2, .lst (List.map (D.int .i64) a3), .lst (List.map (D.int .i64) a4), .int .i64 a5, .int .i64 a6, .lst (List.map (D.int .u64) a7), .lst (List.map D.bool a8)] 0]]) []) from h v hv
  unfold M_slices_IndexFunc_uint64_uint64_frame_bare_1
  refine Av 8 [.o false (o170_1.drop 1), .c c170_21, .c c170_25] ⟨[(6, lU a0), (0, lU a0), (1, .d (.clo (.func 132) [] [.cp [.int .i64 a1, .int .i64 a2, .lst (List.map (D.int .i64) a3), .lst (List.map (D.int .i64) a4), .int .i64 a5, .int .i64 a6, .lst (List.map (D.int .u64) a7), .lst (List.map D.bool a8)] 0]))], []⟩ ?_
  refine L_len (enc := D.int .u64) (l := a0) trivial rfl ?_
  refine Av 4 [.l c170_19, .b 0, .c c170_25] ⟨[(8, nI 0), (7, nI (a0.length : Int)), (0, lU a0), (1, .d (.clo (.func 132) [] [.cp [.int .i64 a1, .int .i64 a2, .lst (List.map (D.int .i64) a3), .lst (List.map (D.int .i64) a4), .int .i64 a5, .int .i64 a6, .lst (List.map (D.int .u64) a7), .lst (List.map D.bool a8)] 0]))], []⟩ ?_
  refine L_pieceR (fs := [.l c170_19]) (ks := [.b 0, .c c170_25]) (ok_slices_IndexFunc_uint64_uint64_frame_bare_1_l0_ok a0 a1 a2 a3 a4 a5 a6 a7 a8 0) L_thru (fun j2 => ?_)
  refine Avk 6 [] .ret ⟨[(4, nI (-1))], []⟩ ?_
  exact L_ret
/-- slices.ContainsFunc[[]uint64,uint64]. -/
def en_slices_ContainsFunc_uint64_uint64_frame_bare_1 (v : Bool) : PV := bB v
def o131_0 : List AOper := [mb 4 0 false]
def o131_1 : List AOper := [mv 5 100 0, mv 6 101 1, cl' 7 102 170 [.t 5, .t 6], bc 8 103 .geq 7 0, mv 4 104 8]
def c131_4 : AC := .seq (.reg o131_0) (.seq (.reg o131_1) .ret)
theorem fn131 : fnA Try.prog 131 = some (9, [.t 4], c131_4) := by kernel_rfl
theorem ok_slices_ContainsFunc_uint64_uint64_frame_bare_1 (a0 : List Int) (a1 : Int) (a2 : Int) (a3 : List Int) (a4 : List Int) (a5 : Int) (a6 : Int) (a7 : List Int) (a8 : List Bool) : ∀ v, M_slices_ContainsFunc_uint64_uint64_frame_bare_1 a0 a1 a2 a3 a4 a5 a6 a7 a8 = some v → EvF Try.prog 131 [.lst (List.map (D.int .u64) a0), .clo (.func 132) [] [.cp [.int .i64 a1, .int .i64 a2, .lst (List.map (D.int .i64) a3), .lst (List.map (D.int .i64) a4), .int .i64 a5, .int .i64 a6, .lst (List.map (D.int .u64) a7), .lst (List.map D.bool a8)] 0]] (en_slices_ContainsFunc_uint64_uint64_frame_bare_1 v) := by
  intro v hv
  refine EvF_go fn131 (Nat.le_of_ble_eq_true rfl) ?_
  suffices h : Ok (M_slices_ContainsFunc_uint64_uint64_frame_bare_1 a0 a1 a2 a3 a4 a5 a6 a7 a8) fun v => go Try.prog 9 (Fnl [.t 4] (en_slices_ContainsFunc_uint64_uint64_frame_bare_1 v) []) [.c c131_4] .norm (initSt (List.map PV.d [.lst (List.map (D.int .u64) a0), .clo (.func 132) [] [.cp [.int .i64 a1, .int .i64 a2, .lst (List.map (D.int .i64) a3), .lst (List.map (D.int .i64) a4), .int .i64 a5, .int .i64 a6, .lst (List.map (D.int .u64) a7), .lst (List.map D.bool a8)] 0]]) []) from h v hv
  unfold M_slices_ContainsFunc_uint64_uint64_frame_bare_1
  refine Av 8 [.o false (o131_1.drop 2), .c .ret] ⟨[(6, .d (.clo (.func 132) [] [.cp [.int .i64 a1, .int .i64 a2, .lst (List.map (D.int .i64) a3), .lst (List.map (D.int .i64) a4), .int .i64 a5, .int .i64 a6, .lst (List.map (D.int .u64) a7), .lst (List.map D.bool a8)] 0])), (5, lU a0)], []⟩ ?_
  refine L_call (ok_slices_IndexFunc_uint64_uint64_frame_bare_1 a0 a1 a2 a3 a4 a5 a6 a7 a8) trivial rfl (fun _ => rfl) (fun _ => trivial) (fun r1 => ?_)
  refine Avk 4 [] .ret ⟨[(4, bB (decide (r1 ≥ 0)))], []⟩ ?_
  exact L_ret
/-- thrum/frame.bare. -/
def en_frame_bare (v : Int × Int × (List Int) × (List Int) × Int × Int × (List Int) × (List Bool) × Bool) : PV := .tup [.d (.agg [.int .i64 v.1, .int .i64 v.2.1, .lst (List.map (D.int .i64) v.2.2.1), .lst (List.map (D.int .i64) v.2.2.2.1), .int .i64 v.2.2.2.2.1, .int .i64 v.2.2.2.2.2.1, .lst (List.map (D.int .u64) v.2.2.2.2.2.2.1), .lst (List.map D.bool v.2.2.2.2.2.2.2.1)]), bB v.2.2.2.2.2.2.2.2]
def o83_0 : List AOper := [⟨some 1, none, 0, .box 51 (.t 0)⟩, ⟨some 2, none, 1, .alloc 51 8 [.int .i64 0, .int .i64 0, .lst [], .lst [], .int .i64 0, .int .i64 0, .lst [], .lst []]⟩, mb 3 2 false]
def o83_1 : List AOper := [⟨some 6, none, 100, .load true 8 (.t 1)⟩, ⟨some 4, none, 101, .alloc 51 8 [.int .i64 0, .int .i64 0, .lst [], .lst [], .int .i64 0, .int .i64 0, .lst [], .lst []]⟩, ⟨none, none, 102, .store 8 (.t 4) (.t 6)⟩]
def o83_2 : List AOper := [⟨some 7, none, 200, .fieldA 0 (.t 4)⟩, ⟨none, none, 201, .store 1 (.t 7) (.c (.d (.int .i64 0)))⟩, ⟨some 8, none, 202, .fieldA 1 (.t 4)⟩, ⟨none, none, 203, .store 1 (.t 8) (.c (.d (.int .i64 0)))⟩]
def o83_3 : List AOper := [⟨some 9, none, 300, .fieldA 1 (.t 1)⟩, ld 10 301 9, bc 11 302 .gtr 10 0, mv 12 303 11, ⟨some 13, some (12, true), 304, .fieldA 1 (.t 1)⟩, ⟨some 14, some (12, true), 305, .load false 1 (.t 13)⟩, ⟨some 15, some (12, true), 306, .bin .leq .int (.t 14) (.c (.d (.int .i64 4096)))⟩, pk 16 307 12 15 false, mv 5 308 16]
def o83_4 : List AOper := [⟨some 17, none, 400, .fieldA 0 (.t 1)⟩, ld 18 401 17]
def o83_5 : List AOper := [bc 20 500 .eql 18 0, mv 19 501 20]
def o83_6 : List AOper := [bc 22 600 .eql 18 1, mv 21 601 22]
def o83_7 : List AOper := [bc 24 700 .eql 18 2, mv 23 701 24]
def o83_8 : List AOper := [bc 26 800 .eql 18 3, mv 25 801 26]
def o83_9 : List AOper := [mv 27 900 5, mv 28 901 27, ⟨some 29, some (28, true), 902, .fieldA 3 (.t 1)⟩, ⟨some 30, some (28, true), 903, .load false 1 (.t 29)⟩, ⟨some 31, some (28, true), 904, .len (.t 30)⟩, ⟨some 32, some (28, true), 905, .fieldA 1 (.t 1)⟩, ⟨some 33, some (28, true), 906, .load false 1 (.t 32)⟩, ⟨some 34, some (28, true), 907, .bin .eql .int (.t 31) (.t 33)⟩, pk 35 908 28 34 false, mv 5 909 35]
def o83_10 : List AOper := [⟨some 36, none, 1000, .fieldA 3 (.t 4)⟩, ⟨none, none, 1001, .store 1 (.t 36) (.c .nils)⟩]
def o83_11 : List AOper := [mv 37 1100 5, mv 38 1101 37, ⟨some 39, some (38, true), 1102, .fieldA 1 (.t 1)⟩, ⟨some 40, some (38, true), 1103, .load false 1 (.t 39)⟩, ⟨some 41, some (38, true), 1104, .fieldA 2 (.t 1)⟩, ⟨some 42, some (38, true), 1105, .load false 1 (.t 41)⟩, ⟨some 43, some (38, true), 1106, .call 106 [.t 40, .t 42]⟩, ⟨some 44, some (38, true), 1107, .bin .eql .int (.t 43) (.c (.d (.int .i64 0)))⟩, pk 45 1108 38 44 false, mv 46 1109 45, ⟨some 47, some (46, true), 1110, .fieldA 2 (.t 1)⟩, ⟨some 48, some (46, true), 1111, .load false 1 (.t 47)⟩, ⟨some 49, some (46, true), 1112, .len (.t 48)⟩, ⟨some 50, some (46, true), 1113, .fieldA 3 (.t 1)⟩, ⟨some 51, some (46, true), 1114, .load false 1 (.t 50)⟩, ⟨some 52, some (46, true), 1115, .len (.t 51)⟩, ⟨some 53, some (46, true), 1116, .bin .eql .int (.t 49) (.t 52)⟩, pk 54 1117 46 53 false, mv 5 1118 54]
def o83_12 : List AOper := [⟨some 55, none, 1200, .fieldA 2 (.t 4)⟩, ⟨none, none, 1201, .store 1 (.t 55) (.c .nils)⟩, ⟨some 56, none, 1202, .fieldA 3 (.t 4)⟩, ⟨none, none, 1203, .store 1 (.t 56) (.c .nils)⟩]
def o83_13 : List AOper := [mv 57 1300 5, mv 58 1301 57, ⟨some 59, some (58, true), 1302, .fieldA 5 (.t 1)⟩, ⟨some 60, some (58, true), 1303, .load false 1 (.t 59)⟩, ⟨some 61, some (58, true), 1304, .bin .gtr .int (.t 60) (.c (.d (.int .i64 0)))⟩, pk 62 1305 58 61 false, mv 63 1306 62, ⟨some 64, some (63, true), 1307, .fieldA 5 (.t 1)⟩, ⟨some 65, some (63, true), 1308, .load false 1 (.t 64)⟩, ⟨some 66, some (63, true), 1309, .bin .leq .int (.t 65) (.c (.d (.int .i64 8)))⟩, pk 67 1310 63 66 false, mv 68 1311 67, ⟨some 69, some (68, true), 1312, .fieldA 6 (.t 1)⟩, ⟨some 70, some (68, true), 1313, .load false 1 (.t 69)⟩, ⟨some 71, some (68, true), 1314, .len (.t 70)⟩, ⟨some 72, some (68, true), 1315, .fieldA 1 (.t 1)⟩, ⟨some 73, some (68, true), 1316, .load false 1 (.t 72)⟩, ⟨some 74, some (68, true), 1317, .bin .eql .int (.t 71) (.t 73)⟩, pk 75 1318 68 74 false, mv 76 1319 75, ⟨some 77, some (76, true), 1320, .fieldA 6 (.t 1)⟩, ⟨some 78, some (76, true), 1321, .load false 1 (.t 77)⟩, ⟨some 79, some (76, true), 1322, .mkfn (.func 132) [] [.t 1]⟩, ⟨some 80, some (76, true), 1323, .call 131 [.t 78, .t 79]⟩, ⟨some 81, some (76, true), 1324, .un .not (.t 80)⟩, pk 82 1325 76 81 false, mv 5 1326 82]
def o83_14 : List AOper := [⟨some 83, none, 1400, .fieldA 6 (.t 4)⟩, ⟨none, none, 1401, .store 1 (.t 83) (.c .nils)⟩, ⟨some 84, none, 1402, .fieldA 5 (.t 4)⟩, ⟨none, none, 1403, .store 1 (.t 84) (.c (.d (.int .i64 0)))⟩]
def o83_15 : List AOper := [mv 85 1500 5, mv 86 1501 85, ⟨some 87, some (86, true), 1502, .fieldA 4 (.t 1)⟩, ⟨some 88, some (86, true), 1503, .load false 1 (.t 87)⟩, ⟨some 89, some (86, true), 1504, .bin .geq .int (.t 88) (.c (.d (.int .i64 0)))⟩, pk 90 1505 86 89 false, mv 91 1506 90, ⟨some 92, some (91, true), 1507, .fieldA 7 (.t 1)⟩, ⟨some 93, some (91, true), 1508, .load false 1 (.t 92)⟩, ⟨some 94, some (91, true), 1509, .len (.t 93)⟩, ⟨some 95, some (91, true), 1510, .fieldA 1 (.t 1)⟩, ⟨some 96, some (91, true), 1511, .load false 1 (.t 95)⟩, ⟨some 97, some (91, true), 1512, .bin .eql .int (.t 94) (.t 96)⟩, pk 98 1513 91 97 false, mv 5 1514 98]
def o83_16 : List AOper := [⟨some 99, none, 1600, .fieldA 4 (.t 4)⟩, ⟨none, none, 1601, .store 1 (.t 99) (.c (.d (.int .i64 0)))⟩, ⟨some 100, none, 1602, .fieldA 7 (.t 4)⟩, ⟨none, none, 1603, .store 1 (.t 100) (.c .nils)⟩]
def o83_17 : List AOper := [mb 5 1700 false]
def o83_18 : List AOper := [⟨some 101, none, 1800, .load true 8 (.t 4)⟩, mv 102 1801 5, ⟨none, none, 1802, .store 8 (.t 2) (.t 101)⟩, mv 3 1803 102]
def o83_3t4_8 : List AOper := (o83_3.drop 4).take 4
def o83_9t2_9 : List AOper := (o83_9.drop 2).take 7
def o83_11t2_9 : List AOper := (o83_11.drop 2).take 7
def o83_11t10_18 : List AOper := (o83_11.drop 10).take 8
def o83_13t2_6 : List AOper := (o83_13.drop 2).take 4
def o83_13t7_11 : List AOper := (o83_13.drop 7).take 4
def o83_13t12_19 : List AOper := (o83_13.drop 12).take 7
def o83_13t20_26 : List AOper := (o83_13.drop 20).take 6
def o83_15t2_6 : List AOper := (o83_15.drop 2).take 4
def o83_15t7_14 : List AOper := (o83_15.drop 7).take 7
def c83_8 : AC := .cond (.t 19) (.exit 1) .skip
def c83_13 : AC := .cond (.t 21) (.exit 2) .skip
def c83_18 : AC := .cond (.t 23) (.exit 3) .skip
def c83_23 : AC := .cond (.t 25) (.exit 4) .skip
def c83_24 : AC := .seq (.reg o83_8) c83_23
def c83_25 : AC := .seq (.seq (.reg o83_7) c83_18) c83_24
def c83_26 : AC := .seq (.seq (.reg o83_6) c83_13) c83_25
def c83_32 : AC := .reg o83_10
def c83_35 : AC := .seq (.seq (.reg o83_9) c83_32) (.exit 0)
def c83_39 : AC := .reg o83_12
def c83_42 : AC := .seq (.seq (.reg o83_11) c83_39) (.exit 0)
def c83_46 : AC := .reg o83_14
def c83_47 : AC := .seq (.reg o83_13) c83_46
def c83_51 : AC := .reg o83_16
def c83_54 : AC := .seq (.seq (.reg o83_15) c83_51) (.exit 0)
def c83_59 : AC := .seq (.reg o83_17) (.exit 0)
def c83_65 : AC := .seq (.reg o83_18) .ret
def c83_66 : AC := .seq (.seq (.reg o83_4) (.block 0 (.seq (.block 5 (.seq (.block 4 (.seq (.block 3 (.seq (.block 2 (.seq (.block 1 (.seq (.seq (.seq (.reg o83_5) c83_8) c83_26) (.exit 5))) c83_35)) c83_42)) c83_47)) c83_54)) c83_59))) c83_65
def c83_70 : AC := .seq (.reg o83_0) (.seq (.reg o83_1) (.seq (.reg o83_2) (.seq (.reg o83_3) c83_66)))
theorem fn83 : fnA Try.prog 83 = some (103, [.c 2 true 8, .t 3], c83_70) := by kernel_rfl
theorem ok_frame_bare (a0 : T_api_Sent) : ∀ v, M_frame_bare a0 = some v → EvF Try.prog 83 [.agg [.int .i64 a0.F_Scheme, .int .i64 a0.F_Dim, .lst (List.map (D.int .i64) a0.F_L), .lst (List.map (D.int .i64) a0.F_V), .int .i64 a0.F_Scale, .int .i64 a0.F_Wide, .lst (List.map (D.int .u64) a0.F_Lev), .lst (List.map D.bool a0.F_Neg)]] (en_frame_bare v) := by
  intro v hv
  refine EvF_go fn83 (Nat.le_of_ble_eq_true rfl) ?_
  suffices h : Ok (M_frame_bare a0) fun v => go Try.prog 103 (Fnl [.c 2 true 8, .t 3] (en_frame_bare v) []) [.c c83_70] .norm (initSt (List.map PV.d [.agg [.int .i64 a0.F_Scheme, .int .i64 a0.F_Dim, .lst (List.map (D.int .i64) a0.F_L), .lst (List.map (D.int .i64) a0.F_V), .int .i64 a0.F_Scale, .int .i64 a0.F_Wide, .lst (List.map (D.int .u64) a0.F_Lev), .lst (List.map D.bool a0.F_Neg)]]) []) from h v hv
  unfold M_frame_bare
  refine Av 25 [.o false (o83_3.drop 4), .c c83_66] ⟨[(12, bB (decide (a0.F_Dim > 0))), (4, .ptr (.s 1631) 0), (2, .ptr (.s 31) 0), (1, .ptr (.s 15) 0)], [(.s 1631, [nI 0, nI 0, lI a0.F_L, lI a0.F_V, nI a0.F_Scale, nI a0.F_Wide, lU a0.F_Lev, lB a0.F_Neg]), (.s 31, [nI 0, nI 0, .nils, .nils, nI 0, nI 0, .nils, .nils]), (.s 15, [nI a0.F_Scheme, nI a0.F_Dim, lI a0.F_L, lI a0.F_V, nI a0.F_Scale, nI a0.F_Wide, lU a0.F_Lev, lB a0.F_Neg])]⟩ ?_
  refine L_take 4 o83_3t4_8 (o83_3.drop 8) ?_
  refine L_join [.o false o83_3t4_8] [.o false (o83_3.drop 8), .c c83_66] (fun x : Bool => ⟨[(16, bB x), (4, .ptr (.s 1631) 0), (2, .ptr (.s 31) 0), (1, .ptr (.s 15) 0)], [(.s 1631, [nI 0, nI 0, lI a0.F_L, lI a0.F_V, nI a0.F_Scale, nI a0.F_Wide, lU a0.F_Lev, lB a0.F_Neg]), (.s 31, [nI 0, nI 0, .nils, .nils, nI 0, nI 0, .nils, .nils]), (.s 15, [nI a0.F_Scheme, nI a0.F_Dim, lI a0.F_L, lI a0.F_V, nI a0.F_Scale, nI a0.F_Wide, lU a0.F_Lev, lB a0.F_Neg])]⟩) ?_ (fun j1 => ?_)
  · refine L_split 12 rfl (fun _ => ?_) (fun _ => ?_)
    · refine Av 5 [] ⟨[(16, bB (decide (a0.F_Dim ≤ 4096))), (4, .ptr (.s 1631) 0), (2, .ptr (.s 31) 0), (1, .ptr (.s 15) 0)], [(.s 1631, [nI 0, nI 0, lI a0.F_L, lI a0.F_V, nI a0.F_Scale, nI a0.F_Wide, lU a0.F_Lev, lB a0.F_Neg]), (.s 31, [nI 0, nI 0, .nils, .nils, nI 0, nI 0, .nils, .nils]), (.s 15, [nI a0.F_Scheme, nI a0.F_Dim, lI a0.F_L, lI a0.F_V, nI a0.F_Scale, nI a0.F_Wide, lU a0.F_Lev, lB a0.F_Neg])]⟩ ?_
      exact L_end
    · refine Av 5 [] ⟨[(16, bB false), (4, .ptr (.s 1631) 0), (2, .ptr (.s 31) 0), (1, .ptr (.s 15) 0)], [(.s 1631, [nI 0, nI 0, lI a0.F_L, lI a0.F_V, nI a0.F_Scale, nI a0.F_Wide, lU a0.F_Lev, lB a0.F_Neg]), (.s 31, [nI 0, nI 0, .nils, .nils, nI 0, nI 0, .nils, .nils]), (.s 15, [nI a0.F_Scheme, nI a0.F_Dim, lI a0.F_L, lI a0.F_V, nI a0.F_Scale, nI a0.F_Wide, lU a0.F_Lev, lB a0.F_Neg])]⟩ ?_
      exact L_end
  · refine Av 26 [.c c83_8, .c c83_26, .c (.exit 5), .b 1, .c c83_35, .b 2, .c c83_42, .b 3, .c c83_47, .b 4, .c c83_54, .b 5, .c c83_59, .b 0, .c c83_65] ⟨[(19, bB (a0.F_Scheme == 0)), (18, nI a0.F_Scheme), (5, bB j1), (4, .ptr (.s 1631) 0), (2, .ptr (.s 31) 0), (1, .ptr (.s 15) 0)], [(.s 1631, [nI 0, nI 0, lI a0.F_L, lI a0.F_V, nI a0.F_Scale, nI a0.F_Wide, lU a0.F_Lev, lB a0.F_Neg]), (.s 31, [nI 0, nI 0, .nils, .nils, nI 0, nI 0, .nils, .nils]), (.s 15, [nI a0.F_Scheme, nI a0.F_Dim, lI a0.F_L, lI a0.F_V, nI a0.F_Scale, nI a0.F_Wide, lU a0.F_Lev, lB a0.F_Neg])]⟩ ?_
    refine L_split 19 decE (fun _ => ?_) (fun _ => ?_)
    · refine Av 10 [.o false (o83_9.drop 2), .c c83_32, .c (.exit 0), .b 2, .c c83_42, .b 3, .c c83_47, .b 4, .c c83_54, .b 5, .c c83_59, .b 0, .c c83_65] ⟨[(28, bB j1), (4, .ptr (.s 1631) 0), (2, .ptr (.s 31) 0), (1, .ptr (.s 15) 0)], [(.s 1631, [nI 0, nI 0, lI a0.F_L, lI a0.F_V, nI a0.F_Scale, nI a0.F_Wide, lU a0.F_Lev, lB a0.F_Neg]), (.s 31, [nI 0, nI 0, .nils, .nils, nI 0, nI 0, .nils, .nils]), (.s 15, [nI a0.F_Scheme, nI a0.F_Dim, lI a0.F_L, lI a0.F_V, nI a0.F_Scale, nI a0.F_Wide, lU a0.F_Lev, lB a0.F_Neg])]⟩ ?_
      refine L_take 7 o83_9t2_9 (o83_9.drop 9) ?_
      refine L_join [.o false o83_9t2_9] [.o false (o83_9.drop 9), .c c83_32, .c (.exit 0), .b 2, .c c83_42, .b 3, .c c83_47, .b 4, .c c83_54, .b 5, .c c83_59, .b 0, .c c83_65] (fun x : Bool => ⟨[(35, bB x), (4, .ptr (.s 1631) 0), (2, .ptr (.s 31) 0)], [(.s 1631, [nI 0, nI 0, lI a0.F_L, lI a0.F_V, nI a0.F_Scale, nI a0.F_Wide, lU a0.F_Lev, lB a0.F_Neg]), (.s 31, [nI 0, nI 0, .nils, .nils, nI 0, nI 0, .nils, .nils])]⟩) ?_ (fun j2 => ?_)
      · refine L_split 28 decT (fun _ => ?_) (fun _ => ?_)
        · refine Av 2 [.o false (o83_9t2_9.drop 2)] ⟨[(30, lI a0.F_V), (28, bB true), (4, .ptr (.s 1631) 0), (2, .ptr (.s 31) 0), (1, .ptr (.s 15) 0)], [(.s 1631, [nI 0, nI 0, lI a0.F_L, lI a0.F_V, nI a0.F_Scale, nI a0.F_Wide, lU a0.F_Lev, lB a0.F_Neg]), (.s 31, [nI 0, nI 0, .nils, .nils, nI 0, nI 0, .nils, .nils]), (.s 15, [nI a0.F_Scheme, nI a0.F_Dim, lI a0.F_L, lI a0.F_V, nI a0.F_Scale, nI a0.F_Wide, lU a0.F_Lev, lB a0.F_Neg])]⟩ ?_
          refine L_len (enc := D.int .i64) (l := a0.F_V) rfl rfl ?_
          refine Av 5 [] ⟨[(35, bB ((a0.F_V.length : Int) == a0.F_Dim)), (4, .ptr (.s 1631) 0), (2, .ptr (.s 31) 0)], [(.s 1631, [nI 0, nI 0, lI a0.F_L, lI a0.F_V, nI a0.F_Scale, nI a0.F_Wide, lU a0.F_Lev, lB a0.F_Neg]), (.s 31, [nI 0, nI 0, .nils, .nils, nI 0, nI 0, .nils, .nils])]⟩ ?_
          exact L_end
        · refine Av 8 [] ⟨[(35, bB false), (4, .ptr (.s 1631) 0), (2, .ptr (.s 31) 0)], [(.s 1631, [nI 0, nI 0, lI a0.F_L, lI a0.F_V, nI a0.F_Scale, nI a0.F_Wide, lU a0.F_Lev, lB a0.F_Neg]), (.s 31, [nI 0, nI 0, .nils, .nils, nI 0, nI 0, .nils, .nils])]⟩ ?_
          exact L_end
      · refine Avk 24 [] .ret ⟨[(3, bB j2), (2, .ptr (.s 31) 0)], [(.s 31, [nI 0, nI 0, lI a0.F_L, .nils, nI a0.F_Scale, nI a0.F_Wide, lU a0.F_Lev, lB a0.F_Neg])]⟩ ?_
        exact L_ret
    · refine Av 8 [.c c83_13, .c c83_25, .c (.exit 5), .b 1, .c c83_35, .b 2, .c c83_42, .b 3, .c c83_47, .b 4, .c c83_54, .b 5, .c c83_59, .b 0, .c c83_65] ⟨[(21, bB (a0.F_Scheme == 1)), (18, nI a0.F_Scheme), (5, bB j1), (4, .ptr (.s 1631) 0), (2, .ptr (.s 31) 0), (1, .ptr (.s 15) 0)], [(.s 1631, [nI 0, nI 0, lI a0.F_L, lI a0.F_V, nI a0.F_Scale, nI a0.F_Wide, lU a0.F_Lev, lB a0.F_Neg]), (.s 31, [nI 0, nI 0, .nils, .nils, nI 0, nI 0, .nils, .nils]), (.s 15, [nI a0.F_Scheme, nI a0.F_Dim, lI a0.F_L, lI a0.F_V, nI a0.F_Scale, nI a0.F_Wide, lU a0.F_Lev, lB a0.F_Neg])]⟩ ?_
      refine L_split 21 decE (fun _ => ?_) (fun _ => ?_)
      · refine Av 12 [.o false (o83_11.drop 2), .c c83_39, .c (.exit 0), .b 3, .c c83_47, .b 4, .c c83_54, .b 5, .c c83_59, .b 0, .c c83_65] ⟨[(38, bB j1), (4, .ptr (.s 1631) 0), (2, .ptr (.s 31) 0), (1, .ptr (.s 15) 0)], [(.s 1631, [nI 0, nI 0, lI a0.F_L, lI a0.F_V, nI a0.F_Scale, nI a0.F_Wide, lU a0.F_Lev, lB a0.F_Neg]), (.s 31, [nI 0, nI 0, .nils, .nils, nI 0, nI 0, .nils, .nils]), (.s 15, [nI a0.F_Scheme, nI a0.F_Dim, lI a0.F_L, lI a0.F_V, nI a0.F_Scale, nI a0.F_Wide, lU a0.F_Lev, lB a0.F_Neg])]⟩ ?_
        refine L_take 7 o83_11t2_9 (o83_11.drop 9) ?_
        refine L_join [.o false o83_11t2_9] [.o false (o83_11.drop 9), .c c83_39, .c (.exit 0), .b 3, .c c83_47, .b 4, .c c83_54, .b 5, .c c83_59, .b 0, .c c83_65] (fun x : Bool => ⟨[(45, bB x), (4, .ptr (.s 1631) 0), (2, .ptr (.s 31) 0), (1, .ptr (.s 15) 0)], [(.s 1631, [nI 0, nI 0, lI a0.F_L, lI a0.F_V, nI a0.F_Scale, nI a0.F_Wide, lU a0.F_Lev, lB a0.F_Neg]), (.s 31, [nI 0, nI 0, .nils, .nils, nI 0, nI 0, .nils, .nils]), (.s 15, [nI a0.F_Scheme, nI a0.F_Dim, lI a0.F_L, lI a0.F_V, nI a0.F_Scale, nI a0.F_Wide, lU a0.F_Lev, lB a0.F_Neg])]⟩) ?_ (fun j4 => ?_)
        · refine L_split 38 decT (fun _ => ?_) (fun _ => ?_)
          · refine Av 4 [.o false (o83_11t2_9.drop 4)] ⟨[(42, lI a0.F_L), (38, bB true), (40, nI a0.F_Dim), (4, .ptr (.s 1631) 0), (2, .ptr (.s 31) 0), (1, .ptr (.s 15) 0)], [(.s 1631, [nI 0, nI 0, lI a0.F_L, lI a0.F_V, nI a0.F_Scale, nI a0.F_Wide, lU a0.F_Lev, lB a0.F_Neg]), (.s 31, [nI 0, nI 0, .nils, .nils, nI 0, nI 0, .nils, .nils]), (.s 15, [nI a0.F_Scheme, nI a0.F_Dim, lI a0.F_L, lI a0.F_V, nI a0.F_Scale, nI a0.F_Wide, lU a0.F_Lev, lB a0.F_Neg])]⟩ ?_
            refine L_call (ok_index_Check a0.F_Dim a0.F_L) rfl rfl (fun _ => rfl) (fun _ => trivial) (fun r3 => ?_)
            refine Av 3 [] ⟨[(45, bB (r3 == 0)), (4, .ptr (.s 1631) 0), (2, .ptr (.s 31) 0), (1, .ptr (.s 15) 0)], [(.s 1631, [nI 0, nI 0, lI a0.F_L, lI a0.F_V, nI a0.F_Scale, nI a0.F_Wide, lU a0.F_Lev, lB a0.F_Neg]), (.s 31, [nI 0, nI 0, .nils, .nils, nI 0, nI 0, .nils, .nils]), (.s 15, [nI a0.F_Scheme, nI a0.F_Dim, lI a0.F_L, lI a0.F_V, nI a0.F_Scale, nI a0.F_Wide, lU a0.F_Lev, lB a0.F_Neg])]⟩ ?_
            exact L_end
          · refine Av 8 [] ⟨[(45, bB false), (4, .ptr (.s 1631) 0), (2, .ptr (.s 31) 0), (1, .ptr (.s 15) 0)], [(.s 1631, [nI 0, nI 0, lI a0.F_L, lI a0.F_V, nI a0.F_Scale, nI a0.F_Wide, lU a0.F_Lev, lB a0.F_Neg]), (.s 31, [nI 0, nI 0, .nils, .nils, nI 0, nI 0, .nils, .nils]), (.s 15, [nI a0.F_Scheme, nI a0.F_Dim, lI a0.F_L, lI a0.F_V, nI a0.F_Scale, nI a0.F_Wide, lU a0.F_Lev, lB a0.F_Neg])]⟩ ?_
            exact L_end
        · refine Av 1 [.o false (o83_11.drop 10), .c c83_39, .c (.exit 0), .b 3, .c c83_47, .b 4, .c c83_54, .b 5, .c c83_59, .b 0, .c c83_65] ⟨[(46, bB j4), (4, .ptr (.s 1631) 0), (2, .ptr (.s 31) 0), (1, .ptr (.s 15) 0)], [(.s 1631, [nI 0, nI 0, lI a0.F_L, lI a0.F_V, nI a0.F_Scale, nI a0.F_Wide, lU a0.F_Lev, lB a0.F_Neg]), (.s 31, [nI 0, nI 0, .nils, .nils, nI 0, nI 0, .nils, .nils]), (.s 15, [nI a0.F_Scheme, nI a0.F_Dim, lI a0.F_L, lI a0.F_V, nI a0.F_Scale, nI a0.F_Wide, lU a0.F_Lev, lB a0.F_Neg])]⟩ ?_
          refine L_take 8 o83_11t10_18 (o83_11.drop 18) ?_
          refine L_join [.o false o83_11t10_18] [.o false (o83_11.drop 18), .c c83_39, .c (.exit 0), .b 3, .c c83_47, .b 4, .c c83_54, .b 5, .c c83_59, .b 0, .c c83_65] (fun x : Bool => ⟨[(54, bB x), (4, .ptr (.s 1631) 0), (2, .ptr (.s 31) 0)], [(.s 1631, [nI 0, nI 0, lI a0.F_L, lI a0.F_V, nI a0.F_Scale, nI a0.F_Wide, lU a0.F_Lev, lB a0.F_Neg]), (.s 31, [nI 0, nI 0, .nils, .nils, nI 0, nI 0, .nils, .nils])]⟩) ?_ (fun j5 => ?_)
          · refine L_split 46 decT (fun _ => ?_) (fun _ => ?_)
            · refine Av 2 [.o false (o83_11t10_18.drop 2)] ⟨[(48, lI a0.F_L), (46, bB true), (4, .ptr (.s 1631) 0), (2, .ptr (.s 31) 0), (1, .ptr (.s 15) 0)], [(.s 1631, [nI 0, nI 0, lI a0.F_L, lI a0.F_V, nI a0.F_Scale, nI a0.F_Wide, lU a0.F_Lev, lB a0.F_Neg]), (.s 31, [nI 0, nI 0, .nils, .nils, nI 0, nI 0, .nils, .nils]), (.s 15, [nI a0.F_Scheme, nI a0.F_Dim, lI a0.F_L, lI a0.F_V, nI a0.F_Scale, nI a0.F_Wide, lU a0.F_Lev, lB a0.F_Neg])]⟩ ?_
              refine L_len (enc := D.int .i64) (l := a0.F_L) rfl rfl ?_
              refine Av 2 [.o false (o83_11t10_18.drop 5)] ⟨[(51, lI a0.F_V), (46, bB true), (49, nI (a0.F_L.length : Int)), (4, .ptr (.s 1631) 0), (2, .ptr (.s 31) 0)], [(.s 1631, [nI 0, nI 0, lI a0.F_L, lI a0.F_V, nI a0.F_Scale, nI a0.F_Wide, lU a0.F_Lev, lB a0.F_Neg]), (.s 31, [nI 0, nI 0, .nils, .nils, nI 0, nI 0, .nils, .nils])]⟩ ?_
              refine L_len (enc := D.int .i64) (l := a0.F_V) rfl rfl ?_
              refine Av 3 [] ⟨[(54, bB ((a0.F_L.length : Int) == (a0.F_V.length : Int))), (4, .ptr (.s 1631) 0), (2, .ptr (.s 31) 0)], [(.s 1631, [nI 0, nI 0, lI a0.F_L, lI a0.F_V, nI a0.F_Scale, nI a0.F_Wide, lU a0.F_Lev, lB a0.F_Neg]), (.s 31, [nI 0, nI 0, .nils, .nils, nI 0, nI 0, .nils, .nils])]⟩ ?_
              exact L_end
            · refine Av 9 [] ⟨[(54, bB false), (4, .ptr (.s 1631) 0), (2, .ptr (.s 31) 0)], [(.s 1631, [nI 0, nI 0, lI a0.F_L, lI a0.F_V, nI a0.F_Scale, nI a0.F_Wide, lU a0.F_Lev, lB a0.F_Neg]), (.s 31, [nI 0, nI 0, .nils, .nils, nI 0, nI 0, .nils, .nils])]⟩ ?_
              exact L_end
          · refine Avk 24 [] .ret ⟨[(3, bB j5), (2, .ptr (.s 31) 0)], [(.s 31, [nI 0, nI 0, .nils, .nils, nI a0.F_Scale, nI a0.F_Wide, lU a0.F_Lev, lB a0.F_Neg])]⟩ ?_
            exact L_ret
      · refine Av 8 [.c c83_18, .c c83_24, .c (.exit 5), .b 1, .c c83_35, .b 2, .c c83_42, .b 3, .c c83_47, .b 4, .c c83_54, .b 5, .c c83_59, .b 0, .c c83_65] ⟨[(23, bB (a0.F_Scheme == 2)), (18, nI a0.F_Scheme), (5, bB j1), (4, .ptr (.s 1631) 0), (2, .ptr (.s 31) 0), (1, .ptr (.s 15) 0)], [(.s 1631, [nI 0, nI 0, lI a0.F_L, lI a0.F_V, nI a0.F_Scale, nI a0.F_Wide, lU a0.F_Lev, lB a0.F_Neg]), (.s 31, [nI 0, nI 0, .nils, .nils, nI 0, nI 0, .nils, .nils]), (.s 15, [nI a0.F_Scheme, nI a0.F_Dim, lI a0.F_L, lI a0.F_V, nI a0.F_Scale, nI a0.F_Wide, lU a0.F_Lev, lB a0.F_Neg])]⟩ ?_
        refine L_split 23 decE (fun _ => ?_) (fun _ => ?_)
        · refine Av 13 [.o false (o83_13.drop 2), .c c83_46, .b 4, .c c83_54, .b 5, .c c83_59, .b 0, .c c83_65] ⟨[(58, bB j1), (4, .ptr (.s 1631) 0), (2, .ptr (.s 31) 0), (1, .ptr (.s 15) 0)], [(.s 1631, [nI 0, nI 0, lI a0.F_L, lI a0.F_V, nI a0.F_Scale, nI a0.F_Wide, lU a0.F_Lev, lB a0.F_Neg]), (.s 31, [nI 0, nI 0, .nils, .nils, nI 0, nI 0, .nils, .nils]), (.s 15, [nI a0.F_Scheme, nI a0.F_Dim, lI a0.F_L, lI a0.F_V, nI a0.F_Scale, nI a0.F_Wide, lU a0.F_Lev, lB a0.F_Neg])]⟩ ?_
          refine L_take 4 o83_13t2_6 (o83_13.drop 6) ?_
          refine L_join [.o false o83_13t2_6] [.o false (o83_13.drop 6), .c c83_46, .b 4, .c c83_54, .b 5, .c c83_59, .b 0, .c c83_65] (fun x : Bool => ⟨[(62, bB x), (4, .ptr (.s 1631) 0), (2, .ptr (.s 31) 0), (1, .ptr (.s 15) 0)], [(.s 1631, [nI 0, nI 0, lI a0.F_L, lI a0.F_V, nI a0.F_Scale, nI a0.F_Wide, lU a0.F_Lev, lB a0.F_Neg]), (.s 31, [nI 0, nI 0, .nils, .nils, nI 0, nI 0, .nils, .nils]), (.s 15, [nI a0.F_Scheme, nI a0.F_Dim, lI a0.F_L, lI a0.F_V, nI a0.F_Scale, nI a0.F_Wide, lU a0.F_Lev, lB a0.F_Neg])]⟩) ?_ (fun j6 => ?_)
          · refine L_split 58 decT (fun _ => ?_) (fun _ => ?_)
            · refine Av 5 [] ⟨[(62, bB (decide (a0.F_Wide > 0))), (4, .ptr (.s 1631) 0), (2, .ptr (.s 31) 0), (1, .ptr (.s 15) 0)], [(.s 1631, [nI 0, nI 0, lI a0.F_L, lI a0.F_V, nI a0.F_Scale, nI a0.F_Wide, lU a0.F_Lev, lB a0.F_Neg]), (.s 31, [nI 0, nI 0, .nils, .nils, nI 0, nI 0, .nils, .nils]), (.s 15, [nI a0.F_Scheme, nI a0.F_Dim, lI a0.F_L, lI a0.F_V, nI a0.F_Scale, nI a0.F_Wide, lU a0.F_Lev, lB a0.F_Neg])]⟩ ?_
              exact L_end
            · refine Av 5 [] ⟨[(62, bB false), (4, .ptr (.s 1631) 0), (2, .ptr (.s 31) 0), (1, .ptr (.s 15) 0)], [(.s 1631, [nI 0, nI 0, lI a0.F_L, lI a0.F_V, nI a0.F_Scale, nI a0.F_Wide, lU a0.F_Lev, lB a0.F_Neg]), (.s 31, [nI 0, nI 0, .nils, .nils, nI 0, nI 0, .nils, .nils]), (.s 15, [nI a0.F_Scheme, nI a0.F_Dim, lI a0.F_L, lI a0.F_V, nI a0.F_Scale, nI a0.F_Wide, lU a0.F_Lev, lB a0.F_Neg])]⟩ ?_
              exact L_end
          · refine Av 1 [.o false (o83_13.drop 7), .c c83_46, .b 4, .c c83_54, .b 5, .c c83_59, .b 0, .c c83_65] ⟨[(63, bB j6), (4, .ptr (.s 1631) 0), (2, .ptr (.s 31) 0), (1, .ptr (.s 15) 0)], [(.s 1631, [nI 0, nI 0, lI a0.F_L, lI a0.F_V, nI a0.F_Scale, nI a0.F_Wide, lU a0.F_Lev, lB a0.F_Neg]), (.s 31, [nI 0, nI 0, .nils, .nils, nI 0, nI 0, .nils, .nils]), (.s 15, [nI a0.F_Scheme, nI a0.F_Dim, lI a0.F_L, lI a0.F_V, nI a0.F_Scale, nI a0.F_Wide, lU a0.F_Lev, lB a0.F_Neg])]⟩ ?_
            refine L_take 4 o83_13t7_11 (o83_13.drop 11) ?_
            refine L_join [.o false o83_13t7_11] [.o false (o83_13.drop 11), .c c83_46, .b 4, .c c83_54, .b 5, .c c83_59, .b 0, .c c83_65] (fun x : Bool => ⟨[(67, bB x), (4, .ptr (.s 1631) 0), (2, .ptr (.s 31) 0), (1, .ptr (.s 15) 0)], [(.s 1631, [nI 0, nI 0, lI a0.F_L, lI a0.F_V, nI a0.F_Scale, nI a0.F_Wide, lU a0.F_Lev, lB a0.F_Neg]), (.s 31, [nI 0, nI 0, .nils, .nils, nI 0, nI 0, .nils, .nils]), (.s 15, [nI a0.F_Scheme, nI a0.F_Dim, lI a0.F_L, lI a0.F_V, nI a0.F_Scale, nI a0.F_Wide, lU a0.F_Lev, lB a0.F_Neg])]⟩) ?_ (fun j7 => ?_)
            · refine L_split 63 decT (fun _ => ?_) (fun _ => ?_)
              · refine Av 5 [] ⟨[(67, bB (decide (a0.F_Wide ≤ 8))), (4, .ptr (.s 1631) 0), (2, .ptr (.s 31) 0), (1, .ptr (.s 15) 0)], [(.s 1631, [nI 0, nI 0, lI a0.F_L, lI a0.F_V, nI a0.F_Scale, nI a0.F_Wide, lU a0.F_Lev, lB a0.F_Neg]), (.s 31, [nI 0, nI 0, .nils, .nils, nI 0, nI 0, .nils, .nils]), (.s 15, [nI a0.F_Scheme, nI a0.F_Dim, lI a0.F_L, lI a0.F_V, nI a0.F_Scale, nI a0.F_Wide, lU a0.F_Lev, lB a0.F_Neg])]⟩ ?_
                exact L_end
              · refine Av 5 [] ⟨[(67, bB false), (4, .ptr (.s 1631) 0), (2, .ptr (.s 31) 0), (1, .ptr (.s 15) 0)], [(.s 1631, [nI 0, nI 0, lI a0.F_L, lI a0.F_V, nI a0.F_Scale, nI a0.F_Wide, lU a0.F_Lev, lB a0.F_Neg]), (.s 31, [nI 0, nI 0, .nils, .nils, nI 0, nI 0, .nils, .nils]), (.s 15, [nI a0.F_Scheme, nI a0.F_Dim, lI a0.F_L, lI a0.F_V, nI a0.F_Scale, nI a0.F_Wide, lU a0.F_Lev, lB a0.F_Neg])]⟩ ?_
                exact L_end
            · refine Av 1 [.o false (o83_13.drop 12), .c c83_46, .b 4, .c c83_54, .b 5, .c c83_59, .b 0, .c c83_65] ⟨[(68, bB j7), (4, .ptr (.s 1631) 0), (2, .ptr (.s 31) 0), (1, .ptr (.s 15) 0)], [(.s 1631, [nI 0, nI 0, lI a0.F_L, lI a0.F_V, nI a0.F_Scale, nI a0.F_Wide, lU a0.F_Lev, lB a0.F_Neg]), (.s 31, [nI 0, nI 0, .nils, .nils, nI 0, nI 0, .nils, .nils]), (.s 15, [nI a0.F_Scheme, nI a0.F_Dim, lI a0.F_L, lI a0.F_V, nI a0.F_Scale, nI a0.F_Wide, lU a0.F_Lev, lB a0.F_Neg])]⟩ ?_
              refine L_take 7 o83_13t12_19 (o83_13.drop 19) ?_
              refine L_join [.o false o83_13t12_19] [.o false (o83_13.drop 19), .c c83_46, .b 4, .c c83_54, .b 5, .c c83_59, .b 0, .c c83_65] (fun x : Bool => ⟨[(75, bB x), (4, .ptr (.s 1631) 0), (2, .ptr (.s 31) 0), (1, .ptr (.s 15) 0)], [(.s 1631, [nI 0, nI 0, lI a0.F_L, lI a0.F_V, nI a0.F_Scale, nI a0.F_Wide, lU a0.F_Lev, lB a0.F_Neg]), (.s 31, [nI 0, nI 0, .nils, .nils, nI 0, nI 0, .nils, .nils]), (.s 15, [nI a0.F_Scheme, nI a0.F_Dim, lI a0.F_L, lI a0.F_V, nI a0.F_Scale, nI a0.F_Wide, lU a0.F_Lev, lB a0.F_Neg])]⟩) ?_ (fun j8 => ?_)
              · refine L_split 68 decT (fun _ => ?_) (fun _ => ?_)
                · refine Av 2 [.o false (o83_13t12_19.drop 2)] ⟨[(70, lU a0.F_Lev), (68, bB true), (4, .ptr (.s 1631) 0), (2, .ptr (.s 31) 0), (1, .ptr (.s 15) 0)], [(.s 1631, [nI 0, nI 0, lI a0.F_L, lI a0.F_V, nI a0.F_Scale, nI a0.F_Wide, lU a0.F_Lev, lB a0.F_Neg]), (.s 31, [nI 0, nI 0, .nils, .nils, nI 0, nI 0, .nils, .nils]), (.s 15, [nI a0.F_Scheme, nI a0.F_Dim, lI a0.F_L, lI a0.F_V, nI a0.F_Scale, nI a0.F_Wide, lU a0.F_Lev, lB a0.F_Neg])]⟩ ?_
                  refine L_len (enc := D.int .u64) (l := a0.F_Lev) rfl rfl ?_
                  refine Av 5 [] ⟨[(75, bB ((a0.F_Lev.length : Int) == a0.F_Dim)), (4, .ptr (.s 1631) 0), (2, .ptr (.s 31) 0), (1, .ptr (.s 15) 0)], [(.s 1631, [nI 0, nI 0, lI a0.F_L, lI a0.F_V, nI a0.F_Scale, nI a0.F_Wide, lU a0.F_Lev, lB a0.F_Neg]), (.s 31, [nI 0, nI 0, .nils, .nils, nI 0, nI 0, .nils, .nils]), (.s 15, [nI a0.F_Scheme, nI a0.F_Dim, lI a0.F_L, lI a0.F_V, nI a0.F_Scale, nI a0.F_Wide, lU a0.F_Lev, lB a0.F_Neg])]⟩ ?_
                  exact L_end
                · refine Av 8 [] ⟨[(75, bB false), (4, .ptr (.s 1631) 0), (2, .ptr (.s 31) 0), (1, .ptr (.s 15) 0)], [(.s 1631, [nI 0, nI 0, lI a0.F_L, lI a0.F_V, nI a0.F_Scale, nI a0.F_Wide, lU a0.F_Lev, lB a0.F_Neg]), (.s 31, [nI 0, nI 0, .nils, .nils, nI 0, nI 0, .nils, .nils]), (.s 15, [nI a0.F_Scheme, nI a0.F_Dim, lI a0.F_L, lI a0.F_V, nI a0.F_Scale, nI a0.F_Wide, lU a0.F_Lev, lB a0.F_Neg])]⟩ ?_
                  exact L_end
              · refine Av 1 [.o false (o83_13.drop 20), .c c83_46, .b 4, .c c83_54, .b 5, .c c83_59, .b 0, .c c83_65] ⟨[(76, bB j8), (4, .ptr (.s 1631) 0), (2, .ptr (.s 31) 0), (1, .ptr (.s 15) 0)], [(.s 1631, [nI 0, nI 0, lI a0.F_L, lI a0.F_V, nI a0.F_Scale, nI a0.F_Wide, lU a0.F_Lev, lB a0.F_Neg]), (.s 31, [nI 0, nI 0, .nils, .nils, nI 0, nI 0, .nils, .nils]), (.s 15, [nI a0.F_Scheme, nI a0.F_Dim, lI a0.F_L, lI a0.F_V, nI a0.F_Scale, nI a0.F_Wide, lU a0.F_Lev, lB a0.F_Neg])]⟩ ?_
                refine L_take 6 o83_13t20_26 (o83_13.drop 26) ?_
                refine L_join [.o false o83_13t20_26] [.o false (o83_13.drop 26), .c c83_46, .b 4, .c c83_54, .b 5, .c c83_59, .b 0, .c c83_65] (fun x : Bool => ⟨[(82, bB x), (4, .ptr (.s 1631) 0), (2, .ptr (.s 31) 0), (1, .ptr (.s 15) 0)], [(.s 1631, [nI 0, nI 0, lI a0.F_L, lI a0.F_V, nI a0.F_Scale, nI a0.F_Wide, lU a0.F_Lev, lB a0.F_Neg]), (.s 31, [nI 0, nI 0, .nils, .nils, nI 0, nI 0, .nils, .nils]), (.s 15, [nI a0.F_Scheme, nI a0.F_Dim, lI a0.F_L, lI a0.F_V, nI a0.F_Scale, nI a0.F_Wide, lU a0.F_Lev, lB a0.F_Neg])]⟩) ?_ (fun j10 => ?_)
                · refine L_split 76 decT (fun _ => ?_) (fun _ => ?_)
                  · refine Av 3 [.o false (o83_13t20_26.drop 3)] ⟨[(79, .clo (.func 132) [] [.ptr (.s 15) 0]), (76, bB true), (78, lU a0.F_Lev), (4, .ptr (.s 1631) 0), (2, .ptr (.s 31) 0), (1, .ptr (.s 15) 0)], [(.s 1631, [nI 0, nI 0, lI a0.F_L, lI a0.F_V, nI a0.F_Scale, nI a0.F_Wide, lU a0.F_Lev, lB a0.F_Neg]), (.s 31, [nI 0, nI 0, .nils, .nils, nI 0, nI 0, .nils, .nils]), (.s 15, [nI a0.F_Scheme, nI a0.F_Dim, lI a0.F_L, lI a0.F_V, nI a0.F_Scale, nI a0.F_Wide, lU a0.F_Lev, lB a0.F_Neg])]⟩ ?_
                    refine L_call (ok_slices_ContainsFunc_uint64_uint64_frame_bare_1 a0.F_Lev a0.F_Scheme a0.F_Dim a0.F_L a0.F_V a0.F_Scale a0.F_Wide a0.F_Lev a0.F_Neg) rfl rfl (fun _ => rfl) (fun _ => trivial) (fun r9 => ?_)
                    refine Av 3 [] ⟨[(82, bB (!r9)), (4, .ptr (.s 1631) 0), (2, .ptr (.s 31) 0), (1, .ptr (.s 15) 0)], [(.s 1631, [nI 0, nI 0, lI a0.F_L, lI a0.F_V, nI a0.F_Scale, nI a0.F_Wide, lU a0.F_Lev, lB a0.F_Neg]), (.s 31, [nI 0, nI 0, .nils, .nils, nI 0, nI 0, .nils, .nils]), (.s 15, [nI a0.F_Scheme, nI a0.F_Dim, lI a0.F_L, lI a0.F_V, nI a0.F_Scale, nI a0.F_Wide, lU a0.F_Lev, lB a0.F_Neg])]⟩ ?_
                    exact L_end
                  · refine Av 7 [] ⟨[(82, bB false), (4, .ptr (.s 1631) 0), (2, .ptr (.s 31) 0), (1, .ptr (.s 15) 0)], [(.s 1631, [nI 0, nI 0, lI a0.F_L, lI a0.F_V, nI a0.F_Scale, nI a0.F_Wide, lU a0.F_Lev, lB a0.F_Neg]), (.s 31, [nI 0, nI 0, .nils, .nils, nI 0, nI 0, .nils, .nils]), (.s 15, [nI a0.F_Scheme, nI a0.F_Dim, lI a0.F_L, lI a0.F_V, nI a0.F_Scale, nI a0.F_Wide, lU a0.F_Lev, lB a0.F_Neg])]⟩ ?_
                    exact L_end
                · refine Av 14 [.o false (o83_15.drop 2), .c c83_51, .c (.exit 0), .b 5, .c c83_59, .b 0, .c c83_65] ⟨[(86, bB j10), (4, .ptr (.s 1631) 0), (2, .ptr (.s 31) 0), (1, .ptr (.s 15) 0)], [(.s 1631, [nI 0, nI 0, lI a0.F_L, lI a0.F_V, nI a0.F_Scale, nI 0, .nils, lB a0.F_Neg]), (.s 31, [nI 0, nI 0, .nils, .nils, nI 0, nI 0, .nils, .nils]), (.s 15, [nI a0.F_Scheme, nI a0.F_Dim, lI a0.F_L, lI a0.F_V, nI a0.F_Scale, nI a0.F_Wide, lU a0.F_Lev, lB a0.F_Neg])]⟩ ?_
                  refine L_take 4 o83_15t2_6 (o83_15.drop 6) ?_
                  refine L_join [.o false o83_15t2_6] [.o false (o83_15.drop 6), .c c83_51, .c (.exit 0), .b 5, .c c83_59, .b 0, .c c83_65] (fun x : Bool => ⟨[(90, bB x), (4, .ptr (.s 1631) 0), (2, .ptr (.s 31) 0), (1, .ptr (.s 15) 0)], [(.s 1631, [nI 0, nI 0, lI a0.F_L, lI a0.F_V, nI a0.F_Scale, nI 0, .nils, lB a0.F_Neg]), (.s 31, [nI 0, nI 0, .nils, .nils, nI 0, nI 0, .nils, .nils]), (.s 15, [nI a0.F_Scheme, nI a0.F_Dim, lI a0.F_L, lI a0.F_V, nI a0.F_Scale, nI a0.F_Wide, lU a0.F_Lev, lB a0.F_Neg])]⟩) ?_ (fun j11 => ?_)
                  · refine L_split 86 decT (fun _ => ?_) (fun _ => ?_)
                    · refine Av 5 [] ⟨[(90, bB (decide (a0.F_Scale ≥ 0))), (4, .ptr (.s 1631) 0), (2, .ptr (.s 31) 0), (1, .ptr (.s 15) 0)], [(.s 1631, [nI 0, nI 0, lI a0.F_L, lI a0.F_V, nI a0.F_Scale, nI 0, .nils, lB a0.F_Neg]), (.s 31, [nI 0, nI 0, .nils, .nils, nI 0, nI 0, .nils, .nils]), (.s 15, [nI a0.F_Scheme, nI a0.F_Dim, lI a0.F_L, lI a0.F_V, nI a0.F_Scale, nI a0.F_Wide, lU a0.F_Lev, lB a0.F_Neg])]⟩ ?_
                      exact L_end
                    · refine Av 5 [] ⟨[(90, bB false), (4, .ptr (.s 1631) 0), (2, .ptr (.s 31) 0), (1, .ptr (.s 15) 0)], [(.s 1631, [nI 0, nI 0, lI a0.F_L, lI a0.F_V, nI a0.F_Scale, nI 0, .nils, lB a0.F_Neg]), (.s 31, [nI 0, nI 0, .nils, .nils, nI 0, nI 0, .nils, .nils]), (.s 15, [nI a0.F_Scheme, nI a0.F_Dim, lI a0.F_L, lI a0.F_V, nI a0.F_Scale, nI a0.F_Wide, lU a0.F_Lev, lB a0.F_Neg])]⟩ ?_
                      exact L_end
                  · refine Av 1 [.o false (o83_15.drop 7), .c c83_51, .c (.exit 0), .b 5, .c c83_59, .b 0, .c c83_65] ⟨[(91, bB j11), (4, .ptr (.s 1631) 0), (2, .ptr (.s 31) 0), (1, .ptr (.s 15) 0)], [(.s 1631, [nI 0, nI 0, lI a0.F_L, lI a0.F_V, nI a0.F_Scale, nI 0, .nils, lB a0.F_Neg]), (.s 31, [nI 0, nI 0, .nils, .nils, nI 0, nI 0, .nils, .nils]), (.s 15, [nI a0.F_Scheme, nI a0.F_Dim, lI a0.F_L, lI a0.F_V, nI a0.F_Scale, nI a0.F_Wide, lU a0.F_Lev, lB a0.F_Neg])]⟩ ?_
                    refine L_take 7 o83_15t7_14 (o83_15.drop 14) ?_
                    refine L_join [.o false o83_15t7_14] [.o false (o83_15.drop 14), .c c83_51, .c (.exit 0), .b 5, .c c83_59, .b 0, .c c83_65] (fun x : Bool => ⟨[(98, bB x), (4, .ptr (.s 1631) 0), (2, .ptr (.s 31) 0)], [(.s 1631, [nI 0, nI 0, lI a0.F_L, lI a0.F_V, nI a0.F_Scale, nI 0, .nils, lB a0.F_Neg]), (.s 31, [nI 0, nI 0, .nils, .nils, nI 0, nI 0, .nils, .nils])]⟩) ?_ (fun j12 => ?_)
                    · refine L_split 91 decT (fun _ => ?_) (fun _ => ?_)
                      · refine Av 2 [.o false (o83_15t7_14.drop 2)] ⟨[(93, lB a0.F_Neg), (91, bB true), (4, .ptr (.s 1631) 0), (2, .ptr (.s 31) 0), (1, .ptr (.s 15) 0)], [(.s 1631, [nI 0, nI 0, lI a0.F_L, lI a0.F_V, nI a0.F_Scale, nI 0, .nils, lB a0.F_Neg]), (.s 31, [nI 0, nI 0, .nils, .nils, nI 0, nI 0, .nils, .nils]), (.s 15, [nI a0.F_Scheme, nI a0.F_Dim, lI a0.F_L, lI a0.F_V, nI a0.F_Scale, nI a0.F_Wide, lU a0.F_Lev, lB a0.F_Neg])]⟩ ?_
                        refine L_len (enc := D.bool) (l := a0.F_Neg) rfl rfl ?_
                        refine Av 5 [] ⟨[(98, bB ((a0.F_Neg.length : Int) == a0.F_Dim)), (4, .ptr (.s 1631) 0), (2, .ptr (.s 31) 0)], [(.s 1631, [nI 0, nI 0, lI a0.F_L, lI a0.F_V, nI a0.F_Scale, nI 0, .nils, lB a0.F_Neg]), (.s 31, [nI 0, nI 0, .nils, .nils, nI 0, nI 0, .nils, .nils])]⟩ ?_
                        exact L_end
                      · refine Av 8 [] ⟨[(98, bB false), (4, .ptr (.s 1631) 0), (2, .ptr (.s 31) 0)], [(.s 1631, [nI 0, nI 0, lI a0.F_L, lI a0.F_V, nI a0.F_Scale, nI 0, .nils, lB a0.F_Neg]), (.s 31, [nI 0, nI 0, .nils, .nils, nI 0, nI 0, .nils, .nils])]⟩ ?_
                        exact L_end
                    · refine Avk 20 [] .ret ⟨[(3, bB j12), (2, .ptr (.s 31) 0)], [(.s 31, [nI 0, nI 0, lI a0.F_L, lI a0.F_V, nI 0, nI 0, .nils, .nils])]⟩ ?_
                      exact L_ret
        · refine Av 7 [.c c83_23, .c (.exit 5), .b 1, .c c83_35, .b 2, .c c83_42, .b 3, .c c83_47, .b 4, .c c83_54, .b 5, .c c83_59, .b 0, .c c83_65] ⟨[(25, bB (a0.F_Scheme == 3)), (5, bB j1), (4, .ptr (.s 1631) 0), (2, .ptr (.s 31) 0), (1, .ptr (.s 15) 0)], [(.s 1631, [nI 0, nI 0, lI a0.F_L, lI a0.F_V, nI a0.F_Scale, nI a0.F_Wide, lU a0.F_Lev, lB a0.F_Neg]), (.s 31, [nI 0, nI 0, .nils, .nils, nI 0, nI 0, .nils, .nils]), (.s 15, [nI a0.F_Scheme, nI a0.F_Dim, lI a0.F_L, lI a0.F_V, nI a0.F_Scale, nI a0.F_Wide, lU a0.F_Lev, lB a0.F_Neg])]⟩ ?_
          refine L_split 25 decE (fun _ => ?_) (fun _ => ?_)
          · refine Av 15 [.o false (o83_15.drop 2), .c c83_51, .c (.exit 0), .b 5, .c c83_59, .b 0, .c c83_65] ⟨[(86, bB j1), (4, .ptr (.s 1631) 0), (2, .ptr (.s 31) 0), (1, .ptr (.s 15) 0)], [(.s 1631, [nI 0, nI 0, lI a0.F_L, lI a0.F_V, nI a0.F_Scale, nI a0.F_Wide, lU a0.F_Lev, lB a0.F_Neg]), (.s 31, [nI 0, nI 0, .nils, .nils, nI 0, nI 0, .nils, .nils]), (.s 15, [nI a0.F_Scheme, nI a0.F_Dim, lI a0.F_L, lI a0.F_V, nI a0.F_Scale, nI a0.F_Wide, lU a0.F_Lev, lB a0.F_Neg])]⟩ ?_
            refine L_take 4 o83_15t2_6 (o83_15.drop 6) ?_
            refine L_join [.o false o83_15t2_6] [.o false (o83_15.drop 6), .c c83_51, .c (.exit 0), .b 5, .c c83_59, .b 0, .c c83_65] (fun x : Bool => ⟨[(90, bB x), (4, .ptr (.s 1631) 0), (2, .ptr (.s 31) 0), (1, .ptr (.s 15) 0)], [(.s 1631, [nI 0, nI 0, lI a0.F_L, lI a0.F_V, nI a0.F_Scale, nI a0.F_Wide, lU a0.F_Lev, lB a0.F_Neg]), (.s 31, [nI 0, nI 0, .nils, .nils, nI 0, nI 0, .nils, .nils]), (.s 15, [nI a0.F_Scheme, nI a0.F_Dim, lI a0.F_L, lI a0.F_V, nI a0.F_Scale, nI a0.F_Wide, lU a0.F_Lev, lB a0.F_Neg])]⟩) ?_ (fun j13 => ?_)
            · refine L_split 86 decT (fun _ => ?_) (fun _ => ?_)
              · refine Av 5 [] ⟨[(90, bB (decide (a0.F_Scale ≥ 0))), (4, .ptr (.s 1631) 0), (2, .ptr (.s 31) 0), (1, .ptr (.s 15) 0)], [(.s 1631, [nI 0, nI 0, lI a0.F_L, lI a0.F_V, nI a0.F_Scale, nI a0.F_Wide, lU a0.F_Lev, lB a0.F_Neg]), (.s 31, [nI 0, nI 0, .nils, .nils, nI 0, nI 0, .nils, .nils]), (.s 15, [nI a0.F_Scheme, nI a0.F_Dim, lI a0.F_L, lI a0.F_V, nI a0.F_Scale, nI a0.F_Wide, lU a0.F_Lev, lB a0.F_Neg])]⟩ ?_
                exact L_end
              · refine Av 5 [] ⟨[(90, bB false), (4, .ptr (.s 1631) 0), (2, .ptr (.s 31) 0), (1, .ptr (.s 15) 0)], [(.s 1631, [nI 0, nI 0, lI a0.F_L, lI a0.F_V, nI a0.F_Scale, nI a0.F_Wide, lU a0.F_Lev, lB a0.F_Neg]), (.s 31, [nI 0, nI 0, .nils, .nils, nI 0, nI 0, .nils, .nils]), (.s 15, [nI a0.F_Scheme, nI a0.F_Dim, lI a0.F_L, lI a0.F_V, nI a0.F_Scale, nI a0.F_Wide, lU a0.F_Lev, lB a0.F_Neg])]⟩ ?_
                exact L_end
            · refine Av 1 [.o false (o83_15.drop 7), .c c83_51, .c (.exit 0), .b 5, .c c83_59, .b 0, .c c83_65] ⟨[(91, bB j13), (4, .ptr (.s 1631) 0), (2, .ptr (.s 31) 0), (1, .ptr (.s 15) 0)], [(.s 1631, [nI 0, nI 0, lI a0.F_L, lI a0.F_V, nI a0.F_Scale, nI a0.F_Wide, lU a0.F_Lev, lB a0.F_Neg]), (.s 31, [nI 0, nI 0, .nils, .nils, nI 0, nI 0, .nils, .nils]), (.s 15, [nI a0.F_Scheme, nI a0.F_Dim, lI a0.F_L, lI a0.F_V, nI a0.F_Scale, nI a0.F_Wide, lU a0.F_Lev, lB a0.F_Neg])]⟩ ?_
              refine L_take 7 o83_15t7_14 (o83_15.drop 14) ?_
              refine L_join [.o false o83_15t7_14] [.o false (o83_15.drop 14), .c c83_51, .c (.exit 0), .b 5, .c c83_59, .b 0, .c c83_65] (fun x : Bool => ⟨[(98, bB x), (4, .ptr (.s 1631) 0), (2, .ptr (.s 31) 0)], [(.s 1631, [nI 0, nI 0, lI a0.F_L, lI a0.F_V, nI a0.F_Scale, nI a0.F_Wide, lU a0.F_Lev, lB a0.F_Neg]), (.s 31, [nI 0, nI 0, .nils, .nils, nI 0, nI 0, .nils, .nils])]⟩) ?_ (fun j14 => ?_)
              · refine L_split 91 decT (fun _ => ?_) (fun _ => ?_)
                · refine Av 2 [.o false (o83_15t7_14.drop 2)] ⟨[(93, lB a0.F_Neg), (91, bB true), (4, .ptr (.s 1631) 0), (2, .ptr (.s 31) 0), (1, .ptr (.s 15) 0)], [(.s 1631, [nI 0, nI 0, lI a0.F_L, lI a0.F_V, nI a0.F_Scale, nI a0.F_Wide, lU a0.F_Lev, lB a0.F_Neg]), (.s 31, [nI 0, nI 0, .nils, .nils, nI 0, nI 0, .nils, .nils]), (.s 15, [nI a0.F_Scheme, nI a0.F_Dim, lI a0.F_L, lI a0.F_V, nI a0.F_Scale, nI a0.F_Wide, lU a0.F_Lev, lB a0.F_Neg])]⟩ ?_
                  refine L_len (enc := D.bool) (l := a0.F_Neg) rfl rfl ?_
                  refine Av 5 [] ⟨[(98, bB ((a0.F_Neg.length : Int) == a0.F_Dim)), (4, .ptr (.s 1631) 0), (2, .ptr (.s 31) 0)], [(.s 1631, [nI 0, nI 0, lI a0.F_L, lI a0.F_V, nI a0.F_Scale, nI a0.F_Wide, lU a0.F_Lev, lB a0.F_Neg]), (.s 31, [nI 0, nI 0, .nils, .nils, nI 0, nI 0, .nils, .nils])]⟩ ?_
                  exact L_end
                · refine Av 8 [] ⟨[(98, bB false), (4, .ptr (.s 1631) 0), (2, .ptr (.s 31) 0)], [(.s 1631, [nI 0, nI 0, lI a0.F_L, lI a0.F_V, nI a0.F_Scale, nI a0.F_Wide, lU a0.F_Lev, lB a0.F_Neg]), (.s 31, [nI 0, nI 0, .nils, .nils, nI 0, nI 0, .nils, .nils])]⟩ ?_
                  exact L_end
              · refine Avk 20 [] .ret ⟨[(3, bB j14), (2, .ptr (.s 31) 0)], [(.s 31, [nI 0, nI 0, lI a0.F_L, lI a0.F_V, nI 0, nI a0.F_Wide, lU a0.F_Lev, .nils])]⟩ ?_
                exact L_ret
          · refine Avk 26 [] .ret ⟨[(3, bB false), (2, .ptr (.s 31) 0)], [(.s 31, [nI 0, nI 0, lI a0.F_L, lI a0.F_V, nI a0.F_Scale, nI a0.F_Wide, lU a0.F_Lev, lB a0.F_Neg])]⟩ ?_
            exact L_ret
/-- slices.Equal[[]int,int]. -/
def en_slices_Equal_int_int (v : Bool) : PV := bB v
def o122_0 : List AOper := [mb 4 0 false]
def o122_1 : List AOper := [mv 6 100 0, ln 7 101 6, mv 8 102 1, ln 9 103 8, bi 10 104 .neq 7 9]
def o122_2 : List AOper := [mb 4 200 false]
def o122_3 : List AOper := [mv 11 300 0, ln 12 301 11, mi 13 302 0]
def o122_4 : List AOper := [bi 14 400 .lss 13 12]
def o122_5 : List AOper := [mv 15 500 13, mv 5 501 15]
def o122_6 : List AOper := [mv 16 600 0, mv 17 601 5, ⟨some 18, none, 602, .idxA 1 (.t 16) (.t 17)⟩, ld 19 603 18, mv 20 604 1, mv 21 605 5, ⟨some 22, none, 606, .idxA 1 (.t 20) (.t 21)⟩, ld 23 607 22, bi 24 608 .neq 19 23]
def o122_7 : List AOper := [mb 4 700 false]
def o122_8 : List AOper := [bc 25 800 .add 13 1, mv 13 801 25]
def o122_9 : List AOper := [mb 4 900 true]
def c122_6 : AC := .cond (.t 10) (.seq (.reg o122_2) .ret) .skip
def c122_12 : AC := .cond (.t 14) .skip (.exit 0)
def c122_14 : AC := .draw [⟨mv 16 600 0, false, []⟩, ⟨mv 17 601 5, false, []⟩, ⟨⟨some 18, none, 602, .idxA 1 (.t 16) (.t 17)⟩, false, []⟩, ⟨ld 19 603 18, false, []⟩, ⟨mv 20 604 1, false, []⟩, ⟨mv 21 605 5, false, []⟩, ⟨⟨some 22, none, 606, .idxA 1 (.t 20) (.t 21)⟩, false, []⟩, ⟨ld 23 607 22, false, []⟩, ⟨bi 24 608 .neq 19 23, false, []⟩]
def c122_19 : AC := .cond (.t 24) (.seq (.reg o122_7) .ret) .skip
def c122_23 : AC := .reg o122_8
def c122_24 : AC := .seq (.block 1 (.seq (.reg o122_5) (.seq c122_14 c122_19))) c122_23
def c122_26 : AC := .seq (.reg o122_4) (.seq c122_12 c122_24)
def c122_28 : AC := .block 0 (.loop c122_26)
def c122_32 : AC := .seq (.reg o122_9) .ret
def c122_33 : AC := .seq (.seq (.reg o122_3) c122_28) c122_32
def c122_35 : AC := .seq (.reg o122_0) (.seq (.seq (.reg o122_1) c122_6) c122_33)
theorem fn122 : fnA Try.prog 122 = some (26, [.t 4], c122_35) := by kernel_rfl
def q_ok_slices_Equal_int_int_l0_ok (a0 : List Int) (a1 : List Int) (x0 : Int) (v : (Sum Bool Unit)) : Prop := (fun v => go Try.prog 26 (PostR (fun r => Fnl [.t 4] (en_slices_Equal_int_int r) []) (.exit 0) (fun x : Unit => ⟨[], []⟩) v) [.l c122_26] .norm ⟨[(13, nI x0), (12, nI (a0.length : Int)), (0, lI a0), (1, lI a1)], []⟩) v
theorem ok_slices_Equal_int_int_l0_ok (a0 : List Int) (a1 : List Int) (x0 : Int) : Ok (M_slices_Equal_int_int_l0 a0 a1 x0) (q_ok_slices_Equal_int_int_l0_ok a0 a1 x0) := by
  refine M_slices_Equal_int_int_l0.partial_correctness a0 a1 (q_ok_slices_Equal_int_int_l0_ok a0 a1) ?_ x0
  clear x0
  intro f' IH x0
  refine okI ?_
  unfold q_ok_slices_Equal_int_int_l0_ok at *
  refine Av 1 [.c c122_26, .l c122_26] ⟨[(13, nI x0), (12, nI (a0.length : Int)), (0, lI a0), (1, lI a1)], []⟩ ?_
  refine Av 5 [.c c122_12, .c c122_24, .l c122_26] ⟨[(14, bB (decide (x0 < (a0.length : Int)))), (13, nI x0), (12, nI (a0.length : Int)), (0, lI a0), (1, lI a1)], []⟩ ?_
  refine L_split 14 rfl (fun _ => ?_) (fun _ => ?_)
  · refine Av 10 [.c c122_14, .c c122_19, .b 1, .c c122_23, .l c122_26] ⟨[(5, nI x0), (13, nI x0), (12, nI (a0.length : Int)), (0, lI a0), (1, lI a1)], []⟩ ?_
    refine Ae 3 [.o true (o122_6.drop 2), .c c122_19, .b 1, .c c122_23, .l c122_26] ⟨[(17, nI x0), (16, lI a0), (5, nI x0), (13, nI x0), (12, nI (a0.length : Int)), (0, lI a0), (1, lI a1)], []⟩ ?_
    refine L_idxD (enc := D.int .i64) (l := a0) (iv := x0) trivial rfl rfl (fun _ => rfl) (fun hc602 => ?_)
    refine Ae 3 [.o true (o122_6.drop 6), .c c122_19, .b 1, .c c122_23, .l c122_26] ⟨[(21, nI x0), (20, lI a1), (19, nI (at' a0 x0)), (18, .d (.cp [.int .i64 (at' a0 x0)] 0)), (17, nI x0), (16, lI a0), (5, nI x0), (13, nI x0), (12, nI (a0.length : Int)), (0, lI a0), (1, lI a1)], []⟩ ?_
    refine L_idxD (enc := D.int .i64) (l := a1) (iv := x0) trivial rfl rfl (fun _ => rfl) (fun hc606 => ?_)
    refine Av 3 [.c c122_19, .b 1, .c c122_23, .l c122_26] ⟨[(24, bB ((at' a0 x0) != (at' a1 x0))), (13, nI x0), (12, nI (a0.length : Int)), (0, lI a0), (1, lI a1)], []⟩ ?_
    refine L_split 24 decNe (fun _ => ?_) (fun _ => ?_)
    · refine Avk 9 [] .ret ⟨[(4, bB false)], []⟩ ?_
      exact L_retR
    · refine Av 7 [.l c122_26] ⟨[(13, nI (IntKind.i64.wrap (x0 + 1))), (12, nI (a0.length : Int)), (0, lI a0), (1, lI a1)], []⟩ ?_
      exact L_again (IH (IntKind.i64.wrap (x0 + 1)))
  · refine Avk 4 [] (.exit 0) ⟨[], []⟩ ?_
    exact L_endR
theorem ok_slices_Equal_int_int (a0 : List Int) (a1 : List Int) : ∀ v, M_slices_Equal_int_int a0 a1 = some v → EvF Try.prog 122 [.lst (List.map (D.int .i64) a0), .lst (List.map (D.int .i64) a1)] (en_slices_Equal_int_int v) := by
  intro v hv
  refine EvF_go fn122 (Nat.le_of_ble_eq_true rfl) ?_
  suffices h : Ok (M_slices_Equal_int_int a0 a1) fun v => go Try.prog 26 (Fnl [.t 4] (en_slices_Equal_int_int v) []) [.c c122_35] .norm (initSt (List.map PV.d [.lst (List.map (D.int .i64) a0), .lst (List.map (D.int .i64) a1)]) []) from h v hv
  unfold M_slices_Equal_int_int
  refine Av 8 [.o false (o122_1.drop 1), .c c122_6, .c c122_33] ⟨[(6, lI a0), (0, lI a0), (1, lI a1)], []⟩ ?_
  refine L_len (enc := D.int .i64) (l := a0) trivial rfl ?_
  refine Av 1 [.o false (o122_1.drop 3), .c c122_6, .c c122_33] ⟨[(8, lI a1), (7, nI (a0.length : Int)), (0, lI a0), (1, lI a1)], []⟩ ?_
  refine L_len (enc := D.int .i64) (l := a1) trivial rfl ?_
  refine Av 2 [.c c122_6, .c c122_33] ⟨[(10, bB ((a0.length : Int) != (a1.length : Int))), (0, lI a0), (1, lI a1)], []⟩ ?_
  refine L_split 10 decNe (fun _ => ?_) (fun _ => ?_)
  · refine Avk 7 [] .ret ⟨[(4, bB false)], []⟩ ?_
    exact L_ret
  · refine Av 6 [.o false (o122_3.drop 1), .c c122_28, .c c122_32] ⟨[(11, lI a0), (0, lI a0), (1, lI a1)], []⟩ ?_
    refine L_len (enc := D.int .i64) (l := a0) trivial rfl ?_
    refine Av 4 [.l c122_26, .b 0, .c c122_32] ⟨[(13, nI 0), (12, nI (a0.length : Int)), (0, lI a0), (1, lI a1)], []⟩ ?_
    refine L_pieceR (fs := [.l c122_26]) (ks := [.b 0, .c c122_32]) (ok_slices_Equal_int_int_l0_ok a0 a1 0) L_thru (fun j1 => ?_)
    refine Avk 6 [] .ret ⟨[(4, bB true)], []⟩ ?_
    exact L_ret
/-- slices.Equal[[]int64,int64]. -/
def en_slices_Equal_int64_int64 (v : Bool) : PV := bB v
def o123_0 : List AOper := [mb 4 0 false]
def o123_1 : List AOper := [mv 6 100 0, ln 7 101 6, mv 8 102 1, ln 9 103 8, bi 10 104 .neq 7 9]
def o123_2 : List AOper := [mb 4 200 false]
def o123_3 : List AOper := [mv 11 300 0, ln 12 301 11, mi 13 302 0]
def o123_4 : List AOper := [bi 14 400 .lss 13 12]
def o123_5 : List AOper := [mv 15 500 13, mv 5 501 15]
def o123_6 : List AOper := [mv 16 600 0, mv 17 601 5, ⟨some 18, none, 602, .idxA 1 (.t 16) (.t 17)⟩, ld 19 603 18, mv 20 604 1, mv 21 605 5, ⟨some 22, none, 606, .idxA 1 (.t 20) (.t 21)⟩, ld 23 607 22, bi 24 608 .neq 19 23]
def o123_7 : List AOper := [mb 4 700 false]
def o123_8 : List AOper := [bc 25 800 .add 13 1, mv 13 801 25]
def o123_9 : List AOper := [mb 4 900 true]
def c123_6 : AC := .cond (.t 10) (.seq (.reg o123_2) .ret) .skip
def c123_12 : AC := .cond (.t 14) .skip (.exit 0)
def c123_14 : AC := .draw [⟨mv 16 600 0, false, []⟩, ⟨mv 17 601 5, false, []⟩, ⟨⟨some 18, none, 602, .idxA 1 (.t 16) (.t 17)⟩, false, []⟩, ⟨ld 19 603 18, false, []⟩, ⟨mv 20 604 1, false, []⟩, ⟨mv 21 605 5, false, []⟩, ⟨⟨some 22, none, 606, .idxA 1 (.t 20) (.t 21)⟩, false, []⟩, ⟨ld 23 607 22, false, []⟩, ⟨bi 24 608 .neq 19 23, false, []⟩]
def c123_19 : AC := .cond (.t 24) (.seq (.reg o123_7) .ret) .skip
def c123_23 : AC := .reg o123_8
def c123_24 : AC := .seq (.block 1 (.seq (.reg o123_5) (.seq c123_14 c123_19))) c123_23
def c123_26 : AC := .seq (.reg o123_4) (.seq c123_12 c123_24)
def c123_28 : AC := .block 0 (.loop c123_26)
def c123_32 : AC := .seq (.reg o123_9) .ret
def c123_33 : AC := .seq (.seq (.reg o123_3) c123_28) c123_32
def c123_35 : AC := .seq (.reg o123_0) (.seq (.seq (.reg o123_1) c123_6) c123_33)
theorem fn123 : fnA Try.prog 123 = some (26, [.t 4], c123_35) := by kernel_rfl
def q_ok_slices_Equal_int64_int64_l0_ok (a0 : List Int) (a1 : List Int) (x0 : Int) (v : (Sum Bool Unit)) : Prop := (fun v => go Try.prog 26 (PostR (fun r => Fnl [.t 4] (en_slices_Equal_int64_int64 r) []) (.exit 0) (fun x : Unit => ⟨[], []⟩) v) [.l c123_26] .norm ⟨[(13, nI x0), (12, nI (a0.length : Int)), (0, lI a0), (1, lI a1)], []⟩) v
theorem ok_slices_Equal_int64_int64_l0_ok (a0 : List Int) (a1 : List Int) (x0 : Int) : Ok (M_slices_Equal_int64_int64_l0 a0 a1 x0) (q_ok_slices_Equal_int64_int64_l0_ok a0 a1 x0) := by
  refine M_slices_Equal_int64_int64_l0.partial_correctness a0 a1 (q_ok_slices_Equal_int64_int64_l0_ok a0 a1) ?_ x0
  clear x0
  intro f' IH x0
  refine okI ?_
  unfold q_ok_slices_Equal_int64_int64_l0_ok at *
  refine Av 1 [.c c123_26, .l c123_26] ⟨[(13, nI x0), (12, nI (a0.length : Int)), (0, lI a0), (1, lI a1)], []⟩ ?_
  refine Av 5 [.c c123_12, .c c123_24, .l c123_26] ⟨[(14, bB (decide (x0 < (a0.length : Int)))), (13, nI x0), (12, nI (a0.length : Int)), (0, lI a0), (1, lI a1)], []⟩ ?_
  refine L_split 14 rfl (fun _ => ?_) (fun _ => ?_)
  · refine Av 10 [.c c123_14, .c c123_19, .b 1, .c c123_23, .l c123_26] ⟨[(5, nI x0), (13, nI x0), (12, nI (a0.length : Int)), (0, lI a0), (1, lI a1)], []⟩ ?_
    refine Ae 3 [.o true (o123_6.drop 2), .c c123_19, .b 1, .c c123_23, .l c123_26] ⟨[(17, nI x0), (16, lI a0), (5, nI x0), (13, nI x0), (12, nI (a0.length : Int)), (0, lI a0), (1, lI a1)], []⟩ ?_
    refine L_idxD (enc := D.int .i64) (l := a0) (iv := x0) trivial rfl rfl (fun _ => rfl) (fun hc602 => ?_)
    refine Ae 3 [.o true (o123_6.drop 6), .c c123_19, .b 1, .c c123_23, .l c123_26] ⟨[(21, nI x0), (20, lI a1), (19, nI (at' a0 x0)), (18, .d (.cp [.int .i64 (at' a0 x0)] 0)), (17, nI x0), (16, lI a0), (5, nI x0), (13, nI x0), (12, nI (a0.length : Int)), (0, lI a0), (1, lI a1)], []⟩ ?_
    refine L_idxD (enc := D.int .i64) (l := a1) (iv := x0) trivial rfl rfl (fun _ => rfl) (fun hc606 => ?_)
    refine Av 3 [.c c123_19, .b 1, .c c123_23, .l c123_26] ⟨[(24, bB ((at' a0 x0) != (at' a1 x0))), (13, nI x0), (12, nI (a0.length : Int)), (0, lI a0), (1, lI a1)], []⟩ ?_
    refine L_split 24 decNe (fun _ => ?_) (fun _ => ?_)
    · refine Avk 9 [] .ret ⟨[(4, bB false)], []⟩ ?_
      exact L_retR
    · refine Av 7 [.l c123_26] ⟨[(13, nI (IntKind.i64.wrap (x0 + 1))), (12, nI (a0.length : Int)), (0, lI a0), (1, lI a1)], []⟩ ?_
      exact L_again (IH (IntKind.i64.wrap (x0 + 1)))
  · refine Avk 4 [] (.exit 0) ⟨[], []⟩ ?_
    exact L_endR
theorem ok_slices_Equal_int64_int64 (a0 : List Int) (a1 : List Int) : ∀ v, M_slices_Equal_int64_int64 a0 a1 = some v → EvF Try.prog 123 [.lst (List.map (D.int .i64) a0), .lst (List.map (D.int .i64) a1)] (en_slices_Equal_int64_int64 v) := by
  intro v hv
  refine EvF_go fn123 (Nat.le_of_ble_eq_true rfl) ?_
  suffices h : Ok (M_slices_Equal_int64_int64 a0 a1) fun v => go Try.prog 26 (Fnl [.t 4] (en_slices_Equal_int64_int64 v) []) [.c c123_35] .norm (initSt (List.map PV.d [.lst (List.map (D.int .i64) a0), .lst (List.map (D.int .i64) a1)]) []) from h v hv
  unfold M_slices_Equal_int64_int64
  refine Av 8 [.o false (o123_1.drop 1), .c c123_6, .c c123_33] ⟨[(6, lI a0), (0, lI a0), (1, lI a1)], []⟩ ?_
  refine L_len (enc := D.int .i64) (l := a0) trivial rfl ?_
  refine Av 1 [.o false (o123_1.drop 3), .c c123_6, .c c123_33] ⟨[(8, lI a1), (7, nI (a0.length : Int)), (0, lI a0), (1, lI a1)], []⟩ ?_
  refine L_len (enc := D.int .i64) (l := a1) trivial rfl ?_
  refine Av 2 [.c c123_6, .c c123_33] ⟨[(10, bB ((a0.length : Int) != (a1.length : Int))), (0, lI a0), (1, lI a1)], []⟩ ?_
  refine L_split 10 decNe (fun _ => ?_) (fun _ => ?_)
  · refine Avk 7 [] .ret ⟨[(4, bB false)], []⟩ ?_
    exact L_ret
  · refine Av 6 [.o false (o123_3.drop 1), .c c123_28, .c c123_32] ⟨[(11, lI a0), (0, lI a0), (1, lI a1)], []⟩ ?_
    refine L_len (enc := D.int .i64) (l := a0) trivial rfl ?_
    refine Av 4 [.l c123_26, .b 0, .c c123_32] ⟨[(13, nI 0), (12, nI (a0.length : Int)), (0, lI a0), (1, lI a1)], []⟩ ?_
    refine L_pieceR (fs := [.l c123_26]) (ks := [.b 0, .c c123_32]) (ok_slices_Equal_int64_int64_l0_ok a0 a1 0) L_thru (fun j1 => ?_)
    refine Avk 6 [] .ret ⟨[(4, bB true)], []⟩ ?_
    exact L_ret
/-- slices.Equal[[]uint64,uint64]. -/
def en_slices_Equal_uint64_uint64 (v : Bool) : PV := bB v
def o129_0 : List AOper := [mb 4 0 false]
def o129_1 : List AOper := [mv 6 100 0, ln 7 101 6, mv 8 102 1, ln 9 103 8, bi 10 104 .neq 7 9]
def o129_2 : List AOper := [mb 4 200 false]
def o129_3 : List AOper := [mv 11 300 0, ln 12 301 11, mi 13 302 0]
def o129_4 : List AOper := [bi 14 400 .lss 13 12]
def o129_5 : List AOper := [mv 15 500 13, mv 5 501 15]
def o129_6 : List AOper := [mv 16 600 0, mv 17 601 5, ⟨some 18, none, 602, .idxA 1 (.t 16) (.t 17)⟩, ld 19 603 18, mv 20 604 1, mv 21 605 5, ⟨some 22, none, 606, .idxA 1 (.t 20) (.t 21)⟩, ld 23 607 22, bi 24 608 .neq 19 23]
def o129_7 : List AOper := [mb 4 700 false]
def o129_8 : List AOper := [bc 25 800 .add 13 1, mv 13 801 25]
def o129_9 : List AOper := [mb 4 900 true]
def c129_6 : AC := .cond (.t 10) (.seq (.reg o129_2) .ret) .skip
def c129_12 : AC := .cond (.t 14) .skip (.exit 0)
def c129_14 : AC := .draw [⟨mv 16 600 0, false, []⟩, ⟨mv 17 601 5, false, []⟩, ⟨⟨some 18, none, 602, .idxA 1 (.t 16) (.t 17)⟩, false, []⟩, ⟨ld 19 603 18, false, []⟩, ⟨mv 20 604 1, false, []⟩, ⟨mv 21 605 5, false, []⟩, ⟨⟨some 22, none, 606, .idxA 1 (.t 20) (.t 21)⟩, false, []⟩, ⟨ld 23 607 22, false, []⟩, ⟨bi 24 608 .neq 19 23, false, []⟩]
def c129_19 : AC := .cond (.t 24) (.seq (.reg o129_7) .ret) .skip
def c129_23 : AC := .reg o129_8
def c129_24 : AC := .seq (.block 1 (.seq (.reg o129_5) (.seq c129_14 c129_19))) c129_23
def c129_26 : AC := .seq (.reg o129_4) (.seq c129_12 c129_24)
def c129_28 : AC := .block 0 (.loop c129_26)
def c129_32 : AC := .seq (.reg o129_9) .ret
def c129_33 : AC := .seq (.seq (.reg o129_3) c129_28) c129_32
def c129_35 : AC := .seq (.reg o129_0) (.seq (.seq (.reg o129_1) c129_6) c129_33)
theorem fn129 : fnA Try.prog 129 = some (26, [.t 4], c129_35) := by kernel_rfl
def q_ok_slices_Equal_uint64_uint64_l0_ok (a0 : List Int) (a1 : List Int) (x0 : Int) (v : (Sum Bool Unit)) : Prop := (fun v => go Try.prog 26 (PostR (fun r => Fnl [.t 4] (en_slices_Equal_uint64_uint64 r) []) (.exit 0) (fun x : Unit => ⟨[], []⟩) v) [.l c129_26] .norm ⟨[(13, nI x0), (12, nI (a0.length : Int)), (0, lU a0), (1, lU a1)], []⟩) v
theorem ok_slices_Equal_uint64_uint64_l0_ok (a0 : List Int) (a1 : List Int) (x0 : Int) : Ok (M_slices_Equal_uint64_uint64_l0 a0 a1 x0) (q_ok_slices_Equal_uint64_uint64_l0_ok a0 a1 x0) := by
  refine M_slices_Equal_uint64_uint64_l0.partial_correctness a0 a1 (q_ok_slices_Equal_uint64_uint64_l0_ok a0 a1) ?_ x0
  clear x0
  intro f' IH x0
  refine okI ?_
  unfold q_ok_slices_Equal_uint64_uint64_l0_ok at *
  refine Av 1 [.c c129_26, .l c129_26] ⟨[(13, nI x0), (12, nI (a0.length : Int)), (0, lU a0), (1, lU a1)], []⟩ ?_
  refine Av 5 [.c c129_12, .c c129_24, .l c129_26] ⟨[(14, bB (decide (x0 < (a0.length : Int)))), (13, nI x0), (12, nI (a0.length : Int)), (0, lU a0), (1, lU a1)], []⟩ ?_
  refine L_split 14 rfl (fun _ => ?_) (fun _ => ?_)
  · refine Av 10 [.c c129_14, .c c129_19, .b 1, .c c129_23, .l c129_26] ⟨[(5, nI x0), (13, nI x0), (12, nI (a0.length : Int)), (0, lU a0), (1, lU a1)], []⟩ ?_
    refine Ae 3 [.o true (o129_6.drop 2), .c c129_19, .b 1, .c c129_23, .l c129_26] ⟨[(17, nI x0), (16, lU a0), (5, nI x0), (13, nI x0), (12, nI (a0.length : Int)), (0, lU a0), (1, lU a1)], []⟩ ?_
    refine L_idxD (enc := D.int .u64) (l := a0) (iv := x0) trivial rfl rfl (fun _ => rfl) (fun hc602 => ?_)
    refine Ae 3 [.o true (o129_6.drop 6), .c c129_19, .b 1, .c c129_23, .l c129_26] ⟨[(21, nI x0), (20, lU a1), (19, nU (at' a0 x0)), (18, .d (.cp [.int .u64 (at' a0 x0)] 0)), (17, nI x0), (16, lU a0), (5, nI x0), (13, nI x0), (12, nI (a0.length : Int)), (0, lU a0), (1, lU a1)], []⟩ ?_
    refine L_idxD (enc := D.int .u64) (l := a1) (iv := x0) trivial rfl rfl (fun _ => rfl) (fun hc606 => ?_)
    refine Av 3 [.c c129_19, .b 1, .c c129_23, .l c129_26] ⟨[(24, bB ((at' a0 x0) != (at' a1 x0))), (13, nI x0), (12, nI (a0.length : Int)), (0, lU a0), (1, lU a1)], []⟩ ?_
    refine L_split 24 decNe (fun _ => ?_) (fun _ => ?_)
    · refine Avk 9 [] .ret ⟨[(4, bB false)], []⟩ ?_
      exact L_retR
    · refine Av 7 [.l c129_26] ⟨[(13, nI (IntKind.i64.wrap (x0 + 1))), (12, nI (a0.length : Int)), (0, lU a0), (1, lU a1)], []⟩ ?_
      exact L_again (IH (IntKind.i64.wrap (x0 + 1)))
  · refine Avk 4 [] (.exit 0) ⟨[], []⟩ ?_
    exact L_endR
theorem ok_slices_Equal_uint64_uint64 (a0 : List Int) (a1 : List Int) : ∀ v, M_slices_Equal_uint64_uint64 a0 a1 = some v → EvF Try.prog 129 [.lst (List.map (D.int .u64) a0), .lst (List.map (D.int .u64) a1)] (en_slices_Equal_uint64_uint64 v) := by
  intro v hv
  refine EvF_go fn129 (Nat.le_of_ble_eq_true rfl) ?_
  suffices h : Ok (M_slices_Equal_uint64_uint64 a0 a1) fun v => go Try.prog 26 (Fnl [.t 4] (en_slices_Equal_uint64_uint64 v) []) [.c c129_35] .norm (initSt (List.map PV.d [.lst (List.map (D.int .u64) a0), .lst (List.map (D.int .u64) a1)]) []) from h v hv
  unfold M_slices_Equal_uint64_uint64
  refine Av 8 [.o false (o129_1.drop 1), .c c129_6, .c c129_33] ⟨[(6, lU a0), (0, lU a0), (1, lU a1)], []⟩ ?_
  refine L_len (enc := D.int .u64) (l := a0) trivial rfl ?_
  refine Av 1 [.o false (o129_1.drop 3), .c c129_6, .c c129_33] ⟨[(8, lU a1), (7, nI (a0.length : Int)), (0, lU a0), (1, lU a1)], []⟩ ?_
  refine L_len (enc := D.int .u64) (l := a1) trivial rfl ?_
  refine Av 2 [.c c129_6, .c c129_33] ⟨[(10, bB ((a0.length : Int) != (a1.length : Int))), (0, lU a0), (1, lU a1)], []⟩ ?_
  refine L_split 10 decNe (fun _ => ?_) (fun _ => ?_)
  · refine Avk 7 [] .ret ⟨[(4, bB false)], []⟩ ?_
    exact L_ret
  · refine Av 6 [.o false (o129_3.drop 1), .c c129_28, .c c129_32] ⟨[(11, lU a0), (0, lU a0), (1, lU a1)], []⟩ ?_
    refine L_len (enc := D.int .u64) (l := a0) trivial rfl ?_
    refine Av 4 [.l c129_26, .b 0, .c c129_32] ⟨[(13, nI 0), (12, nI (a0.length : Int)), (0, lU a0), (1, lU a1)], []⟩ ?_
    refine L_pieceR (fs := [.l c129_26]) (ks := [.b 0, .c c129_32]) (ok_slices_Equal_uint64_uint64_l0_ok a0 a1 0) L_thru (fun j1 => ?_)
    refine Avk 6 [] .ret ⟨[(4, bB true)], []⟩ ?_
    exact L_ret
/-- slices.Equal[[]bool,bool]. -/
def en_slices_Equal_bool_bool (v : Bool) : PV := bB v
def o130_0 : List AOper := [mb 4 0 false]
def o130_1 : List AOper := [mv 6 100 0, ln 7 101 6, mv 8 102 1, ln 9 103 8, bi 10 104 .neq 7 9]
def o130_2 : List AOper := [mb 4 200 false]
def o130_3 : List AOper := [mv 11 300 0, ln 12 301 11, mi 13 302 0]
def o130_4 : List AOper := [bi 14 400 .lss 13 12]
def o130_5 : List AOper := [mv 15 500 13, mv 5 501 15]
def o130_6 : List AOper := [mv 16 600 0, mv 17 601 5, ⟨some 18, none, 602, .idxA 1 (.t 16) (.t 17)⟩, ld 19 603 18, mv 20 604 1, mv 21 605 5, ⟨some 22, none, 606, .idxA 1 (.t 20) (.t 21)⟩, ld 23 607 22, ⟨some 24, none, 608, .bin .neq .bool (.t 19) (.t 23)⟩]
def o130_7 : List AOper := [mb 4 700 false]
def o130_8 : List AOper := [bc 25 800 .add 13 1, mv 13 801 25]
def o130_9 : List AOper := [mb 4 900 true]
def c130_6 : AC := .cond (.t 10) (.seq (.reg o130_2) .ret) .skip
def c130_12 : AC := .cond (.t 14) .skip (.exit 0)
def c130_14 : AC := .draw [⟨mv 16 600 0, false, []⟩, ⟨mv 17 601 5, false, []⟩, ⟨⟨some 18, none, 602, .idxA 1 (.t 16) (.t 17)⟩, false, []⟩, ⟨ld 19 603 18, false, []⟩, ⟨mv 20 604 1, false, []⟩, ⟨mv 21 605 5, false, []⟩, ⟨⟨some 22, none, 606, .idxA 1 (.t 20) (.t 21)⟩, false, []⟩, ⟨ld 23 607 22, false, []⟩, ⟨⟨some 24, none, 608, .bin .neq .bool (.t 19) (.t 23)⟩, false, []⟩]
def c130_19 : AC := .cond (.t 24) (.seq (.reg o130_7) .ret) .skip
def c130_23 : AC := .reg o130_8
def c130_24 : AC := .seq (.block 1 (.seq (.reg o130_5) (.seq c130_14 c130_19))) c130_23
def c130_26 : AC := .seq (.reg o130_4) (.seq c130_12 c130_24)
def c130_28 : AC := .block 0 (.loop c130_26)
def c130_32 : AC := .seq (.reg o130_9) .ret
def c130_33 : AC := .seq (.seq (.reg o130_3) c130_28) c130_32
def c130_35 : AC := .seq (.reg o130_0) (.seq (.seq (.reg o130_1) c130_6) c130_33)
theorem fn130 : fnA Try.prog 130 = some (26, [.t 4], c130_35) := by kernel_rfl
def q_ok_slices_Equal_bool_bool_l0_ok (a0 : List Bool) (a1 : List Bool) (x0 : Int) (v : (Sum Bool Unit)) : Prop := (fun v => go Try.prog 26 (PostR (fun r => Fnl [.t 4] (en_slices_Equal_bool_bool r) []) (.exit 0) (fun x : Unit => ⟨[], []⟩) v) [.l c130_26] .norm ⟨[(13, nI x0), (12, nI (a0.length : Int)), (0, lB a0), (1, lB a1)], []⟩) v
theorem ok_slices_Equal_bool_bool_l0_ok (a0 : List Bool) (a1 : List Bool) (x0 : Int) : Ok (M_slices_Equal_bool_bool_l0 a0 a1 x0) (q_ok_slices_Equal_bool_bool_l0_ok a0 a1 x0) := by
  refine M_slices_Equal_bool_bool_l0.partial_correctness a0 a1 (q_ok_slices_Equal_bool_bool_l0_ok a0 a1) ?_ x0
  clear x0
  intro f' IH x0
  refine okI ?_
  unfold q_ok_slices_Equal_bool_bool_l0_ok at *
  refine Av 1 [.c c130_26, .l c130_26] ⟨[(13, nI x0), (12, nI (a0.length : Int)), (0, lB a0), (1, lB a1)], []⟩ ?_
  refine Av 5 [.c c130_12, .c c130_24, .l c130_26] ⟨[(14, bB (decide (x0 < (a0.length : Int)))), (13, nI x0), (12, nI (a0.length : Int)), (0, lB a0), (1, lB a1)], []⟩ ?_
  refine L_split 14 rfl (fun _ => ?_) (fun _ => ?_)
  · refine Av 10 [.c c130_14, .c c130_19, .b 1, .c c130_23, .l c130_26] ⟨[(5, nI x0), (13, nI x0), (12, nI (a0.length : Int)), (0, lB a0), (1, lB a1)], []⟩ ?_
    refine Ae 3 [.o true (o130_6.drop 2), .c c130_19, .b 1, .c c130_23, .l c130_26] ⟨[(17, nI x0), (16, lB a0), (5, nI x0), (13, nI x0), (12, nI (a0.length : Int)), (0, lB a0), (1, lB a1)], []⟩ ?_
    refine L_idxD (enc := D.bool) (l := a0) (iv := x0) trivial rfl rfl (fun _ => rfl) (fun hc602 => ?_)
    refine Ae 3 [.o true (o130_6.drop 6), .c c130_19, .b 1, .c c130_23, .l c130_26] ⟨[(21, nI x0), (20, lB a1), (19, bB (at' a0 x0)), (18, .d (.cp [.bool (at' a0 x0)] 0)), (17, nI x0), (16, lB a0), (5, nI x0), (13, nI x0), (12, nI (a0.length : Int)), (0, lB a0), (1, lB a1)], []⟩ ?_
    refine L_idxD (enc := D.bool) (l := a1) (iv := x0) trivial rfl rfl (fun _ => rfl) (fun hc606 => ?_)
    refine Av 3 [.c c130_19, .b 1, .c c130_23, .l c130_26] ⟨[(24, bB (!((at' a0 x0) == (at' a1 x0)))), (13, nI x0), (12, nI (a0.length : Int)), (0, lB a0), (1, lB a1)], []⟩ ?_
    refine L_split 24 decBn (fun _ => ?_) (fun _ => ?_)
    · refine Avk 9 [] .ret ⟨[(4, bB false)], []⟩ ?_
      exact L_retR
    · refine Av 7 [.l c130_26] ⟨[(13, nI (IntKind.i64.wrap (x0 + 1))), (12, nI (a0.length : Int)), (0, lB a0), (1, lB a1)], []⟩ ?_
      exact L_again (IH (IntKind.i64.wrap (x0 + 1)))
  · refine Avk 4 [] (.exit 0) ⟨[], []⟩ ?_
    exact L_endR
theorem ok_slices_Equal_bool_bool (a0 : List Bool) (a1 : List Bool) : ∀ v, M_slices_Equal_bool_bool a0 a1 = some v → EvF Try.prog 130 [.lst (List.map D.bool a0), .lst (List.map D.bool a1)] (en_slices_Equal_bool_bool v) := by
  intro v hv
  refine EvF_go fn130 (Nat.le_of_ble_eq_true rfl) ?_
  suffices h : Ok (M_slices_Equal_bool_bool a0 a1) fun v => go Try.prog 26 (Fnl [.t 4] (en_slices_Equal_bool_bool v) []) [.c c130_35] .norm (initSt (List.map PV.d [.lst (List.map D.bool a0), .lst (List.map D.bool a1)]) []) from h v hv
  unfold M_slices_Equal_bool_bool
  refine Av 8 [.o false (o130_1.drop 1), .c c130_6, .c c130_33] ⟨[(6, lB a0), (0, lB a0), (1, lB a1)], []⟩ ?_
  refine L_len (enc := D.bool) (l := a0) trivial rfl ?_
  refine Av 1 [.o false (o130_1.drop 3), .c c130_6, .c c130_33] ⟨[(8, lB a1), (7, nI (a0.length : Int)), (0, lB a0), (1, lB a1)], []⟩ ?_
  refine L_len (enc := D.bool) (l := a1) trivial rfl ?_
  refine Av 2 [.c c130_6, .c c130_33] ⟨[(10, bB ((a0.length : Int) != (a1.length : Int))), (0, lB a0), (1, lB a1)], []⟩ ?_
  refine L_split 10 decNe (fun _ => ?_) (fun _ => ?_)
  · refine Avk 7 [] .ret ⟨[(4, bB false)], []⟩ ?_
    exact L_ret
  · refine Av 6 [.o false (o130_3.drop 1), .c c130_28, .c c130_32] ⟨[(11, lB a0), (0, lB a0), (1, lB a1)], []⟩ ?_
    refine L_len (enc := D.bool) (l := a0) trivial rfl ?_
    refine Av 4 [.l c130_26, .b 0, .c c130_32] ⟨[(13, nI 0), (12, nI (a0.length : Int)), (0, lB a0), (1, lB a1)], []⟩ ?_
    refine L_pieceR (fs := [.l c130_26]) (ks := [.b 0, .c c130_32]) (ok_slices_Equal_bool_bool_l0_ok a0 a1 0) L_thru (fun j1 => ?_)
    refine Avk 6 [] .ret ⟨[(4, bB true)], []⟩ ?_
    exact L_ret
/-- thrum/frame.same. -/
def en_frame_same (v : Bool) : PV := bB v
def o82_0 : List AOper := [⟨some 2, none, 0, .box 51 (.t 0)⟩, ⟨some 3, none, 1, .box 51 (.t 1)⟩, mb 4 2 false]
def o82_1 : List AOper := [⟨some 5, none, 100, .fieldA 0 (.t 2)⟩, ld 6 101 5, ⟨some 7, none, 102, .fieldA 1 (.t 2)⟩, ld 8 103 7, ⟨some 9, none, 104, .fieldA 4 (.t 2)⟩, ld 10 105 9, ⟨some 11, none, 106, .fieldA 5 (.t 2)⟩, ld 12 107 11, ⟨some 13, none, 108, .build [.int .i64 0, .int .i64 0, .int .i64 0, .int .i64 0] [(0, 1, .t 6), (1, 1, .t 8), (2, 1, .t 10), (3, 1, .t 12)]⟩, ⟨some 14, none, 109, .fieldA 0 (.t 3)⟩, ld 15 110 14, ⟨some 16, none, 111, .fieldA 1 (.t 3)⟩, ld 17 112 16, ⟨some 18, none, 113, .fieldA 4 (.t 3)⟩, ld 19 114 18, ⟨some 20, none, 115, .fieldA 5 (.t 3)⟩, ld 21 116 20, ⟨some 22, none, 117, .build [.int .i64 0, .int .i64 0, .int .i64 0, .int .i64 0] [(0, 1, .t 15), (1, 1, .t 17), (2, 1, .t 19), (3, 1, .t 21)]⟩, ⟨some 23, none, 118, .eqA false .i64 4 (.t 13) (.t 22)⟩, mv 24 119 23, ⟨some 25, some (24, true), 120, .fieldA 2 (.t 2)⟩, ⟨some 26, some (24, true), 121, .load false 1 (.t 25)⟩, ⟨some 27, some (24, true), 122, .fieldA 2 (.t 3)⟩, ⟨some 28, some (24, true), 123, .load false 1 (.t 27)⟩, ⟨some 29, some (24, true), 124, .call 122 [.t 26, .t 28]⟩, pk 30 125 24 29 false, mv 31 126 30, ⟨some 32, some (31, true), 127, .fieldA 3 (.t 2)⟩, ⟨some 33, some (31, true), 128, .load false 1 (.t 32)⟩, ⟨some 34, some (31, true), 129, .fieldA 3 (.t 3)⟩, ⟨some 35, some (31, true), 130, .load false 1 (.t 34)⟩, ⟨some 36, some (31, true), 131, .call 123 [.t 33, .t 35]⟩, pk 37 132 31 36 false, mv 38 133 37, ⟨some 39, some (38, true), 134, .fieldA 6 (.t 2)⟩, ⟨some 40, some (38, true), 135, .load false 1 (.t 39)⟩, ⟨some 41, some (38, true), 136, .fieldA 6 (.t 3)⟩, ⟨some 42, some (38, true), 137, .load false 1 (.t 41)⟩, ⟨some 43, some (38, true), 138, .call 129 [.t 40, .t 42]⟩, pk 44 139 38 43 false, mv 45 140 44, ⟨some 46, some (45, true), 141, .fieldA 7 (.t 2)⟩, ⟨some 47, some (45, true), 142, .load false 1 (.t 46)⟩, ⟨some 48, some (45, true), 143, .fieldA 7 (.t 3)⟩, ⟨some 49, some (45, true), 144, .load false 1 (.t 48)⟩, ⟨some 50, some (45, true), 145, .call 130 [.t 47, .t 49]⟩, pk 51 146 45 50 false, mv 4 147 51]
def o82_1t20_26 : List AOper := (o82_1.drop 20).take 6
def o82_1t27_33 : List AOper := (o82_1.drop 27).take 6
def o82_1t34_40 : List AOper := (o82_1.drop 34).take 6
def o82_1t41_47 : List AOper := (o82_1.drop 41).take 6
def c82_4 : AC := .seq (.reg o82_0) (.seq (.reg o82_1) .ret)
theorem fn82 : fnA Try.prog 82 = some (52, [.t 4], c82_4) := by kernel_rfl
theorem ok_frame_same (a0 : T_api_Sent) (a1 : T_api_Sent) : ∀ v, M_frame_same a0 a1 = some v → EvF Try.prog 82 [.agg [.int .i64 a0.F_Scheme, .int .i64 a0.F_Dim, .lst (List.map (D.int .i64) a0.F_L), .lst (List.map (D.int .i64) a0.F_V), .int .i64 a0.F_Scale, .int .i64 a0.F_Wide, .lst (List.map (D.int .u64) a0.F_Lev), .lst (List.map D.bool a0.F_Neg)], .agg [.int .i64 a1.F_Scheme, .int .i64 a1.F_Dim, .lst (List.map (D.int .i64) a1.F_L), .lst (List.map (D.int .i64) a1.F_V), .int .i64 a1.F_Scale, .int .i64 a1.F_Wide, .lst (List.map (D.int .u64) a1.F_Lev), .lst (List.map D.bool a1.F_Neg)]] (en_frame_same v) := by
  intro v hv
  refine EvF_go fn82 (Nat.le_of_ble_eq_true rfl) ?_
  suffices h : Ok (M_frame_same a0 a1) fun v => go Try.prog 52 (Fnl [.t 4] (en_frame_same v) []) [.c c82_4] .norm (initSt (List.map PV.d [.agg [.int .i64 a0.F_Scheme, .int .i64 a0.F_Dim, .lst (List.map (D.int .i64) a0.F_L), .lst (List.map (D.int .i64) a0.F_V), .int .i64 a0.F_Scale, .int .i64 a0.F_Wide, .lst (List.map (D.int .u64) a0.F_Lev), .lst (List.map D.bool a0.F_Neg)], .agg [.int .i64 a1.F_Scheme, .int .i64 a1.F_Dim, .lst (List.map (D.int .i64) a1.F_L), .lst (List.map (D.int .i64) a1.F_V), .int .i64 a1.F_Scale, .int .i64 a1.F_Wide, .lst (List.map (D.int .u64) a1.F_Lev), .lst (List.map D.bool a1.F_Neg)]]) []) from h v hv
  unfold M_frame_same
  refine Av 28 [.o false (o82_1.drop 20), .c .ret] ⟨[(24, bB (([a0.F_Scheme, a0.F_Dim, a0.F_Scale, a0.F_Wide] : List Int) == [a1.F_Scheme, a1.F_Dim, a1.F_Scale, a1.F_Wide])), (3, .ptr (.s 31) 0), (2, .ptr (.s 15) 0)], [(.s 31, [nI a1.F_Scheme, nI a1.F_Dim, lI a1.F_L, lI a1.F_V, nI a1.F_Scale, nI a1.F_Wide, lU a1.F_Lev, lB a1.F_Neg]), (.s 15, [nI a0.F_Scheme, nI a0.F_Dim, lI a0.F_L, lI a0.F_V, nI a0.F_Scale, nI a0.F_Wide, lU a0.F_Lev, lB a0.F_Neg])]⟩ ?_
  refine L_take 6 o82_1t20_26 (o82_1.drop 26) ?_
  refine L_join [.o false o82_1t20_26] [.o false (o82_1.drop 26), .c .ret] (fun x : Bool => ⟨[(30, bB x), (3, .ptr (.s 31) 0), (2, .ptr (.s 15) 0)], [(.s 31, [nI a1.F_Scheme, nI a1.F_Dim, lI a1.F_L, lI a1.F_V, nI a1.F_Scale, nI a1.F_Wide, lU a1.F_Lev, lB a1.F_Neg]), (.s 15, [nI a0.F_Scheme, nI a0.F_Dim, lI a0.F_L, lI a0.F_V, nI a0.F_Scale, nI a0.F_Wide, lU a0.F_Lev, lB a0.F_Neg])]⟩) ?_ (fun j2 => ?_)
  · refine L_split 24 decL (fun _ => ?_) (fun _ => ?_)
    · refine Av 4 [.o false (o82_1t20_26.drop 4)] ⟨[(28, lI a1.F_L), (24, bB true), (26, lI a0.F_L), (3, .ptr (.s 31) 0), (2, .ptr (.s 15) 0)], [(.s 31, [nI a1.F_Scheme, nI a1.F_Dim, lI a1.F_L, lI a1.F_V, nI a1.F_Scale, nI a1.F_Wide, lU a1.F_Lev, lB a1.F_Neg]), (.s 15, [nI a0.F_Scheme, nI a0.F_Dim, lI a0.F_L, lI a0.F_V, nI a0.F_Scale, nI a0.F_Wide, lU a0.F_Lev, lB a0.F_Neg])]⟩ ?_
      refine L_call (ok_slices_Equal_int_int a0.F_L a1.F_L) rfl rfl (fun _ => rfl) (fun _ => trivial) (fun r1 => ?_)
      refine Av 2 [] ⟨[(30, bB r1), (3, .ptr (.s 31) 0), (2, .ptr (.s 15) 0)], [(.s 31, [nI a1.F_Scheme, nI a1.F_Dim, lI a1.F_L, lI a1.F_V, nI a1.F_Scale, nI a1.F_Wide, lU a1.F_Lev, lB a1.F_Neg]), (.s 15, [nI a0.F_Scheme, nI a0.F_Dim, lI a0.F_L, lI a0.F_V, nI a0.F_Scale, nI a0.F_Wide, lU a0.F_Lev, lB a0.F_Neg])]⟩ ?_
      exact L_end
    · refine Av 7 [] ⟨[(30, bB false), (3, .ptr (.s 31) 0), (2, .ptr (.s 15) 0)], [(.s 31, [nI a1.F_Scheme, nI a1.F_Dim, lI a1.F_L, lI a1.F_V, nI a1.F_Scale, nI a1.F_Wide, lU a1.F_Lev, lB a1.F_Neg]), (.s 15, [nI a0.F_Scheme, nI a0.F_Dim, lI a0.F_L, lI a0.F_V, nI a0.F_Scale, nI a0.F_Wide, lU a0.F_Lev, lB a0.F_Neg])]⟩ ?_
      exact L_end
  · refine Av 1 [.o false (o82_1.drop 27), .c .ret] ⟨[(31, bB j2), (3, .ptr (.s 31) 0), (2, .ptr (.s 15) 0)], [(.s 31, [nI a1.F_Scheme, nI a1.F_Dim, lI a1.F_L, lI a1.F_V, nI a1.F_Scale, nI a1.F_Wide, lU a1.F_Lev, lB a1.F_Neg]), (.s 15, [nI a0.F_Scheme, nI a0.F_Dim, lI a0.F_L, lI a0.F_V, nI a0.F_Scale, nI a0.F_Wide, lU a0.F_Lev, lB a0.F_Neg])]⟩ ?_
    refine L_take 6 o82_1t27_33 (o82_1.drop 33) ?_
    refine L_join [.o false o82_1t27_33] [.o false (o82_1.drop 33), .c .ret] (fun x : Bool => ⟨[(37, bB x), (3, .ptr (.s 31) 0), (2, .ptr (.s 15) 0)], [(.s 31, [nI a1.F_Scheme, nI a1.F_Dim, lI a1.F_L, lI a1.F_V, nI a1.F_Scale, nI a1.F_Wide, lU a1.F_Lev, lB a1.F_Neg]), (.s 15, [nI a0.F_Scheme, nI a0.F_Dim, lI a0.F_L, lI a0.F_V, nI a0.F_Scale, nI a0.F_Wide, lU a0.F_Lev, lB a0.F_Neg])]⟩) ?_ (fun j4 => ?_)
    · refine L_split 31 decT (fun _ => ?_) (fun _ => ?_)
      · refine Av 4 [.o false (o82_1t27_33.drop 4)] ⟨[(35, lI a1.F_V), (31, bB true), (33, lI a0.F_V), (3, .ptr (.s 31) 0), (2, .ptr (.s 15) 0)], [(.s 31, [nI a1.F_Scheme, nI a1.F_Dim, lI a1.F_L, lI a1.F_V, nI a1.F_Scale, nI a1.F_Wide, lU a1.F_Lev, lB a1.F_Neg]), (.s 15, [nI a0.F_Scheme, nI a0.F_Dim, lI a0.F_L, lI a0.F_V, nI a0.F_Scale, nI a0.F_Wide, lU a0.F_Lev, lB a0.F_Neg])]⟩ ?_
        refine L_call (ok_slices_Equal_int64_int64 a0.F_V a1.F_V) rfl rfl (fun _ => rfl) (fun _ => trivial) (fun r3 => ?_)
        refine Av 2 [] ⟨[(37, bB r3), (3, .ptr (.s 31) 0), (2, .ptr (.s 15) 0)], [(.s 31, [nI a1.F_Scheme, nI a1.F_Dim, lI a1.F_L, lI a1.F_V, nI a1.F_Scale, nI a1.F_Wide, lU a1.F_Lev, lB a1.F_Neg]), (.s 15, [nI a0.F_Scheme, nI a0.F_Dim, lI a0.F_L, lI a0.F_V, nI a0.F_Scale, nI a0.F_Wide, lU a0.F_Lev, lB a0.F_Neg])]⟩ ?_
        exact L_end
      · refine Av 7 [] ⟨[(37, bB false), (3, .ptr (.s 31) 0), (2, .ptr (.s 15) 0)], [(.s 31, [nI a1.F_Scheme, nI a1.F_Dim, lI a1.F_L, lI a1.F_V, nI a1.F_Scale, nI a1.F_Wide, lU a1.F_Lev, lB a1.F_Neg]), (.s 15, [nI a0.F_Scheme, nI a0.F_Dim, lI a0.F_L, lI a0.F_V, nI a0.F_Scale, nI a0.F_Wide, lU a0.F_Lev, lB a0.F_Neg])]⟩ ?_
        exact L_end
    · refine Av 1 [.o false (o82_1.drop 34), .c .ret] ⟨[(38, bB j4), (3, .ptr (.s 31) 0), (2, .ptr (.s 15) 0)], [(.s 31, [nI a1.F_Scheme, nI a1.F_Dim, lI a1.F_L, lI a1.F_V, nI a1.F_Scale, nI a1.F_Wide, lU a1.F_Lev, lB a1.F_Neg]), (.s 15, [nI a0.F_Scheme, nI a0.F_Dim, lI a0.F_L, lI a0.F_V, nI a0.F_Scale, nI a0.F_Wide, lU a0.F_Lev, lB a0.F_Neg])]⟩ ?_
      refine L_take 6 o82_1t34_40 (o82_1.drop 40) ?_
      refine L_join [.o false o82_1t34_40] [.o false (o82_1.drop 40), .c .ret] (fun x : Bool => ⟨[(44, bB x), (3, .ptr (.s 31) 0), (2, .ptr (.s 15) 0)], [(.s 31, [nI a1.F_Scheme, nI a1.F_Dim, lI a1.F_L, lI a1.F_V, nI a1.F_Scale, nI a1.F_Wide, lU a1.F_Lev, lB a1.F_Neg]), (.s 15, [nI a0.F_Scheme, nI a0.F_Dim, lI a0.F_L, lI a0.F_V, nI a0.F_Scale, nI a0.F_Wide, lU a0.F_Lev, lB a0.F_Neg])]⟩) ?_ (fun j6 => ?_)
      · refine L_split 38 decT (fun _ => ?_) (fun _ => ?_)
        · refine Av 4 [.o false (o82_1t34_40.drop 4)] ⟨[(42, lU a1.F_Lev), (38, bB true), (40, lU a0.F_Lev), (3, .ptr (.s 31) 0), (2, .ptr (.s 15) 0)], [(.s 31, [nI a1.F_Scheme, nI a1.F_Dim, lI a1.F_L, lI a1.F_V, nI a1.F_Scale, nI a1.F_Wide, lU a1.F_Lev, lB a1.F_Neg]), (.s 15, [nI a0.F_Scheme, nI a0.F_Dim, lI a0.F_L, lI a0.F_V, nI a0.F_Scale, nI a0.F_Wide, lU a0.F_Lev, lB a0.F_Neg])]⟩ ?_
          refine L_call (ok_slices_Equal_uint64_uint64 a0.F_Lev a1.F_Lev) rfl rfl (fun _ => rfl) (fun _ => trivial) (fun r5 => ?_)
          refine Av 2 [] ⟨[(44, bB r5), (3, .ptr (.s 31) 0), (2, .ptr (.s 15) 0)], [(.s 31, [nI a1.F_Scheme, nI a1.F_Dim, lI a1.F_L, lI a1.F_V, nI a1.F_Scale, nI a1.F_Wide, lU a1.F_Lev, lB a1.F_Neg]), (.s 15, [nI a0.F_Scheme, nI a0.F_Dim, lI a0.F_L, lI a0.F_V, nI a0.F_Scale, nI a0.F_Wide, lU a0.F_Lev, lB a0.F_Neg])]⟩ ?_
          exact L_end
        · refine Av 7 [] ⟨[(44, bB false), (3, .ptr (.s 31) 0), (2, .ptr (.s 15) 0)], [(.s 31, [nI a1.F_Scheme, nI a1.F_Dim, lI a1.F_L, lI a1.F_V, nI a1.F_Scale, nI a1.F_Wide, lU a1.F_Lev, lB a1.F_Neg]), (.s 15, [nI a0.F_Scheme, nI a0.F_Dim, lI a0.F_L, lI a0.F_V, nI a0.F_Scale, nI a0.F_Wide, lU a0.F_Lev, lB a0.F_Neg])]⟩ ?_
          exact L_end
      · refine Av 1 [.o false (o82_1.drop 41), .c .ret] ⟨[(45, bB j6), (3, .ptr (.s 31) 0), (2, .ptr (.s 15) 0)], [(.s 31, [nI a1.F_Scheme, nI a1.F_Dim, lI a1.F_L, lI a1.F_V, nI a1.F_Scale, nI a1.F_Wide, lU a1.F_Lev, lB a1.F_Neg]), (.s 15, [nI a0.F_Scheme, nI a0.F_Dim, lI a0.F_L, lI a0.F_V, nI a0.F_Scale, nI a0.F_Wide, lU a0.F_Lev, lB a0.F_Neg])]⟩ ?_
        refine L_take 6 o82_1t41_47 (o82_1.drop 47) ?_
        refine L_join [.o false o82_1t41_47] [.o false (o82_1.drop 47), .c .ret] (fun x : Bool => ⟨[(51, bB x)], []⟩) ?_ (fun j8 => ?_)
        · refine L_split 45 decT (fun _ => ?_) (fun _ => ?_)
          · refine Av 4 [.o false (o82_1t41_47.drop 4)] ⟨[(49, lB a1.F_Neg), (45, bB true), (47, lB a0.F_Neg)], []⟩ ?_
            refine L_call (ok_slices_Equal_bool_bool a0.F_Neg a1.F_Neg) rfl rfl (fun _ => rfl) (fun _ => trivial) (fun r7 => ?_)
            refine Av 2 [] ⟨[(51, bB r7)], []⟩ ?_
            exact L_end
          · refine Av 7 [] ⟨[(51, bB false)], []⟩ ?_
            exact L_end
        · refine Avk 3 [] .ret ⟨[(4, bB j8)], []⟩ ?_
          exact L_ret
/-- thrum/frame.May. -/
def en_frame_May (v : Bool) : PV := bB v
def o31_0 : List AOper := [⟨some 1, none, 0, .box 51 (.t 0)⟩, mb 2 1 false]
def o31_1 : List AOper := [⟨some 6, none, 100, .load true 8 (.t 1)⟩, cl' 7 101 83 [.t 6], mv 5 102 7, xt 8 103 5 0, xt 9 104 5 1, ⟨some 3, none, 105, .alloc 51 8 [.int .i64 0, .int .i64 0, .lst [], .lst [], .int .i64 0, .int .i64 0, .lst [], .lst []]⟩, ⟨none, none, 106, .store 8 (.t 3) (.t 8)⟩, mv 4 107 9]
def o31_2 : List AOper := [mv 10 200 4, mv 11 201 10, ⟨some 12, some (11, true), 202, .load true 8 (.t 3)⟩, ⟨some 13, some (11, true), 203, .build [.int .i64 0, .int .i64 0, .lst [], .lst [], .int .i64 0, .int .i64 0, .lst [], .lst []] []⟩, ⟨some 14, some (11, true), 204, .call 82 [.t 12, .t 13]⟩, pk 15 205 11 14 false, mv 2 206 15]
def o31_2t2_6 : List AOper := (o31_2.drop 2).take 4
def c31_4 : AC := .seq (.reg o31_2) .ret
def c31_6 : AC := .seq (.reg o31_0) (.seq (.reg o31_1) c31_4)
theorem fn31 : fnA Try.prog 31 = some (16, [.t 2], c31_6) := by kernel_rfl
theorem ok_frame_May (a0 : T_api_Sent) : ∀ v, M_frame_May a0 = some v → EvF Try.prog 31 [.agg [.int .i64 a0.F_Scheme, .int .i64 a0.F_Dim, .lst (List.map (D.int .i64) a0.F_L), .lst (List.map (D.int .i64) a0.F_V), .int .i64 a0.F_Scale, .int .i64 a0.F_Wide, .lst (List.map (D.int .u64) a0.F_Lev), .lst (List.map D.bool a0.F_Neg)]] (en_frame_May v) := by
  intro v hv
  refine EvF_go fn31 (Nat.le_of_ble_eq_true rfl) ?_
  suffices h : Ok (M_frame_May a0) fun v => go Try.prog 16 (Fnl [.t 2] (en_frame_May v) []) [.c c31_6] .norm (initSt (List.map PV.d [.agg [.int .i64 a0.F_Scheme, .int .i64 a0.F_Dim, .lst (List.map (D.int .i64) a0.F_L), .lst (List.map (D.int .i64) a0.F_V), .int .i64 a0.F_Scale, .int .i64 a0.F_Wide, .lst (List.map (D.int .u64) a0.F_Lev), .lst (List.map D.bool a0.F_Neg)]]) []) from h v hv
  unfold M_frame_May
  refine Av 8 [.o false (o31_1.drop 1), .c c31_4] ⟨[(6, .agg [nI a0.F_Scheme, nI a0.F_Dim, lI a0.F_L, lI a0.F_V, nI a0.F_Scale, nI a0.F_Wide, lU a0.F_Lev, lB a0.F_Neg])], []⟩ ?_
  refine L_callZ [] (ok_frame_bare a0) trivial rfl rfl (fun _ => rfl) (fun r1 => ?_)
  refine Av 11 [.o false (o31_2.drop 2), .c .ret] ⟨[(11, bB r1.2.2.2.2.2.2.2.2), (3, .ptr (.s 1695) 0)], [(.s 1695, [nI r1.1, nI r1.2.1, lI r1.2.2.1, lI r1.2.2.2.1, nI r1.2.2.2.2.1, nI r1.2.2.2.2.2.1, lU r1.2.2.2.2.2.2.1, lB r1.2.2.2.2.2.2.2.1])]⟩ ?_
  refine L_take 4 o31_2t2_6 (o31_2.drop 6) ?_
  refine L_join [.o false o31_2t2_6] [.o false (o31_2.drop 6), .c .ret] (fun x : Bool => ⟨[(15, bB x)], []⟩) ?_ (fun j3 => ?_)
  · refine L_split 11 decT (fun _ => ?_) (fun _ => ?_)
    · refine Av 2 [.o false (o31_2t2_6.drop 2)] ⟨[(13, .agg [nI 0, nI 0, .nils, .nils, nI 0, nI 0, .nils, .nils]), (11, bB true), (12, .agg [nI r1.1, nI r1.2.1, lI r1.2.2.1, lI r1.2.2.2.1, nI r1.2.2.2.2.1, nI r1.2.2.2.2.2.1, lU r1.2.2.2.2.2.2.1, lB r1.2.2.2.2.2.2.2.1])], []⟩ ?_
      refine L_call (ok_frame_same (⟨r1.1, r1.2.1, r1.2.2.1, r1.2.2.2.1, r1.2.2.2.2.1, r1.2.2.2.2.2.1, r1.2.2.2.2.2.2.1, r1.2.2.2.2.2.2.2.1⟩ : T_api_Sent) (⟨0, 0, [], [], 0, 0, [], []⟩ : T_api_Sent)) rfl rfl (fun _ => rfl) (fun _ => trivial) (fun r2 => ?_)
      refine Av 2 [] ⟨[(15, bB r2)], []⟩ ?_
      exact L_end
    · refine Av 5 [] ⟨[(15, bB false)], []⟩ ?_
      exact L_end
  · refine Avk 3 [] .ret ⟨[(2, bB j3)], []⟩ ?_
    exact L_ret
/-- thrum/frame.Check. -/
def en_frame_Check (v : Int) : PV := nI v
def o30_0 : List AOper := [⟨some 1, none, 0, .box 53 (.t 0)⟩, mi 2 1 0]
def o30_1 : List AOper := [⟨some 4, none, 100, .fieldA 1 (.t 1)⟩, ld 5 101 4, bc 6 102 .geq 5 0, mv 7 103 6, ⟨some 8, some (7, true), 104, .fieldA 1 (.t 1)⟩, ⟨some 9, some (7, true), 105, .load false 1 (.t 8)⟩, ⟨some 10, some (7, true), 106, .bin .lss .int (.t 9) (.c (.d (.int .i64 64)))⟩, pk 11 107 7 10 false, mv 12 108 11, ⟨some 13, some (12, true), 109, .fieldA 2 (.t 1)⟩, ⟨some 14, some (12, true), 110, .load false 1 (.t 13)⟩, ⟨some 15, some (12, true), 111, .bin .geq .int (.t 14) (.c (.d (.int .i64 0)))⟩, pk 16 112 12 15 false, mv 17 113 16, ⟨some 18, some (17, true), 114, .fieldA 2 (.t 1)⟩, ⟨some 19, some (17, true), 115, .load false 1 (.t 18)⟩, ⟨some 20, some (17, true), 116, .bin .leq .int (.t 19) (.c (.d (.int .i64 1073741824)))⟩, pk 21 117 17 20 false, mv 3 118 21]
def o30_2 : List AOper := [mv 22 200 3, mv 23 201 22, ⟨some 24, some (23, true), 202, .fieldA 0 (.t 1)⟩, ⟨some 25, some (23, true), 203, .load false 1 (.t 24)⟩, ⟨some 26, some (23, true), 204, .bin .eql .int (.t 25) (.c (.d (.int .i64 1)))⟩, gv 27 23 true 205 26, ⟨some 28, some (27, true), 206, .fieldA 3 (.t 1)⟩, ⟨some 29, some (27, true), 207, .load true 8 (.t 28)⟩, ⟨some 30, some (27, true), 208, .call 31 [.t 29]⟩, ⟨some 31, some (23, true), 209, .pick (.t 27) (.t 30) (.c (.d (.bool false)))⟩, gv 32 23 true 210 31, ⟨some 33, some (32, false), 211, .fieldA 0 (.t 1)⟩, ⟨some 34, some (32, false), 212, .load false 1 (.t 33)⟩, ⟨some 35, some (32, false), 213, .bin .eql .int (.t 34) (.c (.d (.int .i64 2)))⟩, gv 36 32 false 214 35, ⟨some 37, some (36, true), 215, .fieldA 3 (.t 1)⟩, ⟨some 38, some (36, true), 216, .load true 8 (.t 37)⟩, ⟨some 39, some (36, true), 217, .build [.int .i64 0, .int .i64 0, .lst [], .lst [], .int .i64 0, .int .i64 0, .lst [], .lst []] []⟩, ⟨some 40, some (36, true), 218, .call 82 [.t 38, .t 39]⟩, ⟨some 41, some (32, false), 219, .pick (.t 36) (.t 40) (.c (.d (.bool false)))⟩, ⟨some 42, some (23, true), 220, .pick (.t 32) (.c (.d (.bool true))) (.t 41)⟩, pk 43 221 23 42 false]
def o30_3 : List AOper := [mi 2 300 0]
def o30_4 : List AOper := [mi 2 400 1]
def o30_1t4_8 : List AOper := (o30_1.drop 4).take 4
def o30_1t9_13 : List AOper := (o30_1.drop 9).take 4
def o30_1t14_18 : List AOper := (o30_1.drop 14).take 4
def c30_7 : AC := .cond (.t 43) (.seq (.reg o30_3) .ret) .skip
def c30_11 : AC := .seq (.reg o30_4) .ret
def c30_12 : AC := .seq (.seq (.reg o30_2) c30_7) c30_11
def c30_14 : AC := .seq (.reg o30_0) (.seq (.reg o30_1) c30_12)
theorem fn30 : fnA Try.prog 30 = some (44, [.t 2], c30_14) := by kernel_rfl
theorem ok_frame_Check (a0 : T_api_Frame) : ∀ v, M_frame_Check a0 = some v → EvF Try.prog 30 [.agg [.int .i64 a0.F_Kind, .int .i64 a0.F_From, .int .i64 a0.F_Step, .int .i64 a0.F_S.F_Scheme, .int .i64 a0.F_S.F_Dim, .lst (List.map (D.int .i64) a0.F_S.F_L), .lst (List.map (D.int .i64) a0.F_S.F_V), .int .i64 a0.F_S.F_Scale, .int .i64 a0.F_S.F_Wide, .lst (List.map (D.int .u64) a0.F_S.F_Lev), .lst (List.map D.bool a0.F_S.F_Neg)]] (en_frame_Check v) := by
  intro v hv
  refine EvF_go fn30 (Nat.le_of_ble_eq_true rfl) ?_
  suffices h : Ok (M_frame_Check a0) fun v => go Try.prog 44 (Fnl [.t 2] (en_frame_Check v) []) [.c c30_14] .norm (initSt (List.map PV.d [.agg [.int .i64 a0.F_Kind, .int .i64 a0.F_From, .int .i64 a0.F_Step, .int .i64 a0.F_S.F_Scheme, .int .i64 a0.F_S.F_Dim, .lst (List.map (D.int .i64) a0.F_S.F_L), .lst (List.map (D.int .i64) a0.F_S.F_V), .int .i64 a0.F_S.F_Scale, .int .i64 a0.F_S.F_Wide, .lst (List.map (D.int .u64) a0.F_S.F_Lev), .lst (List.map D.bool a0.F_S.F_Neg)]]) []) from h v hv
  unfold M_frame_Check
  refine Av 11 [.o false (o30_1.drop 4), .c c30_12] ⟨[(7, bB (decide (a0.F_From ≥ 0))), (1, .ptr (.s 15) 0)], [(.s 15, [nI a0.F_Kind, nI a0.F_From, nI a0.F_Step, nI a0.F_S.F_Scheme, nI a0.F_S.F_Dim, lI a0.F_S.F_L, lI a0.F_S.F_V, nI a0.F_S.F_Scale, nI a0.F_S.F_Wide, lU a0.F_S.F_Lev, lB a0.F_S.F_Neg])]⟩ ?_
  refine L_take 4 o30_1t4_8 (o30_1.drop 8) ?_
  refine L_join [.o false o30_1t4_8] [.o false (o30_1.drop 8), .c c30_12] (fun x : Bool => ⟨[(11, bB x), (1, .ptr (.s 15) 0)], [(.s 15, [nI a0.F_Kind, nI a0.F_From, nI a0.F_Step, nI a0.F_S.F_Scheme, nI a0.F_S.F_Dim, lI a0.F_S.F_L, lI a0.F_S.F_V, nI a0.F_S.F_Scale, nI a0.F_S.F_Wide, lU a0.F_S.F_Lev, lB a0.F_S.F_Neg])]⟩) ?_ (fun j1 => ?_)
  · refine L_split 7 rfl (fun _ => ?_) (fun _ => ?_)
    · refine Av 5 [] ⟨[(11, bB (decide (a0.F_From < 64))), (1, .ptr (.s 15) 0)], [(.s 15, [nI a0.F_Kind, nI a0.F_From, nI a0.F_Step, nI a0.F_S.F_Scheme, nI a0.F_S.F_Dim, lI a0.F_S.F_L, lI a0.F_S.F_V, nI a0.F_S.F_Scale, nI a0.F_S.F_Wide, lU a0.F_S.F_Lev, lB a0.F_S.F_Neg])]⟩ ?_
      exact L_end
    · refine Av 5 [] ⟨[(11, bB false), (1, .ptr (.s 15) 0)], [(.s 15, [nI a0.F_Kind, nI a0.F_From, nI a0.F_Step, nI a0.F_S.F_Scheme, nI a0.F_S.F_Dim, lI a0.F_S.F_L, lI a0.F_S.F_V, nI a0.F_S.F_Scale, nI a0.F_S.F_Wide, lU a0.F_S.F_Lev, lB a0.F_S.F_Neg])]⟩ ?_
      exact L_end
  · refine Av 1 [.o false (o30_1.drop 9), .c c30_12] ⟨[(12, bB j1), (1, .ptr (.s 15) 0)], [(.s 15, [nI a0.F_Kind, nI a0.F_From, nI a0.F_Step, nI a0.F_S.F_Scheme, nI a0.F_S.F_Dim, lI a0.F_S.F_L, lI a0.F_S.F_V, nI a0.F_S.F_Scale, nI a0.F_S.F_Wide, lU a0.F_S.F_Lev, lB a0.F_S.F_Neg])]⟩ ?_
    refine L_take 4 o30_1t9_13 (o30_1.drop 13) ?_
    refine L_join [.o false o30_1t9_13] [.o false (o30_1.drop 13), .c c30_12] (fun x : Bool => ⟨[(16, bB x), (1, .ptr (.s 15) 0)], [(.s 15, [nI a0.F_Kind, nI a0.F_From, nI a0.F_Step, nI a0.F_S.F_Scheme, nI a0.F_S.F_Dim, lI a0.F_S.F_L, lI a0.F_S.F_V, nI a0.F_S.F_Scale, nI a0.F_S.F_Wide, lU a0.F_S.F_Lev, lB a0.F_S.F_Neg])]⟩) ?_ (fun j2 => ?_)
    · refine L_split 12 decT (fun _ => ?_) (fun _ => ?_)
      · refine Av 5 [] ⟨[(16, bB (decide (a0.F_Step ≥ 0))), (1, .ptr (.s 15) 0)], [(.s 15, [nI a0.F_Kind, nI a0.F_From, nI a0.F_Step, nI a0.F_S.F_Scheme, nI a0.F_S.F_Dim, lI a0.F_S.F_L, lI a0.F_S.F_V, nI a0.F_S.F_Scale, nI a0.F_S.F_Wide, lU a0.F_S.F_Lev, lB a0.F_S.F_Neg])]⟩ ?_
        exact L_end
      · refine Av 5 [] ⟨[(16, bB false), (1, .ptr (.s 15) 0)], [(.s 15, [nI a0.F_Kind, nI a0.F_From, nI a0.F_Step, nI a0.F_S.F_Scheme, nI a0.F_S.F_Dim, lI a0.F_S.F_L, lI a0.F_S.F_V, nI a0.F_S.F_Scale, nI a0.F_S.F_Wide, lU a0.F_S.F_Lev, lB a0.F_S.F_Neg])]⟩ ?_
        exact L_end
    · refine Av 1 [.o false (o30_1.drop 14), .c c30_12] ⟨[(17, bB j2), (1, .ptr (.s 15) 0)], [(.s 15, [nI a0.F_Kind, nI a0.F_From, nI a0.F_Step, nI a0.F_S.F_Scheme, nI a0.F_S.F_Dim, lI a0.F_S.F_L, lI a0.F_S.F_V, nI a0.F_S.F_Scale, nI a0.F_S.F_Wide, lU a0.F_S.F_Lev, lB a0.F_S.F_Neg])]⟩ ?_
      refine L_take 4 o30_1t14_18 (o30_1.drop 18) ?_
      refine L_join [.o false o30_1t14_18] [.o false (o30_1.drop 18), .c c30_12] (fun x : Bool => ⟨[(21, bB x), (1, .ptr (.s 15) 0)], [(.s 15, [nI a0.F_Kind, nI a0.F_From, nI a0.F_Step, nI a0.F_S.F_Scheme, nI a0.F_S.F_Dim, lI a0.F_S.F_L, lI a0.F_S.F_V, nI a0.F_S.F_Scale, nI a0.F_S.F_Wide, lU a0.F_S.F_Lev, lB a0.F_S.F_Neg])]⟩) ?_ (fun j3 => ?_)
      · refine L_split 17 decT (fun _ => ?_) (fun _ => ?_)
        · refine Av 5 [] ⟨[(21, bB (decide (a0.F_Step ≤ 1073741824))), (1, .ptr (.s 15) 0)], [(.s 15, [nI a0.F_Kind, nI a0.F_From, nI a0.F_Step, nI a0.F_S.F_Scheme, nI a0.F_S.F_Dim, lI a0.F_S.F_L, lI a0.F_S.F_V, nI a0.F_S.F_Scale, nI a0.F_S.F_Wide, lU a0.F_S.F_Lev, lB a0.F_S.F_Neg])]⟩ ?_
          exact L_end
        · refine Av 5 [] ⟨[(21, bB false), (1, .ptr (.s 15) 0)], [(.s 15, [nI a0.F_Kind, nI a0.F_From, nI a0.F_Step, nI a0.F_S.F_Scheme, nI a0.F_S.F_Dim, lI a0.F_S.F_L, lI a0.F_S.F_V, nI a0.F_S.F_Scale, nI a0.F_S.F_Wide, lU a0.F_S.F_Lev, lB a0.F_S.F_Neg])]⟩ ?_
          exact L_end
      · refine Av 7 [.o false (o30_2.drop 2), .c c30_7, .c c30_11] ⟨[(23, bB j3), (1, .ptr (.s 15) 0)], [(.s 15, [nI a0.F_Kind, nI a0.F_From, nI a0.F_Step, nI a0.F_S.F_Scheme, nI a0.F_S.F_Dim, lI a0.F_S.F_L, lI a0.F_S.F_V, nI a0.F_S.F_Scale, nI a0.F_S.F_Wide, lU a0.F_S.F_Lev, lB a0.F_S.F_Neg])]⟩ ?_
        refine L_split 23 decT (fun _ => ?_) (fun _ => ?_)
        · refine Av 4 [.o false (o30_2.drop 6), .c c30_7, .c c30_11] ⟨[(27, bB (a0.F_Kind == 1)), (23, bB true), (1, .ptr (.s 15) 0)], [(.s 15, [nI a0.F_Kind, nI a0.F_From, nI a0.F_Step, nI a0.F_S.F_Scheme, nI a0.F_S.F_Dim, lI a0.F_S.F_L, lI a0.F_S.F_V, nI a0.F_S.F_Scale, nI a0.F_S.F_Wide, lU a0.F_S.F_Lev, lB a0.F_S.F_Neg])]⟩ ?_
          refine L_split 27 decE (fun _ => ?_) (fun _ => ?_)
          · refine Av 2 [.o false (o30_2.drop 8), .c c30_7, .c c30_11] ⟨[(29, .agg [nI a0.F_S.F_Scheme, nI a0.F_S.F_Dim, lI a0.F_S.F_L, lI a0.F_S.F_V, nI a0.F_S.F_Scale, nI a0.F_S.F_Wide, lU a0.F_S.F_Lev, lB a0.F_S.F_Neg]), (27, bB true), (23, bB true), (1, .ptr (.s 15) 0)], [(.s 15, [nI a0.F_Kind, nI a0.F_From, nI a0.F_Step, nI a0.F_S.F_Scheme, nI a0.F_S.F_Dim, lI a0.F_S.F_L, lI a0.F_S.F_V, nI a0.F_S.F_Scale, nI a0.F_S.F_Wide, lU a0.F_S.F_Lev, lB a0.F_S.F_Neg])]⟩ ?_
            refine L_call (ok_frame_May a0.F_S) rfl rfl (fun _ => rfl) (fun _ => trivial) (fun r4 => ?_)
            refine Av 2 [.o false (o30_2.drop 11), .c c30_7, .c c30_11] ⟨[(32, bB r4), (23, bB true), (1, .ptr (.s 15) 0)], [(.s 15, [nI a0.F_Kind, nI a0.F_From, nI a0.F_Step, nI a0.F_S.F_Scheme, nI a0.F_S.F_Dim, lI a0.F_S.F_L, lI a0.F_S.F_V, nI a0.F_S.F_Scale, nI a0.F_S.F_Wide, lU a0.F_S.F_Lev, lB a0.F_S.F_Neg])]⟩ ?_
            refine L_split 32 decT (fun _ => ?_) (fun _ => ?_)
            · refine Avk 19 [] .ret ⟨[(2, nI 0)], []⟩ ?_
              exact L_ret
            · refine Av 4 [.o false (o30_2.drop 15), .c c30_7, .c c30_11] ⟨[(36, bB (a0.F_Kind == 2)), (32, bB false), (23, bB true), (1, .ptr (.s 15) 0)], [(.s 15, [nI a0.F_Kind, nI a0.F_From, nI a0.F_Step, nI a0.F_S.F_Scheme, nI a0.F_S.F_Dim, lI a0.F_S.F_L, lI a0.F_S.F_V, nI a0.F_S.F_Scale, nI a0.F_S.F_Wide, lU a0.F_S.F_Lev, lB a0.F_S.F_Neg])]⟩ ?_
              refine L_split 36 decE (fun _ => ?_) (fun _ => ?_)
              · refine Av 3 [.o false (o30_2.drop 18), .c c30_7, .c c30_11] ⟨[(39, .agg [nI 0, nI 0, .nils, .nils, nI 0, nI 0, .nils, .nils]), (36, bB true), (38, .agg [nI a0.F_S.F_Scheme, nI a0.F_S.F_Dim, lI a0.F_S.F_L, lI a0.F_S.F_V, nI a0.F_S.F_Scale, nI a0.F_S.F_Wide, lU a0.F_S.F_Lev, lB a0.F_S.F_Neg]), (32, bB false), (23, bB true)], []⟩ ?_
                refine L_call (ok_frame_same a0.F_S (⟨0, 0, [], [], 0, 0, [], []⟩ : T_api_Sent)) rfl rfl (fun _ => rfl) (fun _ => trivial) (fun r5 => ?_)
                refine Av 4 [.c c30_7, .c c30_11] ⟨[(43, bB r5)], []⟩ ?_
                refine L_split 43 decT (fun _ => ?_) (fun _ => ?_)
                · refine Avk 7 [] .ret ⟨[(2, nI 0)], []⟩ ?_
                  exact L_ret
                · refine Avk 7 [] .ret ⟨[(2, nI 1)], []⟩ ?_
                  exact L_ret
              · refine Avk 15 [] .ret ⟨[(2, nI 1)], []⟩ ?_
                exact L_ret
          · refine Av 9 [.o false (o30_2.drop 15), .c c30_7, .c c30_11] ⟨[(36, bB (a0.F_Kind == 2)), (32, bB false), (23, bB true), (1, .ptr (.s 15) 0)], [(.s 15, [nI a0.F_Kind, nI a0.F_From, nI a0.F_Step, nI a0.F_S.F_Scheme, nI a0.F_S.F_Dim, lI a0.F_S.F_L, lI a0.F_S.F_V, nI a0.F_S.F_Scale, nI a0.F_S.F_Wide, lU a0.F_S.F_Lev, lB a0.F_S.F_Neg])]⟩ ?_
            refine L_split 36 decE (fun _ => ?_) (fun _ => ?_)
            · refine Av 3 [.o false (o30_2.drop 18), .c c30_7, .c c30_11] ⟨[(39, .agg [nI 0, nI 0, .nils, .nils, nI 0, nI 0, .nils, .nils]), (36, bB true), (38, .agg [nI a0.F_S.F_Scheme, nI a0.F_S.F_Dim, lI a0.F_S.F_L, lI a0.F_S.F_V, nI a0.F_S.F_Scale, nI a0.F_S.F_Wide, lU a0.F_S.F_Lev, lB a0.F_S.F_Neg]), (32, bB false), (23, bB true)], []⟩ ?_
              refine L_call (ok_frame_same a0.F_S (⟨0, 0, [], [], 0, 0, [], []⟩ : T_api_Sent)) rfl rfl (fun _ => rfl) (fun _ => trivial) (fun r6 => ?_)
              refine Av 4 [.c c30_7, .c c30_11] ⟨[(43, bB r6)], []⟩ ?_
              refine L_split 43 decT (fun _ => ?_) (fun _ => ?_)
              · refine Avk 7 [] .ret ⟨[(2, nI 0)], []⟩ ?_
                exact L_ret
              · refine Avk 7 [] .ret ⟨[(2, nI 1)], []⟩ ?_
                exact L_ret
            · refine Avk 15 [] .ret ⟨[(2, nI 1)], []⟩ ?_
              exact L_ret
        · refine Avk 28 [] .ret ⟨[(2, nI 1)], []⟩ ?_
          exact L_ret
/-- slices.Clone[[]byte,byte]. -/
def en_slices_Clone_byte_byte (v : (List Int)) : PV := sY (.s 0) v
def o76_0 : List AOper := [⟨some 2, none, 0, .mov (.c .nils)⟩]
def o76_1 : List AOper := [mv 3 100 0, ⟨some 4, none, 101, .bin .eql .slice (.t 3) (.c .nils)⟩]
def o76_2 : List AOper := [⟨some 2, none, 200, .mov (.c .nils)⟩]
def o76_3 : List AOper := [⟨some 5, none, 300, .bslice 5 1 []⟩, mv 6 301 0, ⟨some 7, none, 302, .app 5 1 1 (.t 5) (.t 6)⟩, mv 2 303 7]
def c76_6 : AC := .cond (.t 4) (.seq (.reg o76_2) .ret) .skip
def c76_10 : AC := .seq (.reg o76_3) .ret
def c76_12 : AC := .seq (.reg o76_0) (.seq (.seq (.reg o76_1) c76_6) c76_10)
theorem fn76 : fnA Try.prog 76 = some (8, [.t 2], c76_12) := by kernel_rfl
theorem ok_slices_Clone_byte_byte (a0 : List Int) : ∀ v, M_slices_Clone_byte_byte a0 = some v → EvF Try.prog 76 [.lst (List.map (D.int .u8) a0)] (en_slices_Clone_byte_byte v) := by
  intro v hv
  refine EvF_go fn76 (Nat.le_of_ble_eq_true rfl) ?_
  suffices h : Ok (M_slices_Clone_byte_byte a0) fun v => go Try.prog 8 (Fnl [.t 2] (en_slices_Clone_byte_byte v) []) [.c c76_12] .norm (initSt (List.map PV.d [.lst (List.map (D.int .u8) a0)]) []) from h v hv
  unfold M_slices_Clone_byte_byte
  refine Av 8 [.o false (o76_1.drop 1), .c c76_6, .c c76_10] ⟨[(3, lY a0), (0, lY a0)], []⟩ ?_
  refine L_nil (enc := D.int .u8) (l := a0) (e := true) (m2 := some []) trivial rfl (fun h => by (try obtain rfl := List.eq_nil_of_length_eq_zero h); first | rfl | (simp [h]; done)) ?_ ?_
  · refine Av 7 [.o false (o76_3.drop 2), .c .ret] ⟨[(6, lY a0), (5, sY (.s 4815) [])], []⟩ ?_
    refine L_app (enc := D.int .u8) (l := []) (l2 := a0) trivial rfl rfl (fun _ => rfl) (fun _ => ?_)
    refine Avk 3 [] .ret ⟨[(2, sY (.s 4847) ([] ++ a0))], []⟩ ?_
    exact L_ret
  · refine Avk 8 [] .ret ⟨[(2, .nils)], []⟩ ?_
    exact L_ret
/-- thrum/leb.put. -/
def en_leb_put (v : (List Int)) : PV := sY (.s 0) v
def bx_leb_put (v : (List Int)) : List (Tg × List PV) := []
def o126_0 : List AOper := [⟨some 4, none, 0, .mov (.c .nils)⟩]
def o126_1 : List AOper := [mv 5 100 1, ⟨some 6, none, 101, .bin .gtr .int (.t 5) (.c (.d (.int .u64 127)))⟩]
def o126_2 : List AOper := [mv 7 200 0, mv 8 201 1, ⟨some 9, none, 202, .convI .u8 (.t 8)⟩, ⟨some 10, none, 203, .bin .or .int (.t 9) (.c (.d (.int .u8 128)))⟩, ⟨some 11, none, 204, .bslice 5 1 [.t 10]⟩, ⟨some 12, none, 205, .app 5 1 1 (.t 7) (.t 11)⟩, mv 0 206 12]
def o126_3 : List AOper := [mv 13 300 1, ⟨some 14, none, 301, .bin .shr .int (.t 13) (.c (.d (.int .u64 7)))⟩, mv 1 302 14]
def o126_4 : List AOper := [mv 15 400 0, mv 16 401 1, ⟨some 17, none, 402, .convI .u8 (.t 16)⟩, ⟨some 18, none, 403, .bslice 5 1 [.t 17]⟩, ⟨some 19, none, 404, .app 5 1 1 (.t 15) (.t 18)⟩, mv 4 405 19]
def c126_4 : AC := .cond (.t 6) .skip (.exit 0)
def c126_7 : AC := .reg o126_3
def c126_9 : AC := .block 1 (.seq (.reg o126_2) c126_7)
def c126_10 : AC := .seq (.seq (.reg o126_1) c126_4) c126_9
def c126_15 : AC := .seq (.reg o126_4) .ret
def c126_17 : AC := .seq (.reg o126_0) (.seq (.block 0 (.loop c126_10)) c126_15)
theorem fn126 : fnA Try.prog 126 = some (20, [.t 4], c126_17) := by kernel_rfl
def q_ok_leb_put_l0_ok (x0 : List Int) (x1 : Int) (v : ((List Int) × Int)) : Prop := (fun v => go Try.prog 20 (PostN (.exit 0) (fun x : (List Int) × Int => ⟨[(0, sY (.h 2) x.1), (1, nU x.2)], []⟩) v) [.l c126_10] .norm ⟨[(0, sY (.h 1) x0), (1, nU x1)], []⟩) v
theorem ok_leb_put_l0_ok (x0 : List Int) (x1 : Int) : Ok (M_leb_put_l0 x0 x1) (q_ok_leb_put_l0_ok x0 x1) := by
  refine M_leb_put_l0.partial_correctness (q_ok_leb_put_l0_ok) ?_ x0 x1
  clear x0 x1
  intro f' IH x0 x1
  refine okI ?_
  unfold q_ok_leb_put_l0_ok at *
  refine Av 1 [.c c126_10, .l c126_10] ⟨[(0, sY (.h 1) x0), (1, nU x1)], []⟩ ?_
  refine Av 6 [.c c126_4, .c c126_9, .l c126_10] ⟨[(6, bB (decide (x1 > 127))), (0, sY (.h 1) x0), (1, nU x1)], []⟩ ?_
  refine L_split 6 rfl (fun _ => ?_) (fun _ => ?_)
  · refine Av 10 [.o false (o126_2.drop 5), .c c126_7, .b 1, .l c126_10] ⟨[(11, sY (.s 3279) [bOr .u8 (IntKind.u8.wrap x1) 128]), (7, sY (.h 1) x0), (1, nU x1)], []⟩ ?_
    refine L_app (enc := D.int .u8) (l := x0) (l2 := [bOr .u8 (IntKind.u8.wrap x1) 128]) trivial rfl rfl (fun _ => rfl) (fun _ => ?_)
    refine Al 8 [.l c126_10] .norm (fun y1 : List Int => ⟨[(1, nU (sShr .u64 x1 7)), (0, sY (.s 3295) y1)], []⟩) (fun y1 => ?_)
    exact L_again (IH y1 (sShr .u64 x1 7))
  · refine Avk 4 [] (.exit 0) ⟨[(0, sY (.h 1) x0), (1, nU x1)], []⟩ ?_
    exact L_end
theorem ok_leb_put (a0 : List Int) (a1 : Int) : ∀ v, M_leb_put a0 a1 = some v → EvG Try.prog 126 [sY (.h 0) a0, nU a1] [] (en_leb_put v) (bx_leb_put v) := by
  intro v hv
  refine EvG_go fn126 (Nat.le_of_ble_eq_true rfl) ?_
  suffices h : Ok (M_leb_put a0 a1) fun v => go Try.prog 20 (Fnl [.t 4] (en_leb_put v) (bx_leb_put v)) [.c c126_17] .norm (initSt [sY (.h 0) a0, nU a1] []) from h v hv
  unfold M_leb_put
  refine Av 7 [.l c126_10, .b 0, .c c126_15] ⟨[(0, sY (.h 0) a0), (1, nU a1)], []⟩ ?_
  refine L_piece (fs := [.l c126_10]) (ks := [.b 0, .c c126_15]) (ok_leb_put_l0_ok a0 a1) (fun j3 => ?_)
  refine Av 7 [.o false (o126_4.drop 4), .c .ret] ⟨[(18, sY (.s 6463) [IntKind.u8.wrap j3.2]), (15, sY (.h 2) j3.1)], []⟩ ?_
  refine L_app (enc := D.int .u8) (l := j3.1) (l2 := [IntKind.u8.wrap j3.2]) trivial rfl rfl (fun _ => rfl) (fun _ => ?_)
  refine Avk 3 [] .ret ⟨[(4, sY (.s 6479) (j3.1 ++ [IntKind.u8.wrap j3.2]))], []⟩ ?_
  exact L_ret
/-- thrum/leb.Put. -/
def en_leb_Put (v : (List Int)) : PV := sY (.s 0) v
def o78_0 : List AOper := [⟨some 4, none, 0, .mov (.c .nils)⟩]
def o78_1 : List AOper := [mv 7 100 0, cl' 8 101 76 [.t 7], mv 0 102 8]
def o78_2 : List AOper := [mv 9 200 1, ln 10 201 9, mi 11 202 0]
def o78_3 : List AOper := [bi 12 300 .lss 11 10]
def o78_4 : List AOper := [⟨some 13, none, 400, .idxA 1 (.t 9) (.t 11)⟩, ld 14 401 13, mv 6 402 14]
def o78_5 : List AOper := [mv 15 500 0, mv 16 501 6, cl' 17 502 126 [.t 15, .t 16], mv 0 503 17]
def o78_6 : List AOper := [bc 18 600 .add 11 1, mv 11 601 18]
def o78_7 : List AOper := [mv 19 700 0, mv 4 701 19]
def c78_6 : AC := .cond (.t 12) .skip (.exit 0)
def c78_8 : AC := .reg o78_5
def c78_11 : AC := .reg o78_6
def c78_12 : AC := .seq (.block 1 (.seq (.reg o78_4) c78_8)) c78_11
def c78_14 : AC := .seq (.reg o78_3) (.seq c78_6 c78_12)
def c78_16 : AC := .block 0 (.loop c78_14)
def c78_20 : AC := .seq (.reg o78_7) .ret
def c78_21 : AC := .seq (.seq (.reg o78_2) c78_16) c78_20
def c78_23 : AC := .seq (.reg o78_0) (.seq (.reg o78_1) c78_21)
theorem fn78 : fnA Try.prog 78 = some (20, [.t 4], c78_23) := by kernel_rfl
def q_ok_leb_Put_l0_ok (a1 : List Int) (x0 : Int) (x1 : List Int) (v : (List Int)) : Prop := (fun v => go Try.prog 20 (PostN (.exit 0) (fun x : (List Int) => ⟨[(0, sY (.h 1) x)], []⟩) v) [.l c78_14] .norm ⟨[(11, nI x0), (10, nI (a1.length : Int)), (9, lU a1), (0, sY (.h 0) x1)], []⟩) v
theorem ok_leb_Put_l0_ok (a1 : List Int) (x0 : Int) (x1 : List Int) : Ok (M_leb_Put_l0 a1 x0 x1) (q_ok_leb_Put_l0_ok a1 x0 x1) := by
  refine M_leb_Put_l0.partial_correctness a1 (q_ok_leb_Put_l0_ok a1) ?_ x0 x1
  clear x0 x1
  intro f' IH x0 x1
  refine okI ?_
  unfold q_ok_leb_Put_l0_ok at *
  refine Av 1 [.c c78_14, .l c78_14] ⟨[(11, nI x0), (10, nI (a1.length : Int)), (9, lU a1), (0, sY (.h 0) x1)], []⟩ ?_
  refine Av 5 [.c c78_6, .c c78_12, .l c78_14] ⟨[(12, bB (decide (x0 < (a1.length : Int)))), (11, nI x0), (10, nI (a1.length : Int)), (9, lU a1), (0, sY (.h 0) x1)], []⟩ ?_
  refine L_split 12 rfl (fun _ => ?_) (fun _ => ?_)
  · refine Av 6 [.o false o78_4, .c c78_8, .b 1, .c c78_11, .l c78_14] ⟨[(11, nI x0), (10, nI (a1.length : Int)), (9, lU a1), (0, sY (.h 0) x1)], []⟩ ?_
    refine L_idxD (enc := D.int .u64) (l := a1) (iv := x0) trivial rfl rfl (fun _ => rfl) (fun hc400 => ?_)
    refine Av 6 [.o false (o78_5.drop 2), .b 1, .c c78_11, .l c78_14] ⟨[(16, nU (at' a1 x0)), (15, sY (.h 0) x1), (11, nI x0), (10, nI (a1.length : Int)), (9, lU a1)], []⟩ ?_
    refine L_callB (enR := en_leb_put) (bx' := bx_leb_put) (ps := [sY (.h 0) x1, nU (at' a1 x0)]) (bx := []) [(.h 0, .h 0)] (ok_leb_put x1 (at' a1 x0)) trivial rfl rfl (fun _ => rfl) (fun _ => rfl) (fun _ => by kernel_rfl) (fun _ => by kernel_rfl) (fun _ => (flat_map_of fun _ => trivial)) (fun _ => trivial) (fun r2 => ?_)
    refine Av 7 [.l c78_14] ⟨[(11, nI (IntKind.i64.wrap (x0 + 1))), (0, sY (.s 8032) r2), (10, nI (a1.length : Int)), (9, lU a1)], []⟩ ?_
    exact L_again (IH (IntKind.i64.wrap (x0 + 1)) r2)
  · refine Avk 4 [] (.exit 0) ⟨[(0, sY (.h 0) x1)], []⟩ ?_
    exact L_end
theorem ok_leb_Put (a0 : List Int) (a1 : List Int) : ∀ v, M_leb_Put a0 a1 = some v → EvF Try.prog 78 [.lst (List.map (D.int .u8) a0), .lst (List.map (D.int .u64) a1)] (en_leb_Put v) := by
  intro v hv
  refine EvF_go fn78 (Nat.le_of_ble_eq_true rfl) ?_
  suffices h : Ok (M_leb_Put a0 a1) fun v => go Try.prog 20 (Fnl [.t 4] (en_leb_Put v) []) [.c c78_23] .norm (initSt (List.map PV.d [.lst (List.map (D.int .u8) a0), .lst (List.map (D.int .u64) a1)]) []) from h v hv
  unfold M_leb_Put
  refine Av 7 [.o false (o78_1.drop 1), .c c78_21] ⟨[(7, lY a0), (1, lU a1)], []⟩ ?_
  refine L_call (ok_slices_Clone_byte_byte a0) trivial rfl (fun _ => rfl) (fun _ => (flat_map_of fun _ => trivial)) (fun r1 => ?_)
  refine Av 6 [.o false (o78_2.drop 1), .c c78_16, .c c78_20] ⟨[(9, lU a1), (0, sY (.s 1616) r1)], []⟩ ?_
  refine L_len (enc := D.int .u64) (l := a1) trivial rfl ?_
  refine Av 4 [.l c78_14, .b 0, .c c78_20] ⟨[(11, nI 0), (10, nI (a1.length : Int)), (9, lU a1), (0, sY (.s 1616) r1)], []⟩ ?_
  refine L_piece (fs := [.l c78_14]) (ks := [.b 0, .c c78_20]) (ok_leb_Put_l0_ok a1 0 r1) (fun j3 => ?_)
  refine Avk 7 [] .ret ⟨[(4, sY (.h 1) j3)], []⟩ ?_
  exact L_ret
/-- thrum/crc.Sum. -/
def en_crc_Sum (v : Int) : PV := nW v
def o125_0 : List AOper := [⟨some 2, none, 0, .mov (.c (.d (.int .u32 0)))⟩]
def o125_1 : List AOper := [mv 3 100 0, cl' 4 101 169 [.c (.d (.int .u32 0)), .t 3], mv 2 102 4]
def c125_4 : AC := .seq (.reg o125_0) (.seq (.reg o125_1) .ret)
theorem fn125 : fnA Try.prog 125 = some (5, [.t 2], c125_4) := by kernel_rfl
theorem ok_crc_Sum (a0 : List Int) : ∀ v, M_crc_Sum a0 = some v → EvF Try.prog 125 [.lst (List.map (D.int .u8) a0)] (en_crc_Sum v) := by
  intro v hv
  refine EvF_go fn125 (Nat.le_of_ble_eq_true rfl) ?_
  suffices h : Ok (M_crc_Sum a0) fun v => go Try.prog 5 (Fnl [.t 2] (en_crc_Sum v) []) [.c c125_4] .norm (initSt (List.map PV.d [.lst (List.map (D.int .u8) a0)]) []) from h v hv
  unfold M_crc_Sum
  refine Av 7 [.o false (o125_1.drop 1), .c .ret] ⟨[(3, lY a0)], []⟩ ?_
  refine L_call (ok_crc_More 0 a0) trivial rfl (fun _ => rfl) (fun _ => trivial) (fun r1 => ?_)
  refine Avk 3 [] .ret ⟨[(2, nW r1)], []⟩ ?_
  exact L_ret
/-- thrum/crc.Seal. -/
def en_crc_Seal (v : (List Int) × Int) : PV := .tup [sY (.s 0) v.1, nI v.2]
def o77_0 : List AOper := [⟨some 2, none, 0, .mov (.c .nils)⟩, mi 3 1 0]
def o77_1 : List AOper := [mv 7 100 0, ln 8 101 7, bc 9 102 .gtr 8 65532]
def o77_2 : List AOper := [⟨some 2, none, 200, .mov (.c .nils)⟩, mi 3 201 3]
def o77_3 : List AOper := [mv 10 300 0, cl' 11 301 76 [.t 10], mv 4 302 11]
def o77_4 : List AOper := [mv 12 400 0, cl' 13 401 125 [.t 12], mv 5 402 13, mi 6 403 0]
def o77_5 : List AOper := [mv 14 500 6, bc 15 501 .lss 14 4]
def o77_6 : List AOper := [mv 20 700 4, mv 21 701 5, ⟨some 22, none, 702, .convI .u8 (.t 21)⟩, ⟨some 23, none, 703, .bslice 5 1 [.t 22]⟩, ⟨some 24, none, 704, .app 5 1 1 (.t 20) (.t 23)⟩, mv 4 705 24]
def o77_7 : List AOper := [mv 16 600 5, ⟨some 17, none, 601, .bin .shr .int (.t 16) (.c (.d (.int .u64 8)))⟩, mv 18 602 6, bc 19 603 .add 18 1, mv 5 604 17, mv 6 605 19]
def o77_8 : List AOper := [mv 25 800 4, mv 2 801 25, mi 3 802 0]
def c77_6 : AC := .cond (.t 9) (.seq (.reg o77_2) .ret) .skip
def c77_13 : AC := .cond (.t 15) .skip (.exit 0)
def c77_17 : AC := .reg o77_7
def c77_18 : AC := .seq (.block 1 (.reg o77_6)) c77_17
def c77_19 : AC := .seq (.seq (.reg o77_5) c77_13) c77_18
def c77_21 : AC := .block 0 (.loop c77_19)
def c77_25 : AC := .seq (.reg o77_8) .ret
def c77_26 : AC := .seq (.seq (.reg o77_4) c77_21) c77_25
def c77_27 : AC := .seq (.reg o77_3) c77_26
def c77_29 : AC := .seq (.reg o77_0) (.seq (.seq (.reg o77_1) c77_6) c77_27)
theorem fn77 : fnA Try.prog 77 = some (26, [.t 2, .t 3], c77_29) := by kernel_rfl
def q_ok_crc_Seal_l0_ok (x0 : Int) (x1 : Int) (x2 : List Int) (v : (List Int)) : Prop := (fun v => go Try.prog 26 (PostN (.exit 0) (fun x : (List Int) => ⟨[(4, sY (.h 1) x)], []⟩) v) [.l c77_19] .norm ⟨[(6, nI x0), (5, nW x1), (4, sY (.h 0) x2)], []⟩) v
theorem ok_crc_Seal_l0_ok (x0 : Int) (x1 : Int) (x2 : List Int) : Ok (M_crc_Seal_l0 x0 x1 x2) (q_ok_crc_Seal_l0_ok x0 x1 x2) := by
  refine M_crc_Seal_l0.partial_correctness (q_ok_crc_Seal_l0_ok) ?_ x0 x1 x2
  clear x0 x1 x2
  intro f' IH x0 x1 x2
  refine okI ?_
  unfold q_ok_crc_Seal_l0_ok at *
  refine Av 1 [.c c77_19, .l c77_19] ⟨[(6, nI x0), (5, nW x1), (4, sY (.h 0) x2)], []⟩ ?_
  refine Av 6 [.c c77_13, .c c77_18, .l c77_19] ⟨[(15, bB (decide (x0 < 4))), (6, nI x0), (5, nW x1), (4, sY (.h 0) x2)], []⟩ ?_
  refine L_split 15 rfl (fun _ => ?_) (fun _ => ?_)
  · refine Av 9 [.o false (o77_6.drop 4), .b 1, .c c77_17, .l c77_19] ⟨[(23, sY (.s 11263) [IntKind.u8.wrap x1]), (20, sY (.h 0) x2), (6, nI x0), (5, nW x1)], []⟩ ?_
    refine L_app (enc := D.int .u8) (l := x2) (l2 := [IntKind.u8.wrap x1]) trivial rfl rfl (fun _ => rfl) (fun _ => ?_)
    refine Al 11 [.l c77_19] .norm (fun y3 : List Int => ⟨[(6, nI (IntKind.i64.wrap (x0 + 1))), (5, nW (sShr .u32 x1 8)), (4, sY (.s 11279) y3)], []⟩) (fun y3 => ?_)
    exact L_again (IH (IntKind.i64.wrap (x0 + 1)) (sShr .u32 x1 8) y3)
  · refine Avk 4 [] (.exit 0) ⟨[(4, sY (.h 0) x2)], []⟩ ?_
    exact L_end
theorem ok_crc_Seal (a0 : List Int) : ∀ v, M_crc_Seal a0 = some v → EvF Try.prog 77 [.lst (List.map (D.int .u8) a0)] (en_crc_Seal v) := by
  intro v hv
  refine EvF_go fn77 (Nat.le_of_ble_eq_true rfl) ?_
  suffices h : Ok (M_crc_Seal a0) fun v => go Try.prog 26 (Fnl [.t 2, .t 3] (en_crc_Seal v) []) [.c c77_29] .norm (initSt (List.map PV.d [.lst (List.map (D.int .u8) a0)]) []) from h v hv
  unfold M_crc_Seal
  refine Av 9 [.o false (o77_1.drop 1), .c c77_6, .c c77_27] ⟨[(7, lY a0), (0, lY a0)], []⟩ ?_
  refine L_len (enc := D.int .u8) (l := a0) trivial rfl ?_
  refine Av 2 [.c c77_6, .c c77_27] ⟨[(9, bB (decide ((a0.length : Int) > 65532))), (0, lY a0)], []⟩ ?_
  refine L_split 9 rfl (fun _ => ?_) (fun _ => ?_)
  · refine Avk 8 [] .ret ⟨[(3, nI 3), (2, .nils)], []⟩ ?_
    exact L_ret
  · refine Av 5 [.o false (o77_3.drop 1), .c c77_26] ⟨[(10, lY a0), (0, lY a0)], []⟩ ?_
    refine L_call (ok_slices_Clone_byte_byte a0) trivial rfl (fun _ => rfl) (fun _ => (flat_map_of fun _ => trivial)) (fun r1 => ?_)
    refine Av 6 [.o false (o77_4.drop 1), .c c77_21, .c c77_25] ⟨[(12, lY a0), (4, sY (.s 4816) r1)], []⟩ ?_
    refine L_call (ok_crc_Sum a0) trivial rfl (fun _ => rfl) (fun _ => trivial) (fun r2 => ?_)
    refine Av 5 [.l c77_19, .b 0, .c c77_25] ⟨[(6, nI 0), (5, nW r2), (4, sY (.s 4816) r1)], []⟩ ?_
    refine L_piece (fs := [.l c77_19]) (ks := [.b 0, .c c77_25]) (ok_crc_Seal_l0_ok 0 r2 r1) (fun j5 => ?_)
    refine Avk 8 [] .ret ⟨[(3, nI 0), (2, sY (.h 1) j5)], []⟩ ?_
    exact L_ret
/-- thrum/frame.Write. -/
def en_frame_Write (v : (List Int) × Int) : PV := .tup [sY (.s 0) v.1, nI v.2]
def o42_0 : List AOper := [⟨some 1, none, 0, .box 53 (.t 0)⟩, ⟨some 2, none, 1, .mov (.c .nils)⟩, mi 3 2 0]
def o42_1 : List AOper := [⟨some 8, none, 100, .load true 11 (.t 1)⟩, cl' 9 101 30 [.t 8], mv 4 102 9]
def o42_2 : List AOper := [mv 10 200 4, bc 11 201 .neq 10 0]
def o42_3 : List AOper := [mv 12 300 4, ⟨some 2, none, 301, .mov (.c .nils)⟩, mv 3 302 12]
def o42_4 : List AOper := [⟨some 13, none, 400, .fieldA 0 (.t 1)⟩, ld 14 401 13, ⟨some 15, none, 402, .convI .u8 (.t 14)⟩, ⟨some 16, none, 403, .bslice 5 1 [.c (.d (.int .u8 1)), .t 15]⟩, ⟨some 17, none, 404, .fieldA 1 (.t 1)⟩, ld 18 405 17, ⟨some 19, none, 406, .convI .u64 (.t 18)⟩, ⟨some 20, none, 407, .fieldA 2 (.t 1)⟩, ld 21 408 20, ⟨some 22, none, 409, .convI .u64 (.t 21)⟩, ⟨some 23, none, 410, .bslice 82 1 [.t 19, .t 22]⟩, cl' 24 411 78 [.t 16, .t 23], mv 5 412 24]
def o42_5 : List AOper := [⟨some 25, none, 500, .fieldA 0 (.t 1)⟩, ld 26 501 25, bc 27 502 .eql 26 1]
def o42_6 : List AOper := [⟨some 29, none, 600, .fieldA 3 (.t 1)⟩, ⟨some 30, none, 601, .load true 8 (.t 29)⟩, cl' 31 602 88 [.t 30], mv 28 603 31, xt 32 604 28 0, xt 33 605 28 1, mv 6 606 32, mv 7 607 33]
def o42_7 : List AOper := [mv 34 700 7, bc 35 701 .neq 34 0]
def o42_8 : List AOper := [mv 36 800 7, ⟨some 2, none, 801, .mov (.c .nils)⟩, mv 3 802 36]
def o42_9 : List AOper := [mv 37 900 5, mv 38 901 6, ⟨some 39, none, 902, .app 5 1 1 (.t 37) (.t 38)⟩, mv 5 903 39]
def o42_10 : List AOper := [mv 40 1000 5, cl' 41 1001 77 [.t 40], xt 42 1002 41 0, xt 43 1003 41 1, mv 2 1004 42, mv 3 1005 43]
def c42_7 : AC := .cond (.t 11) (.seq (.reg o42_3) .ret) .skip
def c42_8 : AC := .seq (.reg o42_2) c42_7
def c42_21 : AC := .seq (.seq (.reg o42_7) (.cond (.t 35) (.seq (.reg o42_8) .ret) .skip)) (.reg o42_9)
def c42_24 : AC := .cond (.t 27) (.seq (.reg o42_6) c42_21) .skip
def c42_28 : AC := .seq (.reg o42_10) .ret
def c42_29 : AC := .seq (.seq (.reg o42_5) c42_24) c42_28
def c42_30 : AC := .seq (.reg o42_4) c42_29
def c42_32 : AC := .seq (.reg o42_0) (.seq (.seq (.reg o42_1) c42_8) c42_30)
theorem fn42 : fnA Try.prog 42 = some (44, [.t 2, .t 3], c42_32) := by kernel_rfl
theorem ok_frame_Write (a0 : T_api_Frame) : ∀ v, M_frame_Write a0 = some v → EvF Try.prog 42 [.agg [.int .i64 a0.F_Kind, .int .i64 a0.F_From, .int .i64 a0.F_Step, .int .i64 a0.F_S.F_Scheme, .int .i64 a0.F_S.F_Dim, .lst (List.map (D.int .i64) a0.F_S.F_L), .lst (List.map (D.int .i64) a0.F_S.F_V), .int .i64 a0.F_S.F_Scale, .int .i64 a0.F_S.F_Wide, .lst (List.map (D.int .u64) a0.F_S.F_Lev), .lst (List.map D.bool a0.F_S.F_Neg)]] (en_frame_Write v) := by
  intro v hv
  refine EvF_go fn42 (Nat.le_of_ble_eq_true rfl) ?_
  suffices h : Ok (M_frame_Write a0) fun v => go Try.prog 44 (Fnl [.t 2, .t 3] (en_frame_Write v) []) [.c c42_32] .norm (initSt (List.map PV.d [.agg [.int .i64 a0.F_Kind, .int .i64 a0.F_From, .int .i64 a0.F_Step, .int .i64 a0.F_S.F_Scheme, .int .i64 a0.F_S.F_Dim, .lst (List.map (D.int .i64) a0.F_S.F_L), .lst (List.map (D.int .i64) a0.F_S.F_V), .int .i64 a0.F_S.F_Scale, .int .i64 a0.F_S.F_Wide, .lst (List.map (D.int .u64) a0.F_S.F_Lev), .lst (List.map D.bool a0.F_S.F_Neg)]]) []) from h v hv
  unfold M_frame_Write
  refine Av 10 [.o false (o42_1.drop 1), .c c42_8, .c c42_30] ⟨[(8, .agg [nI a0.F_Kind, nI a0.F_From, nI a0.F_Step, nI a0.F_S.F_Scheme, nI a0.F_S.F_Dim, lI a0.F_S.F_L, lI a0.F_S.F_V, nI a0.F_S.F_Scale, nI a0.F_S.F_Wide, lU a0.F_S.F_Lev, lB a0.F_S.F_Neg]), (1, .ptr (.s 15) 0)], [(.s 15, [nI a0.F_Kind, nI a0.F_From, nI a0.F_Step, nI a0.F_S.F_Scheme, nI a0.F_S.F_Dim, lI a0.F_S.F_L, lI a0.F_S.F_V, nI a0.F_S.F_Scale, nI a0.F_S.F_Wide, lU a0.F_S.F_Lev, lB a0.F_S.F_Neg])]⟩ ?_
  refine L_call (ok_frame_Check a0) trivial rfl (fun _ => rfl) (fun _ => trivial) (fun r1 => ?_)
  refine Av 7 [.c c42_7, .c c42_30] ⟨[(11, bB (r1 != 0)), (4, nI r1), (1, .ptr (.s 15) 0)], [(.s 15, [nI a0.F_Kind, nI a0.F_From, nI a0.F_Step, nI a0.F_S.F_Scheme, nI a0.F_S.F_Dim, lI a0.F_S.F_L, lI a0.F_S.F_V, nI a0.F_S.F_Scale, nI a0.F_S.F_Wide, lU a0.F_S.F_Lev, lB a0.F_S.F_Neg])]⟩ ?_
  refine L_split 11 decNe (fun _ => ?_) (fun _ => ?_)
  · refine Avk 9 [] .ret ⟨[(3, nI r1), (2, .nils)], []⟩ ?_
    exact L_ret
  · refine Av 15 [.o false (o42_4.drop 11), .c c42_29] ⟨[(23, sU (.s 6575) [IntKind.u64.wrap a0.F_From, IntKind.u64.wrap a0.F_Step]), (16, sY (.s 6463) [1, IntKind.u8.wrap a0.F_Kind]), (1, .ptr (.s 15) 0)], [(.s 15, [nI a0.F_Kind, nI a0.F_From, nI a0.F_Step, nI a0.F_S.F_Scheme, nI a0.F_S.F_Dim, lI a0.F_S.F_L, lI a0.F_S.F_V, nI a0.F_S.F_Scale, nI a0.F_S.F_Wide, lU a0.F_S.F_Lev, lB a0.F_S.F_Neg])]⟩ ?_
    refine L_call (ok_leb_Put [1, IntKind.u8.wrap a0.F_Kind] [IntKind.u64.wrap a0.F_From, IntKind.u64.wrap a0.F_Step]) trivial rfl (fun _ => rfl) (fun _ => (flat_map_of fun _ => trivial)) (fun r2 => ?_)
    refine Av 9 [.c c42_24, .c c42_28] ⟨[(27, bB (a0.F_Kind == 1)), (5, sY (.s 6576) r2), (1, .ptr (.s 15) 0)], [(.s 15, [nI a0.F_Kind, nI a0.F_From, nI a0.F_Step, nI a0.F_S.F_Scheme, nI a0.F_S.F_Dim, lI a0.F_S.F_L, lI a0.F_S.F_V, nI a0.F_S.F_Scale, nI a0.F_S.F_Wide, lU a0.F_S.F_Lev, lB a0.F_S.F_Neg])]⟩ ?_
    refine L_split 27 decE (fun _ => ?_) (fun _ => ?_)
    · refine Av 5 [.o false (o42_6.drop 2), .c c42_21, .c c42_28] ⟨[(30, .agg [nI a0.F_S.F_Scheme, nI a0.F_S.F_Dim, lI a0.F_S.F_L, lI a0.F_S.F_V, nI a0.F_S.F_Scale, nI a0.F_S.F_Wide, lU a0.F_S.F_Lev, lB a0.F_S.F_Neg]), (5, sY (.s 6576) r2)], []⟩ ?_
      exact Ok.none
    · refine Av 5 [.o false (o42_10.drop 1), .c .ret] ⟨[(40, sY (.s 6576) r2)], []⟩ ?_
      refine L_call (ok_crc_Seal r2) trivial rfl (fun _ => rfl) (fun _ => ⟨(flat_map_of fun _ => trivial), trivial, trivial⟩) (fun r3 => ?_)
      refine Avk 6 [] .ret ⟨[(3, nI r3.2), (2, sY (.s 16016) r3.1)], []⟩ ?_
      exact L_ret
/-- thrum/thrumref03.Same. -/
def en_thrumref03_Same (v : Bool) : PV := bB v
def o24_0 : List AOper := [mb 4 0 false]
def o24_1 : List AOper := [mv 5 100 0, ⟨some 6, none, 101, .convS (.t 5)⟩, mv 7 102 1, ⟨some 8, none, 103, .convS (.t 7)⟩, ⟨some 9, none, 104, .bin .eql .str (.t 6) (.t 8)⟩, mv 4 105 9]
def c24_4 : AC := .seq (.reg o24_0) (.seq (.reg o24_1) .ret)
theorem fn24 : fnA Try.prog 24 = some (10, [.t 4], c24_4) := by kernel_rfl
theorem ok_thrumref03_Same (a0 : List Int) (a1 : List Int) : ∀ v, M_thrumref03_Same a0 a1 = some v → EvF Try.prog 24 [.lst (List.map (D.int .u8) a0), .lst (List.map (D.int .u8) a1)] (en_thrumref03_Same v) := by
  intro v hv
  refine EvF_go fn24 (Nat.le_of_ble_eq_true rfl) ?_
  suffices h : Ok (M_thrumref03_Same a0 a1) fun v => go Try.prog 10 (Fnl [.t 4] (en_thrumref03_Same v) []) [.c c24_4] .norm (initSt (List.map PV.d [.lst (List.map (D.int .u8) a0), .lst (List.map (D.int .u8) a1)]) []) from h v hv
  unfold M_thrumref03_Same
  refine Av 7 [.o false (o24_1.drop 1), .c .ret] ⟨[(5, lY a0), (1, lY a1)], []⟩ ?_
  refine L_convS (l := a0) trivial (.inl rfl) ?_
  refine Av 1 [.o false (o24_1.drop 3), .c .ret] ⟨[(7, lY a1), (6, .d (.str (strB a0)))], []⟩ ?_
  refine L_convS (l := a1) trivial (.inl rfl) ?_
  refine Avk 4 [] .ret ⟨[(4, bB ((strB a0).toList == (strB a1).toList))], []⟩ ?_
  exact L_ret
/-- thrum/thrumlaw07.live. -/
def en_thrumlaw07_live (v : Bool) : PV := bB v
def o28_0 : List AOper := [mb 0 0 false]
def o28_1 : List AOper := [cl' 4 100 59 [.c (.d (.int .i64 3)), .c (.d (.int .i64 300))], cl' 5 101 42 [.t 4], mv 3 102 5, xt 6 103 3 0, xt 7 104 3 1, mv 1 105 6, mv 2 106 7]
def o28_2 : List AOper := [mv 8 200 2, bc 9 201 .eql 8 0, mv 10 202 9, gv 11 10 true 203 1, ⟨some 12, some (10, true), 204, .len (.t 11)⟩, ⟨some 13, some (10, true), 205, .bin .eql .int (.t 12) (.c (.d (.int .i64 9)))⟩, pk 14 206 10 13 false, mv 15 207 14, gv 16 15 true 208 1, ⟨some 17, some (15, true), 209, .sliceS 1 (.t 16) none (some (.c (.d (.int .i64 5)))) none⟩, ⟨some 18, some (15, true), 210, .bslice 5 1 [.c (.d (.int .u8 1)), .c (.d (.int .u8 2)), .c (.d (.int .u8 3)), .c (.d (.int .u8 172)), .c (.d (.int .u8 2))]⟩, ⟨some 19, some (15, true), 211, .call 24 [.t 17, .t 18]⟩, pk 20 212 15 19 false, mv 0 213 20]
def o28_2t3_7 : List AOper := (o28_2.drop 3).take 4
def o28_2t8_13 : List AOper := (o28_2.drop 8).take 5
def c28_4 : AC := .seq (.reg o28_2) .ret
def c28_6 : AC := .seq (.reg o28_0) (.seq (.reg o28_1) c28_4)
theorem fn28 : fnA Try.prog 28 = some (21, [.t 0], c28_6) := by kernel_rfl
theorem ok_thrumlaw07_live : ∀ v, M_thrumlaw07_live = some v → EvF Try.prog 28 [] (en_thrumlaw07_live v) := by
  intro v hv
  refine EvF_go fn28 (Nat.le_of_ble_eq_true rfl) ?_
  suffices h : Ok (M_thrumlaw07_live) fun v => go Try.prog 21 (Fnl [.t 0] (en_thrumlaw07_live v) []) [.c c28_6] .norm (initSt (List.map PV.d []) []) from h v hv
  unfold M_thrumlaw07_live
  refine Av 6 [.o false o28_1, .c c28_4] ⟨[], []⟩ ?_
  refine L_call (ok_frame_Ack 3 300) trivial rfl (fun _ => rfl) (fun _ => ⟨trivial, trivial, trivial, trivial, trivial, rfl, rfl, trivial, trivial, rfl, rfl, trivial⟩) (fun r1 => ?_)
  refine L_call (ok_frame_Write (⟨r1.1, r1.2.1, r1.2.2.1, (⟨r1.2.2.2.1, r1.2.2.2.2.1, [], [], r1.2.2.2.2.2.1, r1.2.2.2.2.2.2, [], []⟩ : T_api_Sent)⟩ : T_api_Frame)) trivial rfl (fun _ => rfl) (fun _ => ⟨(flat_map_of fun _ => trivial), trivial, trivial⟩) (fun r2 => ?_)
  refine Av 11 [.o false (o28_2.drop 3), .c .ret] ⟨[(10, bB (r2.2 == 0)), (1, sY (.s 1616) r2.1)], []⟩ ?_
  refine L_take 4 o28_2t3_7 (o28_2.drop 7) ?_
  refine L_join [.o false o28_2t3_7] [.o false (o28_2.drop 7), .c .ret] (fun x : Bool => ⟨[(14, bB x), (1, sY (.s 1616) r2.1)], []⟩) ?_ (fun j3 => ?_)
  · refine L_split 10 decE (fun _ => ?_) (fun _ => ?_)
    · refine Av 1 [.o false (o28_2t3_7.drop 1)] ⟨[(11, sY (.s 1616) r2.1), (10, bB true), (1, sY (.s 1616) r2.1)], []⟩ ?_
      refine L_len (enc := D.int .u8) (l := r2.1) rfl rfl ?_
      refine Av 3 [] ⟨[(14, bB ((r2.1.length : Int) == 9)), (1, sY (.s 1616) r2.1)], []⟩ ?_
      exact L_end
    · refine Av 5 [] ⟨[(14, bB false), (1, sY (.s 1616) r2.1)], []⟩ ?_
      exact L_end
  · refine Av 1 [.o false (o28_2.drop 8), .c .ret] ⟨[(15, bB j3), (1, sY (.s 1616) r2.1)], []⟩ ?_
    refine L_take 5 o28_2t8_13 (o28_2.drop 13) ?_
    refine L_join [.o false o28_2t8_13] [.o false (o28_2.drop 13), .c .ret] (fun x : Bool => ⟨[(20, bB x)], []⟩) ?_ (fun j5 => ?_)
    · refine L_split 15 decT (fun _ => ?_) (fun _ => ?_)
      · refine Av 1 [.o false (o28_2t8_13.drop 1)] ⟨[(16, sY (.s 1616) r2.1), (15, bB true)], []⟩ ?_
        refine L_cutO (enc := D.int .u8) (l := r2.1) (a := none) (b := (some 5)) rfl rfl rfl rfl (fun hc209 => ?_)
        refine Av 1 [.o false (o28_2t8_13.drop 3)] ⟨[(18, sY (.s 3375) [1, 2, 3, 172, 2]), (15, bB true), (17, sY (.s 1616) (cut' r2.1 none (some 5)))], []⟩ ?_
        refine L_call (ok_thrumref03_Same (cut' r2.1 none (some 5)) [1, 2, 3, 172, 2]) rfl rfl (fun _ => rfl) (fun _ => trivial) (fun r4 => ?_)
        refine Av 2 [] ⟨[(20, bB r4)], []⟩ ?_
        exact L_end
      · refine Av 6 [] ⟨[(20, bB false)], []⟩ ?_
        exact L_end
    · refine Avk 3 [] .ret ⟨[(0, bB j5)], []⟩ ?_
      exact L_ret
/-- thrum/thrumref07.Big. -/
def en_thrumref07_Big (v : Bool) : PV := bB v
def o29_0 : List AOper := [⟨some 1, none, 0, .box 51 (.t 0)⟩, mb 2 1 false]
def o29_1 : List AOper := [⟨some 3, none, 100, .fieldA 2 (.t 1)⟩, ld 4 101 3, ln 5 102 4, bc 6 103 .gtr 5 500, mv 7 104 6, ⟨some 8, some (7, false), 105, .fieldA 3 (.t 1)⟩, ⟨some 9, some (7, false), 106, .load false 1 (.t 8)⟩, ⟨some 10, some (7, false), 107, .len (.t 9)⟩, ⟨some 11, some (7, false), 108, .bin .gtr .int (.t 10) (.c (.d (.int .i64 500)))⟩, pz 12 109 7 11 true, mv 13 110 12, ⟨some 14, some (13, false), 111, .fieldA 6 (.t 1)⟩, ⟨some 15, some (13, false), 112, .load false 1 (.t 14)⟩, ⟨some 16, some (13, false), 113, .len (.t 15)⟩, ⟨some 17, some (13, false), 114, .bin .gtr .int (.t 16) (.c (.d (.int .i64 500)))⟩, pz 18 115 13 17 true, mv 19 116 18, ⟨some 20, some (19, false), 117, .fieldA 7 (.t 1)⟩, ⟨some 21, some (19, false), 118, .load false 1 (.t 20)⟩, ⟨some 22, some (19, false), 119, .len (.t 21)⟩, ⟨some 23, some (19, false), 120, .bin .gtr .int (.t 22) (.c (.d (.int .i64 500)))⟩, pz 24 121 19 23 true, mv 2 122 24]
def o29_1t5_10 : List AOper := (o29_1.drop 5).take 5
def o29_1t11_16 : List AOper := (o29_1.drop 11).take 5
def o29_1t17_22 : List AOper := (o29_1.drop 17).take 5
def c29_4 : AC := .seq (.reg o29_0) (.seq (.reg o29_1) .ret)
theorem fn29 : fnA Try.prog 29 = some (25, [.t 2], c29_4) := by kernel_rfl
theorem ok_thrumref07_Big (a0 : T_api_Sent) : ∀ v, M_thrumref07_Big a0 = some v → EvF Try.prog 29 [.agg [.int .i64 a0.F_Scheme, .int .i64 a0.F_Dim, .lst (List.map (D.int .i64) a0.F_L), .lst (List.map (D.int .i64) a0.F_V), .int .i64 a0.F_Scale, .int .i64 a0.F_Wide, .lst (List.map (D.int .u64) a0.F_Lev), .lst (List.map D.bool a0.F_Neg)]] (en_thrumref07_Big v) := by
  intro v hv
  refine EvF_go fn29 (Nat.le_of_ble_eq_true rfl) ?_
  suffices h : Ok (M_thrumref07_Big a0) fun v => go Try.prog 25 (Fnl [.t 2] (en_thrumref07_Big v) []) [.c c29_4] .norm (initSt (List.map PV.d [.agg [.int .i64 a0.F_Scheme, .int .i64 a0.F_Dim, .lst (List.map (D.int .i64) a0.F_L), .lst (List.map (D.int .i64) a0.F_V), .int .i64 a0.F_Scale, .int .i64 a0.F_Wide, .lst (List.map (D.int .u64) a0.F_Lev), .lst (List.map D.bool a0.F_Neg)]]) []) from h v hv
  unfold M_thrumref07_Big
  refine Av 9 [.o false (o29_1.drop 2), .c .ret] ⟨[(4, lI a0.F_L), (1, .ptr (.s 15) 0)], [(.s 15, [nI a0.F_Scheme, nI a0.F_Dim, lI a0.F_L, lI a0.F_V, nI a0.F_Scale, nI a0.F_Wide, lU a0.F_Lev, lB a0.F_Neg])]⟩ ?_
  refine L_len (enc := D.int .i64) (l := a0.F_L) trivial rfl ?_
  refine Av 2 [.o false (o29_1.drop 5), .c .ret] ⟨[(7, bB (decide ((a0.F_L.length : Int) > 500))), (1, .ptr (.s 15) 0)], [(.s 15, [nI a0.F_Scheme, nI a0.F_Dim, lI a0.F_L, lI a0.F_V, nI a0.F_Scale, nI a0.F_Wide, lU a0.F_Lev, lB a0.F_Neg])]⟩ ?_
  refine L_take 5 o29_1t5_10 (o29_1.drop 10) ?_
  refine L_join [.o false o29_1t5_10] [.o false (o29_1.drop 10), .c .ret] (fun x : Bool => ⟨[(12, bB x), (1, .ptr (.s 15) 0)], [(.s 15, [nI a0.F_Scheme, nI a0.F_Dim, lI a0.F_L, lI a0.F_V, nI a0.F_Scale, nI a0.F_Wide, lU a0.F_Lev, lB a0.F_Neg])]⟩) ?_ (fun j1 => ?_)
  · refine L_split 7 rfl (fun _ => ?_) (fun _ => ?_)
    · refine Av 6 [] ⟨[(12, bB true), (1, .ptr (.s 15) 0)], [(.s 15, [nI a0.F_Scheme, nI a0.F_Dim, lI a0.F_L, lI a0.F_V, nI a0.F_Scale, nI a0.F_Wide, lU a0.F_Lev, lB a0.F_Neg])]⟩ ?_
      exact L_end
    · refine Av 2 [.o false (o29_1t5_10.drop 2)] ⟨[(9, lI a0.F_V), (7, bB false), (1, .ptr (.s 15) 0)], [(.s 15, [nI a0.F_Scheme, nI a0.F_Dim, lI a0.F_L, lI a0.F_V, nI a0.F_Scale, nI a0.F_Wide, lU a0.F_Lev, lB a0.F_Neg])]⟩ ?_
      refine L_len (enc := D.int .i64) (l := a0.F_V) rfl rfl ?_
      refine Av 3 [] ⟨[(12, bB (decide ((a0.F_V.length : Int) > 500))), (1, .ptr (.s 15) 0)], [(.s 15, [nI a0.F_Scheme, nI a0.F_Dim, lI a0.F_L, lI a0.F_V, nI a0.F_Scale, nI a0.F_Wide, lU a0.F_Lev, lB a0.F_Neg])]⟩ ?_
      exact L_end
  · refine Av 1 [.o false (o29_1.drop 11), .c .ret] ⟨[(13, bB j1), (1, .ptr (.s 15) 0)], [(.s 15, [nI a0.F_Scheme, nI a0.F_Dim, lI a0.F_L, lI a0.F_V, nI a0.F_Scale, nI a0.F_Wide, lU a0.F_Lev, lB a0.F_Neg])]⟩ ?_
    refine L_take 5 o29_1t11_16 (o29_1.drop 16) ?_
    refine L_join [.o false o29_1t11_16] [.o false (o29_1.drop 16), .c .ret] (fun x : Bool => ⟨[(18, bB x), (1, .ptr (.s 15) 0)], [(.s 15, [nI a0.F_Scheme, nI a0.F_Dim, lI a0.F_L, lI a0.F_V, nI a0.F_Scale, nI a0.F_Wide, lU a0.F_Lev, lB a0.F_Neg])]⟩) ?_ (fun j2 => ?_)
    · refine L_split 13 decT (fun _ => ?_) (fun _ => ?_)
      · refine Av 6 [] ⟨[(18, bB true), (1, .ptr (.s 15) 0)], [(.s 15, [nI a0.F_Scheme, nI a0.F_Dim, lI a0.F_L, lI a0.F_V, nI a0.F_Scale, nI a0.F_Wide, lU a0.F_Lev, lB a0.F_Neg])]⟩ ?_
        exact L_end
      · refine Av 2 [.o false (o29_1t11_16.drop 2)] ⟨[(15, lU a0.F_Lev), (13, bB false), (1, .ptr (.s 15) 0)], [(.s 15, [nI a0.F_Scheme, nI a0.F_Dim, lI a0.F_L, lI a0.F_V, nI a0.F_Scale, nI a0.F_Wide, lU a0.F_Lev, lB a0.F_Neg])]⟩ ?_
        refine L_len (enc := D.int .u64) (l := a0.F_Lev) rfl rfl ?_
        refine Av 3 [] ⟨[(18, bB (decide ((a0.F_Lev.length : Int) > 500))), (1, .ptr (.s 15) 0)], [(.s 15, [nI a0.F_Scheme, nI a0.F_Dim, lI a0.F_L, lI a0.F_V, nI a0.F_Scale, nI a0.F_Wide, lU a0.F_Lev, lB a0.F_Neg])]⟩ ?_
        exact L_end
    · refine Av 1 [.o false (o29_1.drop 17), .c .ret] ⟨[(19, bB j2), (1, .ptr (.s 15) 0)], [(.s 15, [nI a0.F_Scheme, nI a0.F_Dim, lI a0.F_L, lI a0.F_V, nI a0.F_Scale, nI a0.F_Wide, lU a0.F_Lev, lB a0.F_Neg])]⟩ ?_
      refine L_take 5 o29_1t17_22 (o29_1.drop 22) ?_
      refine L_join [.o false o29_1t17_22] [.o false (o29_1.drop 22), .c .ret] (fun x : Bool => ⟨[(24, bB x)], []⟩) ?_ (fun j3 => ?_)
      · refine L_split 19 decT (fun _ => ?_) (fun _ => ?_)
        · refine Av 6 [] ⟨[(24, bB true)], []⟩ ?_
          exact L_end
        · refine Av 2 [.o false (o29_1t17_22.drop 2)] ⟨[(21, lB a0.F_Neg), (19, bB false)], []⟩ ?_
          refine L_len (enc := D.bool) (l := a0.F_Neg) rfl rfl ?_
          refine Av 3 [] ⟨[(24, bB (decide ((a0.F_Neg.length : Int) > 500)))], []⟩ ?_
          exact L_end
      · refine Avk 3 [] .ret ⟨[(2, bB j3)], []⟩ ?_
        exact L_ret
/-- thrum/thrumlaw07.FrameBends. -/
def en_thrumlaw07_FrameBends (v : Bool) : PV := bB v
def o6_0 : List AOper := [⟨some 1, none, 0, .box 53 (.t 0)⟩, mb 2 1 false]
def o6_1 : List AOper := [cl' 5 100 28 [], mv 3 101 5]
def o6_2 : List AOper := [mv 6 200 3, ⟨some 7, none, 201, .un .not (.t 6)⟩]
def o6_3 : List AOper := [mb 2 300 false]
def o6_4 : List AOper := [⟨some 8, none, 400, .fieldA 3 (.t 1)⟩, ⟨some 9, none, 401, .load true 8 (.t 8)⟩, cl' 10 402 29 [.t 9], mv 11 403 10, ⟨some 12, some (11, false), 404, .load true 11 (.t 1)⟩, ⟨some 13, some (11, false), 405, .call 30 [.t 12]⟩, ⟨some 14, some (11, false), 406, .bin .neq .int (.t 13) (.c (.d (.int .i64 0)))⟩, pz 15 407 11 14 true]
def o6_5 : List AOper := [mv 16 500 3, mv 2 501 16]
def o6_6 : List AOper := [⟨some 17, none, 600, .load true 11 (.t 1)⟩, ⟨some 4, none, 601, .alloc 53 11 [.int .i64 0, .int .i64 0, .int .i64 0, .int .i64 0, .int .i64 0, .lst [], .lst [], .int .i64 0, .int .i64 0, .lst [], .lst []]⟩, ⟨none, none, 602, .store 11 (.t 4) (.t 17)⟩]
def o6_7 : List AOper := [⟨some 18, none, 700, .fieldA 1 (.t 4)⟩, ⟨none, none, 701, .store 1 (.t 18) (.c (.d (.int .i64 64)))⟩]
def o6_8 : List AOper := [⟨some 19, none, 800, .load true 11 (.t 4)⟩, cl' 20 801 30 [.t 19], bc 21 802 .eql 20 0]
def o6_9 : List AOper := [mb 2 900 false]
def o6_10 : List AOper := [⟨some 22, none, 1000, .load true 11 (.t 1)⟩, ⟨none, none, 1001, .store 11 (.t 4) (.t 22)⟩]
def o6_11 : List AOper := [⟨some 23, none, 1100, .fieldA 0 (.t 1)⟩, ld 24 1101 23, ⟨some 25, none, 1102, .bin .sub .int (.c (.d (.int .i64 3))) (.t 24)⟩, ⟨some 26, none, 1103, .fieldA 0 (.t 4)⟩, ⟨none, none, 1104, .store 1 (.t 26) (.t 25)⟩]
def o6_12 : List AOper := [⟨some 27, none, 1200, .load true 11 (.t 4)⟩, cl' 28 1201 30 [.t 27], bc 29 1202 .eql 28 0]
def o6_13 : List AOper := [mb 2 1300 false]
def o6_14 : List AOper := [⟨some 30, none, 1400, .load true 11 (.t 1)⟩, ⟨none, none, 1401, .store 11 (.t 4) (.t 30)⟩]
def o6_15 : List AOper := [⟨some 31, none, 1500, .fieldA 3 (.t 1)⟩, ⟨some 32, none, 1501, .fieldA 3 (.t 31)⟩, ld 33 1502 32, ⟨some 34, none, 1503, .app 2 1 8 (.c .nils) (.t 33)⟩, ⟨some 35, none, 1504, .bslice 2 1 [.c (.d (.int .i64 1))]⟩, ⟨some 36, none, 1505, .app 2 1 8 (.t 34) (.t 35)⟩, ⟨some 37, none, 1506, .fieldA 3 (.t 4)⟩, ⟨some 38, none, 1507, .fieldA 3 (.t 37)⟩, ⟨none, none, 1508, .store 1 (.t 38) (.t 36)⟩]
def o6_16 : List AOper := [⟨some 39, none, 1600, .load true 11 (.t 4)⟩, cl' 40 1601 30 [.t 39], bc 41 1602 .eql 40 0]
def o6_17 : List AOper := [mb 2 1700 false]
def o6_18 : List AOper := [⟨some 42, none, 1800, .load true 11 (.t 1)⟩, ⟨none, none, 1801, .store 11 (.t 4) (.t 42)⟩]
def o6_19 : List AOper := [⟨some 43, none, 1900, .fieldA 3 (.t 1)⟩, ⟨some 44, none, 1901, .fieldA 2 (.t 43)⟩, ld 45 1902 44, ⟨some 47, none, 1904, .fieldA 3 (.t 1)⟩, ⟨some 48, none, 1905, .fieldA 1 (.t 47)⟩, ld 49 1906 48, ⟨some 46, none, 1903, .app 3 1 8 (.c .nils) (.t 45)⟩, ⟨some 50, none, 1907, .bslice 3 1 [.t 49]⟩, ⟨some 51, none, 1908, .app 3 1 8 (.t 46) (.t 50)⟩, ⟨some 52, none, 1909, .fieldA 3 (.t 4)⟩, ⟨some 53, none, 1910, .fieldA 2 (.t 52)⟩, ⟨none, none, 1911, .store 1 (.t 53) (.t 51)⟩]
def o6_20 : List AOper := [⟨some 43, none, 1900, .fieldA 3 (.t 1)⟩, ⟨some 44, none, 1901, .fieldA 2 (.t 43)⟩, ld 45 1902 44, ⟨some 47, none, 1904, .fieldA 3 (.t 1)⟩, ⟨some 48, none, 1905, .fieldA 1 (.t 47)⟩, ld 49 1906 48, ⟨some 50, none, 1907, .bslice 3 1 [.t 49]⟩, ⟨some 46, none, 1903, .app 3 1 8 (.c .nils) (.t 45)⟩, ⟨some 51, none, 1908, .app 3 1 8 (.t 46) (.t 50)⟩, ⟨some 52, none, 1909, .fieldA 3 (.t 4)⟩, ⟨some 53, none, 1910, .fieldA 2 (.t 52)⟩, ⟨none, none, 1911, .store 1 (.t 53) (.t 51)⟩]
def o6_21 : List AOper := [⟨some 54, none, 2000, .load true 11 (.t 4)⟩, cl' 55 2001 30 [.t 54], bc 56 2002 .eql 55 0]
def o6_22 : List AOper := [mb 2 2100 false]
def o6_23 : List AOper := [⟨some 57, none, 2200, .load true 11 (.t 1)⟩, ⟨none, none, 2201, .store 11 (.t 4) (.t 57)⟩]
def o6_24 : List AOper := [⟨some 58, none, 2300, .fieldA 3 (.t 4)⟩, ⟨some 59, none, 2301, .fieldA 4 (.t 58)⟩, ⟨none, none, 2302, .store 1 (.t 59) (.c (.d (.int .i64 (-1))))⟩]
def o6_25 : List AOper := [mv 60 2400 3, mv 61 2401 60, ⟨some 62, some (61, true), 2402, .load true 11 (.t 4)⟩, ⟨some 63, some (61, true), 2403, .call 30 [.t 62]⟩, ⟨some 64, some (61, true), 2404, .bin .neq .int (.t 63) (.c (.d (.int .i64 0)))⟩, pk 65 2405 61 64 false, mv 66 2406 65, ⟨some 67, some (66, true), 2407, .fieldA 3 (.t 1)⟩, ⟨some 68, some (66, true), 2408, .load true 8 (.t 67)⟩, ⟨some 70, some (66, true), 2410, .fieldA 0 (.t 1)⟩, ⟨some 71, some (66, true), 2411, .load false 1 (.t 70)⟩, ⟨some 72, some (66, true), 2412, .bin .eql .int (.t 71) (.c (.d (.int .i64 1)))⟩, ⟨some 69, some (66, true), 2409, .call 31 [.t 68]⟩, ⟨some 73, some (66, true), 2413, .bin .eql .bool (.t 69) (.t 72)⟩, pk 74 2414 66 73 false, mv 2 2415 74]
def o6_19g0 : List AOper := [⟨some 43, none, 1900, .fieldA 3 (.t 1)⟩, ⟨some 44, none, 1901, .fieldA 2 (.t 43)⟩, ld 45 1902 44, ⟨some 47, none, 1904, .fieldA 3 (.t 1)⟩, ⟨some 48, none, 1905, .fieldA 1 (.t 47)⟩, ld 49 1906 48, ⟨some 46, none, 1903, .app 3 1 8 (.c .nils) (.t 45)⟩]
def h6_19g0 : List AOper := [⟨some 47, none, 1904, .fieldA 3 (.t 1)⟩, ⟨some 48, none, 1905, .fieldA 1 (.t 47)⟩, ld 49 1906 48]
def o6_19g1 : List AOper := [⟨some 50, none, 1907, .bslice 3 1 [.t 49]⟩, ⟨some 51, none, 1908, .app 3 1 8 (.t 46) (.t 50)⟩, ⟨some 52, none, 1909, .fieldA 3 (.t 4)⟩, ⟨some 53, none, 1910, .fieldA 2 (.t 52)⟩, ⟨none, none, 1911, .store 1 (.t 53) (.t 51)⟩]
def o6_20g0 : List AOper := [⟨some 43, none, 1900, .fieldA 3 (.t 1)⟩, ⟨some 44, none, 1901, .fieldA 2 (.t 43)⟩, ld 45 1902 44, ⟨some 47, none, 1904, .fieldA 3 (.t 1)⟩, ⟨some 48, none, 1905, .fieldA 1 (.t 47)⟩, ld 49 1906 48, ⟨some 50, none, 1907, .bslice 3 1 [.t 49]⟩]
def h6_20g0 : List AOper := [⟨some 43, none, 1900, .fieldA 3 (.t 1)⟩, ⟨some 44, none, 1901, .fieldA 2 (.t 43)⟩, ld 45 1902 44]
def o6_20g1 : List AOper := [⟨some 46, none, 1903, .app 3 1 8 (.c .nils) (.t 45)⟩, ⟨some 51, none, 1908, .app 3 1 8 (.t 46) (.t 50)⟩, ⟨some 52, none, 1909, .fieldA 3 (.t 4)⟩, ⟨some 53, none, 1910, .fieldA 2 (.t 52)⟩, ⟨none, none, 1911, .store 1 (.t 53) (.t 51)⟩]
def o6_25g0 : List AOper := [mv 60 2400 3, mv 61 2401 60, ⟨some 62, some (61, true), 2402, .load true 11 (.t 4)⟩, ⟨some 63, some (61, true), 2403, .call 30 [.t 62]⟩, ⟨some 64, some (61, true), 2404, .bin .neq .int (.t 63) (.c (.d (.int .i64 0)))⟩, pk 65 2405 61 64 false, mv 66 2406 65, ⟨some 67, some (66, true), 2407, .fieldA 3 (.t 1)⟩, ⟨some 68, some (66, true), 2408, .load true 8 (.t 67)⟩, ⟨some 70, some (66, true), 2410, .fieldA 0 (.t 1)⟩, ⟨some 71, some (66, true), 2411, .load false 1 (.t 70)⟩, ⟨some 72, some (66, true), 2412, .bin .eql .int (.t 71) (.c (.d (.int .i64 1)))⟩, ⟨some 69, some (66, true), 2409, .call 31 [.t 68]⟩]
def h6_25g0 : List AOper := [⟨some 70, some (66, true), 2410, .fieldA 0 (.t 1)⟩, ⟨some 71, some (66, true), 2411, .load false 1 (.t 70)⟩, ⟨some 72, some (66, true), 2412, .bin .eql .int (.t 71) (.c (.d (.int .i64 1)))⟩]
def o6_25g1 : List AOper := [⟨some 73, some (66, true), 2413, .bin .eql .bool (.t 69) (.t 72)⟩, pk 74 2414 66 73 false, mv 2 2415 74]
def o6_4t4_8 : List AOper := (o6_4.drop 4).take 4
def c6_7 : AC := .cond (.t 7) (.seq (.reg o6_3) .ret) .skip
def c6_14 : AC := .cond (.t 15) (.seq (.reg o6_5) .ret) .skip
def c6_23 : AC := .cond (.t 21) (.seq (.reg o6_9) .ret) .skip
def c6_32 : AC := .cond (.t 29) (.seq (.reg o6_13) .ret) .skip
def c6_41 : AC := .cond (.t 41) (.seq (.reg o6_17) .ret) .skip
def c6_44 : AC := .draws [[⟨⟨some 43, none, 1900, .fieldA 3 (.t 1)⟩, false, []⟩, ⟨⟨some 44, none, 1901, .fieldA 2 (.t 43)⟩, false, []⟩, ⟨ld 45 1902 44, false, []⟩, ⟨⟨some 47, none, 1904, .fieldA 3 (.t 1)⟩, false, []⟩, ⟨⟨some 48, none, 1905, .fieldA 1 (.t 47)⟩, false, []⟩, ⟨ld 49 1906 48, false, []⟩, ⟨⟨some 46, none, 1903, .app 3 1 8 (.c .nils) (.t 45)⟩, true, [⟨some 47, none, 1904, .fieldA 3 (.t 1)⟩, ⟨some 48, none, 1905, .fieldA 1 (.t 47)⟩, ld 49 1906 48]⟩, ⟨⟨some 50, none, 1907, .bslice 3 1 [.t 49]⟩, true, []⟩, ⟨⟨some 51, none, 1908, .app 3 1 8 (.t 46) (.t 50)⟩, true, []⟩, ⟨⟨some 52, none, 1909, .fieldA 3 (.t 4)⟩, false, []⟩, ⟨⟨some 53, none, 1910, .fieldA 2 (.t 52)⟩, false, []⟩, ⟨⟨none, none, 1911, .store 1 (.t 53) (.t 51)⟩, true, []⟩], [⟨⟨some 43, none, 1900, .fieldA 3 (.t 1)⟩, false, []⟩, ⟨⟨some 44, none, 1901, .fieldA 2 (.t 43)⟩, false, []⟩, ⟨ld 45 1902 44, false, []⟩, ⟨⟨some 47, none, 1904, .fieldA 3 (.t 1)⟩, false, []⟩, ⟨⟨some 48, none, 1905, .fieldA 1 (.t 47)⟩, false, []⟩, ⟨ld 49 1906 48, false, []⟩, ⟨⟨some 50, none, 1907, .bslice 3 1 [.t 49]⟩, true, [⟨some 43, none, 1900, .fieldA 3 (.t 1)⟩, ⟨some 44, none, 1901, .fieldA 2 (.t 43)⟩, ld 45 1902 44]⟩, ⟨⟨some 46, none, 1903, .app 3 1 8 (.c .nils) (.t 45)⟩, true, []⟩, ⟨⟨some 51, none, 1908, .app 3 1 8 (.t 46) (.t 50)⟩, true, []⟩, ⟨⟨some 52, none, 1909, .fieldA 3 (.t 4)⟩, false, []⟩, ⟨⟨some 53, none, 1910, .fieldA 2 (.t 52)⟩, false, []⟩, ⟨⟨none, none, 1911, .store 1 (.t 53) (.t 51)⟩, true, []⟩]]
def c6_50 : AC := .cond (.t 56) (.seq (.reg o6_22) .ret) .skip
def c6_54 : AC := .draw [⟨mv 60 2400 3, false, []⟩, ⟨mv 61 2401 60, false, []⟩, ⟨⟨some 62, some (61, true), 2402, .load true 11 (.t 4)⟩, false, []⟩, ⟨⟨some 63, some (61, true), 2403, .call 30 [.t 62]⟩, true, []⟩, ⟨⟨some 64, some (61, true), 2404, .bin .neq .int (.t 63) (.c (.d (.int .i64 0)))⟩, false, []⟩, ⟨pk 65 2405 61 64 false, false, []⟩, ⟨mv 66 2406 65, false, []⟩, ⟨⟨some 67, some (66, true), 2407, .fieldA 3 (.t 1)⟩, false, []⟩, ⟨⟨some 68, some (66, true), 2408, .load true 8 (.t 67)⟩, false, []⟩, ⟨⟨some 70, some (66, true), 2410, .fieldA 0 (.t 1)⟩, false, []⟩, ⟨⟨some 71, some (66, true), 2411, .load false 1 (.t 70)⟩, false, []⟩, ⟨⟨some 72, some (66, true), 2412, .bin .eql .int (.t 71) (.c (.d (.int .i64 1)))⟩, false, []⟩, ⟨⟨some 69, some (66, true), 2409, .call 31 [.t 68]⟩, true, [⟨some 70, some (66, true), 2410, .fieldA 0 (.t 1)⟩, ⟨some 71, some (66, true), 2411, .load false 1 (.t 70)⟩, ⟨some 72, some (66, true), 2412, .bin .eql .int (.t 71) (.c (.d (.int .i64 1)))⟩]⟩, ⟨⟨some 73, some (66, true), 2413, .bin .eql .bool (.t 69) (.t 72)⟩, false, []⟩, ⟨pk 74 2414 66 73 false, false, []⟩, ⟨mv 2 2415 74, false, []⟩]
def c6_58 : AC := .seq (.reg o6_23) (.seq (.reg o6_24) (.seq c6_54 .ret))
def c6_59 : AC := .seq (.seq (.reg o6_21) c6_50) c6_58
def c6_61 : AC := .seq (.reg o6_18) (.seq c6_44 c6_59)
def c6_62 : AC := .seq (.seq (.reg o6_16) c6_41) c6_61
def c6_64 : AC := .seq (.reg o6_14) (.seq (.reg o6_15) c6_62)
def c6_67 : AC := .seq (.reg o6_10) (.seq (.reg o6_11) (.seq (.seq (.reg o6_12) c6_32) c6_64))
def c6_70 : AC := .seq (.reg o6_6) (.seq (.reg o6_7) (.seq (.seq (.reg o6_8) c6_23) c6_67))
def c6_71 : AC := .seq (.seq (.reg o6_4) c6_14) c6_70
def c6_72 : AC := .seq (.seq (.reg o6_2) c6_7) c6_71
def c6_74 : AC := .seq (.reg o6_0) (.seq (.reg o6_1) c6_72)
theorem fn6 : fnA Try.prog 6 = some (75, [.t 2], c6_74) := by kernel_rfl
theorem ok_thrumlaw07_FrameBends (a0 : T_api_Frame) : ∀ v, M_thrumlaw07_FrameBends a0 = some v → EvF Try.prog 6 [.agg [.int .i64 a0.F_Kind, .int .i64 a0.F_From, .int .i64 a0.F_Step, .int .i64 a0.F_S.F_Scheme, .int .i64 a0.F_S.F_Dim, .lst (List.map (D.int .i64) a0.F_S.F_L), .lst (List.map (D.int .i64) a0.F_S.F_V), .int .i64 a0.F_S.F_Scale, .int .i64 a0.F_S.F_Wide, .lst (List.map (D.int .u64) a0.F_S.F_Lev), .lst (List.map D.bool a0.F_S.F_Neg)]] (en_thrumlaw07_FrameBends v) := by
  intro v hv
  refine EvF_go fn6 (Nat.le_of_ble_eq_true rfl) ?_
  suffices h : Ok (M_thrumlaw07_FrameBends a0) fun v => go Try.prog 75 (Fnl [.t 2] (en_thrumlaw07_FrameBends v) []) [.c c6_74] .norm (initSt (List.map PV.d [.agg [.int .i64 a0.F_Kind, .int .i64 a0.F_From, .int .i64 a0.F_Step, .int .i64 a0.F_S.F_Scheme, .int .i64 a0.F_S.F_Dim, .lst (List.map (D.int .i64) a0.F_S.F_L), .lst (List.map (D.int .i64) a0.F_S.F_V), .int .i64 a0.F_S.F_Scale, .int .i64 a0.F_S.F_Wide, .lst (List.map (D.int .u64) a0.F_S.F_Lev), .lst (List.map D.bool a0.F_S.F_Neg)]]) []) from h v hv
  unfold M_thrumlaw07_FrameBends
  refine Av 7 [.o false o6_1, .c c6_72] ⟨[(1, .ptr (.s 15) 0)], [(.s 15, [nI a0.F_Kind, nI a0.F_From, nI a0.F_Step, nI a0.F_S.F_Scheme, nI a0.F_S.F_Dim, lI a0.F_S.F_L, lI a0.F_S.F_V, nI a0.F_S.F_Scale, nI a0.F_S.F_Wide, lU a0.F_S.F_Lev, lB a0.F_S.F_Neg])]⟩ ?_
  refine L_call (ok_thrumlaw07_live) trivial rfl (fun _ => rfl) (fun _ => trivial) (fun r1 => ?_)
  refine Av 8 [.c c6_7, .c c6_71] ⟨[(7, bB (!r1)), (3, bB r1), (1, .ptr (.s 15) 0)], [(.s 15, [nI a0.F_Kind, nI a0.F_From, nI a0.F_Step, nI a0.F_S.F_Scheme, nI a0.F_S.F_Dim, lI a0.F_S.F_L, lI a0.F_S.F_V, nI a0.F_S.F_Scale, nI a0.F_S.F_Wide, lU a0.F_S.F_Lev, lB a0.F_S.F_Neg])]⟩ ?_
  refine L_split 7 decF (fun _ => ?_) (fun _ => ?_)
  · refine Avk 7 [] .ret ⟨[(2, bB false)], []⟩ ?_
    exact L_ret
  · refine Av 7 [.o false (o6_4.drop 2), .c c6_14, .c c6_70] ⟨[(9, .agg [nI a0.F_S.F_Scheme, nI a0.F_S.F_Dim, lI a0.F_S.F_L, lI a0.F_S.F_V, nI a0.F_S.F_Scale, nI a0.F_S.F_Wide, lU a0.F_S.F_Lev, lB a0.F_S.F_Neg]), (3, bB r1), (1, .ptr (.s 15) 0)], [(.s 15, [nI a0.F_Kind, nI a0.F_From, nI a0.F_Step, nI a0.F_S.F_Scheme, nI a0.F_S.F_Dim, lI a0.F_S.F_L, lI a0.F_S.F_V, nI a0.F_S.F_Scale, nI a0.F_S.F_Wide, lU a0.F_S.F_Lev, lB a0.F_S.F_Neg])]⟩ ?_
    refine L_call (ok_thrumref07_Big a0.F_S) trivial rfl (fun _ => rfl) (fun _ => trivial) (fun r2 => ?_)
    refine Av 1 [.o false (o6_4.drop 4), .c c6_14, .c c6_70] ⟨[(11, bB r2), (3, bB r1), (1, .ptr (.s 15) 0)], [(.s 15, [nI a0.F_Kind, nI a0.F_From, nI a0.F_Step, nI a0.F_S.F_Scheme, nI a0.F_S.F_Dim, lI a0.F_S.F_L, lI a0.F_S.F_V, nI a0.F_S.F_Scale, nI a0.F_S.F_Wide, lU a0.F_S.F_Lev, lB a0.F_S.F_Neg])]⟩ ?_
    refine L_take 4 o6_4t4_8 (o6_4.drop 8) ?_
    refine L_join [.o false o6_4t4_8] [.o false (o6_4.drop 8), .c c6_14, .c c6_70] (fun x : Bool => ⟨[(15, bB x), (3, bB r1), (1, .ptr (.s 15) 0)], [(.s 15, [nI a0.F_Kind, nI a0.F_From, nI a0.F_Step, nI a0.F_S.F_Scheme, nI a0.F_S.F_Dim, lI a0.F_S.F_L, lI a0.F_S.F_V, nI a0.F_S.F_Scale, nI a0.F_S.F_Wide, lU a0.F_S.F_Lev, lB a0.F_S.F_Neg])]⟩) ?_ (fun j4 => ?_)
    · refine L_split 11 decT (fun _ => ?_) (fun _ => ?_)
      · refine Av 5 [] ⟨[(15, bB true), (3, bB r1), (1, .ptr (.s 15) 0)], [(.s 15, [nI a0.F_Kind, nI a0.F_From, nI a0.F_Step, nI a0.F_S.F_Scheme, nI a0.F_S.F_Dim, lI a0.F_S.F_L, lI a0.F_S.F_V, nI a0.F_S.F_Scale, nI a0.F_S.F_Wide, lU a0.F_S.F_Lev, lB a0.F_S.F_Neg])]⟩ ?_
        exact L_end
      · refine Av 1 [.o false (o6_4t4_8.drop 1)] ⟨[(12, .agg [nI a0.F_Kind, nI a0.F_From, nI a0.F_Step, nI a0.F_S.F_Scheme, nI a0.F_S.F_Dim, lI a0.F_S.F_L, lI a0.F_S.F_V, nI a0.F_S.F_Scale, nI a0.F_S.F_Wide, lU a0.F_S.F_Lev, lB a0.F_S.F_Neg]), (11, bB false), (3, bB r1), (1, .ptr (.s 15) 0)], [(.s 15, [nI a0.F_Kind, nI a0.F_From, nI a0.F_Step, nI a0.F_S.F_Scheme, nI a0.F_S.F_Dim, lI a0.F_S.F_L, lI a0.F_S.F_V, nI a0.F_S.F_Scale, nI a0.F_S.F_Wide, lU a0.F_S.F_Lev, lB a0.F_S.F_Neg])]⟩ ?_
        refine L_call (ok_frame_Check a0) rfl rfl (fun _ => rfl) (fun _ => trivial) (fun r3 => ?_)
        refine Av 3 [] ⟨[(15, bB (r3 != 0)), (3, bB r1), (1, .ptr (.s 15) 0)], [(.s 15, [nI a0.F_Kind, nI a0.F_From, nI a0.F_Step, nI a0.F_S.F_Scheme, nI a0.F_S.F_Dim, lI a0.F_S.F_L, lI a0.F_S.F_V, nI a0.F_S.F_Scale, nI a0.F_S.F_Wide, lU a0.F_S.F_Lev, lB a0.F_S.F_Neg])]⟩ ?_
        exact L_end
    · refine Av 1 [.c c6_14, .c c6_70] ⟨[(15, bB j4), (3, bB r1), (1, .ptr (.s 15) 0)], [(.s 15, [nI a0.F_Kind, nI a0.F_From, nI a0.F_Step, nI a0.F_S.F_Scheme, nI a0.F_S.F_Dim, lI a0.F_S.F_L, lI a0.F_S.F_V, nI a0.F_S.F_Scale, nI a0.F_S.F_Wide, lU a0.F_S.F_Lev, lB a0.F_S.F_Neg])]⟩ ?_
      refine L_split 15 decT (fun _ => ?_) (fun _ => ?_)
      · refine Avk 8 [] .ret ⟨[(2, bB r1)], []⟩ ?_
        exact L_ret
      · refine Av 17 [.o false (o6_8.drop 1), .c c6_23, .c c6_67] ⟨[(19, .agg [nI a0.F_Kind, nI 64, nI a0.F_Step, nI a0.F_S.F_Scheme, nI a0.F_S.F_Dim, lI a0.F_S.F_L, lI a0.F_S.F_V, nI a0.F_S.F_Scale, nI a0.F_S.F_Wide, lU a0.F_S.F_Lev, lB a0.F_S.F_Neg]), (4, .ptr (.s 9631) 0), (3, bB r1), (1, .ptr (.s 15) 0)], [(.s 9631, [nI a0.F_Kind, nI 64, nI a0.F_Step, nI a0.F_S.F_Scheme, nI a0.F_S.F_Dim, lI a0.F_S.F_L, lI a0.F_S.F_V, nI a0.F_S.F_Scale, nI a0.F_S.F_Wide, lU a0.F_S.F_Lev, lB a0.F_S.F_Neg]), (.s 15, [nI a0.F_Kind, nI a0.F_From, nI a0.F_Step, nI a0.F_S.F_Scheme, nI a0.F_S.F_Dim, lI a0.F_S.F_L, lI a0.F_S.F_V, nI a0.F_S.F_Scale, nI a0.F_S.F_Wide, lU a0.F_S.F_Lev, lB a0.F_S.F_Neg])]⟩ ?_
        refine L_call (ok_frame_Check (⟨a0.F_Kind, 64, a0.F_Step, a0.F_S⟩ : T_api_Frame)) trivial rfl (fun _ => rfl) (fun _ => trivial) (fun r5 => ?_)
        refine Av 2 [.c c6_23, .c c6_67] ⟨[(21, bB (r5 == 0)), (4, .ptr (.s 9631) 0), (3, bB r1), (1, .ptr (.s 15) 0)], [(.s 9631, [nI a0.F_Kind, nI 64, nI a0.F_Step, nI a0.F_S.F_Scheme, nI a0.F_S.F_Dim, lI a0.F_S.F_L, lI a0.F_S.F_V, nI a0.F_S.F_Scale, nI a0.F_S.F_Wide, lU a0.F_S.F_Lev, lB a0.F_S.F_Neg]), (.s 15, [nI a0.F_Kind, nI a0.F_From, nI a0.F_Step, nI a0.F_S.F_Scheme, nI a0.F_S.F_Dim, lI a0.F_S.F_L, lI a0.F_S.F_V, nI a0.F_S.F_Scale, nI a0.F_S.F_Wide, lU a0.F_S.F_Lev, lB a0.F_S.F_Neg])]⟩ ?_
        refine L_split 21 decE (fun _ => ?_) (fun _ => ?_)
        · refine Avk 7 [] .ret ⟨[(2, bB false)], []⟩ ?_
          exact L_ret
        · refine Av 19 [.o false (o6_12.drop 1), .c c6_32, .c c6_64] ⟨[(27, .agg [nI (IntKind.i64.wrap (3 - a0.F_Kind)), nI a0.F_From, nI a0.F_Step, nI a0.F_S.F_Scheme, nI a0.F_S.F_Dim, lI a0.F_S.F_L, lI a0.F_S.F_V, nI a0.F_S.F_Scale, nI a0.F_S.F_Wide, lU a0.F_S.F_Lev, lB a0.F_S.F_Neg]), (4, .ptr (.s 9631) 0), (3, bB r1), (1, .ptr (.s 15) 0)], [(.s 9631, [nI (IntKind.i64.wrap (3 - a0.F_Kind)), nI a0.F_From, nI a0.F_Step, nI a0.F_S.F_Scheme, nI a0.F_S.F_Dim, lI a0.F_S.F_L, lI a0.F_S.F_V, nI a0.F_S.F_Scale, nI a0.F_S.F_Wide, lU a0.F_S.F_Lev, lB a0.F_S.F_Neg]), (.s 15, [nI a0.F_Kind, nI a0.F_From, nI a0.F_Step, nI a0.F_S.F_Scheme, nI a0.F_S.F_Dim, lI a0.F_S.F_L, lI a0.F_S.F_V, nI a0.F_S.F_Scale, nI a0.F_S.F_Wide, lU a0.F_S.F_Lev, lB a0.F_S.F_Neg])]⟩ ?_
          refine L_call (ok_frame_Check (⟨IntKind.i64.wrap (3 - a0.F_Kind), a0.F_From, a0.F_Step, a0.F_S⟩ : T_api_Frame)) trivial rfl (fun _ => rfl) (fun _ => trivial) (fun r6 => ?_)
          refine Av 2 [.c c6_32, .c c6_64] ⟨[(29, bB (r6 == 0)), (4, .ptr (.s 9631) 0), (3, bB r1), (1, .ptr (.s 15) 0)], [(.s 9631, [nI (IntKind.i64.wrap (3 - a0.F_Kind)), nI a0.F_From, nI a0.F_Step, nI a0.F_S.F_Scheme, nI a0.F_S.F_Dim, lI a0.F_S.F_L, lI a0.F_S.F_V, nI a0.F_S.F_Scale, nI a0.F_S.F_Wide, lU a0.F_S.F_Lev, lB a0.F_S.F_Neg]), (.s 15, [nI a0.F_Kind, nI a0.F_From, nI a0.F_Step, nI a0.F_S.F_Scheme, nI a0.F_S.F_Dim, lI a0.F_S.F_L, lI a0.F_S.F_V, nI a0.F_S.F_Scale, nI a0.F_S.F_Wide, lU a0.F_S.F_Lev, lB a0.F_S.F_Neg])]⟩ ?_
          refine L_split 29 decE (fun _ => ?_) (fun _ => ?_)
          · refine Avk 7 [] .ret ⟨[(2, bB false)], []⟩ ?_
            exact L_ret
          · refine Av 12 [.o false (o6_15.drop 3), .c c6_62] ⟨[(33, lI a0.F_S.F_V), (4, .ptr (.s 9631) 0), (3, bB r1), (1, .ptr (.s 15) 0)], [(.s 9631, [nI a0.F_Kind, nI a0.F_From, nI a0.F_Step, nI a0.F_S.F_Scheme, nI a0.F_S.F_Dim, lI a0.F_S.F_L, lI a0.F_S.F_V, nI a0.F_S.F_Scale, nI a0.F_S.F_Wide, lU a0.F_S.F_Lev, lB a0.F_S.F_Neg]), (.s 15, [nI a0.F_Kind, nI a0.F_From, nI a0.F_Step, nI a0.F_S.F_Scheme, nI a0.F_S.F_Dim, lI a0.F_S.F_L, lI a0.F_S.F_V, nI a0.F_S.F_Scale, nI a0.F_S.F_Wide, lU a0.F_S.F_Lev, lB a0.F_S.F_Neg])]⟩ ?_
            refine L_appN (enc := D.int .i64) (l2 := a0.F_S.F_V) trivial rfl rfl (fun _ => rfl) (fun _ => ?_)
            refine Av 1 [.o false (o6_15.drop 5), .c c6_62] ⟨[(35, sI (.s 24079) [1]), (34, sI (.s 24063) a0.F_S.F_V), (4, .ptr (.s 9631) 0), (3, bB r1), (1, .ptr (.s 15) 0)], [(.s 9631, [nI a0.F_Kind, nI a0.F_From, nI a0.F_Step, nI a0.F_S.F_Scheme, nI a0.F_S.F_Dim, lI a0.F_S.F_L, lI a0.F_S.F_V, nI a0.F_S.F_Scale, nI a0.F_S.F_Wide, lU a0.F_S.F_Lev, lB a0.F_S.F_Neg]), (.s 15, [nI a0.F_Kind, nI a0.F_From, nI a0.F_Step, nI a0.F_S.F_Scheme, nI a0.F_S.F_Dim, lI a0.F_S.F_L, lI a0.F_S.F_V, nI a0.F_S.F_Scale, nI a0.F_S.F_Wide, lU a0.F_S.F_Lev, lB a0.F_S.F_Neg])]⟩ ?_
            refine L_app (enc := D.int .i64) (l := a0.F_S.F_V) (l2 := [1]) trivial rfl rfl (fun _ => rfl) (fun _ => ?_)
            refine Av 8 [.o false (o6_16.drop 1), .c c6_41, .c c6_61] ⟨[(39, .agg [nI a0.F_Kind, nI a0.F_From, nI a0.F_Step, nI a0.F_S.F_Scheme, nI a0.F_S.F_Dim, lI a0.F_S.F_L, sI (.s 24095) (a0.F_S.F_V ++ [1]), nI a0.F_S.F_Scale, nI a0.F_S.F_Wide, lU a0.F_S.F_Lev, lB a0.F_S.F_Neg]), (4, .ptr (.s 9631) 0), (3, bB r1), (1, .ptr (.s 15) 0)], [(.s 9631, [nI a0.F_Kind, nI a0.F_From, nI a0.F_Step, nI a0.F_S.F_Scheme, nI a0.F_S.F_Dim, lI a0.F_S.F_L, sI (.s 24095) (a0.F_S.F_V ++ [1]), nI a0.F_S.F_Scale, nI a0.F_S.F_Wide, lU a0.F_S.F_Lev, lB a0.F_S.F_Neg]), (.s 15, [nI a0.F_Kind, nI a0.F_From, nI a0.F_Step, nI a0.F_S.F_Scheme, nI a0.F_S.F_Dim, lI a0.F_S.F_L, lI a0.F_S.F_V, nI a0.F_S.F_Scale, nI a0.F_S.F_Wide, lU a0.F_S.F_Lev, lB a0.F_S.F_Neg])]⟩ ?_
            refine L_call (ok_frame_Check (⟨a0.F_Kind, a0.F_From, a0.F_Step, (⟨a0.F_S.F_Scheme, a0.F_S.F_Dim, a0.F_S.F_L, a0.F_S.F_V ++ [1], a0.F_S.F_Scale, a0.F_S.F_Wide, a0.F_S.F_Lev, a0.F_S.F_Neg⟩ : T_api_Sent)⟩ : T_api_Frame)) trivial rfl (fun _ => rfl) (fun _ => trivial) (fun r7 => ?_)
            refine Av 2 [.c c6_41, .c c6_61] ⟨[(41, bB (r7 == 0)), (4, .ptr (.s 9631) 0), (3, bB r1), (1, .ptr (.s 15) 0)], [(.s 9631, [nI a0.F_Kind, nI a0.F_From, nI a0.F_Step, nI a0.F_S.F_Scheme, nI a0.F_S.F_Dim, lI a0.F_S.F_L, sI (.s 24095) (a0.F_S.F_V ++ [1]), nI a0.F_S.F_Scale, nI a0.F_S.F_Wide, lU a0.F_S.F_Lev, lB a0.F_S.F_Neg]), (.s 15, [nI a0.F_Kind, nI a0.F_From, nI a0.F_Step, nI a0.F_S.F_Scheme, nI a0.F_S.F_Dim, lI a0.F_S.F_L, lI a0.F_S.F_V, nI a0.F_S.F_Scale, nI a0.F_S.F_Wide, lU a0.F_S.F_Lev, lB a0.F_S.F_Neg])]⟩ ?_
            refine L_split 41 decE (fun _ => ?_) (fun _ => ?_)
            · refine Avk 7 [] .ret ⟨[(2, bB false)], []⟩ ?_
              exact L_ret
            · refine Av 8 [.c c6_44, .c c6_59] ⟨[(4, .ptr (.s 9631) 0), (3, bB r1), (1, .ptr (.s 15) 0)], [(.s 9631, [nI a0.F_Kind, nI a0.F_From, nI a0.F_Step, nI a0.F_S.F_Scheme, nI a0.F_S.F_Dim, lI a0.F_S.F_L, lI a0.F_S.F_V, nI a0.F_S.F_Scale, nI a0.F_S.F_Wide, lU a0.F_S.F_Lev, lB a0.F_S.F_Neg]), (.s 15, [nI a0.F_Kind, nI a0.F_From, nI a0.F_Step, nI a0.F_S.F_Scheme, nI a0.F_S.F_Dim, lI a0.F_S.F_L, lI a0.F_S.F_V, nI a0.F_S.F_Scale, nI a0.F_S.F_Wide, lU a0.F_S.F_Lev, lB a0.F_S.F_Neg])]⟩ ?_
              refine L_join [.c c6_44] [.c c6_59] (fun x : Unit => ⟨[(4, .ptr (.s 9631) 0), (3, bB r1), (1, .ptr (.s 15) 0)], [(.s 9631, [nI a0.F_Kind, nI a0.F_From, nI a0.F_Step, nI a0.F_S.F_Scheme, nI a0.F_S.F_Dim, sI (.s 30543) (a0.F_S.F_L ++ [a0.F_S.F_Dim]), lI a0.F_S.F_V, nI a0.F_S.F_Scale, nI a0.F_S.F_Wide, lU a0.F_S.F_Lev, lB a0.F_S.F_Neg]), (.s 15, [nI a0.F_Kind, nI a0.F_From, nI a0.F_Step, nI a0.F_S.F_Scheme, nI a0.F_S.F_Dim, lI a0.F_S.F_L, lI a0.F_S.F_V, nI a0.F_S.F_Scale, nI a0.F_S.F_Wide, lU a0.F_S.F_Lev, lB a0.F_S.F_Neg])]⟩) ?_ (fun j8 => ?_)
              · refine L_draws2 [.o true o6_19g0, .h h6_19g0, .o true o6_19g1, .h []] [.o true o6_20g0, .h h6_20g0, .o true o6_20g1, .h []] ?_ ?_
                · refine Ae 6 [.o true (o6_19g0.drop 6), .h h6_19g0, .o true o6_19g1, .h []] ⟨[(49, nI a0.F_S.F_Dim), (48, .ptr (.s 15) 4), (47, .ptr (.s 15) 3), (45, lI a0.F_S.F_L), (44, .ptr (.s 15) 5), (43, .ptr (.s 15) 3), (4, .ptr (.s 9631) 0), (3, bB r1), (1, .ptr (.s 15) 0)], [(.s 9631, [nI a0.F_Kind, nI a0.F_From, nI a0.F_Step, nI a0.F_S.F_Scheme, nI a0.F_S.F_Dim, lI a0.F_S.F_L, lI a0.F_S.F_V, nI a0.F_S.F_Scale, nI a0.F_S.F_Wide, lU a0.F_S.F_Lev, lB a0.F_S.F_Neg]), (.s 15, [nI a0.F_Kind, nI a0.F_From, nI a0.F_Step, nI a0.F_S.F_Scheme, nI a0.F_S.F_Dim, lI a0.F_S.F_L, lI a0.F_S.F_V, nI a0.F_S.F_Scale, nI a0.F_S.F_Wide, lU a0.F_S.F_Lev, lB a0.F_S.F_Neg])]⟩ ?_
                  refine L_appN (enc := D.int .i64) (l2 := a0.F_S.F_L) trivial rfl rfl (fun _ => rfl) (fun _ => ?_)
                  refine Ae 1 [.h h6_19g0, .o true o6_19g1, .h []] ⟨[(46, sI (.s 30463) a0.F_S.F_L), (49, nI a0.F_S.F_Dim), (48, .ptr (.s 15) 4), (47, .ptr (.s 15) 3), (45, lI a0.F_S.F_L), (44, .ptr (.s 15) 5), (43, .ptr (.s 15) 3), (4, .ptr (.s 9631) 0), (3, bB r1), (1, .ptr (.s 15) 0)], [(.s 9631, [nI a0.F_Kind, nI a0.F_From, nI a0.F_Step, nI a0.F_S.F_Scheme, nI a0.F_S.F_Dim, lI a0.F_S.F_L, lI a0.F_S.F_V, nI a0.F_S.F_Scale, nI a0.F_S.F_Wide, lU a0.F_S.F_Lev, lB a0.F_S.F_Neg]), (.s 15, [nI a0.F_Kind, nI a0.F_From, nI a0.F_Step, nI a0.F_S.F_Scheme, nI a0.F_S.F_Dim, lI a0.F_S.F_L, lI a0.F_S.F_V, nI a0.F_S.F_Scale, nI a0.F_S.F_Wide, lU a0.F_S.F_Lev, lB a0.F_S.F_Neg])]⟩ ?_
                  refine L_hold ⟨hC (.ptr (.s 15) 3) trivial, hC (.ptr (.s 15) 4) trivial, hC (nI a0.F_S.F_Dim) trivial, trivial⟩ ?_
                  refine Ae 1 [.o true (o6_19g1.drop 1), .h []] ⟨[(50, sI (.s 30527) [a0.F_S.F_Dim]), (46, sI (.s 30463) a0.F_S.F_L), (49, nI a0.F_S.F_Dim), (48, .ptr (.s 15) 4), (47, .ptr (.s 15) 3), (45, lI a0.F_S.F_L), (44, .ptr (.s 15) 5), (43, .ptr (.s 15) 3), (4, .ptr (.s 9631) 0), (3, bB r1), (1, .ptr (.s 15) 0)], [(.s 9631, [nI a0.F_Kind, nI a0.F_From, nI a0.F_Step, nI a0.F_S.F_Scheme, nI a0.F_S.F_Dim, lI a0.F_S.F_L, lI a0.F_S.F_V, nI a0.F_S.F_Scale, nI a0.F_S.F_Wide, lU a0.F_S.F_Lev, lB a0.F_S.F_Neg]), (.s 15, [nI a0.F_Kind, nI a0.F_From, nI a0.F_Step, nI a0.F_S.F_Scheme, nI a0.F_S.F_Dim, lI a0.F_S.F_L, lI a0.F_S.F_V, nI a0.F_S.F_Scale, nI a0.F_S.F_Wide, lU a0.F_S.F_Lev, lB a0.F_S.F_Neg])]⟩ ?_
                  refine L_app (enc := D.int .i64) (l := a0.F_S.F_L) (l2 := [a0.F_S.F_Dim]) trivial rfl rfl (fun _ => rfl) (fun _ => ?_)
                  refine Av 5 [] ⟨[(4, .ptr (.s 9631) 0), (3, bB r1), (1, .ptr (.s 15) 0)], [(.s 9631, [nI a0.F_Kind, nI a0.F_From, nI a0.F_Step, nI a0.F_S.F_Scheme, nI a0.F_S.F_Dim, sI (.s 30543) (a0.F_S.F_L ++ [a0.F_S.F_Dim]), lI a0.F_S.F_V, nI a0.F_S.F_Scale, nI a0.F_S.F_Wide, lU a0.F_S.F_Lev, lB a0.F_S.F_Neg]), (.s 15, [nI a0.F_Kind, nI a0.F_From, nI a0.F_Step, nI a0.F_S.F_Scheme, nI a0.F_S.F_Dim, lI a0.F_S.F_L, lI a0.F_S.F_V, nI a0.F_S.F_Scale, nI a0.F_S.F_Wide, lU a0.F_S.F_Lev, lB a0.F_S.F_Neg])]⟩ ?_
                  exact L_end
                · refine Ae 8 [.h h6_20g0, .o true o6_20g1, .h []] ⟨[(50, sI (.s 30527) [a0.F_S.F_Dim]), (49, nI a0.F_S.F_Dim), (48, .ptr (.s 15) 4), (47, .ptr (.s 15) 3), (45, lI a0.F_S.F_L), (44, .ptr (.s 15) 5), (43, .ptr (.s 15) 3), (4, .ptr (.s 9631) 0), (3, bB r1), (1, .ptr (.s 15) 0)], [(.s 9631, [nI a0.F_Kind, nI a0.F_From, nI a0.F_Step, nI a0.F_S.F_Scheme, nI a0.F_S.F_Dim, lI a0.F_S.F_L, lI a0.F_S.F_V, nI a0.F_S.F_Scale, nI a0.F_S.F_Wide, lU a0.F_S.F_Lev, lB a0.F_S.F_Neg]), (.s 15, [nI a0.F_Kind, nI a0.F_From, nI a0.F_Step, nI a0.F_S.F_Scheme, nI a0.F_S.F_Dim, lI a0.F_S.F_L, lI a0.F_S.F_V, nI a0.F_S.F_Scale, nI a0.F_S.F_Wide, lU a0.F_S.F_Lev, lB a0.F_S.F_Neg])]⟩ ?_
                  refine L_hold ⟨hC (.ptr (.s 15) 3) trivial, hC (.ptr (.s 15) 5) trivial, hC (lI a0.F_S.F_L) trivial, trivial⟩ ?_
                  refine Ae 0 [.o true o6_20g1, .h []] ⟨[(50, sI (.s 30527) [a0.F_S.F_Dim]), (49, nI a0.F_S.F_Dim), (48, .ptr (.s 15) 4), (47, .ptr (.s 15) 3), (45, lI a0.F_S.F_L), (44, .ptr (.s 15) 5), (43, .ptr (.s 15) 3), (4, .ptr (.s 9631) 0), (3, bB r1), (1, .ptr (.s 15) 0)], [(.s 9631, [nI a0.F_Kind, nI a0.F_From, nI a0.F_Step, nI a0.F_S.F_Scheme, nI a0.F_S.F_Dim, lI a0.F_S.F_L, lI a0.F_S.F_V, nI a0.F_S.F_Scale, nI a0.F_S.F_Wide, lU a0.F_S.F_Lev, lB a0.F_S.F_Neg]), (.s 15, [nI a0.F_Kind, nI a0.F_From, nI a0.F_Step, nI a0.F_S.F_Scheme, nI a0.F_S.F_Dim, lI a0.F_S.F_L, lI a0.F_S.F_V, nI a0.F_S.F_Scale, nI a0.F_S.F_Wide, lU a0.F_S.F_Lev, lB a0.F_S.F_Neg])]⟩ ?_
                  refine L_appN (enc := D.int .i64) (l2 := a0.F_S.F_L) trivial rfl rfl (fun _ => rfl) (fun _ => ?_)
                  refine Ae 0 [.o true (o6_20g1.drop 1), .h []] ⟨[(46, sI (.s 30463) a0.F_S.F_L), (50, sI (.s 30527) [a0.F_S.F_Dim]), (49, nI a0.F_S.F_Dim), (48, .ptr (.s 15) 4), (47, .ptr (.s 15) 3), (45, lI a0.F_S.F_L), (44, .ptr (.s 15) 5), (43, .ptr (.s 15) 3), (4, .ptr (.s 9631) 0), (3, bB r1), (1, .ptr (.s 15) 0)], [(.s 9631, [nI a0.F_Kind, nI a0.F_From, nI a0.F_Step, nI a0.F_S.F_Scheme, nI a0.F_S.F_Dim, lI a0.F_S.F_L, lI a0.F_S.F_V, nI a0.F_S.F_Scale, nI a0.F_S.F_Wide, lU a0.F_S.F_Lev, lB a0.F_S.F_Neg]), (.s 15, [nI a0.F_Kind, nI a0.F_From, nI a0.F_Step, nI a0.F_S.F_Scheme, nI a0.F_S.F_Dim, lI a0.F_S.F_L, lI a0.F_S.F_V, nI a0.F_S.F_Scale, nI a0.F_S.F_Wide, lU a0.F_S.F_Lev, lB a0.F_S.F_Neg])]⟩ ?_
                  refine L_app (enc := D.int .i64) (l := a0.F_S.F_L) (l2 := [a0.F_S.F_Dim]) trivial rfl rfl (fun _ => rfl) (fun _ => ?_)
                  refine Av 5 [] ⟨[(4, .ptr (.s 9631) 0), (3, bB r1), (1, .ptr (.s 15) 0)], [(.s 9631, [nI a0.F_Kind, nI a0.F_From, nI a0.F_Step, nI a0.F_S.F_Scheme, nI a0.F_S.F_Dim, sI (.s 30543) (a0.F_S.F_L ++ [a0.F_S.F_Dim]), lI a0.F_S.F_V, nI a0.F_S.F_Scale, nI a0.F_S.F_Wide, lU a0.F_S.F_Lev, lB a0.F_S.F_Neg]), (.s 15, [nI a0.F_Kind, nI a0.F_From, nI a0.F_Step, nI a0.F_S.F_Scheme, nI a0.F_S.F_Dim, lI a0.F_S.F_L, lI a0.F_S.F_V, nI a0.F_S.F_Scale, nI a0.F_S.F_Wide, lU a0.F_S.F_Lev, lB a0.F_S.F_Neg])]⟩ ?_
                  exact L_end
              · refine Al 4 [.o false (o6_21.drop 1), .c c6_50, .c c6_58] .norm (fun y9 : List Int => ⟨[(54, .agg [nI a0.F_Kind, nI a0.F_From, nI a0.F_Step, nI a0.F_S.F_Scheme, nI a0.F_S.F_Dim, sI (.s 30543) y9, lI a0.F_S.F_V, nI a0.F_S.F_Scale, nI a0.F_S.F_Wide, lU a0.F_S.F_Lev, lB a0.F_S.F_Neg]), (4, .ptr (.s 9631) 0), (3, bB r1), (1, .ptr (.s 15) 0)], [(.s 9631, [nI a0.F_Kind, nI a0.F_From, nI a0.F_Step, nI a0.F_S.F_Scheme, nI a0.F_S.F_Dim, sI (.s 30543) y9, lI a0.F_S.F_V, nI a0.F_S.F_Scale, nI a0.F_S.F_Wide, lU a0.F_S.F_Lev, lB a0.F_S.F_Neg]), (.s 15, [nI a0.F_Kind, nI a0.F_From, nI a0.F_Step, nI a0.F_S.F_Scheme, nI a0.F_S.F_Dim, lI a0.F_S.F_L, lI a0.F_S.F_V, nI a0.F_S.F_Scale, nI a0.F_S.F_Wide, lU a0.F_S.F_Lev, lB a0.F_S.F_Neg])]⟩) (fun y9 => ?_)
                refine L_call (ok_frame_Check (⟨a0.F_Kind, a0.F_From, a0.F_Step, (⟨a0.F_S.F_Scheme, a0.F_S.F_Dim, y9, a0.F_S.F_V, a0.F_S.F_Scale, a0.F_S.F_Wide, a0.F_S.F_Lev, a0.F_S.F_Neg⟩ : T_api_Sent)⟩ : T_api_Frame)) trivial rfl (fun _ => rfl) (fun _ => trivial) (fun r11 => ?_)
                refine Av 2 [.c c6_50, .c c6_58] ⟨[(56, bB (r11 == 0)), (4, .ptr (.s 9631) 0), (3, bB r1), (1, .ptr (.s 15) 0)], [(.s 9631, [nI a0.F_Kind, nI a0.F_From, nI a0.F_Step, nI a0.F_S.F_Scheme, nI a0.F_S.F_Dim, sI (.s 30543) y9, lI a0.F_S.F_V, nI a0.F_S.F_Scale, nI a0.F_S.F_Wide, lU a0.F_S.F_Lev, lB a0.F_S.F_Neg]), (.s 15, [nI a0.F_Kind, nI a0.F_From, nI a0.F_Step, nI a0.F_S.F_Scheme, nI a0.F_S.F_Dim, lI a0.F_S.F_L, lI a0.F_S.F_V, nI a0.F_S.F_Scale, nI a0.F_S.F_Wide, lU a0.F_S.F_Lev, lB a0.F_S.F_Neg])]⟩ ?_
                refine L_split 56 decE (fun _ => ?_) (fun _ => ?_)
                · refine Avk 7 [] .ret ⟨[(2, bB false)], []⟩ ?_
                  exact L_ret
                · refine Av 14 [.c c6_54, .c .ret] ⟨[(4, .ptr (.s 9631) 0), (3, bB r1), (1, .ptr (.s 15) 0)], [(.s 9631, [nI a0.F_Kind, nI a0.F_From, nI a0.F_Step, nI a0.F_S.F_Scheme, nI a0.F_S.F_Dim, lI a0.F_S.F_L, lI a0.F_S.F_V, nI (-1), nI a0.F_S.F_Wide, lU a0.F_S.F_Lev, lB a0.F_S.F_Neg]), (.s 15, [nI a0.F_Kind, nI a0.F_From, nI a0.F_Step, nI a0.F_S.F_Scheme, nI a0.F_S.F_Dim, lI a0.F_S.F_L, lI a0.F_S.F_V, nI a0.F_S.F_Scale, nI a0.F_S.F_Wide, lU a0.F_S.F_Lev, lB a0.F_S.F_Neg])]⟩ ?_
                  refine Ae 3 [.o true (o6_25g0.drop 2), .h h6_25g0, .o true o6_25g1, .h [], .c .ret] ⟨[(61, bB r1), (60, bB r1), (4, .ptr (.s 9631) 0), (3, bB r1), (1, .ptr (.s 15) 0)], [(.s 9631, [nI a0.F_Kind, nI a0.F_From, nI a0.F_Step, nI a0.F_S.F_Scheme, nI a0.F_S.F_Dim, lI a0.F_S.F_L, lI a0.F_S.F_V, nI (-1), nI a0.F_S.F_Wide, lU a0.F_S.F_Lev, lB a0.F_S.F_Neg]), (.s 15, [nI a0.F_Kind, nI a0.F_From, nI a0.F_Step, nI a0.F_S.F_Scheme, nI a0.F_S.F_Dim, lI a0.F_S.F_L, lI a0.F_S.F_V, nI a0.F_S.F_Scale, nI a0.F_S.F_Wide, lU a0.F_S.F_Lev, lB a0.F_S.F_Neg])]⟩ ?_
                  refine L_splitE (b := r1) (fun z => ⟨[(61, bB z), (60, bB r1), (4, .ptr (.s 9631) 0), (3, bB r1), (1, .ptr (.s 15) 0)], [(.s 9631, [nI a0.F_Kind, nI a0.F_From, nI a0.F_Step, nI a0.F_S.F_Scheme, nI a0.F_S.F_Dim, lI a0.F_S.F_L, lI a0.F_S.F_V, nI (-1), nI a0.F_S.F_Wide, lU a0.F_S.F_Lev, lB a0.F_S.F_Neg]), (.s 15, [nI a0.F_Kind, nI a0.F_From, nI a0.F_Step, nI a0.F_S.F_Scheme, nI a0.F_S.F_Dim, lI a0.F_S.F_L, lI a0.F_S.F_V, nI a0.F_S.F_Scale, nI a0.F_S.F_Wide, lU a0.F_S.F_Lev, lB a0.F_S.F_Neg])]⟩) decT (fun _ => ?_) (fun _ => ?_)
                  · refine Ae 1 [.o true (o6_25g0.drop 3), .h h6_25g0, .o true o6_25g1, .h [], .c .ret] ⟨[(62, .agg [nI a0.F_Kind, nI a0.F_From, nI a0.F_Step, nI a0.F_S.F_Scheme, nI a0.F_S.F_Dim, lI a0.F_S.F_L, lI a0.F_S.F_V, nI (-1), nI a0.F_S.F_Wide, lU a0.F_S.F_Lev, lB a0.F_S.F_Neg]), (61, bB true), (60, bB r1), (4, .ptr (.s 9631) 0), (3, bB r1), (1, .ptr (.s 15) 0)], [(.s 9631, [nI a0.F_Kind, nI a0.F_From, nI a0.F_Step, nI a0.F_S.F_Scheme, nI a0.F_S.F_Dim, lI a0.F_S.F_L, lI a0.F_S.F_V, nI (-1), nI a0.F_S.F_Wide, lU a0.F_S.F_Lev, lB a0.F_S.F_Neg]), (.s 15, [nI a0.F_Kind, nI a0.F_From, nI a0.F_Step, nI a0.F_S.F_Scheme, nI a0.F_S.F_Dim, lI a0.F_S.F_L, lI a0.F_S.F_V, nI a0.F_S.F_Scale, nI a0.F_S.F_Wide, lU a0.F_S.F_Lev, lB a0.F_S.F_Neg])]⟩ ?_
                    refine L_call (ok_frame_Check (⟨a0.F_Kind, a0.F_From, a0.F_Step, (⟨a0.F_S.F_Scheme, a0.F_S.F_Dim, a0.F_S.F_L, a0.F_S.F_V, -1, a0.F_S.F_Wide, a0.F_S.F_Lev, a0.F_S.F_Neg⟩ : T_api_Sent)⟩ : T_api_Frame)) rfl rfl (fun _ => rfl) (fun _ => trivial) (fun r15 => ?_)
                    refine Ae 3 [.o true (o6_25g0.drop 7), .h h6_25g0, .o true o6_25g1, .h [], .c .ret] ⟨[(66, bB (r15 != 0)), (65, bB (r15 != 0)), (64, bB (r15 != 0)), (61, bB true), (63, nI r15), (62, .agg [nI a0.F_Kind, nI a0.F_From, nI a0.F_Step, nI a0.F_S.F_Scheme, nI a0.F_S.F_Dim, lI a0.F_S.F_L, lI a0.F_S.F_V, nI (-1), nI a0.F_S.F_Wide, lU a0.F_S.F_Lev, lB a0.F_S.F_Neg]), (60, bB r1), (4, .ptr (.s 9631) 0), (3, bB r1), (1, .ptr (.s 15) 0)], [(.s 9631, [nI a0.F_Kind, nI a0.F_From, nI a0.F_Step, nI a0.F_S.F_Scheme, nI a0.F_S.F_Dim, lI a0.F_S.F_L, lI a0.F_S.F_V, nI (-1), nI a0.F_S.F_Wide, lU a0.F_S.F_Lev, lB a0.F_S.F_Neg]), (.s 15, [nI a0.F_Kind, nI a0.F_From, nI a0.F_Step, nI a0.F_S.F_Scheme, nI a0.F_S.F_Dim, lI a0.F_S.F_L, lI a0.F_S.F_V, nI a0.F_S.F_Scale, nI a0.F_S.F_Wide, lU a0.F_S.F_Lev, lB a0.F_S.F_Neg])]⟩ ?_
                    refine L_splitE (b := r15 != 0) (fun z => ⟨[(66, bB z), (65, bB (r15 != 0)), (64, bB (r15 != 0)), (61, bB true), (63, nI r15), (62, .agg [nI a0.F_Kind, nI a0.F_From, nI a0.F_Step, nI a0.F_S.F_Scheme, nI a0.F_S.F_Dim, lI a0.F_S.F_L, lI a0.F_S.F_V, nI (-1), nI a0.F_S.F_Wide, lU a0.F_S.F_Lev, lB a0.F_S.F_Neg]), (60, bB r1), (4, .ptr (.s 9631) 0), (3, bB r1), (1, .ptr (.s 15) 0)], [(.s 9631, [nI a0.F_Kind, nI a0.F_From, nI a0.F_Step, nI a0.F_S.F_Scheme, nI a0.F_S.F_Dim, lI a0.F_S.F_L, lI a0.F_S.F_V, nI (-1), nI a0.F_S.F_Wide, lU a0.F_S.F_Lev, lB a0.F_S.F_Neg]), (.s 15, [nI a0.F_Kind, nI a0.F_From, nI a0.F_Step, nI a0.F_S.F_Scheme, nI a0.F_S.F_Dim, lI a0.F_S.F_L, lI a0.F_S.F_V, nI a0.F_S.F_Scale, nI a0.F_S.F_Wide, lU a0.F_S.F_Lev, lB a0.F_S.F_Neg])]⟩) decNe (fun _ => ?_) (fun _ => ?_)
                    · refine Ae 5 [.o true (o6_25g0.drop 12), .h h6_25g0, .o true o6_25g1, .h [], .c .ret] ⟨[(72, bB (a0.F_Kind == 1)), (66, bB true), (71, nI a0.F_Kind), (70, .ptr (.s 15) 0), (68, .agg [nI a0.F_S.F_Scheme, nI a0.F_S.F_Dim, lI a0.F_S.F_L, lI a0.F_S.F_V, nI a0.F_S.F_Scale, nI a0.F_S.F_Wide, lU a0.F_S.F_Lev, lB a0.F_S.F_Neg]), (67, .ptr (.s 15) 3), (65, bB (r15 != 0)), (64, bB (r15 != 0)), (61, bB true), (63, nI r15), (62, .agg [nI a0.F_Kind, nI a0.F_From, nI a0.F_Step, nI a0.F_S.F_Scheme, nI a0.F_S.F_Dim, lI a0.F_S.F_L, lI a0.F_S.F_V, nI (-1), nI a0.F_S.F_Wide, lU a0.F_S.F_Lev, lB a0.F_S.F_Neg]), (60, bB r1), (4, .ptr (.s 9631) 0), (3, bB r1), (1, .ptr (.s 15) 0)], [(.s 9631, [nI a0.F_Kind, nI a0.F_From, nI a0.F_Step, nI a0.F_S.F_Scheme, nI a0.F_S.F_Dim, lI a0.F_S.F_L, lI a0.F_S.F_V, nI (-1), nI a0.F_S.F_Wide, lU a0.F_S.F_Lev, lB a0.F_S.F_Neg]), (.s 15, [nI a0.F_Kind, nI a0.F_From, nI a0.F_Step, nI a0.F_S.F_Scheme, nI a0.F_S.F_Dim, lI a0.F_S.F_L, lI a0.F_S.F_V, nI a0.F_S.F_Scale, nI a0.F_S.F_Wide, lU a0.F_S.F_Lev, lB a0.F_S.F_Neg])]⟩ ?_
                      refine L_call (ok_frame_May a0.F_S) rfl rfl (fun _ => rfl) (fun _ => trivial) (fun r17 => ?_)
                      refine Ae 1 [.h h6_25g0, .o true o6_25g1, .h [], .c .ret] ⟨[(69, bB r17), (66, bB true), (72, bB (a0.F_Kind == 1)), (71, nI a0.F_Kind), (70, .ptr (.s 15) 0), (68, .agg [nI a0.F_S.F_Scheme, nI a0.F_S.F_Dim, lI a0.F_S.F_L, lI a0.F_S.F_V, nI a0.F_S.F_Scale, nI a0.F_S.F_Wide, lU a0.F_S.F_Lev, lB a0.F_S.F_Neg]), (67, .ptr (.s 15) 3), (65, bB (r15 != 0)), (64, bB (r15 != 0)), (61, bB true), (63, nI r15), (62, .agg [nI a0.F_Kind, nI a0.F_From, nI a0.F_Step, nI a0.F_S.F_Scheme, nI a0.F_S.F_Dim, lI a0.F_S.F_L, lI a0.F_S.F_V, nI (-1), nI a0.F_S.F_Wide, lU a0.F_S.F_Lev, lB a0.F_S.F_Neg]), (60, bB r1), (4, .ptr (.s 9631) 0), (3, bB r1), (1, .ptr (.s 15) 0)], [(.s 9631, [nI a0.F_Kind, nI a0.F_From, nI a0.F_Step, nI a0.F_S.F_Scheme, nI a0.F_S.F_Dim, lI a0.F_S.F_L, lI a0.F_S.F_V, nI (-1), nI a0.F_S.F_Wide, lU a0.F_S.F_Lev, lB a0.F_S.F_Neg]), (.s 15, [nI a0.F_Kind, nI a0.F_From, nI a0.F_Step, nI a0.F_S.F_Scheme, nI a0.F_S.F_Dim, lI a0.F_S.F_L, lI a0.F_S.F_V, nI a0.F_S.F_Scale, nI a0.F_S.F_Wide, lU a0.F_S.F_Lev, lB a0.F_S.F_Neg])]⟩ ?_
                      refine L_hold ⟨hC (.ptr (.s 15) 0) rfl, hC (nI a0.F_Kind) rfl, hC (bB (a0.F_Kind == 1)) rfl, trivial⟩ ?_
                      refine Avk 6 [] .ret ⟨[(2, bB (r17 == (a0.F_Kind == 1)))], []⟩ ?_
                      exact L_ret
                    · refine Ae 7 [.h h6_25g0, .o true o6_25g1, .h [], .c .ret] ⟨[(69, .tup []), (66, bB false), (72, .tup []), (71, .tup []), (70, .tup []), (68, .tup []), (67, .tup []), (65, bB (r15 != 0)), (64, bB (r15 != 0)), (61, bB true), (63, nI r15), (62, .agg [nI a0.F_Kind, nI a0.F_From, nI a0.F_Step, nI a0.F_S.F_Scheme, nI a0.F_S.F_Dim, lI a0.F_S.F_L, lI a0.F_S.F_V, nI (-1), nI a0.F_S.F_Wide, lU a0.F_S.F_Lev, lB a0.F_S.F_Neg]), (60, bB r1), (4, .ptr (.s 9631) 0), (3, bB r1), (1, .ptr (.s 15) 0)], [(.s 9631, [nI a0.F_Kind, nI a0.F_From, nI a0.F_Step, nI a0.F_S.F_Scheme, nI a0.F_S.F_Dim, lI a0.F_S.F_L, lI a0.F_S.F_V, nI (-1), nI a0.F_S.F_Wide, lU a0.F_S.F_Lev, lB a0.F_S.F_Neg]), (.s 15, [nI a0.F_Kind, nI a0.F_From, nI a0.F_Step, nI a0.F_S.F_Scheme, nI a0.F_S.F_Dim, lI a0.F_S.F_L, lI a0.F_S.F_V, nI a0.F_S.F_Scale, nI a0.F_S.F_Wide, lU a0.F_S.F_Lev, lB a0.F_S.F_Neg])]⟩ ?_
                      refine L_hold ⟨hN rfl (.inr rfl), hN rfl (.inr rfl), hN rfl (.inr rfl), trivial⟩ ?_
                      refine Avk 6 [] .ret ⟨[(2, bB false)], []⟩ ?_
                      exact L_ret
                  · refine Ae 12 [.h h6_25g0, .o true o6_25g1, .h [], .c .ret] ⟨[(69, .tup []), (66, bB false), (72, .tup []), (71, .tup []), (70, .tup []), (68, .tup []), (67, .tup []), (65, bB false), (64, .tup []), (61, bB false), (63, .tup []), (62, .tup []), (60, bB r1), (4, .ptr (.s 9631) 0), (3, bB r1), (1, .ptr (.s 15) 0)], [(.s 9631, [nI a0.F_Kind, nI a0.F_From, nI a0.F_Step, nI a0.F_S.F_Scheme, nI a0.F_S.F_Dim, lI a0.F_S.F_L, lI a0.F_S.F_V, nI (-1), nI a0.F_S.F_Wide, lU a0.F_S.F_Lev, lB a0.F_S.F_Neg]), (.s 15, [nI a0.F_Kind, nI a0.F_From, nI a0.F_Step, nI a0.F_S.F_Scheme, nI a0.F_S.F_Dim, lI a0.F_S.F_L, lI a0.F_S.F_V, nI a0.F_S.F_Scale, nI a0.F_S.F_Wide, lU a0.F_S.F_Lev, lB a0.F_S.F_Neg])]⟩ ?_
                    refine L_hold ⟨hN rfl (.inr rfl), hN rfl (.inr rfl), hN rfl (.inr rfl), trivial⟩ ?_
                    refine Avk 6 [] .ret ⟨[(2, bB false)], []⟩ ?_
                    exact L_ret
/-- slices.Equal[[]byte,byte]. -/
def en_slices_Equal_byte_byte (v : Bool) : PV := bB v
def o154_0 : List AOper := [mb 4 0 false]
def o154_1 : List AOper := [mv 6 100 0, ln 7 101 6, mv 8 102 1, ln 9 103 8, bi 10 104 .neq 7 9]
def o154_2 : List AOper := [mb 4 200 false]
def o154_3 : List AOper := [mv 11 300 0, ln 12 301 11, mi 13 302 0]
def o154_4 : List AOper := [bi 14 400 .lss 13 12]
def o154_5 : List AOper := [mv 15 500 13, mv 5 501 15]
def o154_6 : List AOper := [mv 16 600 0, mv 17 601 5, ⟨some 18, none, 602, .idxA 1 (.t 16) (.t 17)⟩, ld 19 603 18, mv 20 604 1, mv 21 605 5, ⟨some 22, none, 606, .idxA 1 (.t 20) (.t 21)⟩, ld 23 607 22, bi 24 608 .neq 19 23]
def o154_7 : List AOper := [mb 4 700 false]
def o154_8 : List AOper := [bc 25 800 .add 13 1, mv 13 801 25]
def o154_9 : List AOper := [mb 4 900 true]
def c154_6 : AC := .cond (.t 10) (.seq (.reg o154_2) .ret) .skip
def c154_12 : AC := .cond (.t 14) .skip (.exit 0)
def c154_14 : AC := .draw [⟨mv 16 600 0, false, []⟩, ⟨mv 17 601 5, false, []⟩, ⟨⟨some 18, none, 602, .idxA 1 (.t 16) (.t 17)⟩, false, []⟩, ⟨ld 19 603 18, false, []⟩, ⟨mv 20 604 1, false, []⟩, ⟨mv 21 605 5, false, []⟩, ⟨⟨some 22, none, 606, .idxA 1 (.t 20) (.t 21)⟩, false, []⟩, ⟨ld 23 607 22, false, []⟩, ⟨bi 24 608 .neq 19 23, false, []⟩]
def c154_19 : AC := .cond (.t 24) (.seq (.reg o154_7) .ret) .skip
def c154_23 : AC := .reg o154_8
def c154_24 : AC := .seq (.block 1 (.seq (.reg o154_5) (.seq c154_14 c154_19))) c154_23
def c154_26 : AC := .seq (.reg o154_4) (.seq c154_12 c154_24)
def c154_28 : AC := .block 0 (.loop c154_26)
def c154_32 : AC := .seq (.reg o154_9) .ret
def c154_33 : AC := .seq (.seq (.reg o154_3) c154_28) c154_32
def c154_35 : AC := .seq (.reg o154_0) (.seq (.seq (.reg o154_1) c154_6) c154_33)
theorem fn154 : fnA Try.prog 154 = some (26, [.t 4], c154_35) := by kernel_rfl
def q_ok_slices_Equal_byte_byte_l0_ok (a0 : List Int) (a1 : List Int) (x0 : Int) (v : (Sum Bool Unit)) : Prop := (fun v => go Try.prog 26 (PostR (fun r => Fnl [.t 4] (en_slices_Equal_byte_byte r) []) (.exit 0) (fun x : Unit => ⟨[], []⟩) v) [.l c154_26] .norm ⟨[(13, nI x0), (12, nI (a0.length : Int)), (0, lY a0), (1, lY a1)], []⟩) v
theorem ok_slices_Equal_byte_byte_l0_ok (a0 : List Int) (a1 : List Int) (x0 : Int) : Ok (M_slices_Equal_byte_byte_l0 a0 a1 x0) (q_ok_slices_Equal_byte_byte_l0_ok a0 a1 x0) := by
  refine M_slices_Equal_byte_byte_l0.partial_correctness a0 a1 (q_ok_slices_Equal_byte_byte_l0_ok a0 a1) ?_ x0
  clear x0
  intro f' IH x0
  refine okI ?_
  unfold q_ok_slices_Equal_byte_byte_l0_ok at *
  refine Av 1 [.c c154_26, .l c154_26] ⟨[(13, nI x0), (12, nI (a0.length : Int)), (0, lY a0), (1, lY a1)], []⟩ ?_
  refine Av 5 [.c c154_12, .c c154_24, .l c154_26] ⟨[(14, bB (decide (x0 < (a0.length : Int)))), (13, nI x0), (12, nI (a0.length : Int)), (0, lY a0), (1, lY a1)], []⟩ ?_
  refine L_split 14 rfl (fun _ => ?_) (fun _ => ?_)
  · refine Av 10 [.c c154_14, .c c154_19, .b 1, .c c154_23, .l c154_26] ⟨[(5, nI x0), (13, nI x0), (12, nI (a0.length : Int)), (0, lY a0), (1, lY a1)], []⟩ ?_
    refine Ae 3 [.o true (o154_6.drop 2), .c c154_19, .b 1, .c c154_23, .l c154_26] ⟨[(17, nI x0), (16, lY a0), (5, nI x0), (13, nI x0), (12, nI (a0.length : Int)), (0, lY a0), (1, lY a1)], []⟩ ?_
    refine L_idxD (enc := D.int .u8) (l := a0) (iv := x0) trivial rfl rfl (fun _ => rfl) (fun hc602 => ?_)
    refine Ae 3 [.o true (o154_6.drop 6), .c c154_19, .b 1, .c c154_23, .l c154_26] ⟨[(21, nI x0), (20, lY a1), (19, nY (at' a0 x0)), (18, .d (.cp [.int .u8 (at' a0 x0)] 0)), (17, nI x0), (16, lY a0), (5, nI x0), (13, nI x0), (12, nI (a0.length : Int)), (0, lY a0), (1, lY a1)], []⟩ ?_
    refine L_idxD (enc := D.int .u8) (l := a1) (iv := x0) trivial rfl rfl (fun _ => rfl) (fun hc606 => ?_)
    refine Av 3 [.c c154_19, .b 1, .c c154_23, .l c154_26] ⟨[(24, bB ((at' a0 x0) != (at' a1 x0))), (13, nI x0), (12, nI (a0.length : Int)), (0, lY a0), (1, lY a1)], []⟩ ?_
    refine L_split 24 decNe (fun _ => ?_) (fun _ => ?_)
    · refine Avk 9 [] .ret ⟨[(4, bB false)], []⟩ ?_
      exact L_retR
    · refine Av 7 [.l c154_26] ⟨[(13, nI (IntKind.i64.wrap (x0 + 1))), (12, nI (a0.length : Int)), (0, lY a0), (1, lY a1)], []⟩ ?_
      exact L_again (IH (IntKind.i64.wrap (x0 + 1)))
  · refine Avk 4 [] (.exit 0) ⟨[], []⟩ ?_
    exact L_endR
theorem ok_slices_Equal_byte_byte (a0 : List Int) (a1 : List Int) : ∀ v, M_slices_Equal_byte_byte a0 a1 = some v → EvF Try.prog 154 [.lst (List.map (D.int .u8) a0), .lst (List.map (D.int .u8) a1)] (en_slices_Equal_byte_byte v) := by
  intro v hv
  refine EvF_go fn154 (Nat.le_of_ble_eq_true rfl) ?_
  suffices h : Ok (M_slices_Equal_byte_byte a0 a1) fun v => go Try.prog 26 (Fnl [.t 4] (en_slices_Equal_byte_byte v) []) [.c c154_35] .norm (initSt (List.map PV.d [.lst (List.map (D.int .u8) a0), .lst (List.map (D.int .u8) a1)]) []) from h v hv
  unfold M_slices_Equal_byte_byte
  refine Av 8 [.o false (o154_1.drop 1), .c c154_6, .c c154_33] ⟨[(6, lY a0), (0, lY a0), (1, lY a1)], []⟩ ?_
  refine L_len (enc := D.int .u8) (l := a0) trivial rfl ?_
  refine Av 1 [.o false (o154_1.drop 3), .c c154_6, .c c154_33] ⟨[(8, lY a1), (7, nI (a0.length : Int)), (0, lY a0), (1, lY a1)], []⟩ ?_
  refine L_len (enc := D.int .u8) (l := a1) trivial rfl ?_
  refine Av 2 [.c c154_6, .c c154_33] ⟨[(10, bB ((a0.length : Int) != (a1.length : Int))), (0, lY a0), (1, lY a1)], []⟩ ?_
  refine L_split 10 decNe (fun _ => ?_) (fun _ => ?_)
  · refine Avk 7 [] .ret ⟨[(4, bB false)], []⟩ ?_
    exact L_ret
  · refine Av 6 [.o false (o154_3.drop 1), .c c154_28, .c c154_32] ⟨[(11, lY a0), (0, lY a0), (1, lY a1)], []⟩ ?_
    refine L_len (enc := D.int .u8) (l := a0) trivial rfl ?_
    refine Av 4 [.l c154_26, .b 0, .c c154_32] ⟨[(13, nI 0), (12, nI (a0.length : Int)), (0, lY a0), (1, lY a1)], []⟩ ?_
    refine L_pieceR (fs := [.l c154_26]) (ks := [.b 0, .c c154_32]) (ok_slices_Equal_byte_byte_l0_ok a0 a1 0) L_thru (fun j1 => ?_)
    refine Avk 6 [] .ret ⟨[(4, bB true)], []⟩ ?_
    exact L_ret
/-- thrum/crc.Open. -/
def en_crc_Open (v : (List Int) × Int) : PV := .tup [sY (.s 0) v.1, nI v.2]
def o108_0 : List AOper := [⟨some 2, none, 0, .mov (.c .nils)⟩, mi 3 1 0]
def o108_1 : List AOper := [mv 7 100 0, ln 8 101 7, bc 9 102 .sub 8 4, mv 4 103 9]
def o108_2 : List AOper := [mv 11 200 0, ln 12 201 11, bc 13 202 .gtr 12 65536, mv 10 203 13]
def o108_3 : List AOper := [⟨some 2, none, 300, .mov (.c .nils)⟩, mi 3 301 3]
def o108_4 : List AOper := [mv 15 400 4, bc 16 401 .lss 15 0, mv 14 402 16]
def o108_5 : List AOper := [⟨some 2, none, 500, .mov (.c .nils)⟩, mi 3 501 5]
def o108_6 : List AOper := [mv 18 600 0, mv 19 601 4, ⟨some 20, none, 602, .sliceS 1 (.t 18) none (some (.t 19)) none⟩, cl' 21 603 77 [.t 20], mv 17 604 21, xt 22 605 17 0, xt 23 606 17 1, mv 5 607 22, mv 6 608 23]
def o108_7 : List AOper := [mv 24 700 6, bc 25 701 .neq 24 0, mv 26 702 25, gv 27 26 false 703 5, gv 28 26 false 704 0, ⟨some 29, some (26, false), 705, .call 154 [.t 27, .t 28]⟩, ⟨some 30, some (26, false), 706, .un .not (.t 29)⟩, pz 31 707 26 30 true]
def o108_8 : List AOper := [⟨some 2, none, 800, .mov (.c .nils)⟩, mi 3 801 7]
def o108_9 : List AOper := [mv 32 900 0, mv 33 901 4, ⟨some 34, none, 902, .sliceS 1 (.t 32) none (some (.t 33)) none⟩, cl' 35 903 76 [.t 34], mv 2 904 35, mi 3 905 0]
def o108_7t3_8 : List AOper := (o108_7.drop 3).take 5
def c108_11 : AC := .cond (.t 14) (.seq (.reg o108_5) .ret) .skip
def c108_13 : AC := .cond (.t 10) (.seq (.reg o108_3) .ret) (.seq (.reg o108_4) c108_11)
def c108_22 : AC := .cond (.t 31) (.seq (.reg o108_8) .ret) .skip
def c108_23 : AC := .seq (.reg o108_7) c108_22
def c108_27 : AC := .seq (.reg o108_9) .ret
def c108_28 : AC := .seq (.seq (.reg o108_6) c108_23) c108_27
def c108_29 : AC := .seq (.block 0 (.seq (.reg o108_2) c108_13)) c108_28
def c108_31 : AC := .seq (.reg o108_0) (.seq (.reg o108_1) c108_29)
theorem fn108 : fnA Try.prog 108 = some (36, [.t 2, .t 3], c108_31) := by kernel_rfl
theorem ok_crc_Open (a0 : List Int) : ∀ v, M_crc_Open a0 = some v → EvF Try.prog 108 [.lst (List.map (D.int .u8) a0)] (en_crc_Open v) := by
  intro v hv
  refine EvF_go fn108 (Nat.le_of_ble_eq_true rfl) ?_
  suffices h : Ok (M_crc_Open a0) fun v => go Try.prog 36 (Fnl [.t 2, .t 3] (en_crc_Open v) []) [.c c108_31] .norm (initSt (List.map PV.d [.lst (List.map (D.int .u8) a0)]) []) from h v hv
  unfold M_crc_Open
  refine Av 8 [.o false (o108_1.drop 1), .c c108_29] ⟨[(7, lY a0), (0, lY a0)], []⟩ ?_
  refine L_len (enc := D.int .u8) (l := a0) trivial rfl ?_
  refine Av 8 [.o false (o108_2.drop 1), .c c108_13, .b 0, .c c108_28] ⟨[(11, lY a0), (4, nI (IntKind.i64.wrap ((a0.length : Int) - 4))), (0, lY a0)], []⟩ ?_
  refine L_len (enc := D.int .u8) (l := a0) trivial rfl ?_
  refine Av 3 [.c c108_13, .b 0, .c c108_28] ⟨[(10, bB (decide ((a0.length : Int) > 65536))), (4, nI (IntKind.i64.wrap ((a0.length : Int) - 4))), (0, lY a0)], []⟩ ?_
  refine L_split 10 rfl (fun _ => ?_) (fun _ => ?_)
  · refine Avk 9 [] .ret ⟨[(3, nI 3), (2, .nils)], []⟩ ?_
    exact L_ret
  · refine Av 7 [.c c108_11, .b 0, .c c108_28] ⟨[(14, bB (decide ((IntKind.i64.wrap ((a0.length : Int) - 4)) < 0))), (4, nI (IntKind.i64.wrap ((a0.length : Int) - 4))), (0, lY a0)], []⟩ ?_
    refine L_split 14 rfl (fun _ => ?_) (fun _ => ?_)
    · refine Avk 9 [] .ret ⟨[(3, nI 5), (2, .nils)], []⟩ ?_
      exact L_ret
    · refine Av 8 [.o false (o108_6.drop 2), .c c108_23, .c c108_27] ⟨[(19, nI (IntKind.i64.wrap ((a0.length : Int) - 4))), (18, lY a0), (4, nI (IntKind.i64.wrap ((a0.length : Int) - 4))), (0, lY a0)], []⟩ ?_
      refine L_cutD (enc := D.int .u8) (l := a0) (a := none) (b := (some (IntKind.i64.wrap ((a0.length : Int) - 4)))) trivial rfl rfl rfl (fun _ => rfl) (fun hc602 => ?_)
      refine Al 0 [.o false (o108_6.drop 3), .c c108_23, .c c108_27] .norm (fun y1 : List Int => ⟨[(20, lY y1), (4, nI (IntKind.i64.wrap ((a0.length : Int) - 4))), (0, lY a0)], []⟩) (fun y1 => ?_)
      refine L_call (ok_crc_Seal y1) trivial rfl (fun _ => rfl) (fun _ => ⟨(flat_map_of fun _ => trivial), trivial, trivial⟩) (fun r3 => ?_)
      refine Av 11 [.o false (o108_7.drop 3), .c c108_22, .c c108_27] ⟨[(26, bB (r3.2 != 0)), (5, sY (.s 9648) r3.1), (4, nI (IntKind.i64.wrap ((a0.length : Int) - 4))), (0, lY a0)], []⟩ ?_
      refine L_take 5 o108_7t3_8 (o108_7.drop 8) ?_
      refine L_join [.o false o108_7t3_8] [.o false (o108_7.drop 8), .c c108_22, .c c108_27] (fun x : Bool => ⟨[(31, bB x), (4, nI (IntKind.i64.wrap ((a0.length : Int) - 4))), (0, lY a0)], []⟩) ?_ (fun j5 => ?_)
      · refine L_split 26 decNe (fun _ => ?_) (fun _ => ?_)
        · refine Av 6 [] ⟨[(31, bB true), (4, nI (IntKind.i64.wrap ((a0.length : Int) - 4))), (0, lY a0)], []⟩ ?_
          exact L_end
        · refine Av 2 [.o false (o108_7t3_8.drop 2)] ⟨[(28, lY a0), (26, bB false), (27, sY (.s 9648) r3.1), (4, nI (IntKind.i64.wrap ((a0.length : Int) - 4))), (0, lY a0)], []⟩ ?_
          refine L_call (ok_slices_Equal_byte_byte r3.1 a0) rfl rfl (fun _ => rfl) (fun _ => trivial) (fun r4 => ?_)
          refine Av 3 [] ⟨[(31, bB (!r4)), (4, nI (IntKind.i64.wrap ((a0.length : Int) - 4))), (0, lY a0)], []⟩ ?_
          exact L_end
      · refine Av 1 [.c c108_22, .c c108_27] ⟨[(31, bB j5), (4, nI (IntKind.i64.wrap ((a0.length : Int) - 4))), (0, lY a0)], []⟩ ?_
        refine L_split 31 decT (fun _ => ?_) (fun _ => ?_)
        · refine Avk 8 [] .ret ⟨[(3, nI 7), (2, .nils)], []⟩ ?_
          exact L_ret
        · refine Av 6 [.o false (o108_9.drop 2), .c .ret] ⟨[(33, nI (IntKind.i64.wrap ((a0.length : Int) - 4))), (32, lY a0)], []⟩ ?_
          refine L_cutD (enc := D.int .u8) (l := a0) (a := none) (b := (some (IntKind.i64.wrap ((a0.length : Int) - 4)))) trivial rfl rfl rfl (fun _ => rfl) (fun hc902 => ?_)
          refine Al 0 [.o false (o108_9.drop 3), .c .ret] .norm (fun y6 : List Int => ⟨[(34, lY y6)], []⟩) (fun y6 => ?_)
          refine L_call (ok_slices_Clone_byte_byte y6) trivial rfl (fun _ => rfl) (fun _ => (flat_map_of fun _ => trivial)) (fun r8 => ?_)
          refine Avk 4 [] .ret ⟨[(3, nI 0), (2, sY (.s 14448) r8)], []⟩ ?_
          exact L_ret
/-- (*thrum/frame.reader).part. -/
def en_thrum_frame_reader_part (v : (List Int) × (List Int) × Int × Bool) : PV := lY v.1
def bx_thrum_frame_reader_part (v : (List Int) × (List Int) × Int × Bool) : List (Tg × List PV) := [(.up (.s 0), [lY v.2.1, nI v.2.2.1, bB v.2.2.2])]
def o155_0 : List AOper := [⟨some 4, none, 0, .mov (.c .nils)⟩]
def o155_1 : List AOper := [mv 5 100 0, ⟨some 6, none, 101, .nilck (.t 5)⟩, ⟨some 7, none, 102, .fieldA 2 (.t 6)⟩, ld 8 103 7, mv 9 104 8, gv 10 9 false 105 1, gv 11 9 false 106 0, ⟨some 12, some (9, false), 107, .nilck (.t 11)⟩, ⟨some 13, some (9, false), 108, .fieldA 0 (.t 12)⟩, ⟨some 14, some (9, false), 109, .fieldA 0 (.t 13)⟩, ⟨some 15, some (9, false), 110, .load false 1 (.t 14)⟩, ⟨some 16, some (9, false), 111, .len (.t 15)⟩, gv 17 9 false 112 0, ⟨some 18, some (9, false), 113, .nilck (.t 17)⟩, ⟨some 19, some (9, false), 114, .fieldA 0 (.t 18)⟩, ⟨some 20, some (9, false), 115, .fieldA 1 (.t 19)⟩, ⟨some 21, some (9, false), 116, .load false 1 (.t 20)⟩, ⟨some 22, some (9, false), 117, .bin .sub .int (.t 16) (.t 21)⟩, ⟨some 23, some (9, false), 118, .bin .gtr .int (.t 10) (.t 22)⟩, pz 24 119 9 23 true]
def o155_2 : List AOper := [mv 25 200 0, ⟨some 26, none, 201, .nilck (.t 25)⟩, ⟨some 27, none, 202, .fieldA 2 (.t 26)⟩, ⟨none, none, 203, .store 1 (.t 27) (.c (.d (.bool true)))⟩]
def o155_3 : List AOper := [mv 28 300 1, ⟨some 29, none, 301, .mkS 5 1 1 (.int .u8 0) (.t 28) (.t 28)⟩, mv 4 302 29]
def o155_4 : List AOper := [mv 30 400 0, ⟨some 31, none, 401, .nilck (.t 30)⟩, ⟨some 32, none, 402, .fieldA 0 (.t 31)⟩, ⟨some 33, none, 403, .fieldA 1 (.t 32)⟩, ld 34 404 33, mv 35 405 1, bi 36 406 .add 34 35, ⟨some 37, none, 407, .nilck (.t 30)⟩, ⟨some 38, none, 408, .fieldA 0 (.t 37)⟩, ⟨some 39, none, 409, .fieldA 1 (.t 38)⟩, ⟨none, none, 410, .store 1 (.t 39) (.t 36)⟩]
def o155_5 : List AOper := [mv 40 500 0, ⟨some 41, none, 501, .nilck (.t 40)⟩, ⟨some 42, none, 502, .fieldA 0 (.t 41)⟩, ⟨some 43, none, 503, .fieldA 0 (.t 42)⟩, ld 44 504 43, mv 45 505 0, ⟨some 46, none, 506, .nilck (.t 45)⟩, ⟨some 47, none, 507, .fieldA 0 (.t 46)⟩, ⟨some 48, none, 508, .fieldA 1 (.t 47)⟩, ld 49 509 48, mv 50 510 1, bi 51 511 .sub 49 50, mv 52 512 0, ⟨some 53, none, 513, .nilck (.t 52)⟩, ⟨some 54, none, 514, .fieldA 0 (.t 53)⟩, ⟨some 55, none, 515, .fieldA 1 (.t 54)⟩, ld 56 516 55, ⟨some 57, none, 517, .sliceS 1 (.t 44) (some (.t 51)) (some (.t 56)) none⟩, mv 4 518 57]
def c155_1 : AC := .draw [⟨mv 5 100 0, false, []⟩, ⟨⟨some 6, none, 101, .nilck (.t 5)⟩, false, []⟩, ⟨⟨some 7, none, 102, .fieldA 2 (.t 6)⟩, false, []⟩, ⟨ld 8 103 7, false, []⟩, ⟨mv 9 104 8, false, []⟩, ⟨gv 10 9 false 105 1, false, []⟩, ⟨gv 11 9 false 106 0, false, []⟩, ⟨⟨some 12, some (9, false), 107, .nilck (.t 11)⟩, false, []⟩, ⟨⟨some 13, some (9, false), 108, .fieldA 0 (.t 12)⟩, false, []⟩, ⟨⟨some 14, some (9, false), 109, .fieldA 0 (.t 13)⟩, false, []⟩, ⟨⟨some 15, some (9, false), 110, .load false 1 (.t 14)⟩, false, []⟩, ⟨⟨some 16, some (9, false), 111, .len (.t 15)⟩, false, []⟩, ⟨gv 17 9 false 112 0, false, []⟩, ⟨⟨some 18, some (9, false), 113, .nilck (.t 17)⟩, false, []⟩, ⟨⟨some 19, some (9, false), 114, .fieldA 0 (.t 18)⟩, false, []⟩, ⟨⟨some 20, some (9, false), 115, .fieldA 1 (.t 19)⟩, false, []⟩, ⟨⟨some 21, some (9, false), 116, .load false 1 (.t 20)⟩, false, []⟩, ⟨⟨some 22, some (9, false), 117, .bin .sub .int (.t 16) (.t 21)⟩, false, []⟩, ⟨⟨some 23, some (9, false), 118, .bin .gtr .int (.t 10) (.t 22)⟩, false, []⟩, ⟨pz 24 119 9 23 true, false, []⟩]
def c155_8 : AC := .cond (.t 24) (.seq (.reg o155_2) (.seq (.reg o155_3) .ret)) .skip
def c155_11 : AC := .draw [⟨mv 40 500 0, false, []⟩, ⟨⟨some 41, none, 501, .nilck (.t 40)⟩, false, []⟩, ⟨⟨some 42, none, 502, .fieldA 0 (.t 41)⟩, false, []⟩, ⟨⟨some 43, none, 503, .fieldA 0 (.t 42)⟩, false, []⟩, ⟨ld 44 504 43, false, []⟩, ⟨mv 45 505 0, false, []⟩, ⟨⟨some 46, none, 506, .nilck (.t 45)⟩, false, []⟩, ⟨⟨some 47, none, 507, .fieldA 0 (.t 46)⟩, false, []⟩, ⟨⟨some 48, none, 508, .fieldA 1 (.t 47)⟩, false, []⟩, ⟨ld 49 509 48, false, []⟩, ⟨mv 50 510 1, false, []⟩, ⟨bi 51 511 .sub 49 50, false, []⟩, ⟨mv 52 512 0, false, []⟩, ⟨⟨some 53, none, 513, .nilck (.t 52)⟩, false, []⟩, ⟨⟨some 54, none, 514, .fieldA 0 (.t 53)⟩, false, []⟩, ⟨⟨some 55, none, 515, .fieldA 1 (.t 54)⟩, false, []⟩, ⟨ld 56 516 55, false, []⟩, ⟨⟨some 57, none, 517, .sliceS 1 (.t 44) (some (.t 51)) (some (.t 56)) none⟩, false, []⟩, ⟨mv 4 518 57, false, []⟩]
def c155_14 : AC := .seq (.reg o155_4) (.seq c155_11 .ret)
def c155_16 : AC := .seq (.reg o155_0) (.seq (.seq c155_1 c155_8) c155_14)
theorem fn155 : fnA Try.prog 155 = some (58, [.t 4], c155_16) := by kernel_rfl
theorem ok_thrum_frame_reader_part (a0 : T_frame_reader) (a1 : Int) : ∀ v, M_thrum_frame_reader_part a0 a1 = some v → EvG Try.prog 155 [.ptr (.up (.s 0)) 0, nI a1] [(.up (.s 0), [lY a0.F_text.F_b, nI a0.F_text.F_at, bB a0.F_bad])] (en_thrum_frame_reader_part v) (bx_thrum_frame_reader_part v) := by
  intro v hv
  refine EvG_go fn155 (Nat.le_of_ble_eq_true rfl) ?_
  suffices h : Ok (M_thrum_frame_reader_part a0 a1) fun v => go Try.prog 58 (Fnl [.t 4] (en_thrum_frame_reader_part v) (bx_thrum_frame_reader_part v)) [.c c155_16] .norm (initSt [.ptr (.up (.s 0)) 0, nI a1] [(.up (.s 0), [lY a0.F_text.F_b, nI a0.F_text.F_at, bB a0.F_bad])]) from h v hv
  unfold M_thrum_frame_reader_part
  refine Av 6 [.c c155_1, .c c155_8, .c c155_14] ⟨[(0, .ptr (.up (.s 0)) 0), (1, nI a1)], [(.up (.s 0), [lY a0.F_text.F_b, nI a0.F_text.F_at, bB a0.F_bad])]⟩ ?_
  refine Ae 6 [.o true (o155_1.drop 5), .c c155_8, .c c155_14] ⟨[(9, bB a0.F_bad), (8, bB a0.F_bad), (7, .ptr (.up (.s 0)) 2), (6, .ptr (.up (.s 0)) 0), (5, .ptr (.up (.s 0)) 0), (0, .ptr (.up (.s 0)) 0), (1, nI a1)], [(.up (.s 0), [lY a0.F_text.F_b, nI a0.F_text.F_at, bB a0.F_bad])]⟩ ?_
  refine L_splitE (b := a0.F_bad) (fun z => ⟨[(9, bB z), (8, bB a0.F_bad), (7, .ptr (.up (.s 0)) 2), (6, .ptr (.up (.s 0)) 0), (5, .ptr (.up (.s 0)) 0), (0, .ptr (.up (.s 0)) 0), (1, nI a1)], [(.up (.s 0), [lY a0.F_text.F_b, nI a0.F_text.F_at, bB a0.F_bad])]⟩) decT (fun _ => ?_) (fun _ => ?_)
  · refine Av 27 [.o false (o155_3.drop 1), .c .ret, .c c155_14] ⟨[(28, nI a1)], [(.up (.s 0), [lY a0.F_text.F_b, nI a0.F_text.F_at, bB true])]⟩ ?_
    refine L_mk (enc := D.int .u8) (z0 := 0) (a := a1) (b := a1) trivial rfl rfl rfl (fun _ => ?_)
    refine Avk 4 [] .ret ⟨[(4, sY (.s 4831) (List.replicate (Int.toNat a1) 0))], [(.up (.s 0), [lY a0.F_text.F_b, nI a0.F_text.F_at, bB true])]⟩ ?_
    exact L_ret
  · refine Ae 6 [.o true (o155_1.drop 11), .c c155_8, .c c155_14] ⟨[(15, lY a0.F_text.F_b), (9, bB false), (14, .ptr (.up (.s 0)) 0), (13, .ptr (.up (.s 0)) 0), (12, .ptr (.up (.s 0)) 0), (11, .ptr (.up (.s 0)) 0), (10, nI a1), (8, bB a0.F_bad), (7, .ptr (.up (.s 0)) 2), (6, .ptr (.up (.s 0)) 0), (5, .ptr (.up (.s 0)) 0), (0, .ptr (.up (.s 0)) 0), (1, nI a1)], [(.up (.s 0), [lY a0.F_text.F_b, nI a0.F_text.F_at, bB a0.F_bad])]⟩ ?_
    refine L_len (enc := D.int .u8) (l := a0.F_text.F_b) rfl rfl ?_
    refine Av 9 [.c c155_8, .c c155_14] ⟨[(24, bB (decide (a1 > (IntKind.i64.wrap ((a0.F_text.F_b.length : Int) - a0.F_text.F_at))))), (0, .ptr (.up (.s 0)) 0), (1, nI a1)], [(.up (.s 0), [lY a0.F_text.F_b, nI a0.F_text.F_at, bB a0.F_bad])]⟩ ?_
    refine L_split 24 rfl (fun _ => ?_) (fun _ => ?_)
    · refine Av 11 [.o false (o155_3.drop 1), .c .ret, .c c155_14] ⟨[(28, nI a1)], [(.up (.s 0), [lY a0.F_text.F_b, nI a0.F_text.F_at, bB true])]⟩ ?_
      refine L_mk (enc := D.int .u8) (z0 := 0) (a := a1) (b := a1) trivial rfl rfl rfl (fun _ => ?_)
      refine Avk 4 [] .ret ⟨[(4, sY (.s 4831) (List.replicate (Int.toNat a1) 0))], [(.up (.s 0), [lY a0.F_text.F_b, nI a0.F_text.F_at, bB true])]⟩ ?_
      exact L_ret
    · refine Av 17 [.c c155_11, .c .ret] ⟨[(0, .ptr (.up (.s 0)) 0), (1, nI a1)], [(.up (.s 0), [lY a0.F_text.F_b, nI (IntKind.i64.wrap (a0.F_text.F_at + a1)), bB a0.F_bad])]⟩ ?_
      refine Ae 18 [.o true (o155_5.drop 17), .c .ret] ⟨[(56, nI (IntKind.i64.wrap (a0.F_text.F_at + a1))), (55, .ptr (.up (.s 0)) 1), (54, .ptr (.up (.s 0)) 0), (53, .ptr (.up (.s 0)) 0), (52, .ptr (.up (.s 0)) 0), (51, nI (IntKind.i64.wrap ((IntKind.i64.wrap (a0.F_text.F_at + a1)) - a1))), (50, nI a1), (49, nI (IntKind.i64.wrap (a0.F_text.F_at + a1))), (48, .ptr (.up (.s 0)) 1), (47, .ptr (.up (.s 0)) 0), (46, .ptr (.up (.s 0)) 0), (45, .ptr (.up (.s 0)) 0), (44, lY a0.F_text.F_b), (43, .ptr (.up (.s 0)) 0), (42, .ptr (.up (.s 0)) 0), (41, .ptr (.up (.s 0)) 0), (40, .ptr (.up (.s 0)) 0), (0, .ptr (.up (.s 0)) 0), (1, nI a1)], [(.up (.s 0), [lY a0.F_text.F_b, nI (IntKind.i64.wrap (a0.F_text.F_at + a1)), bB a0.F_bad])]⟩ ?_
      refine L_cutD (enc := D.int .u8) (l := a0.F_text.F_b) (a := (some (IntKind.i64.wrap ((IntKind.i64.wrap (a0.F_text.F_at + a1)) - a1)))) (b := (some (IntKind.i64.wrap (a0.F_text.F_at + a1)))) trivial rfl rfl rfl (fun _ => rfl) (fun hc517 => ?_)
      refine Avk 3 [] .ret ⟨[(4, lY (cut' a0.F_text.F_b (some (IntKind.i64.wrap ((IntKind.i64.wrap (a0.F_text.F_at + a1)) - a1))) (some (IntKind.i64.wrap (a0.F_text.F_at + a1)))))], [(.up (.s 0), [lY a0.F_text.F_b, nI (IntKind.i64.wrap (a0.F_text.F_at + a1)), bB a0.F_bad])]⟩ ?_
      exact L_ret
/-- (*thrum/frame.reader).small. -/
def en_thrum_frame_reader_small (v : Int × (List Int) × Int × Bool) : PV := nI v.1
def bx_thrum_frame_reader_small (v : Int × (List Int) × Int × Bool) : List (Tg × List PV) := [(.up (.s 0), [lY v.2.1, nI v.2.2.1, bB v.2.2.2])]
def o110_0 : List AOper := [mi 2 0 0]
def o110_1 : List AOper := [mv 3 100 0, cl' 4 101 155 [.t 3, .c (.d (.int .i64 1))], ⟨some 5, none, 102, .idxA 1 (.t 4) (.c (.d (.int .i64 0)))⟩, ld 6 103 5, ⟨some 7, none, 104, .convI .i64 (.t 6)⟩, mv 2 105 7]
def c110_4 : AC := .seq (.reg o110_0) (.seq (.reg o110_1) .ret)
theorem fn110 : fnA Try.prog 110 = some (8, [.t 2], c110_4) := by kernel_rfl
theorem ok_thrum_frame_reader_small (a0 : T_frame_reader) : ∀ v, M_thrum_frame_reader_small a0 = some v → EvG Try.prog 110 [.ptr (.up (.s 0)) 0] [(.up (.s 0), [lY a0.F_text.F_b, nI a0.F_text.F_at, bB a0.F_bad])] (en_thrum_frame_reader_small v) (bx_thrum_frame_reader_small v) := by
  intro v hv
  refine EvG_go fn110 (Nat.le_of_ble_eq_true rfl) ?_
  suffices h : Ok (M_thrum_frame_reader_small a0) fun v => go Try.prog 8 (Fnl [.t 2] (en_thrum_frame_reader_small v) (bx_thrum_frame_reader_small v)) [.c c110_4] .norm (initSt [.ptr (.up (.s 0)) 0] [(.up (.s 0), [lY a0.F_text.F_b, nI a0.F_text.F_at, bB a0.F_bad])]) from h v hv
  unfold M_thrum_frame_reader_small
  refine Av 7 [.o false (o110_1.drop 1), .c .ret] ⟨[(3, .ptr (.up (.s 0)) 0)], [(.up (.s 0), [lY a0.F_text.F_b, nI a0.F_text.F_at, bB a0.F_bad])]⟩ ?_
  refine L_callG (enR := en_thrum_frame_reader_part) (bx' := bx_thrum_frame_reader_part) (ps := [.ptr (.up (.s 0)) 0, nI 1]) (bx := [(.up (.s 0), [lY a0.F_text.F_b, nI a0.F_text.F_at, bB a0.F_bad])]) [(.up (.s 0), .up (.s 0))] [] (ok_thrum_frame_reader_part a0 1) trivial rfl rfl (fun _ => rfl) (fun _ => rfl) (fun _ => by kernel_rfl) (fun _ => by kernel_rfl) (fun r1 => ?_)
  refine Av 0 [.o false (o110_1.drop 2), .c .ret] ⟨[(4, lY r1.1)], [(.up (.s 0), [lY r1.2.1, nI r1.2.2.1, bB r1.2.2.2])]⟩ ?_
  refine L_idxD (enc := D.int .u8) (l := r1.1) (iv := 0) trivial rfl rfl (fun _ => rfl) (fun hc102 => ?_)
  refine Avk 5 [] .ret ⟨[(2, nI (IntKind.i64.wrap (at' r1.1 0)))], [(.up (.s 0), [lY r1.2.1, nI r1.2.2.1, bB r1.2.2.2])]⟩ ?_
  exact L_ret
/-- (*thrum/frame.reader).must. -/
def en_thrum_frame_reader_must (v : (List Int) × Int × Bool) : PV := .tup []
def bx_thrum_frame_reader_must (v : (List Int) × Int × Bool) : List (Tg × List PV) := [(.up (.s 0), [lY v.1, nI v.2.1, bB v.2.2])]
def o109_0 : List AOper := [mv 4 0 0, mv 5 1 0, ⟨some 6, none, 2, .nilck (.t 5)⟩, ⟨some 7, none, 3, .fieldA 2 (.t 6)⟩, ld 8 4 7, mv 9 5 8, gv 10 9 false 6 1, ⟨some 11, some (9, false), 7, .un .not (.t 10)⟩, pz 12 8 9 11 true, ⟨some 13, none, 9, .nilck (.t 4)⟩, ⟨some 14, none, 10, .fieldA 2 (.t 13)⟩, ⟨none, none, 11, .store 1 (.t 14) (.t 12)⟩]
def o109_0t6_9 : List AOper := (o109_0.drop 6).take 3
def c109_0 : AC := .reg o109_0
theorem fn109 : fnA Try.prog 109 = some (15, [], c109_0) := by kernel_rfl
theorem ok_thrum_frame_reader_must (a0 : T_frame_reader) (a1 : Bool) : ∀ v, M_thrum_frame_reader_must a0 a1 = some v → EvG Try.prog 109 [.ptr (.up (.s 0)) 0, bB a1] [(.up (.s 0), [lY a0.F_text.F_b, nI a0.F_text.F_at, bB a0.F_bad])] (en_thrum_frame_reader_must v) (bx_thrum_frame_reader_must v) := by
  intro v hv
  refine EvG_go fn109 (Nat.le_of_ble_eq_true rfl) ?_
  suffices h : Ok (M_thrum_frame_reader_must a0 a1) fun v => go Try.prog 15 (Fnl [] (en_thrum_frame_reader_must v) (bx_thrum_frame_reader_must v)) [.c c109_0] .norm (initSt [.ptr (.up (.s 0)) 0, bB a1] [(.up (.s 0), [lY a0.F_text.F_b, nI a0.F_text.F_at, bB a0.F_bad])]) from h v hv
  unfold M_thrum_frame_reader_must
  refine Av 7 [.o false (o109_0.drop 6)] ⟨[(9, bB a0.F_bad), (4, .ptr (.up (.s 0)) 0), (1, bB a1)], [(.up (.s 0), [lY a0.F_text.F_b, nI a0.F_text.F_at, bB a0.F_bad])]⟩ ?_
  refine L_take 3 o109_0t6_9 (o109_0.drop 9) ?_
  refine L_join [.o false o109_0t6_9] [.o false (o109_0.drop 9)] (fun x : Bool => ⟨[(12, bB x), (4, .ptr (.up (.s 0)) 0)], [(.up (.s 0), [lY a0.F_text.F_b, nI a0.F_text.F_at, bB a0.F_bad])]⟩) ?_ (fun j1 => ?_)
  · refine L_split 9 decT (fun _ => ?_) (fun _ => ?_)
    · refine Av 4 [] ⟨[(12, bB true), (4, .ptr (.up (.s 0)) 0)], [(.up (.s 0), [lY a0.F_text.F_b, nI a0.F_text.F_at, bB a0.F_bad])]⟩ ?_
      exact L_end
    · refine Av 4 [] ⟨[(12, bB (!a1)), (4, .ptr (.up (.s 0)) 0)], [(.up (.s 0), [lY a0.F_text.F_b, nI a0.F_text.F_at, bB a0.F_bad])]⟩ ?_
      exact L_end
  · refine Av 4 [] ⟨[], [(.up (.s 0), [lY a0.F_text.F_b, nI a0.F_text.F_at, bB j1])]⟩ ?_
    exact L_ret
end Go.Proofs.Ythhcgcaefjmekaa.Abs
